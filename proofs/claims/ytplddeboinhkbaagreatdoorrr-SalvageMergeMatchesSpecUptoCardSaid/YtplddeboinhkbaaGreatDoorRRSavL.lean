/- What is left in a piece that holds one sound frame and no more: that one rest. -/

import Derived.Test.YtplddeboinhkbaaGreatDoorRRProg
import Derived.Test.YtplddeboinhkbaaGreatDoorRRSavK
import Derived.Test.YtplddeboinhkbaaGreatDoorRRBuild
import Derived.Test.YtplddeboinhkbaaGreatDoorRRFill
namespace Go.Proofs.YtplddeboinhkbaaGreatDoorRR
open Go.RowKit
theorem wp_call_val {P : Program} {o : Oper} {a : Act} {w : World} {K : Act → World → Prop} {Q : Exit → Act → World → Prop} (f : FuncId) (args : Array Value) (hrun : (execOp a.eval o).run P w = .ok (.enter f args) w) (v : Value) {R : World → Prop}
    (hc : Calls P f args w fun e w' => e = .returned v ∧ R w') (h : ∀ w', R w' → K (a.put o.dst v) w') : o.wp P a w K Q := by
  unfold Oper.wp
  rw [hrun, Oper.upon_enter]
  refine hc.mono fun e w'' hh => ?_
  obtain ⟨rfl, h2⟩ := hh
  exact h w'' h2
/-- The rest of a sound frame. -/
def oneR (f : List Nat) : SR := { zeroR (numV f : Nat) with f := f, st := List.replicate 64 3, sound := true, copies := 1 }
theorem oneR_ok {f : List Nat} (hf : FrameOk f) : RestOk (oneR f) := ⟨hf, by simp [oneR]⟩
theorem OneRow.base {w0 w w' : World} {v : Value} {q : SR} (h : OneRow w w' v q) (hE : w0.heap.size ≤ w.heap.size) : OneRow w0 w' v q := by
  obtain ⟨g, cap, cur, h1, h2, h3⟩ := h
  exact ⟨g, cap, cur, h1, Nat.le_trans hE h2, h3⟩
theorem info_frames : (Tryz.prog.info? 27).map (·.size) = some 64 := by kernel_rfl
set_option maxRecDepth 100000 in
set_option maxHeartbeats 4000000 in
theorem rests_any (b c : Nat) (H f : List Nat) (w : World) (hO : OneAt H f) (hf : FrameOk f) (hc : 194 ≤ c) (hS : SyncAt w) (hB : w.heap[b]? = some (.cells (encB H) 5 (0, 0))) (hm : mergeP [oneR f] = oneR f) (hC : CopOk [oneR f]) :
    Calls Tryz.prog 36 #[.slice (some ⟨b, 0, none⟩) 194 c] w (fun e w' => ∃ v, e = .returned v ∧ OneRow w w' v (oneR f) ∧ Ext w w') := by
  have hfl := Lib.hid (foundL_length 2 hf)
  have hqo := oneR_ok hf
  obtain ⟨j0, hi, hz0, hz1, hz2⟩ := info_parts info_restz
  have HJ := Lib.hid hi
  have HJ0 := Lib.hid hz0
  have HJ1 := Lib.hid hz1
  have HJ2 := Lib.hid hz2
  clear hi hz0 hz1 hz2
  go_enter Tryz.func36, Tryz.ntmps36
  go_wp2_with fail
  refine (newFinder_any b c H f w hO hf hc hS hB).mono ?_
  rintro e w1 ⟨fx, g, cap, ng, ncap, mv, cur, rfl, hX, hg, hcs, hcap, hcx, hn, hE⟩
  have HCS := Lib.hid hcs
  have HCX := Lib.hid hcx
  have hS1 := hS.ext hE
  clear hcs hcx hO hB hc hS
  have hx1 : w1.cell? ⟨fx, 1, none⟩ = some (.slice (some ⟨g, 0, none⟩) 1 cap) := by rw [cell_of_row _ _ _ _ _ _ hX]; rfl
  have hx2 : w1.cell? ⟨fx, 2, none⟩ = some (.slice (some ⟨ng, 0, none⟩) 1 ncap) := by rw [cell_of_row _ _ _ _ _ _ hX]; rfl
  have hg0 : w1.cell? ⟨g, 0, none⟩ = some (.int .i64 2) := by
    rw [cell_of_row _ _ _ _ _ _ hg]
    have h0 : (cur.extract 0 (0 + 65))[0]? = some (.int .i64 2) := by rw [HCX.out]; rfl
    rw [Array.getElem?_extract] at h0
    simp at h0
    simpa using h0.2
  go_wp2
  go_loopw [18, 4] (fun i l wr => ∃ k : Nat, k ≤ 1 ∧ i = .int .i64 k ∧ Aside (k = 0 → l = .slice none 0 0 ∧ wr = w1) ∧ Aside (k = 1 → ∃ g2 c2 cur2, l = .slice (some ⟨g2, 0, none⟩) 1 c2 ∧ wr.heap[g2]? = some (.cells cur2 30 (0, 0)) ∧ 1 ≤ c2 ∧ cur2.size = c2 * 132 ∧ cur2.extract 0 (0 + 132) = encR (oneR f) ∧ Ext w1 wr)) (fun i _ _ => 1 - (intOf i).toNat)
  case atStart => exact ⟨0, by omega, rfl, (show Aside _ from fun _ => ⟨rfl, rfl⟩), (show Aside _ from fun h => by cases h)⟩
  case round =>
    obtain ⟨k, hk, rfl, A0, A1⟩ := hrel
    by_cases hk0 : k = 0
    · obtain ⟨rfl, rfl⟩ := A0.out hk0
      subst hk0
      clear A0 A1
      rw [show ((0 : Nat) : Int) = 0 from rfl]
      go_wp2_with ((with_reducible refine stop_load 90 rfl ?_))
      apply Stop.go
      refine wpList_load_blk rfl _ _ rfl g 0 rfl 65 _ cur _ _ hg Tryz.underlying90 rfl info_founds (by rw [HCS.out]; omega) (foundL 2 f).toArray HCX.out ?_
      simp only [Act.put, List.setIfInBounds_toArray, List.set_cons_zero, List.set_cons_succ]
      go_wp2_with ((with_reducible refine stop_store 90 rfl ?_))
      apply Stop.go
      refine wpList_world fun w4 e4 => ?_
      have hEa := Ext.of_eq e4
      clear e4
      refine wpList_store_whole rfl _ _ _ rfl wr.heap.size rfl (foundL 2 f).toArray rfl _ _ (hEa.heap (block_new wr _)) (by rw [List.size_toArray, hfl.out]; exact info_founds) (by rw [List.size_toArray, hfl.out]; exact zero_found.symm) (found_one 2 f) fun w5 u5 => ?_
      dsimp only [Act.put]
      have hF5 := u5.here
      have hEb := (ext_of_alloc _ hEa).upd (by simp) u5
      have hx25 := hEb.cell hx2
      have hn5 := hEb.cell hn
      have hX5 := hEb.heap hX
      clear u5 hEa w4
      generalize wr.heap.size = fb at hF5 ⊢
      go_wp2
      refine wp_region_open (fun wx => wx.cell? ⟨fx, 2, none⟩ = some (.slice (some ⟨ng, 0, none⟩) 1 ncap) ∧ wx.cell? ⟨ng, 0, none⟩ = some (.int .i64 (numV f : Nat)) ∧ wx.heap[fb]? = some (.cells (foundL 2 f).toArray 90 (0, 0))) (by kernel_rfl) (fun _ _ d _ _ h => by cases d <;> exact h) fun Q' hQp hQn => ?_
      have hE7 : Ext w5 w5.drew := (Ext.refl w5).drew
      rw [show ({ w5 with drawn := w5.drawn + 1 } : World) = w5.drew from rfl]
      have hSc : w5.drew.cell? ⟨fx, 2, none⟩ = some (.slice (some ⟨ng, 0, none⟩) 1 ncap) ∧ w5.drew.cell? ⟨ng, 0, none⟩ = some (.int .i64 (numV f : Nat)) ∧ w5.drew.heap[fb]? = some (.cells (foundL 2 f).toArray 90 (0, 0)) := ⟨hE7.cell hx25, hE7.cell hn5, hE7.heap hF5⟩
      have hE7 := hEb.trans hE7
      clear hF5 hx25 hn5 hX5 hEb
      generalize w5.drew = w7 at *
      have hSe : ∀ X Y : World, (X.cell? ⟨fx, 2, none⟩ = some (.slice (some ⟨ng, 0, none⟩) 1 ncap) ∧ X.cell? ⟨ng, 0, none⟩ = some (.int .i64 (numV f : Nat)) ∧ X.heap[fb]? = some (.cells (foundL 2 f).toArray 90 (0, 0))) → Ext X Y → (Y.cell? ⟨fx, 2, none⟩ = some (.slice (some ⟨ng, 0, none⟩) 1 ncap) ∧ Y.cell? ⟨ng, 0, none⟩ = some (.int .i64 (numV f : Nat)) ∧ Y.heap[fb]? = some (.cells (foundL 2 f).toArray 90 (0, 0))) := fun X Y h hE => ⟨hE.cell h.1, hE.cell h.2.1, hE.heap h.2.2⟩
      simp only [List.size_toArray, List.length_cons, List.length_nil, Nat.reduceAdd]
      refine held_take 0 (.slice none 0 0) (op_at rfl) (by kernel_rfl) (by kernel_rfl) (by kernel_rfl) hQp (by kernel_rfl) hSc (fun wx hSx => ?_) ?_
      · obtain ⟨hy1, hy2, hy3⟩ := hSx
        first
          | (with_reducible rfl)
          | (go_simp; done)
          | (go_simp; with_reducible rfl)
          | kernel_rfl
          | rfl
      simp only [Act.put, List.setIfInBounds_toArray, List.set_cons_zero, List.set_cons_succ]
      refine held_take 1 (.pointer (some ⟨fx, 0, none⟩)) (op_at rfl) (by kernel_rfl) (by kernel_rfl) (by kernel_rfl) hQp (by kernel_rfl) hSc (fun wx hSx => ?_) ?_
      · obtain ⟨hy1, hy2, hy3⟩ := hSx
        first
          | (with_reducible rfl)
          | (go_simp; done)
          | (go_simp; with_reducible rfl)
          | kernel_rfl
          | rfl
      simp only [Act.put, List.setIfInBounds_toArray, List.set_cons_zero, List.set_cons_succ]
      refine held_take 2 (.pointer (some ⟨fx, 0, none⟩)) (op_at rfl) (by kernel_rfl) (by kernel_rfl) (by kernel_rfl) hQp (by kernel_rfl) hSc (fun wx hSx => ?_) ?_
      · obtain ⟨hy1, hy2, hy3⟩ := hSx
        first
          | (with_reducible rfl)
          | (go_simp; done)
          | (go_simp; with_reducible rfl)
          | kernel_rfl
          | rfl
      simp only [Act.put, List.setIfInBounds_toArray, List.set_cons_zero, List.set_cons_succ]
      refine held_take 3 (.pointer (some ⟨fx, 2, none⟩)) (op_at rfl) (by kernel_rfl) (by kernel_rfl) (by kernel_rfl) hQp (by kernel_rfl) hSc (fun wx hSx => ?_) ?_
      · obtain ⟨hy1, hy2, hy3⟩ := hSx
        first
          | (with_reducible rfl)
          | (go_simp; done)
          | (go_simp; with_reducible rfl)
          | kernel_rfl
          | rfl
      simp only [Act.put, List.setIfInBounds_toArray, List.set_cons_zero, List.set_cons_succ]
      refine held_take 4 (.slice (some ⟨ng, 0, none⟩) 1 ncap) (op_at rfl) (by kernel_rfl) (by kernel_rfl) (by kernel_rfl) hQp (by kernel_rfl) hSc (fun wx hSx => ?_) ?_
      · obtain ⟨hy1, hy2, hy3⟩ := hSx
        first
          | (with_reducible rfl)
          | (go_simp; done)
          | (go_simp; with_reducible rfl)
          | kernel_rfl
          | rfl
      simp only [Act.put, List.setIfInBounds_toArray, List.set_cons_zero, List.set_cons_succ]
      refine held_take 5 (.int .i64 0) (op_at rfl) (by kernel_rfl) (by kernel_rfl) (by kernel_rfl) hQp (by kernel_rfl) hSc (fun wx hSx => ?_) ?_
      · obtain ⟨hy1, hy2, hy3⟩ := hSx
        first
          | (with_reducible rfl)
          | (go_simp; done)
          | (go_simp; with_reducible rfl)
          | kernel_rfl
          | rfl
      simp only [Act.put, List.setIfInBounds_toArray, List.set_cons_zero, List.set_cons_succ]
      refine held_take 6 (.pointer (some ⟨ng, 0, none⟩)) (op_at rfl) (by kernel_rfl) (by kernel_rfl) (by kernel_rfl) hQp (by kernel_rfl) hSc (fun wx hSx => ?_) ?_
      · obtain ⟨hy1, hy2, hy3⟩ := hSx
        first
          | (with_reducible rfl)
          | (go_simp; done)
          | (go_simp; with_reducible rfl)
          | kernel_rfl
          | rfl
      simp only [Act.put, List.setIfInBounds_toArray, List.set_cons_zero, List.set_cons_succ]
      refine held_take 7 (.int .i64 (numV f : Nat)) (op_at rfl) (by kernel_rfl) (by kernel_rfl) (by kernel_rfl) hQp (by kernel_rfl) hSc (fun wx hSx => ?_) ?_
      · obtain ⟨hy1, hy2, hy3⟩ := hSx
        first
          | (with_reducible rfl)
          | (go_simp; done)
          | (go_simp; with_reducible rfl)
          | kernel_rfl
          | rfl
      simp only [Act.put, List.setIfInBounds_toArray, List.set_cons_zero, List.set_cons_succ]
      refine held_take 8 (.pointer (some ⟨fb, 1, none⟩)) (op_at rfl) (by kernel_rfl) (by kernel_rfl) (by kernel_rfl) hQp (by kernel_rfl) hSc (fun wx hSx => ?_) ?_
      · obtain ⟨hy1, hy2, hy3⟩ := hSx
        first
          | (with_reducible rfl)
          | (go_simp; done)
          | (go_simp; with_reducible rfl)
          | kernel_rfl
          | rfl
      simp only [Act.put, List.setIfInBounds_toArray, List.set_cons_zero, List.set_cons_succ]
      refine held_take 9 (.agg (encF f)) (op_at rfl) (by kernel_rfl) (by kernel_rfl) (by kernel_rfl) hQp (by kernel_rfl) hSc (fun wx hSx => run_load_op 27 _ rfl fb 1 rfl 64 _ _ _ _ hSx.2.2 Tryz.underlying27 rfl info_frame (by rw [List.size_toArray, hfl.out]; omega) (encF f) (found_frame 2 f hf)) ?_
      simp only [Act.put, List.setIfInBounds_toArray, List.set_cons_zero, List.set_cons_succ]
      refine held_one (i := 10) (op_at rfl) (by kernel_rfl) (by kernel_rfl) ?_
      refine wp_call_val 42 #[.int .i64 3] (by kernel_rfl) _ (filled_any 3 w7) fun w8 hE8 => ⟨hSe _ _ hSc hE8, ?_⟩
      have hSc := hSe _ _ hSc hE8
      have hE8 := hE7.trans hE8
      clear hE7
      simp only [Act.put, List.setIfInBounds_toArray, List.set_cons_zero, List.set_cons_succ]
      refine held_one (i := 11) (op_at rfl) (by kernel_rfl) (by kernel_rfl) ?_
      refine wp_build_to 30 _ rfl _ rfl (encR (oneR f)) (built_full _ _ hf (by simp)) ⟨hSc, ?_⟩
      simp only [Act.put, List.setIfInBounds_toArray, List.set_cons_zero, List.set_cons_succ]
      refine held_one (i := 12) (op_at rfl) (by kernel_rfl) (by kernel_rfl) ?_
      refine wp_buildSlice_to 22 30 1 [(0, .tmp 34)] rfl [(0, .agg (encR (oneR f)))] rfl (encR (oneR f)) j0 _ Tryz.underlying22 HJ.out HJ0.out (by rw [HJ1.out]; decide) (by rw [HJ1.out]; decide) (by rw [HJ1.out]; exact fill_single (by decide) _ _ _ rfl (encR_size hqo)) ?_
      have hE9 := ext_of_alloc (.cells (encR (oneR f)) 30) (Ext.refl (w8.alloc (.cells (encR (oneR f)) 30)))
      refine ⟨hSe _ _ hSc hE9, ?_⟩
      have hSc := hSe _ _ hSc hE9
      have hE9 := hE8.trans hE9
      simp only [Act.put, List.setIfInBounds_toArray, List.set_cons_zero, List.set_cons_succ]
      refine held_one (i := 13) (op_at rfl) (by kernel_rfl) (by kernel_rfl) ?_
      refine wp_append_nil _ _ 22 rfl 30 j0 _ 132 672 Tryz.underlying22 HJ.out HJ0.out HJ1.out HJ2.out zero_rest (by decide) rfl w8.heap.size 1 (encR (oneR f)).toList rfl (by rw [Array.length_toList]; exact encR_size hqo) _ _ (block_new w8 _) (encR_ones _) (by decide) fun g2 c2 cur2 w10 hg2 hG10 hc2 hcs2 hcx2 _ hE10 => ⟨hSe _ _ hSc hE10, ?_⟩
      have hSc := hSe _ _ hSc hE10
      have hE10 := hE9.trans hE10
      simp only [Act.put, List.setIfInBounds_toArray, List.set_cons_zero, List.set_cons_succ]
      refine held_one (i := 14) (op_at rfl) (by kernel_rfl) (by kernel_rfl) ?_
      refine op_value (v := .slice (some ⟨g2, 0, none⟩) 1 c2) (by go_simp; done) ⟨hSc, ?_⟩
      refine wpAnyH_done (by kernel_rfl) (hQn _ _ ?_) _
      simp only [Act.put, List.setIfInBounds_toArray, List.set_cons_zero, List.set_cons_succ]
      clear hE8 hE9 hSc
      have hpl := places_any fx b c g cap _ _ w10 hcap (hE10.heap hX) (hE10.cell hg0)
      go_wp2_with fail
      refine hpl.mono ?_
      rintro e w11 ⟨rfl, hE11⟩
      have hG11 := hE11.heap hG10
      have hE11 := hE10.trans hE11
      clear hpl hG10 hE10
      go_wp2
      go_loopw [41, 4] (fun i l wy => i = .int .i64 0 ∧ l = .slice (some ⟨g2, 0, none⟩) 1 c2 ∧ wy = w11) (fun _ _ _ => 0)
      case atStart => exact ⟨rfl, rfl, rfl⟩
      case round =>
        obtain ⟨rfl, rfl, rfl⟩ := hrel
        go_wp2
        go_roundw
        case rel => exact ⟨1, Nat.le_refl _, rfl, (show Aside _ from fun h => by cases h), (show Aside _ from fun _ => ⟨g2, c2, cur2, rfl, hG11, hc2, hcs2, hcx2, hE11⟩)⟩
        case measure => simp [intOf]
    · obtain rfl : k = 1 := by omega
      obtain ⟨g2, c2, cur2, rfl, hG2, hc2, hcs2, hcx2, hE2⟩ := A1.out rfl
      have hR2 := rsAt_one hG2 hc2 hcs2 hcx2
      have hgr := grouped_one g2 c2 (oneR f) wr hqo hm hC hR2 (hS1.ext hE2)
      have hE2 := hE.trans hE2
      clear A0 A1 hcs2 hcx2 hR2
      go_wp2_with fail
      refine hgr.mono ?_
      rintro e w3 ⟨v, rfl, h3, hE3⟩
      go_wp2
      go_ret
      exact ⟨v, rfl, h3.base hE2.size, hE2.trans hE3⟩
end Go.Proofs.YtplddeboinhkbaaGreatDoorRR

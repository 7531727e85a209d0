/- One rest grouped: it alone, merged with nothing. -/

import Derived.Test.YtplddeboinhkbaaGreatDoorRRProg
import Derived.Test.YtplddeboinhkbaaGreatDoorRRSavJ
import Derived.Test.YtplddeboinhkbaaGreatDoorRRMergeA
namespace Go.Proofs.YtplddeboinhkbaaGreatDoorRR
open Go.RowKit
section
variable {P : Program} {op : Oper} {a : Act} {w : World} {K : Act → World → Prop} {Q : Exit → Act → World → Prop} {t : TypeId} {m k : Operand} {u1 u2 v : Value}
theorem wp_lookup (ho : op.op = .lookup t m k false) (h1 : a.eval m = u1) (h2 : a.eval k = u2) (hr : (Instr.lookup t u1 u2 false).run P w = .ok v w) (h : K (a.put op.dst v) w) : op.wp P a w K Q := by
  unfold Oper.wp execOp
  simp only [ho, h1, h2, Sem.run_bind, hr, Result.andThen_ok]
  exact h
theorem run_load_op (ty : TypeId) (x : Operand) (ho : op.op = .load ty x)
    (b o : Nat) (hx : a.eval x = .pointer (some ⟨b, o, none⟩)) (n : Nat) (t : TypeId) (cs : Array Value) (fr : Nat × Nat) (d : TypeDesc) (hb : w.heap[b]? = some (.cells cs t fr))
    (hu : P.underlying ty = some d) (hd : d.isRow = true) (hi : (P.info? ty).map (·.size) = some n) (hn : o + n ≤ cs.size) (vs : Array Value) (hvs : cs.extract o (o + n) = vs) :
    (execOp a.eval op).run P w = .ok (.value (.agg vs)) w := by
  subst hvs
  unfold execOp
  simp only [ho, hx, Sem.run_bind, Sem.run_pure, Result.andThen_ok, run_load_blk w b o n ty t cs fr d hb hu hd hi hn]
end
theorem info_restz : (Tryz.prog.info? 30).map (fun i => (i.zero, i.size, i.bytes)) = some (some (.agg Tryz.zeroCells30), 132, 672) := by kernel_rfl
theorem encR_ones (r : SR) : ∀ u ∈ (encR r).toList, u.oneCell' = true := by
  have h := encR_one r
  rw [Array.all_eq_true_iff_forall_mem] at h
  intro u hu
  exact h u (by simpa using hu)
theorem eql_nil (w : World) : (binOp .eql 22 (.slice none 0 0) (.slice none 0 0)).run Tryz.prog w = .ok (.bool true) w := by kernel_rfl
/-- A row of one rest. -/
def OneRow (w w' : World) (v : Value) (q : SR) : Prop := ∃ g cap cur, v = .slice (some ⟨g, 0, none⟩) 1 cap ∧ w.heap.size ≤ g ∧ w'.heap[g]? = some (.cells cur 30 (0, 0)) ∧ 1 ≤ cap ∧ cur.size = cap * 132 ∧ cur.extract 0 (0 + 132) = encR q
theorem rsAt_one {w : World} {g cap : Nat} {cur : Array Value} {t : TypeId} {fr : Nat × Nat} {q : SR} (h : w.heap[g]? = some (.cells cur t fr)) (h1 : 1 ≤ cap) (h2 : cur.size = cap * 132) (h3 : cur.extract 0 (0 + 132) = encR q) : RsAt w g 0 [q] := by
  refine ⟨cur, t, fr, h, fun k hk => ?_⟩
  obtain rfl : k = 0 := by simpa using hk
  exact ⟨by omega, h3⟩
set_option maxRecDepth 100000 in
set_option maxHeartbeats 4000000 in
theorem grouped_one (b c : Nat) (q : SR) (w : World) (hO : RestOk q) (hm : mergeP [q] = q) (hC : CopOk [q]) (hR : RsAt w b 0 [q]) (hS : SyncAt w) :
    Calls Tryz.prog 38 #[.slice (some ⟨b, 0, none⟩) 1 c] w (fun e w' => ∃ v, e = .returned v ∧ OneRow w w' v q ∧ Ext w w') := by
  have hmm := @run_makeMap Tryz.prog
  obtain ⟨i0, hi, hz0, hz1, hz2⟩ := info_parts info_intz
  have HI := Lib.hid hi
  have HZ0 := Lib.hid hz0
  have HZ1 := Lib.hid hz1
  have HZ2 := Lib.hid hz2
  clear hi hz0 hz1 hz2
  obtain ⟨j0, hi, hz0, hz1, hz2⟩ := info_parts info_restz
  have HJ := Lib.hid hi
  have HJ0 := Lib.hid hz0
  have HJ1 := Lib.hid hz1
  have HJ2 := Lib.hid hz2
  clear hi hz0 hz1 hz2
  have hbw : b < w.heap.size := by
    obtain ⟨cs, t, fr, hb, _⟩ := hR
    exact lt_of_block hb
  have HOs : RsOk [q] := fun k hk => by
    obtain rfl : k = 0 := by simpa using hk
    exact hO
  go_enter Tryz.func38, Tryz.ntmps38
  go_wp2
  refine wp_world fun w2 e2 => ?_
  have hE2 := Ext.of_eq e2
  clear e2 hmm
  have hM := hE2.heap (block_new' w (.map #[] 0))
  have hE := ext_of_alloc _ hE2
  have hR2 := hR.ext hE
  have hS2 := hS.ext hE
  clear hE2 hR
  have hS0 := hS
  clear hS
  generalize hwm : w.heap.size = mb at hM hbw ⊢
  go_loopw [13, 4] (fun i ns wr => ∃ k : Nat, k ≤ 1 ∧ i = .int .i64 k ∧ Aside (k = 0 → ns = .slice none 0 0 ∧ wr.heap[mb]? = some (.map #[] 0) ∧ Ext w2 wr) ∧
    Aside (k = 1 → ∃ ng ncap g2 c2 cur2, ns = .slice (some ⟨ng, 0, none⟩) 1 ncap ∧ wr.cell? ⟨ng, 0, none⟩ = some (.int .i64 q.num) ∧ wr.heap[mb]? = some (.map #[{ key := .int .i64 q.num, val := .slice (some ⟨g2, 0, none⟩) 1 c2, born := 0 }] 1) ∧
      wr.heap[g2]? = some (.cells cur2 30 (0, 0)) ∧ 1 ≤ c2 ∧ cur2.size = c2 * 132 ∧ cur2.extract 0 (0 + 132) = encR q ∧ Ext w wr)) (fun i _ _ => 1 - (intOf i).toNat)
  case atStart => exact ⟨0, by omega, rfl, (show Aside _ from fun _ => ⟨rfl, hM, Ext.refl w2⟩), (show Aside _ from fun h => by cases h)⟩
  case round =>
    obtain ⟨k, hk, rfl, A0, A1⟩ := hrel
    by_cases hk0 : k = 0
    · obtain ⟨rfl, hM3, hE3⟩ := A0.out hk0
      subst hk0
      have hR3 := hR2.ext hE3
      have hE3 := hE.trans hE3
      clear A0 A1 hM hR2 hE hS2
      rw [show ((0 : Nat) : Int) = 0 from rfl]
      go_wp2_with ((with_reducible refine stop_load 30 rfl ?_))
      apply Stop.go
      refine load_elem rfl _ rfl hR3 0 (Nat.succ_pos _) rfl ?_
      simp only [Act.put, List.setIfInBounds_toArray, List.set_cons_zero, List.set_cons_succ]
      go_wp2_with ((with_reducible refine stop_store 30 rfl ?_))
      apply Stop.go
      refine wpList_world fun w4 e4 => ?_
      have hEa := Ext.of_eq e4
      clear e4
      refine store_rest rfl _ _ rfl wr.heap.size rfl q hO rfl _ (hEa.heap (block_new wr _)) zero_rest fun w5 u5 => ?_
      dsimp only [Act.put]
      have hEb := (ext_of_alloc _ hEa).upd (by simp) u5
      have hF5 : RAt w5 wr.heap.size q := u5.here
      have hM5 := hEb.heap hM3
      have hE5 := hE3.trans hEb
      have hfm : mb < wr.heap.size := lt_of_block hM3
      clear u5 hEa hEb hM3 hR3 hE3 w4
      generalize wr.heap.size = fb at hF5 hfm ⊢
      have hf0 := RAt.num hO hF5
      go_wp2_with ((with_reducible refine stop_dst 20 rfl ?_))
      apply Stop.go
      refine wpList_plain rfl fun K hK => wp_lookup rfl rfl rfl (run_lookup_none (x := q.num) Tryz.underlying96 Tryz.underlying3 hM5 (z := .slice none 0 0) (by rfl)) (hK _ _ ?_)
      clear hK K
      simp only [Act.put, List.setIfInBounds_toArray, List.set_cons_zero, List.set_cons_succ]
      have hbe := eql_nil w5
      go_wp2_with ((with_reducible refine stop_dst 25 rfl ?_))
      apply Stop.go
      clear hbe
      refine wpList_buildSlice_to rfl 40 3 1 [(0, .tmp 24)] rfl [(0, .int .i64 q.num)] rfl #[.int .i64 q.num] i0 _ Tryz.underlying40 HI.out HZ0.out (by rw [HZ1.out]; decide) (by rw [HZ1.out]; decide) (by rw [HZ1.out]; exact fill_single (by decide) _ _ _ rfl rfl) ?_
      simp only [Act.put, List.setIfInBounds_toArray, List.set_cons_zero, List.set_cons_succ]
      refine wpList_plain rfl fun K hK => wp_append_nil _ _ 40 rfl 3 i0 _ 1 8 Tryz.underlying40 HI.out HZ0.out HZ1.out HZ2.out rfl (by decide) rfl w5.heap.size 1 [.int .i64 q.num] rfl rfl _ _ (block_new w5 _) (int_one _) (by decide) fun ng ncap ncur w6 hng hN6 hnc hncs hncx _ hE6 => hK _ _ ?_
      clear hK K
      have hn6 : w6.cell? ⟨ng, 0, none⟩ = some (.int .i64 q.num) := by
        rw [cell_of_row _ _ _ _ _ _ hN6]
        have h0 : (ncur.extract 0 (0 + 1))[0]? = some (.int .i64 q.num) := by rw [hncx]; rfl
        rw [Array.getElem?_extract] at h0
        simp at h0
        simpa using h0.2
      have hE6 := ext_of_alloc _ hE6
      have hF6 := hE6.heap hF5
      have hM6 := hE6.heap hM5
      have hE6 := hE5.trans hE6
      have hngm : mb < ng := Nat.lt_of_lt_of_le (lt_of_block hM5) (Nat.le_trans (by simp) hng)
      clear hN6 hncx hncs hnc hng hF5 hM5 hE5 hf0
      simp only [Act.put, List.setIfInBounds_toArray, List.set_cons_zero, List.set_cons_succ]
      go_wp2
      refine wp_region_open (fun wx => wx.cell? ⟨fb, 0, none⟩ = some (.int .i64 q.num) ∧ wx.heap[fb]? = some (.cells (encR q) 30 (0, 0))) (by kernel_rfl) (fun _ _ d _ _ h => by cases d <;> exact h) fun Q' hQp hQn => ?_
      have hE7 : Ext w6 w6.drew := (Ext.refl w6).drew
      rw [show ({ w6 with drawn := w6.drawn + 1 } : World) = w6.drew from rfl]
      have hF7 := hE7.heap hF6
      have hM7 := hE7.heap hM6
      have hn7 := hE7.cell hn6
      have hE7 := hE6.trans hE7
      clear hF6 hM6 hE6 hn6
      generalize w6.drew = w7 at *
      have hSc : w7.cell? ⟨fb, 0, none⟩ = some (.int .i64 q.num) ∧ w7.heap[fb]? = some (.cells (encR q) 30 (0, 0)) := ⟨RAt.num hO hF7, hF7⟩
      simp only [List.size_toArray, List.length_cons, List.length_nil, Nat.reduceAdd]
      refine held_take 0 (.map (some mb)) (op_at rfl) (by kernel_rfl) (by kernel_rfl) (by kernel_rfl) hQp (by kernel_rfl) hSc (fun wx hSx => ?_) ?_
      · obtain ⟨hx1, hx2⟩ := hSx
        first
          | (with_reducible rfl)
          | (go_simp; done)
          | (go_simp; with_reducible rfl)
          | kernel_rfl
          | rfl
      simp only [Act.put, List.setIfInBounds_toArray, List.set_cons_zero, List.set_cons_succ]
      refine held_take 1 (.pointer (some ⟨fb, 0, none⟩)) (op_at rfl) (by kernel_rfl) (by kernel_rfl) (by kernel_rfl) hQp (by kernel_rfl) hSc (fun wx hSx => ?_) ?_
      · obtain ⟨hx1, hx2⟩ := hSx
        first
          | (with_reducible rfl)
          | (go_simp; done)
          | (go_simp; with_reducible rfl)
          | kernel_rfl
          | rfl
      simp only [Act.put, List.setIfInBounds_toArray, List.set_cons_zero, List.set_cons_succ]
      refine held_take 2 (.int .i64 q.num) (op_at rfl) (by kernel_rfl) (by kernel_rfl) (by kernel_rfl) hQp (by kernel_rfl) hSc (fun wx hSx => ?_) ?_
      · obtain ⟨hx1, hx2⟩ := hSx
        first
          | (with_reducible rfl)
          | (go_simp; done)
          | (go_simp; with_reducible rfl)
          | kernel_rfl
          | rfl
      simp only [Act.put, List.setIfInBounds_toArray, List.set_cons_zero, List.set_cons_succ]
      refine held_take 3 (.map (some mb)) (op_at rfl) (by kernel_rfl) (by kernel_rfl) (by kernel_rfl) hQp (by kernel_rfl) hSc (fun wx hSx => ?_) ?_
      · obtain ⟨hx1, hx2⟩ := hSx
        first
          | (with_reducible rfl)
          | (go_simp; done)
          | (go_simp; with_reducible rfl)
          | kernel_rfl
          | rfl
      simp only [Act.put, List.setIfInBounds_toArray, List.set_cons_zero, List.set_cons_succ]
      refine held_take 4 (.pointer (some ⟨fb, 0, none⟩)) (op_at rfl) (by kernel_rfl) (by kernel_rfl) (by kernel_rfl) hQp (by kernel_rfl) hSc (fun wx hSx => ?_) ?_
      · obtain ⟨hx1, hx2⟩ := hSx
        first
          | (with_reducible rfl)
          | (go_simp; done)
          | (go_simp; with_reducible rfl)
          | kernel_rfl
          | rfl
      simp only [Act.put, List.setIfInBounds_toArray, List.set_cons_zero, List.set_cons_succ]
      refine held_take 5 (.int .i64 q.num) (op_at rfl) (by kernel_rfl) (by kernel_rfl) (by kernel_rfl) hQp (by kernel_rfl) hSc (fun wx hSx => ?_) ?_
      · obtain ⟨hx1, hx2⟩ := hSx
        first
          | (with_reducible rfl)
          | (go_simp; done)
          | (go_simp; with_reducible rfl)
          | kernel_rfl
          | rfl
      simp only [Act.put, List.setIfInBounds_toArray, List.set_cons_zero, List.set_cons_succ]
      refine held_take 7 (.agg (encR q)) (op_at rfl) (by kernel_rfl) (by kernel_rfl) (by kernel_rfl) hQp (by kernel_rfl) hSc (fun wx hSx => run_load_op 30 _ rfl fb 0 rfl 132 _ _ _ _ hSx.2 Tryz.underlying30 rfl info_rest (by rw [encR_size hO]; omega) (encR q) (encR_whole hO)) ?_
      simp only [Act.put, List.setIfInBounds_toArray, List.set_cons_zero, List.set_cons_succ]
      have hSe : ∀ X Y : World, (X.cell? ⟨fb, 0, none⟩ = some (.int .i64 q.num) ∧ X.heap[fb]? = some (.cells (encR q) 30 (0, 0))) → Ext X Y → (Y.cell? ⟨fb, 0, none⟩ = some (.int .i64 q.num) ∧ Y.heap[fb]? = some (.cells (encR q) 30 (0, 0))) := fun X Y h hE => ⟨hE.cell h.1, hE.heap h.2⟩
      have hN8 := block_new w7 (.cells (encR q) 30)
      have hE8 := ext_of_alloc (.cells (encR q) 30) (Ext.refl (w7.alloc (.cells (encR q) 30)))
      generalize hw8 : w7.alloc (.cells (encR q) 30) = w8 at hN8 hE8
      refine held_two (i := 6) (j := 8) (op_at rfl) (op_at rfl) (by kernel_rfl) (by kernel_rfl) (by kernel_rfl) ?_ ?_
      · refine wp_lookup rfl rfl rfl (run_lookup_none (x := q.num) Tryz.underlying96 Tryz.underlying3 hM7 (z := .slice none 0 0) (by rfl)) ⟨hSc, ?_⟩
        simp only [Act.put, List.setIfInBounds_toArray, List.set_cons_zero, List.set_cons_succ]
        refine held_one (i := 8) (op_at rfl) (by kernel_rfl) (by kernel_rfl) ?_
        refine wp_buildSlice_to 22 30 1 [(0, .tmp 34)] rfl [(0, .agg (encR q))] rfl (encR q) j0 _ Tryz.underlying22 HJ.out HJ0.out (by rw [HJ1.out]; decide) (by rw [HJ1.out]; decide) (by rw [HJ1.out]; exact fill_single (by decide) _ _ _ rfl (encR_size hO)) ?_
        rw [hw8]
        refine ⟨hSe _ _ hSc hE8, ?_⟩
        simp only [Act.put, List.setIfInBounds_toArray, List.set_cons_zero, List.set_cons_succ]
        clear hw8
        refine held_one (i := 9) (op_at rfl) (by kernel_rfl) (by kernel_rfl) ?_
        refine wp_append_nil (w := w8) _ _ 22 rfl 30 j0 _ 132 672 Tryz.underlying22 HJ.out HJ0.out HJ1.out HJ2.out zero_rest (by decide) rfl w7.heap.size 1 (encR q).toList rfl (by rw [Array.length_toList]; exact encR_size hO) _ _ hN8 (encR_ones q) (by decide) fun g2 c2 cur2 w9 hg2 hG9 hc2 hcs2 hcx2 _ hE9 => ⟨hSe _ _ hSc (hE8.trans hE9), ?_⟩
        have hE89 := hE8.trans hE9
        have hM9 := hE89.heap hM7
        have hn9 := hE89.cell hn7
        have hF9 := hE89.heap hF7
        have hgm : mb < g2 := Nat.lt_of_lt_of_le (lt_of_block hM7) (Nat.le_trans hE8.size hg2)
        have hE9 := hE7.trans hE89
        clear hE8 hE89 hN8 hM7 hF7 hE7 hSc hn7 hg2
        simp only [Act.put, List.setIfInBounds_toArray, List.set_cons_zero, List.set_cons_succ]
        refine held_one (i := 10) (op_at rfl) (by kernel_rfl) (by kernel_rfl) ?_
        refine wp_mapUpdate rfl rfl rfl rfl (run_mapUpdate_int Tryz.underlying96 Tryz.underlying3 hM9 (.slice (some ⟨g2, 0, none⟩) 1 c2)) ?_
        have u10 := upd_map (o' := .map #[{ key := .int .i64 q.num, val := .slice (some ⟨g2, 0, none⟩) 1 c2, born := 0 }] (0 + 1)) hM9
        generalize hw10 : ({ w9 with heap := w9.heap.setIfInBounds mb (.map #[{ key := .int .i64 q.num, val := .slice (some ⟨g2, 0, none⟩) 1 c2, born := 0 }] (0 + 1)) } : World) = w10 at u10 ⊢
        have hM10 := u10.here
        have hF10 := u10.keep hF9 (by omega)
        have hG10 := u10.keep hG9 (by omega)
        have hn10 := u10.cell hn9 (by show ng ≠ _; omega)
        have hE10 := hE9.upd (by omega) u10
        have hS10 : w10.cell? ⟨fb, 0, none⟩ = some (.int .i64 q.num) ∧ w10.heap[fb]? = some (.cells (encR q) 30 (0, 0)) := ⟨RAt.num hO hF10, hF10⟩
        clear u10 hw10 hM9 hF9 hG9 hn9 hE9
        refine ⟨hS10, wpAnyH_done (by kernel_rfl) (hQn _ _ ?_) _⟩
        dsimp only [Act.put]
        go_wp2_with fail
        go_roundw
        case rel => exact ⟨1, Nat.le_refl _, rfl, (show Aside _ from fun h => by cases h), (show Aside _ from fun _ => ⟨ng, ncap, g2, c2, cur2, rfl, hn10, hM10, hG10, hc2, hcs2, hcx2, hE10⟩)⟩
        case measure => simp [intOf]
      · refine wp_buildSlice_to 22 30 1 [(0, .tmp 34)] rfl [(0, .agg (encR q))] rfl (encR q) j0 _ Tryz.underlying22 HJ.out HJ0.out (by rw [HJ1.out]; decide) (by rw [HJ1.out]; decide) (by rw [HJ1.out]; exact fill_single (by decide) _ _ _ rfl (encR_size hO)) ?_
        rw [hw8]
        refine ⟨hSe _ _ hSc hE8, ?_⟩
        simp only [Act.put, List.setIfInBounds_toArray, List.set_cons_zero, List.set_cons_succ]
        refine held_one (i := 6) (op_at rfl) (by kernel_rfl) (by kernel_rfl) ?_
        have hM8 := hE8.heap hM7
        refine wp_lookup rfl rfl rfl (run_lookup_none (x := q.num) Tryz.underlying96 Tryz.underlying3 hM8 (z := .slice none 0 0) (by rfl)) ⟨hSe _ _ hSc hE8, ?_⟩
        simp only [Act.put, List.setIfInBounds_toArray, List.set_cons_zero, List.set_cons_succ]
        clear hw8 hM8
        refine held_one (i := 9) (op_at rfl) (by kernel_rfl) (by kernel_rfl) ?_
        refine wp_append_nil (w := w8) _ _ 22 rfl 30 j0 _ 132 672 Tryz.underlying22 HJ.out HJ0.out HJ1.out HJ2.out zero_rest (by decide) rfl w7.heap.size 1 (encR q).toList rfl (by rw [Array.length_toList]; exact encR_size hO) _ _ hN8 (encR_ones q) (by decide) fun g2 c2 cur2 w9 hg2 hG9 hc2 hcs2 hcx2 _ hE9 => ⟨hSe _ _ hSc (hE8.trans hE9), ?_⟩
        have hE89 := hE8.trans hE9
        have hM9 := hE89.heap hM7
        have hn9 := hE89.cell hn7
        have hF9 := hE89.heap hF7
        have hgm : mb < g2 := Nat.lt_of_lt_of_le (lt_of_block hM7) (Nat.le_trans hE8.size hg2)
        have hE9 := hE7.trans hE89
        clear hE8 hE89 hN8 hM7 hF7 hE7 hSc hn7 hg2
        simp only [Act.put, List.setIfInBounds_toArray, List.set_cons_zero, List.set_cons_succ]
        refine held_one (i := 10) (op_at rfl) (by kernel_rfl) (by kernel_rfl) ?_
        refine wp_mapUpdate rfl rfl rfl rfl (run_mapUpdate_int Tryz.underlying96 Tryz.underlying3 hM9 (.slice (some ⟨g2, 0, none⟩) 1 c2)) ?_
        have u10 := upd_map (o' := .map #[{ key := .int .i64 q.num, val := .slice (some ⟨g2, 0, none⟩) 1 c2, born := 0 }] (0 + 1)) hM9
        generalize hw10 : ({ w9 with heap := w9.heap.setIfInBounds mb (.map #[{ key := .int .i64 q.num, val := .slice (some ⟨g2, 0, none⟩) 1 c2, born := 0 }] (0 + 1)) } : World) = w10 at u10 ⊢
        have hM10 := u10.here
        have hF10 := u10.keep hF9 (by omega)
        have hG10 := u10.keep hG9 (by omega)
        have hn10 := u10.cell hn9 (by show ng ≠ _; omega)
        have hE10 := hE9.upd (by omega) u10
        have hS10 : w10.cell? ⟨fb, 0, none⟩ = some (.int .i64 q.num) ∧ w10.heap[fb]? = some (.cells (encR q) 30 (0, 0)) := ⟨RAt.num hO hF10, hF10⟩
        clear u10 hw10 hM9 hF9 hG9 hn9 hE9
        refine ⟨hS10, wpAnyH_done (by kernel_rfl) (hQn _ _ ?_) _⟩
        dsimp only [Act.put]
        go_wp2_with fail
        go_roundw
        case rel => exact ⟨1, Nat.le_refl _, rfl, (show Aside _ from fun h => by cases h), (show Aside _ from fun _ => ⟨ng, ncap, g2, c2, cur2, rfl, hn10, hM10, hG10, hc2, hcs2, hcx2, hE10⟩)⟩
        case measure => simp [intOf]
    · obtain rfl : k = 1 := by omega
      obtain ⟨ng, ncap, g2, c2, cur2, rfl, hn, hM3, hG, hc2, hcs, hcx, hE3⟩ := A1.out rfl
      have hR3 := rsAt_one hG hc2 hcs hcx
      have hS3 : SyncAt wr := hS0.ext hE3
      clear A0 A1 hM hR2 hE hcs hcx
      go_wp2_with fail
      refine (sort_one _ _ _).mono ?_
      rintro e w4 ⟨rfl, hw4⟩
      subst hw4
      go_wp2
      clear hk0 hk
      go_loopw [42, 7] (fun i o wx => ∃ k : Nat, k ≤ 1 ∧ i = .int .i64 k ∧ Aside (k = 0 → o = .slice none 0 0 ∧ wx = w4) ∧ Aside (k = 1 → OneRow w wx o q ∧ Ext w wx)) (fun i _ _ => 1 - (intOf i).toNat)
      case atStart => exact ⟨0, by omega, rfl, (show Aside _ from fun _ => ⟨rfl, rfl⟩), (show Aside _ from fun h => by cases h)⟩
      case round =>
        obtain ⟨k, hk, rfl, A0, A1⟩ := hrel
        by_cases hk0 : k = 0
        · obtain ⟨rfl, rfl⟩ := A0.out hk0
          subst hk0
          clear A0 A1
          rw [show ((0 : Nat) : Int) = 0 from rfl]
          go_wp2_with ((with_reducible refine stop_dst 49 rfl ?_))
          apply Stop.go
          refine wpList_plain rfl fun K hK => wp_lookup rfl rfl rfl (run_lookup_one (x := q.num) Tryz.underlying96 Tryz.underlying3 hM3) (hK _ _ ?_)
          clear hK K
          simp only [Act.put, List.setIfInBounds_toArray, List.set_cons_zero, List.set_cons_succ]
          have hmg := merge_any g2 0 c2 [q] _ (by simp) (by simp) hR3 HOs hC hS3
          rw [hm] at hmg
          go_wp2_with fail
          refine hmg.mono ?_
          rintro e w5 ⟨rfl, hE5⟩
          have hE5 := hE3.trans hE5
          go_wp2_with ((with_reducible refine stop_dst 51 rfl ?_))
          apply Stop.go
          refine wpList_buildSlice_to rfl 22 30 1 [(0, .tmp 50)] rfl [(0, .agg (encR q))] rfl (encR q) j0 _ Tryz.underlying22 HJ.out HJ0.out (by rw [HJ1.out]; decide) (by rw [HJ1.out]; decide) (by rw [HJ1.out]; exact fill_single (by decide) _ _ _ rfl (encR_size hO)) ?_
          simp only [Act.put, List.setIfInBounds_toArray, List.set_cons_zero, List.set_cons_succ]
          refine wpList_plain rfl fun K hK => wp_append_nil _ _ 22 rfl 30 j0 _ 132 672 Tryz.underlying22 HJ.out HJ0.out HJ1.out HJ2.out zero_rest (by decide) rfl w5.heap.size 1 (encR q).toList rfl (by rw [Array.length_toList]; exact encR_size hO) _ _ (block_new w5 _) (encR_ones q) (by decide) fun g3 c3 cur3 w6 hg3 hG6 hc3 hcs3 hcx3 _ hE6 => hK _ _ ?_
          clear hK K
          have hE6 := hE5.trans (ext_of_alloc _ hE6)
          have hg3 : w.heap.size ≤ g3 := Nat.le_trans hE5.size (Nat.le_trans (by simp) hg3)
          simp only [Act.put, List.setIfInBounds_toArray, List.set_cons_zero, List.set_cons_succ]
          go_wp2_with fail
          go_roundw
          case rel => exact ⟨1, Nat.le_refl _, rfl, (show Aside _ from fun h => by cases h), (show Aside _ from fun _ => ⟨⟨g3, c3, cur3, rfl, hg3, hG6, hc3, hcs3, hcx3⟩, hE6⟩)⟩
          case measure => simp [intOf]
        · obtain rfl : k = 1 := by omega
          obtain ⟨h1, h2⟩ := A1.out rfl
          clear A0 A1
          obtain ⟨g, cap, cur, rfl, h3⟩ := h1
          go_wp2
          go_ret
          exact ⟨_, rfl, ⟨g, cap, cur, rfl, h3⟩, h2⟩
end Go.Proofs.YtplddeboinhkbaaGreatDoorRR

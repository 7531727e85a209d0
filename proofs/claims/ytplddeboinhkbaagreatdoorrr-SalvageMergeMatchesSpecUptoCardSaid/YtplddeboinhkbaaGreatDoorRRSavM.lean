/- Salvage of one piece that holds one sound frame. -/

import Derived.Test.YtplddeboinhkbaaGreatDoorRRProg
import Derived.Test.YtplddeboinhkbaaGreatDoorRRSavL
import Derived.Test.YtplddeboinhkbaaGreatDoorRRSavC
import Derived.Test.YtplddeboinhkbaaGreatDoorRRMergeB
namespace Go.Proofs.YtplddeboinhkbaaGreatDoorRR
open Go.RowKit
theorem one_cells {w : World} {g : Nat} {cur : Array Value} {t : TypeId} {fr : Nat × Nat} {q : SR} (_hq : RestOk q) (h : w.heap[g]? = some (.cells cur t fr)) (h3 : cur.extract 0 (0 + 132) = encR q) : ∀ j u, (encR q).toList[j]? = some u → w.cell? ((⟨g, 0, none⟩ : Addr).add j) = some u := fun j u hu => by
  refine cells_at h j u ?_
  have h4 : (encR q)[j]? = some u := by simpa using hu
  rw [← h3, Array.getElem?_extract] at h4
  split at h4
  · simpa using h4
  · cases h4
theorem info_piece : (Tryz.prog.info? 47).map (·.size) = some 2 := by kernel_rfl
theorem splice_head {cs vs : Array Value} {n : Nat} (h : vs.size = n) (_hn : n ≤ cs.size) : (splice cs 0 vs).extract 0 (0 + n) = vs := by
  apply Array.ext'
  simp only [splice, List.take_zero, List.nil_append, Array.toList_extract, List.extract, List.drop_zero, Nat.zero_add, Nat.sub_zero]
  rw [List.take_append_of_le_length (by simp [h]), List.take_of_length_le (by simp [h])]
set_option maxRecDepth 100000 in
set_option maxHeartbeats 4000000 in
theorem Salvage_any (pb pc bb bc : Nat) (l f : List Nat) (w : World) (hP : w.heap[pb]? = some (.cells #[.slice (some ⟨bb, 0, none⟩) 97 bc, .bool false] 47 (0, 0))) (hB : BAt w bb 0 l) (hl : l.length = 97) (hb : ∀ k, wd l k < 256)
    (hO : OneAt (halvesF l) f) (hf : FrameOk f) (hS : SyncAt w) (hm : mergeP [oneR f] = oneR f) (hC : CopOk [oneR f]) (h9 : numV f = 9) :
    Calls Tryz.prog 17 #[.slice (some ⟨pb, 0, none⟩) 1 pc] w (fun e w' => ∃ v, e = .returned (.tuple #[v, .int .i64 0]) ∧ OneRow w w' v (oneR f) ∧ Ext w w') := by
  have hqo := oneR_ok hf
  have hmd : mendedP (oneR f) = oneR f := by
    unfold mendedP
    rw [if_pos (by simp [oneR])]
  obtain ⟨j0, hi, hz0, hz1, hz2⟩ := info_parts info_restz
  have HJ := Lib.hid hi
  have HJ0 := Lib.hid hz0
  have HJ1 := Lib.hid hz1
  have HJ2 := Lib.hid hz2
  clear hi hz0 hz1 hz2
  go_enter Tryz.func17, Tryz.ntmps17
  go_wp2
  go_loopw [17] (fun i wr => ∃ k : Nat, k ≤ 1 ∧ i = .int .i64 k ∧ Ext w wr) (fun i _ => 1 - (intOf i).toNat)
  case atStart => exact ⟨0, by omega, rfl, Ext.refl w⟩
  case round =>
    obtain ⟨k, hk, rfl, hE⟩ := hrel
    by_cases hk0 : k = 0
    · subst hk0
      rw [show ((0 : Nat) : Int) = 0 from rfl]
      have hP1 := hE.heap hP
      go_wp2_with ((with_reducible refine stop_load 47 rfl ?_))
      apply Stop.go
      refine wpList_load_blk rfl _ _ rfl pb 0 rfl 2 _ _ _ _ hP1 Tryz.underlying47 rfl info_piece (by simp) #[.slice (some ⟨bb, 0, none⟩) 97 bc, .bool false] rfl ?_
      simp only [Act.put, List.setIfInBounds_toArray, List.set_cons_zero, List.set_cons_succ]
      go_wp2_with ((with_reducible refine stop_store 47 rfl ?_))
      apply Stop.go
      refine wpList_world fun w4 e4 => ?_
      have hEa := Ext.of_eq e4
      clear e4
      refine wpList_store_whole rfl _ _ _ rfl wr.heap.size rfl #[.slice (some ⟨bb, 0, none⟩) 97 bc, .bool false] rfl _ _ (hEa.heap (block_new wr _)) info_piece (by rfl) (by simp [Value.oneCell']) fun w5 u5 => ?_
      have hP5 := u5.here
      have hE5 := (ext_of_alloc _ hEa).upd (by simp) u5
      clear u5 hEa w4
      dsimp only [Act.put]
      generalize wr.heap.size = fb at hP5 ⊢
      go_wp2_with ((with_reducible refine stop_load 47 rfl ?_))
      apply Stop.go
      refine wpList_load_blk rfl _ _ rfl fb 0 rfl 2 _ _ _ _ hP5 Tryz.underlying47 rfl info_piece (by simp) #[.slice (some ⟨bb, 0, none⟩) 97 bc, .bool false] rfl ?_
      simp only [Act.put, List.setIfInBounds_toArray, List.set_cons_zero, List.set_cons_succ]
      go_wp2_with fail
      refine (checkPiece_any bb 0 97 bc _ (by omega)).mono ?_
      rintro e w6 ⟨rfl, hE6⟩
      have hE6 := (hE.trans hE5).trans hE6
      go_wp2
      go_roundw
      case rel => exact ⟨1, by omega, rfl, hE6⟩
      case measure => simp [intOf]
    · obtain rfl : k = 1 := by omega
      clear hk hk0
      go_wp2
      go_loopw [29, 7] (fun i o wx => ∃ k : Nat, k ≤ 1 ∧ i = .int .i64 k ∧ Aside (k = 0 → o = .slice none 0 0 ∧ wx = wr) ∧ Aside (k = 1 → OneRow w wx o (oneR f) ∧ Ext w wx)) (fun i _ _ => 1 - (intOf i).toNat)
      case atStart => exact ⟨0, by omega, rfl, (show Aside _ from fun _ => ⟨rfl, rfl⟩), (show Aside _ from fun h => by cases h)⟩
      case round =>
        obtain ⟨k, hk, rfl, A0, A1⟩ := hrel
        by_cases hk0 : k = 0
        · obtain ⟨rfl, rfl⟩ := A0.out hk0
          subst hk0
          clear A0 A1
          rw [show ((0 : Nat) : Int) = 0 from rfl]
          rename_i wq _
          have hP1 := hE.heap hP
          go_wp2_with ((with_reducible refine stop_load 47 rfl ?_))
          apply Stop.go
          refine wpList_load_blk rfl _ _ rfl pb 0 rfl 2 _ _ _ _ hP1 Tryz.underlying47 rfl info_piece (by simp) #[.slice (some ⟨bb, 0, none⟩) 97 bc, .bool false] rfl ?_
          simp only [Act.put, List.setIfInBounds_toArray, List.set_cons_zero, List.set_cons_succ]
          go_wp2_with ((with_reducible refine stop_store 47 rfl ?_))
          apply Stop.go
          refine wpList_world fun w4 e4 => ?_
          have hEa := Ext.of_eq e4
          clear e4
          refine wpList_store_whole rfl _ _ _ rfl _ rfl #[.slice (some ⟨bb, 0, none⟩) 97 bc, .bool false] rfl _ _ (hEa.heap (block_new _ _)) info_piece (by rfl) (by simp [Value.oneCell']) fun w5 u5 => ?_
          have hP5 := u5.here
          have hE5 := (ext_of_alloc _ hEa).upd (by simp) u5
          clear u5 hEa w4
          dsimp only [Act.put]
          have hE5 := hE.trans hE5
          go_wp2_with ((with_reducible refine stop_load 47 rfl ?_))
          apply Stop.go
          refine wpList_load_blk rfl _ _ rfl _ 0 rfl 2 _ _ _ _ hP5 Tryz.underlying47 rfl info_piece (by simp) #[.slice (some ⟨bb, 0, none⟩) 97 bc, .bool false] rfl ?_
          simp only [Act.put, List.setIfInBounds_toArray, List.set_cons_zero, List.set_cons_succ]
          have hha := halves_any bb 0 bc l w5 (by omega) (hB.ext hE5) hb
          rw [hl] at hha
          go_wp2_with fail
          refine hha.mono ?_
          rintro e w6 ⟨hg, rfl, hgb, hH6, hE6⟩
          rw [hl] at *
          have hE6 := hE5.trans hE6
          go_wp2_with fail
          refine (rests_any hg 194 (halvesF l) f w6 hO hf (by omega) (hS.ext hE6) hH6 hm hC).mono ?_
          rintro e w7 ⟨v, rfl, ⟨g, cap, cur, rfl, hg7, hG7, hcap, hcs, hcx⟩, hE7⟩
          have hE7 := hE6.trans hE7
          go_wp2_with ((with_reducible refine stop_dst 37 rfl ?_))
          apply Stop.go
          refine wpList_plain rfl fun K hK => wp_append_nil' _ _ 22 rfl 30 j0 _ 132 672 Tryz.underlying22 HJ.out HJ0.out HJ1.out HJ2.out zero_rest (by decide) rfl g cap (encR (oneR f)).toList rfl (by rw [Array.length_toList]; exact encR_size hqo) (one_cells hqo hG7 hcx) (encR_ones _) (by decide) fun g3 c3 cur3 w8 hg3 hG8 hc3 hcs3 hcx3 hE8 => hK _ _ ?_
          clear hK K
          have hg3 := Nat.le_trans hE7.size hg3
          have hE8 := hE7.trans hE8
          simp only [Act.put, List.setIfInBounds_toArray, List.set_cons_zero, List.set_cons_succ]
          go_wp2_with fail
          go_roundw
          case rel =>
            (repeat apply Exists.intro)
            exact ⟨⟨1, Nat.le_refl _, rfl, (show Aside _ from fun h => by cases h), (show Aside _ from fun _ => ⟨⟨g3, c3, cur3, rfl, hg3, hG8, hc3, hcs3, hcx3⟩, hE8⟩)⟩, rfl⟩
          case measure => simp [intOf]
        · obtain rfl : k = 1 := by omega
          obtain ⟨⟨g, cap, cur, rfl, hgw, hG, hcap, hcs, hcx⟩, hE2⟩ := A1.out rfl
          clear A0 A1 hk hk0
          rename_i wq _
          have hgr := grouped_one g cap (oneR f) _ hqo hm hC (rsAt_one hG hcap hcs hcx) (hS.ext hE2)
          go_wp2_with fail
          refine hgr.mono ?_
          rintro e w3 ⟨v, rfl, ⟨g3, c3, cur3, rfl, hg3, hG3, hc3, hcs3, hcx3⟩, hE3⟩
          have hg3 := Nat.le_trans hE2.size hg3
          have hE3 := hE2.trans hE3
          clear hgr hG hcs hcx hE2 hE
          go_wp2
          refine wp_region_open (fun wx => wx.cell? ⟨g3, 0, none⟩ = some (.int .i64 (numV f : Nat))) (by kernel_rfl) (fun _ _ d _ _ h => by cases d <;> exact h) fun Q' hQp hQn => ?_
          have hE7 : Ext w3 w3.drew := (Ext.refl w3).drew
          rw [show ({ w3 with drawn := w3.drawn + 1 } : World) = w3.drew from rfl]
          have hG7 := hE7.heap hG3
          have hE7 := hE3.trans hE7
          clear hG3 hE3
          generalize w3.drew = w7 at *
          have hSc : w7.cell? ⟨g3, 0, none⟩ = some (.int .i64 (numV f : Nat)) := by
            rw [cell_of_row _ _ _ _ _ _ hG7]
            have h0 : (cur3.extract 0 (0 + 132))[0]? = some (.int .i64 (numV f : Nat)) := by rw [hcx3]; rfl
            rw [Array.getElem?_extract] at h0
            simp at h0
            simpa using h0.2
          simp only [List.size_toArray, List.length_cons, List.length_nil, Nat.reduceAdd]
          rw [h9] at hSc
          simp only [h9]
          refine held_take 0 (.slice (some ⟨g3, 0, none⟩) 1 c3) (op_at rfl) (by kernel_rfl) (by kernel_rfl) (by kernel_rfl) hQp (by kernel_rfl) hSc (fun wx hSx => ?_) ?_
          · obtain hy := hSx
            first
              | (with_reducible rfl)
              | (go_simp; done)
              | (go_simp; with_reducible rfl)
              | kernel_rfl
              | rfl
          simp only [Act.put, List.setIfInBounds_toArray, List.set_cons_zero, List.set_cons_succ]
          refine held_take 1 (.int .i64 1) (op_at rfl) (by kernel_rfl) (by kernel_rfl) (by kernel_rfl) hQp (by kernel_rfl) hSc (fun wx hSx => ?_) ?_
          · obtain hy := hSx
            first
              | (with_reducible rfl)
              | (go_simp; done)
              | (go_simp; with_reducible rfl)
              | kernel_rfl
              | rfl
          simp only [Act.put, List.setIfInBounds_toArray, List.set_cons_zero, List.set_cons_succ]
          refine held_take 2 (.bool true) (op_at rfl) (by kernel_rfl) (by kernel_rfl) (by kernel_rfl) hQp (by kernel_rfl) hSc (fun wx hSx => ?_) ?_
          · obtain hy := hSx
            first
              | (with_reducible rfl)
              | (go_simp; done)
              | (go_simp; with_reducible rfl)
              | kernel_rfl
              | rfl
          simp only [Act.put, List.setIfInBounds_toArray, List.set_cons_zero, List.set_cons_succ]
          refine held_take 3 (.bool true) (op_at rfl) (by kernel_rfl) (by kernel_rfl) (by kernel_rfl) hQp (by kernel_rfl) hSc (fun wx hSx => ?_) ?_
          · obtain hy := hSx
            first
              | (with_reducible rfl)
              | (go_simp; done)
              | (go_simp; with_reducible rfl)
              | kernel_rfl
              | rfl
          simp only [Act.put, List.setIfInBounds_toArray, List.set_cons_zero, List.set_cons_succ]
          refine held_take 4 (.slice (some ⟨g3, 0, none⟩) 1 c3) (op_at rfl) (by kernel_rfl) (by kernel_rfl) (by kernel_rfl) hQp (by kernel_rfl) hSc (fun wx hSx => ?_) ?_
          · obtain hy := hSx
            first
              | (with_reducible rfl)
              | (go_simp; done)
              | (go_simp; with_reducible rfl)
              | kernel_rfl
              | rfl
          simp only [Act.put, List.setIfInBounds_toArray, List.set_cons_zero, List.set_cons_succ]
          refine held_take 5 (.slice (some ⟨g3, 0, none⟩) 1 c3) (op_at rfl) (by kernel_rfl) (by kernel_rfl) (by kernel_rfl) hQp (by kernel_rfl) hSc (fun wx hSx => ?_) ?_
          · obtain hy := hSx
            first
              | (with_reducible rfl)
              | (go_simp; done)
              | (go_simp; with_reducible rfl)
              | kernel_rfl
              | rfl
          simp only [Act.put, List.setIfInBounds_toArray, List.set_cons_zero, List.set_cons_succ]
          refine held_take 6 (.int .i64 1) (op_at rfl) (by kernel_rfl) (by kernel_rfl) (by kernel_rfl) hQp (by kernel_rfl) hSc (fun wx hSx => ?_) ?_
          · obtain hy := hSx
            first
              | (with_reducible rfl)
              | (go_simp; done)
              | (go_simp; with_reducible rfl)
              | kernel_rfl
              | rfl
          simp only [Act.put, List.setIfInBounds_toArray, List.set_cons_zero, List.set_cons_succ]
          refine held_take 7 (.int .i64 0) (op_at rfl) (by kernel_rfl) (by kernel_rfl) (by kernel_rfl) hQp (by kernel_rfl) hSc (fun wx hSx => ?_) ?_
          · obtain hy := hSx
            first
              | (with_reducible rfl)
              | (go_simp; done)
              | (go_simp; with_reducible rfl)
              | kernel_rfl
              | rfl
          simp only [Act.put, List.setIfInBounds_toArray, List.set_cons_zero, List.set_cons_succ]
          refine held_take 8 (.pointer (some ⟨g3, 0, none⟩)) (op_at rfl) (by kernel_rfl) (by kernel_rfl) (by kernel_rfl) hQp (by kernel_rfl) hSc (fun wx hSx => ?_) ?_
          · obtain hy := hSx
            first
              | (with_reducible rfl)
              | (go_simp; done)
              | (go_simp; with_reducible rfl)
              | kernel_rfl
              | rfl
          simp only [Act.put, List.setIfInBounds_toArray, List.set_cons_zero, List.set_cons_succ]
          refine held_take 9 (.pointer (some ⟨g3, 0, none⟩)) (op_at rfl) (by kernel_rfl) (by kernel_rfl) (by kernel_rfl) hQp (by kernel_rfl) hSc (fun wx hSx => ?_) ?_
          · obtain hy := hSx
            first
              | (with_reducible rfl)
              | (go_simp; done)
              | (go_simp; with_reducible rfl)
              | kernel_rfl
              | rfl
          simp only [Act.put, List.setIfInBounds_toArray, List.set_cons_zero, List.set_cons_succ]
          refine held_take 10 (.int .i64 9) (op_at rfl) (by kernel_rfl) (by kernel_rfl) (by kernel_rfl) hQp (by kernel_rfl) hSc (fun wx hSx => ?_) ?_
          · obtain hy := hSx
            first
              | (with_reducible rfl)
              | (go_simp; done)
              | (go_simp; with_reducible rfl)
              | kernel_rfl
              | rfl
          simp only [Act.put, List.setIfInBounds_toArray, List.set_cons_zero, List.set_cons_succ]
          refine held_take 11 (.slice (some ⟨g3, 0, none⟩) 1 c3) (op_at rfl) (by kernel_rfl) (by kernel_rfl) (by kernel_rfl) hQp (by kernel_rfl) hSc (fun wx hSx => ?_) ?_
          · obtain hy := hSx
            first
              | (with_reducible rfl)
              | (go_simp; done)
              | (go_simp; with_reducible rfl)
              | kernel_rfl
              | rfl
          simp only [Act.put, List.setIfInBounds_toArray, List.set_cons_zero, List.set_cons_succ]
          refine held_take 12 (.pointer (some ⟨g3, 0, none⟩)) (op_at rfl) (by kernel_rfl) (by kernel_rfl) (by kernel_rfl) hQp (by kernel_rfl) hSc (fun wx hSx => ?_) ?_
          · obtain hy := hSx
            first
              | (with_reducible rfl)
              | (go_simp; done)
              | (go_simp; with_reducible rfl)
              | kernel_rfl
              | rfl
          simp only [Act.put, List.setIfInBounds_toArray, List.set_cons_zero, List.set_cons_succ]
          refine held_take 13 (.pointer (some ⟨g3, 0, none⟩)) (op_at rfl) (by kernel_rfl) (by kernel_rfl) (by kernel_rfl) hQp (by kernel_rfl) hSc (fun wx hSx => ?_) ?_
          · obtain hy := hSx
            first
              | (with_reducible rfl)
              | (go_simp; done)
              | (go_simp; with_reducible rfl)
              | kernel_rfl
              | rfl
          simp only [Act.put, List.setIfInBounds_toArray, List.set_cons_zero, List.set_cons_succ]
          refine held_take 14 (.int .i64 9) (op_at rfl) (by kernel_rfl) (by kernel_rfl) (by kernel_rfl) hQp (by kernel_rfl) hSc (fun wx hSx => ?_) ?_
          · obtain hy := hSx
            first
              | (with_reducible rfl)
              | (go_simp; done)
              | (go_simp; with_reducible rfl)
              | kernel_rfl
              | rfl
          simp only [Act.put, List.setIfInBounds_toArray, List.set_cons_zero, List.set_cons_succ]
          refine held_take 15 (.int .i64 0) (op_at rfl) (by kernel_rfl) (by kernel_rfl) (by kernel_rfl) hQp (by kernel_rfl) hSc (fun wx hSx => ?_) ?_
          · obtain hy := hSx
            first
              | (with_reducible rfl)
              | (go_simp; done)
              | (go_simp; with_reducible rfl)
              | kernel_rfl
              | rfl
          simp only [Act.put, List.setIfInBounds_toArray, List.set_cons_zero, List.set_cons_succ]
          refine held_take 16 (.bool false) (op_at rfl) (by kernel_rfl) (by kernel_rfl) (by kernel_rfl) hQp (by kernel_rfl) hSc (fun wx hSx => ?_) ?_
          · obtain hy := hSx
            first
              | (with_reducible rfl)
              | (go_simp; done)
              | (go_simp; with_reducible rfl)
              | kernel_rfl
              | rfl
          simp only [Act.put, List.setIfInBounds_toArray, List.set_cons_zero, List.set_cons_succ]
          refine held_take 17 (.bool false) (op_at rfl) (by kernel_rfl) (by kernel_rfl) (by kernel_rfl) hQp (by kernel_rfl) hSc (fun wx hSx => ?_) ?_
          · obtain hy := hSx
            first
              | (with_reducible rfl)
              | (go_simp; done)
              | (go_simp; with_reducible rfl)
              | kernel_rfl
              | rfl
          simp only [Act.put, List.setIfInBounds_toArray, List.set_cons_zero, List.set_cons_succ]
          refine wpAnyH_done (by kernel_rfl) (hQn _ _ ?_) _
          clear hSc
          go_wp2
          go_loopw [61] (fun i wx => ∃ k : Nat, k ≤ 1 ∧ i = .int .i64 k ∧ ∃ cur4, wx.heap[g3]? = some (.cells cur4 30 (0, 0)) ∧ cur4.size = c3 * 132 ∧ cur4.extract 0 (0 + 132) = encR (oneR f) ∧ Ext w wx) (fun i _ => 1 - (intOf i).toNat)
          case atStart => exact ⟨0, by omega, rfl, cur3, hG7, hcs3, hcx3, hE7⟩
          case round =>
            obtain ⟨k, hk, rfl, cur4, hG4, hcs4, hcx4, hE4⟩ := hrel
            by_cases hk0 : k = 0
            · subst hk0
              rw [show ((0 : Nat) : Int) = 0 from rfl]
              go_wp2_with ((with_reducible refine stop_load 30 rfl ?_))
              apply Stop.go
              refine wpList_load_blk rfl _ _ rfl g3 0 rfl 132 _ _ _ _ hG4 Tryz.underlying30 rfl info_rest (by omega) (encR (oneR f)) hcx4 ?_
              simp only [Act.put, List.setIfInBounds_toArray, List.set_cons_zero, List.set_cons_succ]
              go_wp2_with fail
              have hme := mended_any (oneR f) _ hqo (hS.ext hE4)
              rw [hmd] at hme
              refine hme.mono ?_
              rintro e w9 ⟨rfl, hE9⟩
              have hG9 := hE9.heap hG4
              have hE9 := hE4.trans hE9
              go_wp2_with ((with_reducible refine stop_store 30 rfl ?_))
              apply Stop.go
              refine wpList_store_blk rfl _ _ _ rfl g3 0 rfl (encR (oneR f)) rfl _ _ hG9 (by rw [encR_size hqo]; exact info_rest) (by rw [encR_size hqo]; omega) (encR_one _) fun w10 u10 => ?_
              dsimp only [Act.put]
              have hG10 := u10.here
              have hE10 := hE9.upd hg3 u10
              go_wp2_with fail
              go_roundw
              case rel => exact ⟨1, by omega, rfl, _, hG10, by rw [splice_size _ _ _ (by rw [encR_size hqo]; omega)]; exact hcs4, splice_head (encR_size hqo) (by omega), hE10⟩
              case measure => simp [intOf]
            · obtain rfl : k = 1 := by omega
              go_wp2
              (try simp only [Exit.inBlock, Exit.then])
              refine bodyPost_ret (results_tmp2 rfl _ _ _) rfl ?_
              exact ⟨_, rfl, ⟨g3, c3, cur4, rfl, hg3, hG4, hc3, hcs4, hcx4⟩, hE4⟩
end Go.Proofs.YtplddeboinhkbaaGreatDoorRR

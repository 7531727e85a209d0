/- The reference's Merge, mended and Mended. -/

import Derived.Test.YtplddeboinhkbaaGreatDoorRRProg
import Derived.Test.YtplddeboinhkbaaGreatDoorRRRefG
import Derived.Test.YtplddeboinhkbaaGreatDoorRRRefD
namespace Go.Proofs.YtplddeboinhkbaaGreatDoorRR
open Go.RowKit
/-- The first k bear one number. -/
def AllNum (l : List SR) (k : Nat) : Prop := ∀ j, j < k → (rv l j).num = (rv l 0).num
set_option maxRecDepth 100000 in
set_option maxHeartbeats 4000000 in
theorem rMerge_any (b o c : Nat) (l : List SR) (w : World) (hl : l.length < 10000) (h0 : 0 < l.length) (hR : RsAt w b o l) (hO : RsOk l) (hC : chkAll l = 0 → CopOk l) :
    Calls Tryz.prog 8 #[.slice (some ⟨b, o, none⟩) l.length c] w fun e w' => e = .returned (.tuple #[.agg (encR (mergeR l)), .int .i64 (mergeE l)]) ∧ Ext w w' := by
  have hck := fun (wx : World) (hE : Ext w wx) => restsFault_any b o c l wx hl (hR.ext hE) hO
  have hmg := fun (wx : World) (hE : Ext w wx) (hc : chkAll l = 0) => rmerge_any b o c l wx hl h0 (hR.ext hE) hO (hC hc)
  have HE := Lib.hid (show mergeE l = if chkAll l = 0 then (if l.length = 0 then 13 else if numDiff l then 2 else 0) else chkAll l from rfl)
  have HR := Lib.hid (show mergeR l = if mergeE l = 0 then mergeP l else zeroR 0 from rfl)
  have HD := Lib.hid (show numDiff l = l.any (fun r => r.num != (rv l 0).num) from rfl)
  have hO0 := hO 0 h0
  have hc0 : ∀ wx, Ext w wx → ∀ x : ExtW wx, x.val.cell? ⟨b, o, none⟩ = some (.int .i64 (rv l 0).num) := fun wx hE x => by
    have := ((hR.ext hE).ext x.ext).cell (k := 0) h0 (j := 0) (by omega) (encR_num hO0)
    simpa using this
  generalize mergeE l = me at HE HR ⊢
  generalize mergeR l = mr at HR ⊢
  obtain ⟨n, hn⟩ : ∃ n, n = l.length := ⟨_, rfl⟩
  have HL := Lib.hid hn
  rw [← hn] at hl h0 hck hmg HE ⊢
  clear hC hn
  obtain ⟨ce, hce⟩ : ∃ ce, ce = chkAll l := ⟨_, rfl⟩
  rw [← hce] at hck hmg HE
  clear hce
  go_enter Tryz.func8, Tryz.ntmps8
  go_wp2_with fail
  refine (hck _ (ext_of_alloc _ (Ext.refl _))).mono ?_
  rintro e w2 ⟨rfl, hE2⟩
  have hZ := hE2.heap (block_new w _)
  have hE2 := ext_of_alloc _ hE2
  clear hck
  by_cases hc : ce = 0
  · subst hc
    rw [if_pos rfl, if_neg (by omega)] at HE
    have hn0 : (((n : Nat) : Int) == 0) = false := by simp; omega
    go_wp2
    go_loopw [19] (fun i wr => ∃ k : Nat, k ≤ n ∧ i = .int .i64 k ∧ Aside (AllNum l k) ∧ wr.heap[w.heap.size]? = some (.cells Tryz.zeroCells30 30 (0, 0)) ∧ Ext w wr) (fun i _ => n - (intOf i).toNat)
    case atStart => exact ⟨0, by omega, rfl, (show Aside _ from fun j hj => by omega), hZ, hE2⟩
    case round =>
      obtain ⟨k, hk, rfl, A, hZr, hE⟩ := hrel
      clear hZ hE2
      by_cases hlt : k < n
      · have hkl : k < l.length := by rw [← HL.out]; exact hlt
        have hRw := hR.ext hE
        have hOk := hO k hkl
        go_wp2_with ((with_reducible refine stop_load 30 rfl ?_))
        apply Stop.go
        refine load_elem rfl _ rfl hRw k hkl rfl ?_
        simp only [Act.put, List.setIfInBounds_toArray, List.set_cons_zero, List.set_cons_succ]
        go_wp2_with ((with_reducible refine stop_store 30 rfl ?_))
        apply Stop.go
        refine wpList_world fun w1 e1 => ?_
        have hEa := Ext.of_eq e1
        clear e1
        refine store_rest rfl _ _ rfl wr.heap.size rfl (rv l k) hOk rfl _ (hEa.heap (block_new wr _)) zero_rest fun w3 u3 => ?_
        have hE3 := (ext_of_alloc _ hEa).upd (by simp) u3
        have hZ3 := hE3.heap hZr
        have hR3 : RAt w3 wr.heap.size (rv l k) := u3.here
        have hE3 := hE.trans hE3
        clear u3 hEa w1 hRw hZr hE
        dsimp only [Act.put]
        have d1 : ∀ x : ExtW w3, x.val.cell? ⟨wr.heap.size, 0, none⟩ = some (.int .i64 (rv l k).num) := fun x => (hR3.ext x.ext).num hOk
        have d2 := hc0 w3 hE3
        have HK := Lib.hid (show (rv l k).num ≠ (rv l 0).num → numDiff l = true from fun h => by
          rw [HD.out, List.any_eq_true]
          exact ⟨rv l k, rv_mem hkl, by simpa using h⟩)
        have HA := Lib.hid (show (rv l k).num = (rv l 0).num → AllNum l (k + 1) from fun h j hj => by
          rcases Nat.lt_succ_iff_lt_or_eq.1 hj with e | e
          · exact A.out j e
          · subst e; exact h)
        clear A hc0
        generalize (rv l k).num = a at d1 HK HA
        generalize (rv l 0).num = z at d2 HK HA
        by_cases hz : a = z
        · have HA := Lib.hid (HA.out hz)
          have hz' : (a != z) = false := by simpa using hz
          clear hz HK
          go_wp2
          refine wp_region_ext (by kernel_rfl) (by kernel_rfl) ?_
          repeat (go_big_quiet_step (fail))
          refine wpQuiet_nil ?_
          rintro _ ⟨x, rfl⟩
          have hZ4 := x.ext.heap hZ3
          have hE4 := hE3.trans x.ext
          have hAn : Aside (AllNum l (k + 1)) := HA.out
          go_wp2
          go_roundw
          case rel => first | exact ⟨k + 1, by omega, by go_num, hAn, hZ4, hE4⟩ | ((repeat apply Exists.intro); exact ⟨⟨k + 1, by omega, by go_num, hAn, hZ4, hE4⟩, rfl⟩)
          case measure => simp [intOf]; omega
        · have hz' : (a != z) = true := by simpa using hz
          have HN := Lib.hid (HK.out hz)
          clear hz HK HA
          have HE2 := Lib.hid (show me = 2 by rw [HE.out, HN.out, if_pos rfl])
          have HR2 := Lib.hid (show mr = zeroR 0 by rw [HR.out, HE2.out]; simp)
          go_wp2
          refine wp_region_ext (by kernel_rfl) (by kernel_rfl) ?_
          repeat (go_big_quiet_step (fail))
          refine wpQuiet_nil ?_
          rintro _ ⟨x, rfl⟩
          have hZ4 := x.ext.heap hZ3
          have hE4 := hE3.trans x.ext
          generalize x.val = w4 at hZ4 hE4 ⊢
          clear hZ3 hE3 hR3 d1 d2 x
          go_wp2_with ((with_reducible refine stop_store 30 rfl ?_))
          apply Stop.go
          rw [build_zero]
          refine store_rest rfl _ _ rfl w.heap.size rfl (zeroR 0) (zeroR_ok 0) rfl _ hZ4 zero_rest fun w9 u9 => ?_
          dsimp only [Act.put]
          go_wp2
          exact bodyPost_ret (results_cell_tmp Tryz.results8 _ _ w.heap.size 30 (encR (zeroR 0)) _ _ rfl (.int .i64 2) rfl u9.here Tryz.underlying30 rfl (by rw [encR_size (zeroR_ok 0)]; exact info_rest)) rfl ⟨(by rw [HR2.out, HE2.out]), (hE4.upd (by omega) u9)⟩
      · obtain rfl : k = n := by omega
        have HN := Lib.hid (show numDiff l = false by
          rw [HD.out, List.any_eq_false]
          intro r hr
          obtain ⟨j, hj, rfl⟩ := List.getElem_of_mem hr
          rw [rv_get hj, A.out j (by rw [HL.out]; exact hj)]
          simp)
        have HE2 := Lib.hid (show me = 0 by rw [HE.out, HN.out]; simp)
        have HR2 := Lib.hid (show mr = mergeP l by rw [HR.out, HE2.out, if_pos rfl])
        clear A
        go_wp2_with fail
        refine (hmg _ hE trivial).mono ?_
        rintro e w4 ⟨rfl, hE4⟩
        have hZ4 := hE4.heap hZr
        have hE4 := hE.trans hE4
        clear hmg hZr hE
        go_wp2_with ((with_reducible refine stop_store 30 rfl ?_))
        apply Stop.go
        refine store_rest rfl _ _ rfl w.heap.size rfl (mergeP l) (mergeP_ok hO) rfl _ hZ4 zero_rest fun w9 u9 => ?_
        dsimp only [Act.put]
        go_wp2
        exact bodyPost_ret (results_cell_tmp Tryz.results8 _ _ w.heap.size 30 (encR (mergeP l)) _ _ rfl (.int .i64 0) rfl u9.here Tryz.underlying30 rfl (by rw [encR_size (mergeP_ok hO)]; exact info_rest)) rfl ⟨(by rw [HR2.out, HE2.out]), (hE4.upd (by omega) u9)⟩
  · have hc' : (ce != 0) = true := by simpa using hc
    have HE1 := Lib.hid (show me = ce by rw [HE.out, if_neg hc])
    have HR1 := Lib.hid (show mr = zeroR 0 by rw [HR.out, HE1.out, if_neg hc])
    clear hmg hc HE HR
    go_wp2_with ((with_reducible refine stop_store 30 rfl ?_))
    apply Stop.go
    rw [build_zero]
    refine store_rest rfl _ _ rfl w.heap.size rfl (zeroR 0) (zeroR_ok 0) rfl _ hZ zero_rest fun w9 u9 => ?_
    dsimp only [Act.put]
    go_wp2
    exact bodyPost_ret (results_cell_tmp Tryz.results8 _ _ w.heap.size 30 (encR (zeroR 0)) _ _ rfl (.int .i64 ce) rfl u9.here Tryz.underlying30 rfl (by rw [encR_size (zeroR_ok 0)]; exact info_rest)) rfl ⟨(by rw [HR1.out, HE1.out]), (hE2.upd (by omega) u9)⟩
end Go.Proofs.YtplddeboinhkbaaGreatDoorRR

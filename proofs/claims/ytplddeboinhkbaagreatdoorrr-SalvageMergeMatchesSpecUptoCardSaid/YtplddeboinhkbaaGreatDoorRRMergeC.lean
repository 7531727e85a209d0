/- The program's Merge. -/

import Derived.Test.YtplddeboinhkbaaGreatDoorRRProg
import Derived.Test.YtplddeboinhkbaaGreatDoorRRMergeA
namespace Go.Proofs.YtplddeboinhkbaaGreatDoorRR
open Go.RowKit
def numDiff (l : List SR) : Bool := l.any fun r => r.num != (rv l 0).num
def mergeE (l : List SR) : Int := if chkAll l = 0 then (if l.length = 0 then 13 else if numDiff l then 2 else 0) else chkAll l
def mergeR (l : List SR) : SR := if mergeE l = 0 then mergeP l else zeroR 0
theorem chkTo_all (l : List SR) : ∀ n, chkTo l n = 0 → ∀ k, k < n → checkP (rv l k) = 0
  | 0, _, k, hk => absurd hk (Nat.not_lt_zero k)
  | n + 1, h, k, hk => by
    by_cases h0 : chkTo l n = 0
    · rw [chkTo, if_pos h0] at h
      rcases Nat.lt_succ_iff_lt_or_eq.1 hk with e | e
      · exact chkTo_all l n h0 k e
      · rw [e]; exact h
    · rw [chkTo, if_neg h0] at h
      exact absurd h h0
theorem checkP_copies {r : SR} (h : checkP r = 0) : 0 ≤ r.copies := by
  unfold checkP at h
  split at h
  · split at h
    · unfold tailF at h
      split at h
      · simp at h
      split at h
      · simp at h
      split at h
      · simp at h
      · rename_i h3
        apply Classical.byContradiction
        intro hneg
        exact h3 (by simp [show r.copies < 0 from by omega])
    · rename_i h1 h2
      exact absurd h h2
  · simp at h
theorem copOk_of {l : List SR} (hc : chkAll l = 0) (hv : vastB l = false) (hl : l.length < 10000) : CopOk l := by
  have h : ∀ k, k < l.length → 0 ≤ (rv l k).copies ∧ (rv l k).copies ≤ 1099511627776 := fun k hk => by
    refine ⟨checkP_copies (chkTo_all l l.length hc k hk), ?_⟩
    unfold vastB at hv
    rw [List.any_eq_false] at hv
    have := hv (rv l k) (rv_mem hk)
    simpa using this
  intro k hk
  have h1 := copTo_bounds l h k (by omega)
  have h2 := h k hk
  exact ⟨h1.1, by omega, h2.1, by omega⟩
theorem numDiff_any (l : List SR) : (l.any fun r => r.num != (rv l 0).num) = numDiff l := rfl
theorem wholeR_ok {q : SR} (h : RestOk q) : RestOk (wholeR q) := by
  unfold wholeR
  split
  · exact ⟨h.f, by simp⟩
  · exact h
theorem mergeP_ok {l : List SR} (hO : RsOk l) : RestOk (mergeP l) := by
  unfold mergeP
  split
  · exact clashR_ok l
  · refine goodR_ok ?_
    unfold bothR
    split
    · exact soTo_ok (baseR_ok l) hO _ (Nat.le_refl _)
    · exact wholeR_ok (par_ok hO _ _)
theorem build_zero : Tryz.zeroCells30 = encR (zeroR 0) := zero_cells
set_option maxRecDepth 100000 in
set_option maxHeartbeats 4000000 in
theorem Merge_any (b o c : Nat) (l : List SR) (w : World) (hl : l.length < 10000) (h0 : 0 < l.length) (hR : RsAt w b o l) (hO : RsOk l) (hC : chkAll l = 0 → CopOk l) (hS : SyncAt w) :
    Calls Tryz.prog 7 #[.slice (some ⟨b, o, none⟩) l.length c] w fun e w' => e = .returned (.tuple #[.agg (encR (mergeR l)), .int .i64 (mergeE l)]) ∧ Ext w w' := by
  have hck := fun (wx : World) (hE : Ext w wx) => checkAll_any b o c l wx hl (hR.ext hE) hO (hS.ext hE)
  have hmg := fun (wx : World) (hE : Ext w wx) (hc : chkAll l = 0) => merge_any b o c l wx hl h0 (hR.ext hE) hO (hC hc) (hS.ext hE)
  have hcf := fun (B : Nat) (wx : World) (hE : Ext w wx) (hB : wx.cell? ⟨B, 0, none⟩ = some (.slice (some ⟨b, o, none⟩) l.length c)) =>
    containsFuncR_any b o c l 19 #[.pointer (some ⟨B, 0, none⟩)] (fun r => r.num != (rv l 0).num) wx hl (hR.ext hE) (enters_of Tryz.func19 (by kernel_rfl) rfl)
      (fun W k hW hk => Merge1_any B b o l.length c l (rv l k) W (hO k hk) (hO 0 h0) h0 h0 ((hR.ext hE).ext hW) (hW.cell hB))
  rw [numDiff_any] at hcf
  have HE := Lib.hid (show mergeE l = if chkAll l = 0 then (if l.length = 0 then 13 else if numDiff l then 2 else 0) else chkAll l from rfl)
  have HR := Lib.hid (show mergeR l = if mergeE l = 0 then mergeP l else zeroR 0 from rfl)
  generalize mergeE l = me at HE HR ⊢
  generalize mergeR l = mr at HR ⊢
  obtain ⟨n, hn⟩ : ∃ n, n = l.length := ⟨_, rfl⟩
  rw [← hn] at hl h0 hck hmg hcf HE ⊢
  clear hR hC hn
  obtain ⟨ce, hce⟩ : ∃ ce, ce = chkAll l := ⟨_, rfl⟩
  rw [← hce] at hck hmg HE
  clear hce
  go_enter Tryz.func7, Tryz.ntmps7
  go_wp2_with fail
  refine (hck _ (ext_of_alloc _ (ext_of_alloc _ (Ext.refl _)))).mono ?_
  rintro e w2 ⟨rfl, hE2⟩
  have hB : w2.cell? ⟨w.heap.size, 0, none⟩ = some (.slice (some ⟨b, o, none⟩) n c) := hE2.cell (((Ext.refl _).alloc _).cell (by simp))
  have hZ := hE2.heap (heap_alloc2_new w _ _)
  have hE2 := ext_of_alloc _ (ext_of_alloc _ hE2)
  clear hck
  by_cases hc : ce = 0
  · subst hc
    rw [if_pos rfl, if_neg (by omega)] at HE
    have hn0 : ((n : Nat) : Int) ≠ 0 := by omega
    have hcf := hcf w.heap.size w2 hE2 hB
    cases hd : numDiff l with
    | true =>
      rw [hd] at hcf HE
      have HR2 := Lib.hid (show mr = zeroR 0 by rw [HR.out, HE.out]; simp)
      have HE2 := Lib.hid (show me = 2 by rw [HE.out]; simp)
      clear hmg hd HR HE
      go_wp2_with fail
      refine hcf.mono ?_
      rintro e w3 ⟨rfl, hE3⟩
      have hZ3 := hE3.heap hZ
      have hE3 := hE2.trans hE3
      go_wp2_with ((with_reducible refine stop_store 30 rfl ?_))
      apply Stop.go
      rw [build_zero]
      refine store_rest rfl _ _ rfl (w.heap.size + 1) rfl (zeroR 0) (zeroR_ok 0) rfl _ hZ3 zero_rest fun w9 u9 => ?_
      dsimp only [Act.put]
      go_wp2
      exact bodyPost_ret (results_cell_tmp Tryz.results7 _ _ (w.heap.size + 1) 30 (encR (zeroR 0)) _ _ rfl (.int .i64 2) rfl u9.here Tryz.underlying30 rfl (by rw [encR_size (zeroR_ok 0)]; exact info_rest)) rfl ⟨(by rw [HR2.out, HE2.out]), (hE3.upd (by omega) u9)⟩
    | false =>
      rw [hd] at hcf HE
      have HE2 := Lib.hid (show me = 0 by rw [HE.out]; simp)
      have HR2 := Lib.hid (show mr = mergeP l by rw [HR.out, HE2.out, if_pos rfl])
      clear hd HR HE
      go_wp2_with fail
      refine hcf.mono ?_
      rintro e w3 ⟨rfl, hE3⟩
      have hZ3 := hE3.heap hZ
      have hB3 := hE3.cell hB
      have hE3 := hE2.trans hE3
      clear hB hZ hE2
      go_wp2_with fail
      refine (hmg _ hE3 trivial).mono ?_
      rintro e w4 ⟨rfl, hE4⟩
      have hZ4 := hE4.heap hZ3
      have hE4 := hE3.trans hE4
      clear hmg hcf
      go_wp2_with ((with_reducible refine stop_store 30 rfl ?_))
      apply Stop.go
      refine store_rest rfl _ _ rfl (w.heap.size + 1) rfl (mergeP l) (mergeP_ok hO) rfl _ hZ4 zero_rest fun w9 u9 => ?_
      dsimp only [Act.put]
      go_wp2
      exact bodyPost_ret (results_cell_tmp Tryz.results7 _ _ (w.heap.size + 1) 30 (encR (mergeP l)) _ _ rfl (.int .i64 0) rfl u9.here Tryz.underlying30 rfl (by rw [encR_size (mergeP_ok hO)]; exact info_rest)) rfl ⟨(by rw [HR2.out, HE2.out]), (hE4.upd (by omega) u9)⟩
  · have hc' : (ce != 0) = true := by simpa using hc
    have HE1 := Lib.hid (show me = ce by rw [HE.out, if_neg hc])
    have HR1 := Lib.hid (show mr = zeroR 0 by rw [HR.out, HE1.out, if_neg hc])
    clear hmg hcf hc HE HR
    go_wp2_with ((with_reducible refine stop_store 30 rfl ?_))
    apply Stop.go
    rw [build_zero]
    refine store_rest rfl _ _ rfl (w.heap.size + 1) rfl (zeroR 0) (zeroR_ok 0) rfl _ hZ zero_rest fun w9 u9 => ?_
    dsimp only [Act.put]
    go_wp2
    exact bodyPost_ret (results_cell_tmp Tryz.results7 _ _ (w.heap.size + 1) 30 (encR (zeroR 0)) _ _ rfl (.int .i64 ce) rfl u9.here Tryz.underlying30 rfl (by rw [encR_size (zeroR_ok 0)]; exact info_rest)) rfl ⟨(by rw [HR1.out, HE1.out]), (hE2.upd (by omega) u9)⟩
end Go.Proofs.YtplddeboinhkbaaGreatDoorRR

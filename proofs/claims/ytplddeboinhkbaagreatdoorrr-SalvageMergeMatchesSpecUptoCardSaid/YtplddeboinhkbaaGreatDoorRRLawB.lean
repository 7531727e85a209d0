/- The law SalvageMergeIsRight answers true. -/

import Derived.Test.YtplddeboinhkbaaGreatDoorRRProg
import Derived.Test.YtplddeboinhkbaaGreatDoorRRLawA
import Derived.Test.YtplddeboinhkbaaGreatDoorRRPlainLaw
namespace Go.Proofs.YtplddeboinhkbaaGreatDoorRR
open Go.RowKit
theorem mergeR_ok {l : List SR} (hO : RsOk l) : RestOk (mergeR l) := by
  unfold mergeR
  split
  · exact mergeP_ok hO
  · exact zeroR_ok 0
theorem merge_copies (l : List SR) : (mergeP l).copies ≤ max (copTo l l.length) 1 := by
  have hg : ∀ q : SR, (goodR q).copies ≤ max q.copies 1 := fun q => by
    unfold goodR
    split
    · exact Int.le_refl _
    · omega
  have hp : (par l (baseR l) 64).copies = copTo l l.length := rfl
  have hw : (wholeR (par l (baseR l) 64)).copies ≤ max (copTo l l.length) 1 := by
    unfold wholeR
    split
    · show (1 : Int) ≤ _
      omega
    · rw [hp]
      omega
  have hs : (soTo l (baseR l) l.length).copies = copTo l l.length := (soTo_same l (baseR l) l.length).2
  unfold mergeP
  split
  · show copTo l l.length ≤ _
    omega
  · refine Int.le_trans (hg (bothR l)) ?_
    unfold bothR
    split
    · rw [hs]
      omega
    · omega
theorem chk_of {l : List SR} (he : mergeE l = 0) : chkAll l = 0 ∧ 0 < l.length := by
  unfold mergeE at he
  split at he
  · rename_i h
    split at he
    · omega
    · rename_i h2
      exact ⟨h, by omega⟩
  · rename_i h
    exact absurd he h
theorem cop_one {l : List SR} (hO : RsOk l) (he : mergeE l = 0) (hv : vastB l = false) (hl : l.length < 10000) : CopOk [mergeP l] := by
  obtain ⟨hc, h0⟩ := chk_of he
  have hf := merge_fine (fineL_of h0 hO he)
  have h1 := merge_copies l
  have h2 := copOk_of hc hv hl
  have h3 := h2 (l.length - 1) (by omega)
  have h : ∀ k, k < l.length → 0 ≤ (rv l k).copies ∧ (rv l k).copies ≤ 1099511627776 := fun k hk => by
    refine ⟨checkP_copies (chkTo_all l l.length hc k hk), ?_⟩
    unfold vastB at hv
    rw [List.any_eq_false] at hv
    have := hv (rv l k) (rv_mem hk)
    simpa using this
  have h4 := copTo_bounds l h l.length (Nat.le_refl _)
  intro k hk
  obtain rfl : k = 0 := by simpa using hk
  have hr : rv [mergeP l] 0 = mergeP l := rfl
  have h5 := hf.copies
  refine ⟨Int.le_refl _, by show (0 : Int) ≤ _; omega, by rw [hr]; omega, by rw [hr]; omega⟩
theorem mergeE_one {q : SR} (hq : RestOk q) (hf : Fine q) : mergeE [q] = 0 := by
  have h1 : chkAll [q] = 0 := by
    have h2 := (fine_iff hq).2 hf
    show chkTo [q] 1 = 0
    rw [chkTo, if_pos (show chkTo [q] 0 = 0 from rfl)]
    exact h2
  have h3 : numDiff [q] = false := by simp [numDiff, rv]
  unfold mergeE
  rw [if_pos h1, if_neg (by simp), h3]
  simp
theorem mergeR_one {q : SR} (hq : RestOk q) (hf : Fine q) (hm : Merged q) : mergeR [q] = q := by
  unfold mergeR
  rw [if_pos (mergeE_one hq hf), merge_one hq hf hm]
theorem eql_rest {r : SR} (hr : RestOk r) (w : World) : (binOp .eql 30 (.agg (encR r)) (.agg (encR r))).run Tryz.prog w = .ok (.bool true) w := by
  rw [run_eql_struct, show (10000 : Nat) = 9997 + 1 + 1 + 1 from rfl, run_eqR 9997 r r hr hr w, (eqR_iff r r).2 rfl]
  rfl
theorem neq_rest {r : SR} (hr : RestOk r) (w : World) : (binOp .neq 30 (.agg (encR r)) (.agg (encR r))).run Tryz.prog w = .ok (.bool false) w := by
  rw [run_neq_struct, show (10000 : Nat) = 9997 + 1 + 1 + 1 from rfl, run_eqR 9997 r r hr hr w, (eqR_iff r r).2 rfl]
  rfl
set_option maxRecDepth 100000 in
set_option maxHeartbeats 4000000 in
theorem right_any {v : Value} {l : List SR} {w : World} (hl : l.length < 10000) (hL : LAt w v l) (hO : RsOk l) (hS : SyncAt w) :
    Calls Tryz.prog 4 #[v] w fun e w' => e = .returned (.bool true) ∧ Ext w w' := by
  have hva := vast_all hl hL hO
  have hmg := fun (wx : World) (hE : Ext w wx) (hv : vastB l = false) => Merge_all (w := wx) hl (hL.ext hE) hO (fun hc => copOk_of hc hv hl) (hS.ext hE)
  have hro := mergeR_ok hO
  have HP := Lib.hid (show vastB l = false → mergeE l = 0 → mergeR l = mergeP l ∧ Fine (mergeP l) ∧ Merged (mergeP l) ∧ CopOk [mergeP l] from fun hv he => by
    obtain ⟨hc, h0⟩ := chk_of he
    have hF := fineL_of h0 hO he
    exact ⟨by unfold mergeR; rw [if_pos he], merge_fine hF, merge_merged hF, cop_one hO he hv hl⟩)
  have hqo := mergeP_ok hO
  generalize mergeP l = q at HP hqo
  generalize mergeR l = a at HP hmg hro
  generalize mergeE l = me at HP hmg
  generalize vastB l = vb at HP hva hmg
  clear hL hO hl
  obtain ⟨j0, hi, hz0, hz1, hz2⟩ := info_parts info_restz
  have HJ := Lib.hid hi
  have HJ0 := Lib.hid hz0
  have HJ1 := Lib.hid hz1
  clear hi hz0 hz1 hz2
  go_enter Tryz.func4, Tryz.ntmps4
  go_wp2_with fail
  refine hva.mono ?_
  rintro e w1 ⟨rfl, hE1⟩
  cases vb with
  | true =>
    go_wp2_with fail
    refine (saved_any w1 (hS.ext hE1)).mono ?_
    rintro e w9 ⟨rfl, hE9⟩
    go_wp2
    go_ret
    exact ⟨rfl, (hE1).trans hE9⟩
  | false =>
    go_wp2_with fail
    refine (hmg w1 hE1 trivial).mono ?_
    rintro e w2 ⟨rfl, hE2⟩
    have hE2 := hE1.trans hE2
    clear hmg hva hE1
    go_wp2_with ((with_reducible refine stop_store 30 rfl ?_))
    apply Stop.go
    refine wpList_world fun w4 e4 => ?_
    have hEa := Ext.of_eq e4
    clear e4
    refine store_rest rfl _ _ rfl w2.heap.size rfl a hro rfl _ (hEa.heap (block_new w2 _)) zero_rest fun w5 u5 => ?_
    have hR : RAt w5 w2.heap.size a := u5.here
    have hE5 := (ext_of_alloc _ hEa).upd (by simp) u5
    clear u5 hEa w4
    dsimp only [Act.put]
    have hE5 := hE2.trans hE5
    by_cases he : me = 0
    · subst he
      obtain ⟨rfl, hf, hm, hC⟩ := HP.out trivial rfl
      have hch := (fine_iff hqo).2 hf
      have hMd := fun wx (hE : Ext w wx) => Mended_any a wx hqo (hS.ext hE)
      have hmf := mended_fine hqo hf
      have hmo := mendedP_ok hqo
      have hcm := (fine_iff hmo).2 hmf
      have hck := fun wx (hE : Ext w wx) => checkRest_any a wx hqo (hS.ext hE)
      have hcl := fun wx (hE : Ext w wx) => checkRest_any (mendedP a) wx hmo (hS.ext hE)
      rw [show mendedR a = mendedP a by unfold mendedR; rw [if_pos hch], hch] at hMd
      rw [hch] at hck
      rw [hcm] at hcl
      have hE1m := mergeE_one hqo hf
      have hR1m := mergeR_one hqo hf hm
      clear HP hch hcm
      generalize mendedP a = m at *
      generalize w2.heap.size = ab at *
      go_wp2_with ((with_reducible refine stop_load 30 rfl ?_))
      apply Stop.go
      refine wpList_load_blk rfl _ _ rfl ab 0 rfl 132 _ _ _ _ hR Tryz.underlying30 rfl info_rest (by rw [encR_size hqo]; omega) (encR a) (encR_whole hqo) ?_
      simp only [Act.put, List.setIfInBounds_toArray, List.set_cons_zero, List.set_cons_succ]
      go_wp2_with fail
      refine (hMd w5 hE5).mono ?_
      rintro e w6 ⟨rfl, hE6⟩
      have hA6 := hR.ext hE6
      have hE6 := hE5.trans hE6
      clear hMd hR hE5
      go_wp2_with ((with_reducible refine stop_store 30 rfl ?_))
      apply Stop.go
      refine wpList_world fun w4 e4 => ?_
      have hEa := Ext.of_eq e4
      clear e4
      refine store_rest rfl _ _ rfl w6.heap.size rfl m hmo rfl _ (hEa.heap (block_new w6 _)) zero_rest fun w7 u5 => ?_
      have hR : RAt w7 w6.heap.size m := u5.here
      have hE7 := (ext_of_alloc _ hEa).upd (by simp) u5
      clear u5 hEa w4
      dsimp only [Act.put]
      have hA7 := hA6.ext hE7
      have hE7 := hE6.trans hE7
      clear hA6 hE6
      generalize w6.heap.size = mb at *
      go_wp2_with ((with_reducible refine stop_load 30 rfl ?_))
      apply Stop.go
      refine wpList_wanted rfl fun K hK => ?_
      refine wp_load_blk _ _ rfl ab 0 rfl 132 _ _ _ _ hA7 Tryz.underlying30 rfl info_rest (by rw [encR_size hqo]; omega) (encR a) (encR_whole hqo) (hK _ _ ?_)
      clear hK K
      simp only [Act.put, List.setIfInBounds_toArray, List.set_cons_zero, List.set_cons_succ]
      go_wp2_with fail
      refine (hck w7 hE7).mono ?_
      rintro e w8 ⟨rfl, hE8⟩
      have hA8 := hA7.ext hE8
      have hM8 := hR.ext hE8
      have hE8 := hE7.trans hE8
      clear hA7 hR hE7 hck
      go_wp2_with ((with_reducible refine stop_load 30 rfl ?_))
      apply Stop.go
      refine wpList_wanted rfl fun K hK => ?_
      refine wp_load_blk _ _ rfl mb 0 rfl 132 _ _ _ _ hM8 Tryz.underlying30 rfl info_rest (by rw [encR_size hmo]; omega) (encR m) (encR_whole hmo) (hK _ _ ?_)
      clear hK K
      simp only [Act.put, List.setIfInBounds_toArray, List.set_cons_zero, List.set_cons_succ]
      go_wp2_with fail
      refine (hcl w8 hE8).mono ?_
      rintro e w9 ⟨rfl, hE9⟩
      have hA9 := hA8.ext hE9
      have hE9 := hE8.trans hE9
      clear hA8 hM8 hE8 hcl
      go_wp2_with ((with_reducible refine stop_load 30 rfl ?_))
      apply Stop.go
      refine wpList_load_blk rfl _ _ rfl ab 0 rfl 132 _ _ _ _ hA9 Tryz.underlying30 rfl info_rest (by rw [encR_size hqo]; omega) (encR a) (encR_whole hqo) ?_
      simp only [Act.put, List.setIfInBounds_toArray, List.set_cons_zero, List.set_cons_succ]
      go_wp2_with ((with_reducible refine stop_dst 37 rfl ?_))
      apply Stop.go
      refine wpList_buildSlice_to rfl 22 30 1 [(0, .tmp 36)] rfl [(0, .agg (encR a))] rfl (encR a) j0 _ Tryz.underlying22 HJ.out HJ0.out (by rw [HJ1.out]; decide) (by rw [HJ1.out]; decide) (by rw [HJ1.out]; exact fill_single (by decide) _ _ _ rfl (encR_size hqo)) ?_
      simp only [Act.put, List.setIfInBounds_toArray, List.set_cons_zero, List.set_cons_succ]
      have hN := block_new w9 (.cells (encR a) 30)
      have hEn := ext_of_alloc (.cells (encR a) 30) (Ext.refl (w9.alloc (.cells (encR a) 30)))
      have hA10 := hA9.ext hEn
      have hE10 := hE9.trans hEn
      clear hEn hA9 hE9
      generalize w9.alloc (.cells (encR a) 30) = w10 at *
      have hRs := rsAt_one (q := a) (cap := 1) hN (Nat.le_refl _) (by rw [encR_size hqo]) (encR_whole hqo)
      have hm1 := Merge_any w9.heap.size 0 1 [a] w10 (by simp) (by simp) hRs (fun k hk => by
        obtain rfl : k = 0 := by simpa using hk
        exact hqo) (fun _ => hC) (hS.ext hE10)
      rw [hE1m, hR1m] at hm1
      clear hRs hN hE1m hR1m
      go_wp2_with fail
      refine hm1.mono ?_
      rintro e w11 ⟨rfl, hE11⟩
      have hA11 := hA10.ext hE11
      have hE11 := hE10.trans hE11
      clear hm1 hA10 hE10
      go_wp2_with ((with_reducible refine stop_store 30 rfl ?_))
      apply Stop.go
      refine wpList_world fun w4 e4 => ?_
      have hEa := Ext.of_eq e4
      clear e4
      refine store_rest rfl _ _ rfl w11.heap.size rfl a hqo rfl _ (hEa.heap (block_new w11 _)) zero_rest fun w12 u5 => ?_
      have hR : RAt w12 w11.heap.size a := u5.here
      have hE12 := (ext_of_alloc _ hEa).upd (by simp) u5
      clear u5 hEa w4
      dsimp only [Act.put]
      have hA12 := hA11.ext hE12
      have hE12 := hE11.trans hE12
      clear hA11 hE11
      generalize w11.heap.size = bb at *
      go_wp2_with ((with_reducible refine stop_load 30 rfl ?_))
      apply Stop.go
      refine wpList_wanted rfl fun K hK => ?_
      refine wp_load_blk _ _ rfl bb 0 rfl 132 _ _ _ _ hR Tryz.underlying30 rfl info_rest (by rw [encR_size hqo]; omega) (encR a) (encR_whole hqo) (hK _ _ ?_)
      clear hK K
      simp only [Act.put, List.setIfInBounds_toArray, List.set_cons_zero, List.set_cons_succ]
      go_wp2_with ((with_reducible refine stop_load 30 rfl ?_))
      apply Stop.go
      refine wpList_wanted rfl fun K hK => ?_
      refine wp_load_blk _ _ rfl ab 0 rfl 132 _ _ _ _ hA12 Tryz.underlying30 rfl info_rest (by rw [encR_size hqo]; omega) (encR a) (encR_whole hqo) (hK _ _ ?_)
      clear hK K
      simp only [Act.put, List.setIfInBounds_toArray, List.set_cons_zero, List.set_cons_succ]
      refine wpList_wanted rfl fun K hK => ?_
      refine op_value (run_binOp_op .eql 30 _ _ _ rfl (u1 := .agg (encR a)) (u2 := .agg (encR a)) rfl rfl (run_eqGuard_agg _ .eql 30 _ _ _ _ (by kernel_rfl)) (eql_rest hqo w12)) (hK _ _ ?_)
      clear hK K
      simp only [Act.put, List.setIfInBounds_toArray, List.set_cons_zero, List.set_cons_succ]
      go_wp2_with fail
      refine (saved_any w12 (hS.ext hE12)).mono ?_
      rintro e w13 ⟨rfl, hE13⟩
      go_wp2
      go_ret
      exact ⟨rfl, hE12.trans hE13⟩
    · have hne : (me != 0) = true := by simpa using he
      go_wp2_with fail
      refine (saved_any w5 (hS.ext hE5)).mono ?_
      rintro e w9 ⟨rfl, hE9⟩
      go_wp2
      go_ret
      exact ⟨rfl, (hE5).trans hE9⟩
end Go.Proofs.YtplddeboinhkbaaGreatDoorRR

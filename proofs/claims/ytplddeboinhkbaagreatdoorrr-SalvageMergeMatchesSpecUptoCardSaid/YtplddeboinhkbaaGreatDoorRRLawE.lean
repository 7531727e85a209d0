/- The law SalvageMergeMatchesSpec answers true. -/

import Derived.Test.YtplddeboinhkbaaGreatDoorRRProg
import Derived.Test.YtplddeboinhkbaaGreatDoorRRLawB
import Derived.Test.YtplddeboinhkbaaGreatDoorRRRefE
namespace Go.Proofs.YtplddeboinhkbaaGreatDoorRR
open Go.RowKit
set_option maxRecDepth 100000 in
set_option maxHeartbeats 4000000 in
theorem matches_any {v : Value} {l : List SR} {w : World} (hl : l.length < 10000) (hL : LAt w v l) (hO : RsOk l) (hS : SyncAt w) :
    Calls Tryz.prog 3 #[v] w fun e w' => e = .returned (.bool true) ∧ Ext w w' := by
  have hva := vast_all hl hL hO
  have hmg := fun (wx : World) (hE : Ext w wx) (hv : vastB l = false) => Merge_all (w := wx) hl (hL.ext hE) hO (fun hc => copOk_of hc hv hl) (hS.ext hE)
  have hrm := fun (wx : World) (hE : Ext w wx) (hv : vastB l = false) => rMerge_all (w := wx) hl (hL.ext hE) hO (fun hc => copOk_of hc hv hl)
  have hro := mergeR_ok hO
  generalize mergeR l = a at hmg hrm hro
  generalize mergeE l = me at hmg hrm
  generalize vastB l = vb at hva hmg hrm
  obtain ⟨ad, c, rfl, hR0⟩ := hL
  obtain ⟨n, hn⟩ : ∃ n, n = l.length := ⟨_, rfl⟩
  rw [← hn] at hl hR0 hva hmg hrm ⊢
  have HN := Lib.hid hn
  clear hn
  go_enter Tryz.func3, Tryz.ntmps3
  go_wp2_with fail
  refine hva.mono ?_
  rintro e w1 ⟨rfl, hE1⟩
  cases vb with
  | true =>
    go_wp2_with fail
    refine (saved_any w1 (hS.ext hE1)).mono ?_
    rintro e w9 ⟨rfl, hE9⟩
    go_wp2
    go_ret
    exact ⟨rfl, (hE1).trans hE9⟩
  | false =>
    go_wp2_with fail
    refine (hmg w1 hE1 trivial).mono ?_
    rintro e w2 ⟨rfl, hE2⟩
    have hE2 := hE1.trans hE2
    clear hmg hva hE1
    go_wp2_with ((with_reducible refine stop_store 30 rfl ?_))
    apply Stop.go
    refine wpList_world fun w4 e4 => ?_
    have hEa := Ext.of_eq e4
    clear e4
    refine store_rest rfl _ _ rfl w2.heap.size rfl a hro rfl _ (hEa.heap (block_new w2 _)) zero_rest fun w5 u5 => ?_
    have hR : RAt w5 w2.heap.size a := u5.here
    have hE5 := (ext_of_alloc _ hEa).upd (by simp) u5
    clear u5 hEa w4
    dsimp only [Act.put]
    have hA5 := hR
    clear hR
    have hE5 := hE2.trans hE5
    generalize w2.heap.size = ab at *
    go_wp2_with fail
    refine (hrm w5 hE5 trivial).mono ?_
    rintro e w6 ⟨rfl, hE6⟩
    have hA6 := hA5.ext hE6
    have hE6 := hE5.trans hE6
    clear hrm hA5 hE5
    go_wp2_with ((with_reducible refine stop_store 30 rfl ?_))
    apply Stop.go
    refine wpList_world fun w4 e4 => ?_
    have hEa := Ext.of_eq e4
    clear e4
    refine store_rest rfl _ _ rfl w6.heap.size rfl a hro rfl _ (hEa.heap (block_new w6 _)) zero_rest fun w7 u5 => ?_
    have hR : RAt w7 w6.heap.size a := u5.here
    have hE7 := (ext_of_alloc _ hEa).upd (by simp) u5
    clear u5 hEa w4
    dsimp only [Act.put]
    have hA7 := hA6.ext hE7
    have hE7 := hE6.trans hE7
    clear hA6 hE6
    generalize w6.heap.size = bb at *
    go_wp2_with ((with_reducible refine stop_load 30 rfl ?_))
    apply Stop.go
    refine wpList_load_blk rfl _ _ rfl ab 0 rfl 132 _ _ _ _ hA7 Tryz.underlying30 rfl info_rest (by rw [encR_size hro]; omega) (encR a) (encR_whole hro) ?_
    simp only [Act.put, List.setIfInBounds_toArray, List.set_cons_zero, List.set_cons_succ]
    go_wp2_with ((with_reducible refine stop_load 30 rfl ?_))
    apply Stop.go
    refine wpList_load_blk rfl _ _ rfl bb 0 rfl 132 _ _ _ _ hR Tryz.underlying30 rfl info_rest (by rw [encR_size hro]; omega) (encR a) (encR_whole hro) ?_
    simp only [Act.put, List.setIfInBounds_toArray, List.set_cons_zero, List.set_cons_succ]
    refine wpList_plain rfl fun K hK => ?_
    refine op_value (run_binOp_op .neq 30 _ _ _ rfl (u1 := .agg (encR a)) (u2 := .agg (encR a)) rfl rfl (run_eqGuard_agg _ .neq 30 _ _ _ _ (by kernel_rfl)) (neq_rest hro w7)) (hK _ _ ?_)
    clear hK K
    simp only [Act.put, List.setIfInBounds_toArray, List.set_cons_zero, List.set_cons_succ]
    have hme : (me != me) = false := by simp
    clear hA7 hR
    go_wp2
    go_loopw [36] (fun i wr => ∃ k : Nat, k ≤ n ∧ i = .int .i64 k ∧ Ext w wr) (fun i _ => n - (intOf i).toNat)
    case atStart => exact ⟨0, by omega, rfl, hE7⟩
    case round =>
      obtain ⟨k, hk, rfl, hE⟩ := hrel
      by_cases hlt : k < n
      · have hkl : k < l.length := by rw [← HN.out]; exact hlt
        obtain ⟨b, o, rfl, hRw⟩ := hR0 (by omega)
        have hRw := hRw.ext hE
        have hOk := hO k hkl
        have hMd := fun wx (hE : Ext w wx) => Mended_any (rv l k) wx hOk (hS.ext hE)
        have hrMd := fun wx => rMended_any (rv l k) wx hOk
        have hck := fun wx (hE : Ext w wx) => checkRest_any (rv l k) wx hOk (hS.ext hE)
        have hrc := fun wx => rcheckRest_any (rv l k) wx hOk
        have hmo := mendedR_ok hOk
        go_wp2_with ((with_reducible refine stop_load 30 rfl ?_))
        apply Stop.go
        refine load_elem rfl _ rfl hRw k hkl rfl ?_
        simp only [Act.put, List.setIfInBounds_toArray, List.set_cons_zero, List.set_cons_succ]
        go_wp2_with ((with_reducible refine stop_store 30 rfl ?_))
        apply Stop.go
        refine wpList_world fun w1 e1 => ?_
        have hEa := Ext.of_eq e1
        clear e1
        refine store_rest rfl _ _ rfl wr.heap.size rfl (rv l k) hOk rfl _ (hEa.heap (block_new wr _)) zero_rest fun w2 u2 => ?_
        have hE2 := (ext_of_alloc _ hEa).upd (by simp) u2
        have hE2 := hE.trans hE2
        have hR2 : RAt w2 wr.heap.size (rv l k) := u2.here
        clear u2 hEa w1
        dsimp only [Act.put]
        generalize wr.heap.size = qb at hR2 ⊢
        generalize mendedR (rv l k) = m at *
        generalize checkP (rv l k) = ce at *
        generalize hq : rv l k = q at *
        clear hq hRw
        go_wp2_with ((with_reducible refine stop_load 30 rfl ?_))
        apply Stop.go
        refine wpList_load_blk rfl _ _ rfl qb 0 rfl 132 _ _ _ _ hR2 Tryz.underlying30 rfl info_rest (by rw [encR_size hOk]; omega) (encR q) (encR_whole hOk) ?_
        simp only [Act.put, List.setIfInBounds_toArray, List.set_cons_zero, List.set_cons_succ]
        go_wp2_with fail
        refine (hMd w2 hE2).mono ?_
        rintro e w3 ⟨rfl, hE3⟩
        have hQ3 := hR2.ext hE3
        have hE3 := hE2.trans hE3
        clear hMd hR2 hE2
        go_wp2_with ((with_reducible refine stop_store 30 rfl ?_))
        apply Stop.go
        refine wpList_world fun w4 e4 => ?_
        have hEa := Ext.of_eq e4
        clear e4
        refine store_rest rfl _ _ rfl w3.heap.size rfl m hmo rfl _ (hEa.heap (block_new w3 _)) zero_rest fun w5 u5 => ?_
        have hR : RAt w5 w3.heap.size m := u5.here
        have hE5 := (ext_of_alloc _ hEa).upd (by simp) u5
        clear u5 hEa w4
        dsimp only [Act.put]
        have hM5 := hR
        have hQ5 := hQ3.ext hE5
        have hE5 := hE3.trans hE5
        clear hQ3 hE3 hR
        generalize w3.heap.size = mb at *
        go_wp2_with ((with_reducible refine stop_load 30 rfl ?_))
        apply Stop.go
        refine wpList_load_blk rfl _ _ rfl qb 0 rfl 132 _ _ _ _ hQ5 Tryz.underlying30 rfl info_rest (by rw [encR_size hOk]; omega) (encR q) (encR_whole hOk) ?_
        simp only [Act.put, List.setIfInBounds_toArray, List.set_cons_zero, List.set_cons_succ]
        go_wp2_with fail
        refine (hrMd w5).mono ?_
        rintro e w6 ⟨rfl, hE6⟩
        have hQ6 := hQ5.ext hE6
        have hM6 := hM5.ext hE6
        have hE6 := hE5.trans hE6
        clear hrMd hQ5 hM5 hE5
        go_wp2_with ((with_reducible refine stop_store 30 rfl ?_))
        apply Stop.go
        refine wpList_world fun w4 e4 => ?_
        have hEa := Ext.of_eq e4
        clear e4
        refine store_rest rfl _ _ rfl w6.heap.size rfl m hmo rfl _ (hEa.heap (block_new w6 _)) zero_rest fun w8 u5 => ?_
        have hR : RAt w8 w6.heap.size m := u5.here
        have hE8 := (ext_of_alloc _ hEa).upd (by simp) u5
        clear u5 hEa w4
        dsimp only [Act.put]
        have hN8 := hR
        have hQ8 := hQ6.ext hE8
        have hM8 := hM6.ext hE8
        have hE8 := hE6.trans hE8
        clear hQ6 hM6 hE6 hR
        generalize w6.heap.size = nb at *
        go_wp2
        refine wp_region_open (fun wx => RAt wx qb q ∧ RAt wx mb m ∧ RAt wx nb m) (by kernel_rfl) (fun _ _ d _ _ h => by cases d <;> exact h) fun Q' hQp hQn => ?_
        rw [show ({ w8 with drawn := w8.drawn + 1 } : World) = w8.drew from rfl]
        have hSc : RAt w8.drew qb q ∧ RAt w8.drew mb m ∧ RAt w8.drew nb m := ⟨hQ8, hM8, hN8⟩
        have hE9 := hE8.trans ((Ext.refl w8).drew)
        clear hQ8 hM8 hN8 hE8
        generalize w8.drew = w9 at *
        have hSe : ∀ X Y : World, (RAt X qb q ∧ RAt X mb m ∧ RAt X nb m) → Ext X Y → (RAt Y qb q ∧ RAt Y mb m ∧ RAt Y nb m) := fun X Y h hE => ⟨h.1.ext hE, h.2.1.ext hE, h.2.2.ext hE⟩
        simp only [List.size_toArray, List.length_cons, List.length_nil, Nat.reduceAdd]
        refine held_take 0 (.agg (encR q)) (op_at rfl) (by kernel_rfl) (by kernel_rfl) (by kernel_rfl) hQp (by kernel_rfl) hSc (fun wx hSx => run_load_op 30 _ rfl qb 0 rfl 132 _ _ _ _ hSx.1 Tryz.underlying30 rfl info_rest (by rw [encR_size hOk]; omega) (encR q) (encR_whole hOk)) ?_
        simp only [Act.put, List.setIfInBounds_toArray, List.set_cons_zero, List.set_cons_succ]
        refine held_take 2 (.agg (encR q)) (op_at rfl) (by kernel_rfl) (by kernel_rfl) (by kernel_rfl) hQp (by kernel_rfl) hSc (fun wx hSx => run_load_op 30 _ rfl qb 0 rfl 132 _ _ _ _ hSx.1 Tryz.underlying30 rfl info_rest (by rw [encR_size hOk]; omega) (encR q) (encR_whole hOk)) ?_
        simp only [Act.put, List.setIfInBounds_toArray, List.set_cons_zero, List.set_cons_succ]
        refine held_one (i := 1) (op_at rfl) (by kernel_rfl) (by kernel_rfl) ?_
        refine wp_call_val 11 #[.agg (encR q)] (by kernel_rfl) _ (hck w9 hE9) fun w10 hE10 => ⟨hSe _ _ hSc hE10, ?_⟩
        have hSc := hSe _ _ hSc hE10
        have hE10 := hE9.trans hE10
        simp only [Act.put, List.setIfInBounds_toArray, List.set_cons_zero, List.set_cons_succ]
        refine held_one (i := 3) (op_at rfl) (by kernel_rfl) (by kernel_rfl) ?_
        refine wp_call_val 12 #[.agg (encR q)] (by kernel_rfl) _ (hrc w10) fun w11 hE11 => ⟨hSe _ _ hSc hE11, ?_⟩
        have hSc := hSe _ _ hSc hE11
        have hEz := hE10.trans hE11
        simp only [Act.put, List.setIfInBounds_toArray, List.set_cons_zero, List.set_cons_succ]
        refine held_take 4 (.bool false) (op_at rfl) (by kernel_rfl) (by kernel_rfl) (by kernel_rfl) hQp (by kernel_rfl) hSc (fun wx hSx => by first | (with_reducible rfl) | (go_simp; done) | (go_simp; simp; done) | kernel_rfl) ?_
        simp only [Act.put, List.setIfInBounds_toArray, List.set_cons_zero, List.set_cons_succ]
        refine held_take 5 (.bool false) (op_at rfl) (by kernel_rfl) (by kernel_rfl) (by kernel_rfl) hQp (by kernel_rfl) hSc (fun wx hSx => by first | (with_reducible rfl) | (go_simp; done) | (go_simp; simp; done) | kernel_rfl) ?_
        simp only [Act.put, List.setIfInBounds_toArray, List.set_cons_zero, List.set_cons_succ]
        refine held_take 6 (.agg (encR m)) (op_at rfl) (by kernel_rfl) (by kernel_rfl) (by kernel_rfl) hQp (by kernel_rfl) hSc (fun wx hSx => run_load_op 30 _ rfl mb 0 rfl 132 _ _ _ _ hSx.2.1 Tryz.underlying30 rfl info_rest (by rw [encR_size hmo]; omega) (encR m) (encR_whole hmo)) ?_
        simp only [Act.put, List.setIfInBounds_toArray, List.set_cons_zero, List.set_cons_succ]
        refine held_take 7 (.agg (encR m)) (op_at rfl) (by kernel_rfl) (by kernel_rfl) (by kernel_rfl) hQp (by kernel_rfl) hSc (fun wx hSx => run_load_op 30 _ rfl nb 0 rfl 132 _ _ _ _ hSx.2.2 Tryz.underlying30 rfl info_rest (by rw [encR_size hmo]; omega) (encR m) (encR_whole hmo)) ?_
        simp only [Act.put, List.setIfInBounds_toArray, List.set_cons_zero, List.set_cons_succ]
        refine held_take 8 (.bool false) (op_at rfl) (by kernel_rfl) (by kernel_rfl) (by kernel_rfl) hQp (by kernel_rfl) hSc (fun wx hSx => run_binOp_op .neq 30 _ _ _ rfl (u1 := .agg (encR m)) (u2 := .agg (encR m)) rfl rfl (run_eqGuard_agg _ .neq 30 _ _ _ _ (by kernel_rfl)) (neq_rest hmo wx)) ?_
        simp only [Act.put, List.setIfInBounds_toArray, List.set_cons_zero, List.set_cons_succ]
        refine held_take 9 (.bool false) (op_at rfl) (by kernel_rfl) (by kernel_rfl) (by kernel_rfl) hQp (by kernel_rfl) hSc (fun wx hSx => by first | (with_reducible rfl) | (go_simp; done) | (go_simp; simp; done) | kernel_rfl) ?_
        simp only [Act.put, List.setIfInBounds_toArray, List.set_cons_zero, List.set_cons_succ]
        refine held_take 10 (.bool false) (op_at rfl) (by kernel_rfl) (by kernel_rfl) (by kernel_rfl) hQp (by kernel_rfl) hSc (fun wx hSx => by first | (with_reducible rfl) | (go_simp; done) | (go_simp; simp; done) | kernel_rfl) ?_
        simp only [Act.put, List.setIfInBounds_toArray, List.set_cons_zero, List.set_cons_succ]
        refine held_take 11 (.int .i64 ce) (op_at rfl) (by kernel_rfl) (by kernel_rfl) (by kernel_rfl) hQp (by kernel_rfl) hSc (fun wx hSx => by first | (with_reducible rfl) | (go_simp; done) | (go_simp; simp; done) | kernel_rfl) ?_
        simp only [Act.put, List.setIfInBounds_toArray, List.set_cons_zero, List.set_cons_succ]
        refine held_take 12 (.int .i64 ce) (op_at rfl) (by kernel_rfl) (by kernel_rfl) (by kernel_rfl) hQp (by kernel_rfl) hSc (fun wx hSx => by first | (with_reducible rfl) | (go_simp; done) | (go_simp; simp; done) | kernel_rfl) ?_
        simp only [Act.put, List.setIfInBounds_toArray, List.set_cons_zero, List.set_cons_succ]
        refine held_take 13 (.bool false) (op_at rfl) (by kernel_rfl) (by kernel_rfl) (by kernel_rfl) hQp (by kernel_rfl) hSc (fun wx hSx => by first | (with_reducible rfl) | (go_simp; done) | (go_simp; simp; done) | kernel_rfl) ?_
        simp only [Act.put, List.setIfInBounds_toArray, List.set_cons_zero, List.set_cons_succ]
        refine held_take 14 (.bool false) (op_at rfl) (by kernel_rfl) (by kernel_rfl) (by kernel_rfl) hQp (by kernel_rfl) hSc (fun wx hSx => by first | (with_reducible rfl) | (go_simp; done) | (go_simp; simp; done) | kernel_rfl) ?_
        simp only [Act.put, List.setIfInBounds_toArray, List.set_cons_zero, List.set_cons_succ]
        refine wpAnyH_done (by kernel_rfl) (hQn _ _ ?_) _
        clear hSc
        go_wp2
        go_roundw
        case rel => first | exact ⟨k + 1, by omega, rfl, hEz⟩ | ((repeat apply Exists.intro); exact ⟨⟨k + 1, by omega, rfl, hEz⟩, rfl⟩)
        case measure => simp [intOf]; omega
      · obtain rfl : k = n := by omega
        have hS2 := hS.ext hE
        go_wp2_with fail
        refine (saved_any wr hS2).mono ?_
        rintro e w9 ⟨rfl, hE9⟩
        go_wp2
        go_ret
        exact ⟨rfl, (hE).trans hE9⟩
end Go.Proofs.YtplddeboinhkbaaGreatDoorRR

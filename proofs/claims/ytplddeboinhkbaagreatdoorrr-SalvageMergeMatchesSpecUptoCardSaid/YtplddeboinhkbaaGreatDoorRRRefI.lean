/- The reference's mended and Mended. -/

import Derived.Test.YtplddeboinhkbaaGreatDoorRRProg
import Derived.Test.YtplddeboinhkbaaGreatDoorRRRefG
import Derived.Test.YtplddeboinhkbaaGreatDoorRRBuild
import Derived.Test.YtplddeboinhkbaaGreatDoorRRRefD
namespace Go.Proofs.YtplddeboinhkbaaGreatDoorRR
open Go.RowKit
theorem lostN_mono (st : List Int) (k : Nat) : ∀ n, k ≤ n → lostN st k ≤ lostN st n
  | 0, hk => by obtain rfl : k = 0 := by omega
                exact Nat.le_refl _
  | n + 1, hk => by
    by_cases e : k = n + 1
    · rw [e]; exact Nat.le_refl _
    · have := lostN_mono st k n (by omega)
      rw [lostN]
      split <;> omega
theorem lostAt_lost (st : List Int) : ∀ k, 0 < lostN st k → sv st (lostAt st k) = 0
  | 0, h => by simp [lostN] at h
  | k + 1, h => by
    unfold lostAt
    unfold lostN at h
    split
    · assumption
    · rename_i h2
      rw [if_neg h2] at h
      exact lostAt_lost st k h
/-- Where the lost word is, as the reference has it. -/
def atN (st : List Int) (k : Nat) : Int := if lostN st k = 0 then -1 else ((lostAt st k : Nat) : Int)
theorem set_zero {f : List Nat} (hf : f.length = 64) {q : Nat} (hq : q < 64) (h : wd f q = 0) : f.set q 0 = f := by
  apply f_ext (by simpa using hf) hf
  intro k hk
  rw [wd_set f q 0 k (by omega)]
  split
  · rename_i e; rw [e, h]
  · rfl
theorem mendedP_fine {r : SR} (h : RestOk r) (hf : Fine r) : mendedP r = if r.sound || r.conf then r else if lostN r.st 64 ≠ 1 then r
    else if soundAsB (replF r.f (lostAt r.st 64)) r.num then mendR r (replF r.f (lostAt r.st 64)) else r := by
  unfold mendedP
  split
  · rfl
  · split
    · rfl
    · rename_i h1 h2
      have hl := lostAt_lt r.st 64 (by omega)
      have hz := hf.lost _ hl (lostAt_lost r.st 64 (by omega))
      have hw : wideB r.f = false := by
        cases hx : wideB r.f with
        | false => rfl
        | true =>
          obtain ⟨k, hk, h3⟩ := (wideTo_iff r.f 64).1 hx
          have := hf.word k hk
          omega
      have he : replR r.f (lostAt r.st 64) = if soundB (replF r.f (lostAt r.st 64)) then (replF r.f (lostAt r.st 64), true) else (zeroF, false) := by
        unfold replR
        rw [set_zero h.f.1 hl hz, hw]
        rfl
      rw [he]
      cases hs : soundB (replF r.f (lostAt r.st 64)) with
      | true => simp
      | false => simp [soundAsB, hs]
def blankR (r : SR) (f : List Nat) : SR := { zeroR r.num with f := f, sound := true }
theorem blankR_ok {r : SR} {f : List Nat} (hf : FrameOk f) : RestOk (blankR r f) := ⟨hf, by simp [blankR, zeroR]⟩
theorem blank_cells (r : SR) {f : List Nat} (hf : FrameOk f) : (splice (Tryz.zeroCells30.setIfInBounds 0 (.int .i64 r.num)) 1 (encF f)).setIfInBounds 129 (.bool true) = encR (blankR r f) := by
  rw [zero_num, setR_frame (zeroR_ok r.num) f hf.1, setR_sound (r := { zeroR r.num with f := f }) ⟨hf, by simp [zeroR]⟩]
  rfl
set_option maxRecDepth 100000 in
set_option maxHeartbeats 4000000 in
theorem rmended_any (r : SR) (w : World) (h : RestOk r) (hf : Fine r) :
    Calls Tryz.prog 24 #[.agg (encR r)] w fun e w' => e = .returned (.agg (encR (mendedP r))) ∧ Ext w w' := by
  have HP := Lib.hid (mendedP_fine h hf)
  generalize mendedP r = mp at HP ⊢
  go_enter Tryz.func24, Tryz.ntmps24
  go_wp2_with ((with_reducible refine stop_load 28 rfl ?_))
  apply Stop.go
  refine wpList_world fun w1 e1 => ?_
  have hE1 := Ext.of_eq e1
  clear e1
  have hB : RAt w1 w.heap.size r := hE1.heap (block_old _ (block_new w _))
  have hZ := hE1.heap (heap_alloc2_new w _ _)
  have hE := ext_of_alloc _ (ext_of_alloc _ hE1)
  clear hE1
  refine wpList_load_blk rfl _ _ rfl w.heap.size 65 rfl 64 _ _ _ _ hB Tryz.underlying28 rfl info_states (by rw [encR_size h]; omega) (encS r.st) (encR_ext_st h) ?_
  simp only [Act.put, List.setIfInBounds_toArray, List.set_cons_zero, List.set_cons_succ]
  go_wp2
  go_loopw [3, 11] (fun s3 s11 wr => ∃ k : Nat, k ≤ 64 ∧ s3 = .int .i64 (atN r.st k) ∧ s11 = .int .i64 k ∧ Aside (lostN r.st k ≤ 1) ∧ Ext w1 wr) (fun _ s11 _ => 64 - (intOf s11).toNat)
  case atStart => exact ⟨0, by omega, rfl, rfl, (show Aside _ from Nat.zero_le _), Ext.refl w1⟩
  case round =>
    obtain ⟨k, hk, rfl, rfl, A, hE2⟩ := hrel
    by_cases hlt : k < 64
    · have hi := fun w : World => index_states h.st k hlt w
      by_cases h0 : sv r.st k = 0
      · rw [h0] at hi
        by_cases hl : lostN r.st k = 0
        · have ha : atN r.st k = -1 := by rw [atN, if_pos hl]
          have HA := Lib.hid (show atN r.st (k + 1) = ((k : Nat) : Int) by
            have h1 : lostN r.st (k + 1) = 1 := by rw [lostN, if_pos h0, hl]
            have h2 : lostAt r.st (k + 1) = k := by rw [lostAt, if_pos h0]
            rw [atN, if_neg (by omega), h2])
          have A2 : Aside (lostN r.st (k + 1) ≤ 1) := by
            show lostN r.st (k + 1) ≤ 1
            rw [lostN, if_pos h0, hl]
            omega
          rw [ha]
          clear ha hl h0 A
          go_wp2
          go_roundw
          case rel => first | exact ⟨k + 1, by omega, by rw [HA.out], by go_num, A2, hE2⟩ | ((repeat apply Exists.intro); exact ⟨⟨k + 1, by omega, by rw [HA.out], by go_num, A2, hE2⟩, rfl⟩)
          case measure => simp [intOf]; omega
        · have ha : atN r.st k = ((lostAt r.st k : Nat) : Int) := by rw [atN, if_neg hl]
          have HP2 := Lib.hid (show mp = r by
            have h1 : 2 ≤ lostN r.st (k + 1) := by rw [lostN, if_pos h0]; omega
            have h2 := lostN_mono r.st (k + 1) 64 (by omega)
            rw [HP.out, if_pos (by omega : lostN r.st 64 ≠ 1)]
            split <;> rfl)
          rw [ha]
          generalize lostAt r.st k = q
          clear ha hl h0 A
          have hB2 := hB.ext hE2
          have hZ2 := hE2.heap hZ
          have hE := hE.trans hE2
          go_wp2_with ((with_reducible refine stop_load 30 rfl ?_))
          apply Stop.go
          refine wpList_load_blk rfl _ _ rfl w.heap.size 0 rfl 132 _ _ _ _ hB2 Tryz.underlying30 rfl info_rest (by rw [encR_size h]; omega) (encR r) (encR_whole h) ?_
          simp only [Act.put, List.setIfInBounds_toArray, List.set_cons_zero, List.set_cons_succ]
          go_wp2_with ((with_reducible refine stop_store 30 rfl ?_))
          apply Stop.go
          refine store_rest rfl _ _ rfl (w.heap.size + 1) rfl r h rfl _ hZ2 zero_rest fun w9 u9 => ?_
          dsimp only [Act.put]
          go_wp2
          exact bodyPost_ret (v := .agg (encR r)) (results_cell_row Tryz.results24 _ _ (w.heap.size + 1) _ _ _ _ rfl u9.here Tryz.underlying30 rfl (by rw [encR_size h]; exact info_rest)) rfl ⟨by rw [HP2.out], (hE.upd (by omega) u9)⟩
      · have h0' : (sv r.st k != 0) = true := by simpa using h0
        have HA := Lib.hid (show atN r.st (k + 1) = atN r.st k by
          have h1 : lostN r.st (k + 1) = lostN r.st k := by rw [lostN, if_neg h0]
          have h2 : lostAt r.st (k + 1) = lostAt r.st k := by rw [lostAt, if_neg h0]
          rw [atN, atN, h1, h2])
        have A2 : Aside (lostN r.st (k + 1) ≤ 1) := by
          show lostN r.st (k + 1) ≤ 1
          rw [lostN, if_neg h0]
          exact A.out
        generalize atN r.st k = a at HA ⊢
        clear h0 A
        go_wp2
        go_roundw
        case rel => first | exact ⟨k + 1, by omega, by rw [HA.out], by go_num, A2, hE2⟩ | ((repeat apply Exists.intro); exact ⟨⟨k + 1, by omega, by rw [HA.out], by go_num, A2, hE2⟩, rfl⟩)
        case measure => simp [intOf]; omega
    · obtain rfl : k = 64 := by omega
      have hB2 := hB.ext hE2
      have hZ2 := hE2.heap hZ
      have hE := hE.trans hE2
      have hso := hB2.sound h
      have hcf := hB2.conf h
      clear hB hZ hE2 hlt hk
      cases s1 : r.sound with
      | true =>
        rw [s1] at hso
        have HP2 := Lib.hid (show mp = r by rw [HP.out, s1, Bool.true_or, if_pos rfl])
        generalize atN r.st 64 = a
        clear A s1
        go_wp2_with ((with_reducible refine stop_load 30 rfl ?_))
        apply Stop.go
        go_wp2_with ((with_reducible refine stop_load 30 rfl ?_))
        apply Stop.go
        refine wpList_load_blk rfl _ _ rfl w.heap.size 0 rfl 132 _ _ _ _ hB2 Tryz.underlying30 rfl info_rest (by rw [encR_size h]; omega) (encR r) (encR_whole h) ?_
        simp only [Act.put, List.setIfInBounds_toArray, List.set_cons_zero, List.set_cons_succ]
        go_wp2_with ((with_reducible refine stop_store 30 rfl ?_))
        apply Stop.go
        refine store_rest rfl _ _ rfl (w.heap.size + 1) rfl r h rfl _ hZ2 zero_rest fun w9 u9 => ?_
        dsimp only [Act.put]
        go_wp2
        exact bodyPost_ret (v := .agg (encR r)) (results_cell_row Tryz.results24 _ _ (w.heap.size + 1) _ _ _ _ rfl u9.here Tryz.underlying30 rfl (by rw [encR_size h]; exact info_rest)) rfl ⟨by rw [HP2.out], (hE.upd (by omega) u9)⟩
      | false =>
        rw [s1] at hso
        cases s2 : r.conf with
        | true =>
          rw [s2] at hcf
          have HP2 := Lib.hid (show mp = r by rw [HP.out, s2, Bool.or_true, if_pos rfl])
          generalize atN r.st 64 = a
          clear A s1 s2
          go_wp2_with ((with_reducible refine stop_load 30 rfl ?_))
          apply Stop.go
          go_wp2_with ((with_reducible refine stop_load 30 rfl ?_))
          apply Stop.go
          refine wpList_load_blk rfl _ _ rfl w.heap.size 0 rfl 132 _ _ _ _ hB2 Tryz.underlying30 rfl info_rest (by rw [encR_size h]; omega) (encR r) (encR_whole h) ?_
          simp only [Act.put, List.setIfInBounds_toArray, List.set_cons_zero, List.set_cons_succ]
          go_wp2_with ((with_reducible refine stop_store 30 rfl ?_))
          apply Stop.go
          refine store_rest rfl _ _ rfl (w.heap.size + 1) rfl r h rfl _ hZ2 zero_rest fun w9 u9 => ?_
          dsimp only [Act.put]
          go_wp2
          exact bodyPost_ret (v := .agg (encR r)) (results_cell_row Tryz.results24 _ _ (w.heap.size + 1) _ _ _ _ rfl u9.here Tryz.underlying30 rfl (by rw [encR_size h]; exact info_rest)) rfl ⟨by rw [HP2.out], (hE.upd (by omega) u9)⟩
        | false =>
          rw [s2] at hcf
          have HP := Lib.hid (show mp = if lostN r.st 64 ≠ 1 then r else if soundAsB (replF r.f (lostAt r.st 64)) r.num then mendR r (replF r.f (lostAt r.st 64)) else r by rw [HP.out, s1, s2]; rfl)
          by_cases hl : lostN r.st 64 = 0
          · have ha : atN r.st 64 = -1 := by rw [atN, if_pos hl]
            have HP2 := Lib.hid (show mp = r by rw [HP.out, if_pos (by omega)])
            rw [ha]
            clear A s1 s2 ha hl
            go_wp2_with ((with_reducible refine stop_load 30 rfl ?_))
            apply Stop.go
            go_wp2_with ((with_reducible refine stop_load 30 rfl ?_))
            apply Stop.go
            refine wpList_load_blk rfl _ _ rfl w.heap.size 0 rfl 132 _ _ _ _ hB2 Tryz.underlying30 rfl info_rest (by rw [encR_size h]; omega) (encR r) (encR_whole h) ?_
            simp only [Act.put, List.setIfInBounds_toArray, List.set_cons_zero, List.set_cons_succ]
            go_wp2_with ((with_reducible refine stop_store 30 rfl ?_))
            apply Stop.go
            refine store_rest rfl _ _ rfl (w.heap.size + 1) rfl r h rfl _ hZ2 zero_rest fun w9 u9 => ?_
            dsimp only [Act.put]
            go_wp2
            exact bodyPost_ret (v := .agg (encR r)) (results_cell_row Tryz.results24 _ _ (w.heap.size + 1) _ _ _ _ rfl u9.here Tryz.underlying30 rfl (by rw [encR_size h]; exact info_rest)) rfl ⟨by rw [HP2.out], (hE.upd (by omega) u9)⟩
          · have ha : atN r.st 64 = ((lostAt r.st 64 : Nat) : Int) := by rw [atN, if_neg hl]
            have hA := A.out
            have HP := Lib.hid (show mp = if soundAsB (replF r.f (lostAt r.st 64)) r.num then mendR r (replF r.f (lostAt r.st 64)) else r by rw [HP.out, if_neg (by omega)])
            have hql := lostAt_lt r.st 64 (by omega)
            have HM := Lib.hid (show mendR r = fun f => { r with f := f, st := (List.replicate 64 3).set (lostAt r.st 64) 2, sound := true, copies := 0 } from rfl)
            rw [ha]
            clear A ha hA hl
            generalize lostAt r.st 64 = q at HP hql HM ⊢
            have cp := fun (wx : World) => rput_any r.f q wx h.f hql
            have hfo := replF_ok h.f hql
            generalize replF r.f q = f at HP cp hfo
            have hql' : ((q : Nat) : Int) < 64 := by omega
            go_wp2_with ((with_reducible refine stop_load 27 rfl ?_))
            apply Stop.go
            refine wpList_load_blk rfl _ _ rfl w.heap.size 1 rfl 64 _ _ _ _ hB2 Tryz.underlying27 rfl info_frame (by rw [encR_size h]; omega) (encF r.f) (encR_ext_f h) ?_
            simp only [Act.put, List.setIfInBounds_toArray, List.set_cons_zero, List.set_cons_succ]
            go_wp2_with fail
            refine (cp _).mono ?_
            rintro e w3 ⟨rfl, hE3⟩
            have hB3 := hB2.ext hE3
            have hZ3 := hE3.heap hZ2
            have hE3 := hE.trans hE3
            clear hB2 hZ2 hE cp hso hcf
            go_wp2_with ((with_reducible refine stop_store 27 rfl ?_))
            apply Stop.go
            refine wpList_world fun w4 e4 => ?_
            have hEa := Ext.of_eq e4
            clear e4
            refine wpList_store_whole rfl _ _ _ rfl w3.heap.size rfl (encF f) rfl _ _ (hEa.heap (block_new w3 _)) (by rw [encF_size hfo]; exact info_frame) (by rw [encF_size hfo]; rfl) (encF_one _) fun w5 u5 => ?_
            dsimp only [Act.put]
            have hF5 := u5.here
            have hEb := (ext_of_alloc _ hEa).upd (by simp) u5
            have hB5 := hB3.ext hEb
            have hZ5 := hEb.heap hZ3
            have hwf : w.heap.size + 1 < w3.heap.size := by
              rcases Nat.lt_or_ge (w.heap.size + 1) w3.heap.size with h' | h'
              · exact h'
              · rw [Array.getElem?_eq_none h'] at hZ3; cases hZ3
            have hE5 := hE3.trans hEb
            clear hEa hEb u5 hB3 hZ3 hE3
            generalize w3.heap.size = fb at hF5 hwf ⊢
            have hnm : ∀ x : ExtW w5, x.val.cell? ⟨w.heap.size, 0, none⟩ = some (.int .i64 r.num) := fun x => (hB5.ext x.ext).num h
            have ca := fun x : ExtW w5 => rsound_any f x.val hfo
            have cn := fun x : ExtW w5 => r4number_any f x.val hfo
            cases hs2 : soundB f with
            | false =>
              rw [hs2] at ca
              have HP2 := Lib.hid (show mp = r by rw [HP.out, if_neg (by simp [soundAsB, hs2])])
              go_wp2
              refine wp_region_ext (by kernel_rfl) (by kernel_rfl) ?_
              refine BigFrame.wpQuiet_want rfl fun K hK => ?_
              refine quiet_load_blk _ _ rfl fb 0 rfl 64 _ _ _ _ (by rintro _ ⟨x, rfl⟩; exact x.ext.heap hF5) Tryz.underlying27 rfl info_frame (by rw [encF_size hfo]; omega) (encF f) (by rw [Nat.zero_add, ← encF_size hfo, Array.extract_size]) (hK _ ?_)
              clear hK K
              simp only [Act.put, List.setIfInBounds_toArray, List.set_cons_zero, List.set_cons_succ]
              repeat (go_big_quiet_step ((first | (go_at_call 29; refine calls_ext (ca _)) | (go_at_call 30; refine calls_ext (cn _)))))
              refine wpQuiet_nil ?_
              rintro _ ⟨x, rfl⟩
              have hB6 := hB5.ext x.ext
              have hZ6 := x.ext.heap hZ5
              have hE6 := hE5.trans x.ext
              generalize x.val = w6 at hB6 hZ6 hE6 ⊢
              clear hB5 hZ5 hE5 hnm ca cn hF5 x
              go_wp2_with ((with_reducible refine stop_load 30 rfl ?_))
              apply Stop.go
              go_wp2_with ((with_reducible refine stop_load 30 rfl ?_))
              apply Stop.go
              refine wpList_load_blk rfl _ _ rfl w.heap.size 0 rfl 132 _ _ _ _ hB6 Tryz.underlying30 rfl info_rest (by rw [encR_size h]; omega) (encR r) (encR_whole h) ?_
              simp only [Act.put, List.setIfInBounds_toArray, List.set_cons_zero, List.set_cons_succ]
              go_wp2_with ((with_reducible refine stop_store 30 rfl ?_))
              apply Stop.go
              refine store_rest rfl _ _ rfl (w.heap.size + 1) rfl r h rfl _ hZ6 zero_rest fun w9 u9 => ?_
              dsimp only [Act.put]
              go_wp2
              exact bodyPost_ret (v := .agg (encR r)) (results_cell_row Tryz.results24 _ _ (w.heap.size + 1) _ _ _ _ rfl u9.here Tryz.underlying30 rfl (by rw [encR_size h]; exact info_rest)) rfl ⟨by rw [HP2.out], (hE6.upd (by omega) u9)⟩
            | true =>
              rw [hs2] at ca
              by_cases s3 : ((numV f : Nat) : Int) = r.num
              · have s3' : (((numV f : Nat) : Int) != r.num) = false := by simp [s3]
                have HP2 := Lib.hid (show mp = { r with f := f, st := (List.replicate 64 3).set q 2, sound := true, copies := 0 } by rw [HP.out, HM.out, soundAsB, hs2, s3]; simp)
                clear s3 hs2 HP HM
                go_wp2
                refine wp_region_ext (by kernel_rfl) (by kernel_rfl) ?_
                refine BigFrame.wpQuiet_want rfl fun K hK => ?_
                refine quiet_load_blk _ _ rfl fb 0 rfl 64 _ _ _ _ (by rintro _ ⟨x, rfl⟩; exact x.ext.heap hF5) Tryz.underlying27 rfl info_frame (by rw [encF_size hfo]; omega) (encF f) (by rw [Nat.zero_add, ← encF_size hfo, Array.extract_size]) (hK _ ?_)
                clear hK K
                simp only [Act.put, List.setIfInBounds_toArray, List.set_cons_zero, List.set_cons_succ]
                repeat (go_big_quiet_step ((first | (go_at_call 29; refine calls_ext (ca _)) | (go_at_call 30; refine calls_ext (cn _)))))
                refine BigFrame.wpQuiet_want rfl fun K hK => ?_
                refine quiet_load_blk _ _ rfl fb 0 rfl 64 _ _ _ _ (by rintro _ ⟨x, rfl⟩; exact x.ext.heap hF5) Tryz.underlying27 rfl info_frame (by rw [encF_size hfo]; omega) (encF f) (by rw [Nat.zero_add, ← encF_size hfo, Array.extract_size]) (hK _ ?_)
                clear hK K
                simp only [Act.put, List.setIfInBounds_toArray, List.set_cons_zero, List.set_cons_succ]
                repeat (go_big_quiet_step ((first | (go_at_call 29; refine calls_ext (ca _)) | (go_at_call 30; refine calls_ext (cn _)))))
                refine wpQuiet_nil ?_
                rintro _ ⟨x, rfl⟩
                have hB6 := hB5.ext x.ext
                have hZ6 := x.ext.heap hZ5
                have hF6 := x.ext.heap hF5
                have hE6 := hE5.trans x.ext
                generalize x.val = w6 at hB6 hZ6 hE6 hF6 ⊢
                clear hB5 hZ5 hE5 hnm ca cn hF5 x
                have hn6 := hB6.num h
                have hbo := blankR_ok (r := r) hfo
                go_wp2_with ((with_reducible refine stop_load 27 rfl ?_))
                apply Stop.go
                refine wpList_load_blk rfl _ _ rfl fb 0 rfl 64 _ _ _ _ hF6 Tryz.underlying27 rfl info_frame (by rw [encF_size hfo]; omega) (encF f) (by rw [Nat.zero_add, ← encF_size hfo, Array.extract_size]) ?_
                simp only [Act.put, List.setIfInBounds_toArray, List.set_cons_zero, List.set_cons_succ]
                have HP3 := Lib.hid (show mp = { zeroR r.num with f := f, sound := true, st := (List.replicate 64 3).set q 2 } by rw [HP2.out, s2]; rfl)
                clear HP2
                go_wp2_with ((with_reducible refine stop_build 30 rfl ?_))
                apply Stop.go
                refine wpList_build_to rfl 30 _ rfl _ rfl _ (built_blank r.num hfo) ?_
                simp only [Act.put, List.setIfInBounds_toArray, List.set_cons_zero, List.set_cons_succ]
                go_wp2_with ((with_reducible refine stop_store 30 rfl ?_))
                apply Stop.go
                refine wpList_world fun w7 e7 => ?_
                have hEa := Ext.of_eq e7
                clear e7
                refine store_rest rfl _ _ rfl w6.heap.size rfl { zeroR r.num with f := f, sound := true } hbo rfl _ (hEa.heap (block_new w6 _)) zero_rest fun w8 u8 => ?_
                dsimp only [Act.put]
                have hG8 : RAt w8 w6.heap.size { zeroR r.num with f := f, sound := true } := u8.here
                have hEb := (ext_of_alloc _ hEa).upd (by simp) u8
                have hZ8 := hEb.heap hZ6
                have hE8 := hE6.trans hEb
                have hwg : w.heap.size + 1 < w6.heap.size := lt_of_block hZ6
                clear u8 hEa hEb hB6 hZ6 hE6 hF6 hn6 w7
                generalize w6.heap.size = g at hG8 hwg ⊢
                go_wp2
                go_loopw [52] (fun s52 wv => ∃ j : Nat, j ≤ 64 ∧ s52 = .int .i64 j ∧ Aside (RAt wv g { zeroR r.num with f := f, sound := true, st := upS (List.replicate 64 0) 3 j }) ∧ wv.heap[w.heap.size + 1]? = some (.cells Tryz.zeroCells30 30 (0, 0)) ∧ Ext w wv) (fun s52 _ => 64 - (intOf s52).toNat)
                case atStart => exact ⟨0, by omega, rfl, hG8, hZ8, hE8⟩
                case round =>
                  obtain ⟨j, hj, rfl, B, hZ, hE⟩ := hrel
                  clear hG8 hZ8 hE8
                  have hz64 : (List.replicate 64 (0 : Int)).length = 64 := by simp
                  have HZ64 := Lib.hid hz64
                  clear hz64
                  by_cases hjl : j < 64
                  · have hGv := B.out
                    have qvo : RestOk { zeroR r.num with f := f, sound := true, st := upS (List.replicate 64 0) 3 j } := ⟨hfo, upS_length HZ64.out 3 j hj⟩
                    have hjl' : ((j : Nat) : Int) < 64 := by omega
                    go_wp2_with ((with_reducible refine stop_store 3 rfl ?_))
                    apply Stop.go
                    refine wpList_store1 rfl _ _ _ rfl g (65 + j) rfl (.int .i64 3) rfl _ _ hGv info_int (by rw [encR_size qvo]; omega) rfl fun w6 u6 => ?_
                    dsimp only [Act.put]
                    have hG6 := u6.here
                    rw [setR_st qvo j hjl] at hG6
                    have hG7 : Aside (RAt w6 g { zeroR r.num with f := f, sound := true, st := upS (List.replicate 64 0) 3 (j + 1) }) := by
                      rw [← upS_set HZ64.out 3 j hjl]
                      exact hG6
                    have hZ6 := u6.keep hZ (by omega)
                    have hE6 := hE.upd (by omega) u6
                    clear u6 hGv B hZ hE hG6
                    go_wp2
                    go_roundw
                    case rel => first | exact ⟨j + 1, by omega, by go_num, hG7, hZ6, hE6⟩ | ((repeat apply Exists.intro); exact ⟨⟨j + 1, by omega, by go_num, hG7, hZ6, hE6⟩, rfl⟩)
                    case measure => simp [intOf]; omega
                  · obtain rfl : j = 64 := by omega
                    have hG8 : RAt wr g { zeroR r.num with f := f, sound := true, st := List.replicate 64 3 } := by
                      have := B.out
                      rw [upS_all HZ64.out 3] at this
                      exact this
                    have q1o : RestOk { zeroR r.num with f := f, sound := true, st := List.replicate 64 3 } := ⟨hfo, by simp⟩
                    have q2o : RestOk { zeroR r.num with f := f, sound := true, st := (List.replicate 64 3).set q 2 } := ⟨hfo, by simp⟩
                    go_wp2_with ((with_reducible refine stop_store 3 rfl ?_))
                    apply Stop.go
                    refine wpList_store1 rfl _ _ _ rfl g (65 + q) rfl (.int .i64 2) rfl _ _ hG8 info_int (by rw [encR_size q1o]; omega) rfl fun w9 u9 => ?_
                    dsimp only [Act.put]
                    have hG9 := u9.here
                    rw [setR_st q1o q hql] at hG9
                    have hZ9 := u9.keep hZ (by omega)
                    have hE9 := hE.upd (by omega) u9
                    clear u9 hG8 hZ hE B
                    go_wp2_with ((with_reducible refine stop_load 30 rfl ?_))
                    apply Stop.go
                    refine wpList_load_blk rfl _ _ rfl g 0 rfl 132 _ _ _ _ hG9 Tryz.underlying30 rfl info_rest (by rw [encR_size q2o]; omega) (encR { zeroR r.num with f := f, sound := true, st := (List.replicate 64 3).set q 2 }) (encR_whole q2o) ?_
                    simp only [Act.put, List.setIfInBounds_toArray, List.set_cons_zero, List.set_cons_succ]
                    go_wp2_with ((with_reducible refine stop_store 30 rfl ?_))
                    apply Stop.go
                    refine store_rest rfl _ _ rfl (w.heap.size + 1) rfl { zeroR r.num with f := f, sound := true, st := (List.replicate 64 3).set q 2 } q2o rfl _ hZ9 zero_rest fun w10 u10 => ?_
                    dsimp only [Act.put]
                    go_wp2
                    exact bodyPost_ret (v := .agg (encR { zeroR r.num with f := f, sound := true, st := (List.replicate 64 3).set q 2 })) (results_cell_row Tryz.results24 _ _ (w.heap.size + 1) _ _ _ _ rfl u10.here Tryz.underlying30 rfl (by rw [encR_size q2o]; exact info_rest)) rfl ⟨by rw [HP3.out], (hE9.upd (by omega) u10)⟩
              · have s3' : (((numV f : Nat) : Int) != r.num) = true := by simp [s3]
                have HP2 := Lib.hid (show mp = r by rw [HP.out, if_neg (by simp [soundAsB, hs2, s3])])
                clear s3 hs2 HP HM
                go_wp2
                refine wp_region_ext (by kernel_rfl) (by kernel_rfl) ?_
                refine BigFrame.wpQuiet_want rfl fun K hK => ?_
                refine quiet_load_blk _ _ rfl fb 0 rfl 64 _ _ _ _ (by rintro _ ⟨x, rfl⟩; exact x.ext.heap hF5) Tryz.underlying27 rfl info_frame (by rw [encF_size hfo]; omega) (encF f) (by rw [Nat.zero_add, ← encF_size hfo, Array.extract_size]) (hK _ ?_)
                clear hK K
                simp only [Act.put, List.setIfInBounds_toArray, List.set_cons_zero, List.set_cons_succ]
                repeat (go_big_quiet_step ((first | (go_at_call 29; refine calls_ext (ca _)) | (go_at_call 30; refine calls_ext (cn _)))))
                refine BigFrame.wpQuiet_want rfl fun K hK => ?_
                refine quiet_load_blk _ _ rfl fb 0 rfl 64 _ _ _ _ (by rintro _ ⟨x, rfl⟩; exact x.ext.heap hF5) Tryz.underlying27 rfl info_frame (by rw [encF_size hfo]; omega) (encF f) (by rw [Nat.zero_add, ← encF_size hfo, Array.extract_size]) (hK _ ?_)
                clear hK K
                simp only [Act.put, List.setIfInBounds_toArray, List.set_cons_zero, List.set_cons_succ]
                repeat (go_big_quiet_step ((first | (go_at_call 29; refine calls_ext (ca _)) | (go_at_call 30; refine calls_ext (cn _)))))
                refine wpQuiet_nil ?_
                rintro _ ⟨x, rfl⟩
                have hB6 := hB5.ext x.ext
                have hZ6 := x.ext.heap hZ5
                have hE6 := hE5.trans x.ext
                generalize x.val = w6 at hB6 hZ6 hE6 ⊢
                clear hB5 hZ5 hE5 hnm ca cn hF5 x
                go_wp2_with ((with_reducible refine stop_load 30 rfl ?_))
                apply Stop.go
                go_wp2_with ((with_reducible refine stop_load 30 rfl ?_))
                apply Stop.go
                refine wpList_load_blk rfl _ _ rfl w.heap.size 0 rfl 132 _ _ _ _ hB6 Tryz.underlying30 rfl info_rest (by rw [encR_size h]; omega) (encR r) (encR_whole h) ?_
                simp only [Act.put, List.setIfInBounds_toArray, List.set_cons_zero, List.set_cons_succ]
                go_wp2_with ((with_reducible refine stop_store 30 rfl ?_))
                apply Stop.go
                refine store_rest rfl _ _ rfl (w.heap.size + 1) rfl r h rfl _ hZ6 zero_rest fun w9 u9 => ?_
                dsimp only [Act.put]
                go_wp2
                exact bodyPost_ret (v := .agg (encR r)) (results_cell_row Tryz.results24 _ _ (w.heap.size + 1) _ _ _ _ rfl u9.here Tryz.underlying30 rfl (by rw [encR_size h]; exact info_rest)) rfl ⟨by rw [HP2.out], (hE6.upd (by omega) u9)⟩
set_option maxHeartbeats 1000000 in
theorem rMended_any (r : SR) (w : World) (h : RestOk r) :
    Calls Tryz.prog 10 #[.agg (encR r)] w fun e w' => e = .returned (.tuple #[.agg (encR (mendedR r)), .int .i64 (checkP r)]) ∧ Ext w w' := by
  have hck := fun (wx : World) => rcheckRest_any r wx h
  have hmd := fun (wx : World) (hc : checkP r = 0) => rmended_any r wx h ((fine_iff h).1 hc)
  have hmo := mendedP_ok h
  have HR := Lib.hid (show mendedR r = if checkP r = 0 then mendedP r else zeroR 0 from rfl)
  generalize mendedR r = mr at HR ⊢
  generalize checkP r = ce at HR hck hmd ⊢
  generalize mendedP r = mp at HR hmd hmo
  go_enter Tryz.func10, Tryz.ntmps10
  go_wp2_with ((with_reducible refine stop_load 30 rfl ?_))
  apply Stop.go
  refine wpList_world fun w1 e1 => ?_
  have hE1 := Ext.of_eq e1
  clear e1
  have hB : RAt w1 w.heap.size r := hE1.heap (block_old _ (block_new w _))
  have hZ := hE1.heap (heap_alloc2_new w _ _)
  have hE := ext_of_alloc _ (ext_of_alloc _ hE1)
  clear hE1
  refine wpList_load_blk rfl _ _ rfl w.heap.size 0 rfl 132 _ _ _ _ hB Tryz.underlying30 rfl info_rest (by rw [encR_size h]; omega) (encR r) (encR_whole h) ?_
  simp only [Act.put, List.setIfInBounds_toArray, List.set_cons_zero, List.set_cons_succ]
  go_wp2_with fail
  refine (hck _).mono ?_
  rintro e w2 ⟨rfl, hE2⟩
  have hB2 := hB.ext hE2
  have hZ2 := hE2.heap hZ
  have hE2 := hE.trans hE2
  clear hB hZ hE hck
  by_cases hc : ce = 0
  · subst hc
    have HR2 := Lib.hid (show mr = mp by rw [HR.out, if_pos rfl])
    clear HR
    go_wp2_with ((with_reducible refine stop_load 30 rfl ?_))
    apply Stop.go
    refine wpList_load_blk rfl _ _ rfl w.heap.size 0 rfl 132 _ _ _ _ hB2 Tryz.underlying30 rfl info_rest (by rw [encR_size h]; omega) (encR r) (encR_whole h) ?_
    simp only [Act.put, List.setIfInBounds_toArray, List.set_cons_zero, List.set_cons_succ]
    go_wp2_with fail
    refine (hmd _ trivial).mono ?_
    rintro e w3 ⟨rfl, hE3⟩
    have hZ3 := hE3.heap hZ2
    have hE3 := hE2.trans hE3
    clear hmd
    go_wp2_with ((with_reducible refine stop_store 30 rfl ?_))
    apply Stop.go
    refine store_rest rfl _ _ rfl (w.heap.size + 1) rfl mp hmo rfl _ hZ3 zero_rest fun w9 u9 => ?_
    dsimp only [Act.put]
    go_wp2
    exact bodyPost_ret (results_cell_tmp Tryz.results10 _ _ (w.heap.size + 1) 30 (encR mp) _ _ rfl (.int .i64 0) rfl u9.here Tryz.underlying30 rfl (by rw [encR_size hmo]; exact info_rest)) rfl ⟨(by rw [HR2.out]), (hE3.upd (by omega) u9)⟩
  · have hc' : (ce != 0) = true := by simpa using hc
    have HR2 := Lib.hid (show mr = zeroR 0 by rw [HR.out, if_neg hc])
    clear HR hc hmd
    go_wp2_with ((with_reducible refine stop_store 30 rfl ?_))
    apply Stop.go
    rw [build_zero]
    refine store_rest rfl _ _ rfl (w.heap.size + 1) rfl (zeroR 0) (zeroR_ok 0) rfl _ hZ2 zero_rest fun w9 u9 => ?_
    dsimp only [Act.put]
    go_wp2
    exact bodyPost_ret (results_cell_tmp Tryz.results10 _ _ (w.heap.size + 1) 30 (encR (zeroR 0)) _ _ rfl (.int .i64 ce) rfl u9.here Tryz.underlying30 rfl (by rw [encR_size (zeroR_ok 0)]; exact info_rest)) rfl ⟨(by rw [HR2.out]), (hE2.upd (by omega) u9)⟩
end Go.Proofs.YtplddeboinhkbaaGreatDoorRR

/- The reference's check of a rest. -/

import Derived.Test.YtplddeboinhkbaaGreatDoorRRProg
import Derived.Test.YtplddeboinhkbaaGreatDoorRRRestC
import Derived.Test.YtplddeboinhkbaaGreatDoorRRRefC
namespace Go.Proofs.YtplddeboinhkbaaGreatDoorRR
open Go.RowKit
/-- How many of the first k words have the state s. -/
def cntTo (st : List Int) (s : Int) : Nat → Nat
  | 0 => 0
  | k + 1 => if sv st k = s then cntTo st s k + 1 else cntTo st s k
theorem cntTo_le (st : List Int) (s : Int) : ∀ k, cntTo st s k ≤ k
  | 0 => Nat.le_refl 0
  | k + 1 => by
    have := cntTo_le st s k
    unfold cntTo
    split <;> omega
theorem cntTo_pos (st : List Int) (s : Int) : ∀ k, 0 < cntTo st s k ↔ ∃ j, j < k ∧ sv st j = s
  | 0 => by simp [cntTo]
  | k + 1 => by
    have := cntTo_pos st s k
    unfold cntTo
    split
    · rename_i h
      exact ⟨fun _ => ⟨k, by omega, h⟩, fun _ => by omega⟩
    · rename_i h
      rw [this]
      constructor
      · rintro ⟨j, hj, e⟩
        exact ⟨j, by omega, e⟩
      · rintro ⟨j, hj, e⟩
        refine ⟨j, ?_, e⟩
        rcases Nat.lt_succ_iff_lt_or_eq.1 hj with h' | h'
        · exact h'
        · subst h'; exact absurd e h
theorem cntTo_all (st : List Int) (s : Int) : ∀ k, cntTo st s k = k ↔ ∀ j, j < k → sv st j = s
  | 0 => by simp [cntTo]
  | k + 1 => by
    have := cntTo_all st s k
    have hle := cntTo_le st s k
    unfold cntTo
    split
    · rename_i h
      rw [Nat.add_right_cancel_iff, this]
      constructor
      · intro h2 j hj
        rcases Nat.lt_succ_iff_lt_or_eq.1 hj with h' | h'
        · exact h2 j h'
        · rw [h']; exact h
      · exact fun h2 j hj => h2 j (by omega)
    · rename_i h
      exact ⟨fun h2 => by omega, fun h2 => absurd (h2 k (by omega)) h⟩
theorem any_sv {st : List Int} (hs : st.length = 64) (p : Int → Bool) : st.any p = true ↔ ∃ j, j < 64 ∧ p (sv st j) = true := by
  rw [List.any_eq_true]
  constructor
  · rintro ⟨x, hx, hp⟩
    obtain ⟨j, hj, rfl⟩ := List.getElem_of_mem hx
    exact ⟨j, by omega, by rw [← sv_at hj]; exact hp⟩
  · rintro ⟨j, hj, hp⟩
    exact ⟨st[j], List.getElem_mem _, by rw [sv_at (by omega)]; exact hp⟩
theorem some_cnt {r : SR} (h : RestOk r) (s t : Int) : someB r s t = decide (0 < cntTo r.st s 64 + cntTo r.st t 64) := by
  rw [Bool.eq_iff_iff]
  unfold someB
  rw [any_sv h.st]
  simp only [Bool.or_eq_true, beq_iff_eq, decide_eq_true_eq]
  rw [show (0 < cntTo r.st s 64 + cntTo r.st t 64) ↔ (0 < cntTo r.st s 64 ∨ 0 < cntTo r.st t 64) by omega, cntTo_pos, cntTo_pos]
  constructor
  · rintro ⟨j, hj, h1 | h1⟩
    · exact .inl ⟨j, hj, h1⟩
    · exact .inr ⟨j, hj, h1⟩
  · rintro (⟨j, hj, h1⟩ | ⟨j, hj, h1⟩)
    · exact ⟨j, hj, .inl h1⟩
    · exact ⟨j, hj, .inr h1⟩
theorem all_cnt {r : SR} (h : RestOk r) (s : Int) : allB r s = (cntTo r.st s 64 == 64) := by
  rw [Bool.eq_iff_iff]
  unfold allB
  rw [Bool.not_eq_true', beq_iff_eq, cntTo_all, Bool.eq_false_iff, ne_eq, any_sv h.st]
  constructor
  · intro h2 j hj
    apply Classical.byContradiction
    intro hne
    exact h2 ⟨j, hj, by simpa using hne⟩
  · rintro h2 ⟨j, hj, hp⟩
    rw [h2 j hj] at hp
    simp at hp
set_option maxRecDepth 100000 in
set_option maxHeartbeats 4000000 in
theorem rcheckRest_any (r : SR) (w : World) (h : RestOk r) :
    Calls Tryz.prog 12 #[.agg (encR r)] w fun e w' => e = .returned (.int .i64 (checkP r)) ∧ Ext w w' := by
  have hc0 := (RAt.new w r).num h
  by_cases hn1 : r.num < 0
  · have HP := Lib.hid (show checkP r = 9 from if_neg (by omega))
    go_enter Tryz.func12, Tryz.ntmps12
    go_wp2
    go_ret
    exact ⟨ret_int HP.out.symm, ext_of_alloc _ (Ext.refl _)⟩
  by_cases hn2 : 4194304 ≤ r.num
  · have HP := Lib.hid (show checkP r = 9 from if_neg (by omega))
    go_enter Tryz.func12, Tryz.ntmps12
    go_wp2
    go_ret
    exact ⟨ret_int HP.out.symm, ext_of_alloc _ (Ext.refl _)⟩
  have hn : 0 ≤ r.num ∧ r.num ≤ 4194303 := by omega
  have HP := Lib.hid (show checkP r = if scanTo r 64 = 0 then tailF r else scanTo r 64 from if_pos hn)
  have HN := Lib.hid hn
  clear hn
  go_enter Tryz.func12, Tryz.ntmps12
  go_wp2_with ((with_reducible refine stop_load 28 rfl ?_))
  apply Stop.go
  refine wpList_world fun w1 e1 => ?_
  have hE1 := Ext.of_eq e1
  clear e1
  have hR1 : RAt w1 w.heap.size r := hE1.heap (block_new w _)
  have hE := ext_of_alloc _ hE1
  clear hE1 hc0
  refine wpList_load_blk rfl _ _ rfl w.heap.size 65 rfl 64 _ _ _ _ hR1 Tryz.underlying28 rfl info_states (by rw [encR_size h]; omega) (encS r.st) (encR_ext_st h) ?_
  simp only [Act.put, List.setIfInBounds_toArray, List.set_cons_zero, List.set_cons_succ]
  go_wp2
  go_loopw [3, 4, 5, 6, 19] (fun s3 s4 s5 s6 i wr => ∃ k : Nat, k ≤ 64 ∧ s3 = .int .i64 (cntTo r.st 3 k : Nat) ∧ s4 = .int .i64 (cntTo r.st 1 k : Nat) ∧ s5 = .int .i64 (cntTo r.st 2 k : Nat) ∧ s6 = .int .i64 (cntTo r.st 0 k : Nat) ∧ i = .int .i64 k ∧ Aside (scanTo r k = 0) ∧ Ext w1 wr) (fun _ _ _ _ i _ => 64 - (intOf i).toNat)
  case atStart => exact ⟨0, by omega, rfl, rfl, rfl, rfl, rfl, (show Aside _ from rfl), Ext.refl w1⟩
  case round =>
    obtain ⟨k, hk, rfl, rfl, rfl, rfl, rfl, A, hE2⟩ := hrel
    by_cases hlt : k < 64
    · have hi := fun w : World => index_states h.st k hlt w
      have hf := (hR1.ext hE2).f h k hlt
      obtain ⟨s, hs⟩ : ∃ s, s = sv r.st k := ⟨_, rfl⟩
      obtain ⟨f, hf2⟩ : ∃ f, f = wd r.f k := ⟨_, rfl⟩
      have hbf := h.f.2 k
      rw [← hs] at hi
      rw [← hf2] at hf hbf
      have HS := Lib.hid hs
      have HF := Lib.hid hf2
      have HC := Lib.hid (show ∀ e, cellFault s f = e → e ≠ 0 → checkP r = e from fun e he hne => checkP_at r k hlt HN.out A.out (by rw [← HS.out, ← HF.out]; exact he) hne)
      have HD := Lib.hid (show cellFault s f = 0 → scanTo r (k + 1) = 0 from fun he => by rw [scanTo, if_pos A.out, ← HS.out, ← HF.out]; exact he)
      have H3 := Lib.hid (show cntTo r.st 3 (k + 1) = if s = 3 then cntTo r.st 3 k + 1 else cntTo r.st 3 k by rw [hs]; rfl)
      have H2 := Lib.hid (show cntTo r.st 2 (k + 1) = if s = 2 then cntTo r.st 2 k + 1 else cntTo r.st 2 k by rw [hs]; rfl)
      have H1 := Lib.hid (show cntTo r.st 1 (k + 1) = if s = 1 then cntTo r.st 1 k + 1 else cntTo r.st 1 k by rw [hs]; rfl)
      have H0 := Lib.hid (show cntTo r.st 0 (k + 1) = if s = 0 then cntTo r.st 0 k + 1 else cntTo r.st 0 k by rw [hs]; rfl)
      have b3 := cntTo_le r.st 3 k
      have b2 := cntTo_le r.st 2 k
      have b1 := cntTo_le r.st 1 k
      have b0 := cntTo_le r.st 0 k
      clear hs hf2 hR1
      generalize cntTo r.st 3 k = a3 at *
      generalize cntTo r.st 2 k = a2 at *
      generalize cntTo r.st 1 k = a1 at *
      generalize cntTo r.st 0 k = a0 at *
      by_cases c1 : s < 0
      · have HZ := Lib.hid (HC.out 9 (if_neg (by omega)) (by decide))
        clear HC HD H0 H1 H2 H3
        go_wp2
        go_ret
        exact ⟨ret_int HZ.out.symm, hE.trans hE2⟩
      by_cases c2 : 3 < s
      · have HZ := Lib.hid (HC.out 9 (if_neg (by omega)) (by decide))
        clear HC HD H0 H1 H2 H3
        go_wp2
        go_ret
        exact ⟨ret_int HZ.out.symm, hE.trans hE2⟩
      by_cases z0 : s = 0
      · subst z0
        by_cases f0 : f = 0
        · subst f0
          have HZ := Lib.hid (HD.out (by decide))
          have H3 := Lib.hid (show cntTo r.st 3 (k + 1) = a3 by rw [H3.out]; simp)
          have H2 := Lib.hid (show cntTo r.st 2 (k + 1) = a2 by rw [H2.out]; simp)
          have H1 := Lib.hid (show cntTo r.st 1 (k + 1) = a1 by rw [H1.out]; simp)
          have H0 := Lib.hid (show cntTo r.st 0 (k + 1) = a0 + 1 by rw [H0.out]; simp)
          clear HC HD
          go_wp2
          go_roundw
          case rel => first | exact ⟨k + 1, by omega, by rw [H3.out], by rw [H1.out], by rw [H2.out], by rw [H0.out]; go_num, by go_num, HZ.out, hE2⟩ | ((repeat apply Exists.intro); exact ⟨⟨k + 1, by omega, by rw [H3.out], by rw [H1.out], by rw [H2.out], by rw [H0.out]; go_num, by go_num, HZ.out, hE2⟩, rfl⟩)
          case measure => simp [intOf]; omega
        · have f0' : (((f : Nat) : Int) != 0) = true := by simp [f0]
          have HZ := Lib.hid (HC.out 2 (by simp [cellFault, f0]) (by decide))
          clear HC HD H0 H1 H2 H3 f0
          go_wp2
          go_ret
          exact ⟨ret_int HZ.out.symm, hE.trans hE2⟩
      by_cases z1 : s = 1
      · subst z1
        by_cases f0 : 4095 < f
        · have f0' : (4095 : Int) < ((f : Nat) : Int) := by omega
          have HZ := Lib.hid (HC.out 2 (by simp [cellFault, f0]) (by decide))
          clear HC HD H0 H1 H2 H3 f0
          go_wp2
          go_ret
          exact ⟨ret_int HZ.out.symm, hE.trans hE2⟩
        · have f0' : ¬ (4095 : Int) < ((f : Nat) : Int) := by omega
          have HZ := Lib.hid (HD.out (by simp [cellFault, f0]))
          have H3 := Lib.hid (show cntTo r.st 3 (k + 1) = a3 by rw [H3.out]; simp)
          have H2 := Lib.hid (show cntTo r.st 2 (k + 1) = a2 by rw [H2.out]; simp)
          have H1 := Lib.hid (show cntTo r.st 1 (k + 1) = a1 + 1 by rw [H1.out]; simp)
          have H0 := Lib.hid (show cntTo r.st 0 (k + 1) = a0 by rw [H0.out]; simp)
          clear HC HD f0
          go_wp2
          go_roundw
          case rel => first | exact ⟨k + 1, by omega, by rw [H3.out], by rw [H1.out]; go_num, by rw [H2.out], by rw [H0.out], by go_num, HZ.out, hE2⟩ | ((repeat apply Exists.intro); exact ⟨⟨k + 1, by omega, by rw [H3.out], by rw [H1.out]; go_num, by rw [H2.out], by rw [H0.out], by go_num, HZ.out, hE2⟩, rfl⟩)
          case measure => simp [intOf]; omega
      by_cases z2 : s = 2
      · subst z2
        by_cases f0 : 4095 < f
        · have f0' : (4095 : Int) < ((f : Nat) : Int) := by omega
          have HZ := Lib.hid (HC.out 2 (by simp [cellFault, f0]) (by decide))
          clear HC HD H0 H1 H2 H3 f0
          go_wp2
          go_ret
          exact ⟨ret_int HZ.out.symm, hE.trans hE2⟩
        · have f0' : ¬ (4095 : Int) < ((f : Nat) : Int) := by omega
          have HZ := Lib.hid (HD.out (by simp [cellFault, f0]))
          have H3 := Lib.hid (show cntTo r.st 3 (k + 1) = a3 by rw [H3.out]; simp)
          have H2 := Lib.hid (show cntTo r.st 2 (k + 1) = a2 + 1 by rw [H2.out]; simp)
          have H1 := Lib.hid (show cntTo r.st 1 (k + 1) = a1 by rw [H1.out]; simp)
          have H0 := Lib.hid (show cntTo r.st 0 (k + 1) = a0 by rw [H0.out]; simp)
          clear HC HD f0
          go_wp2
          go_roundw
          case rel => first | exact ⟨k + 1, by omega, by rw [H3.out], by rw [H1.out], by rw [H2.out]; go_num, by rw [H0.out], by go_num, HZ.out, hE2⟩ | ((repeat apply Exists.intro); exact ⟨⟨k + 1, by omega, by rw [H3.out], by rw [H1.out], by rw [H2.out]; go_num, by rw [H0.out], by go_num, HZ.out, hE2⟩, rfl⟩)
          case measure => simp [intOf]; omega
      by_cases z3 : s = 3
      · subst z3
        by_cases f0 : 4095 < f
        · have f0' : (4095 : Int) < ((f : Nat) : Int) := by omega
          have HZ := Lib.hid (HC.out 2 (by simp [cellFault, f0]) (by decide))
          clear HC HD H0 H1 H2 H3 f0
          go_wp2
          go_ret
          exact ⟨ret_int HZ.out.symm, hE.trans hE2⟩
        · have f0' : ¬ (4095 : Int) < ((f : Nat) : Int) := by omega
          have HZ := Lib.hid (HD.out (by simp [cellFault, f0]))
          have H3 := Lib.hid (show cntTo r.st 3 (k + 1) = a3 + 1 by rw [H3.out]; simp)
          have H2 := Lib.hid (show cntTo r.st 2 (k + 1) = a2 by rw [H2.out]; simp)
          have H1 := Lib.hid (show cntTo r.st 1 (k + 1) = a1 by rw [H1.out]; simp)
          have H0 := Lib.hid (show cntTo r.st 0 (k + 1) = a0 by rw [H0.out]; simp)
          clear HC HD f0
          go_wp2
          go_roundw
          case rel => first | exact ⟨k + 1, by omega, by rw [H3.out]; go_num, by rw [H1.out], by rw [H2.out], by rw [H0.out], by go_num, HZ.out, hE2⟩ | ((repeat apply Exists.intro); exact ⟨⟨k + 1, by omega, by rw [H3.out]; go_num, by rw [H1.out], by rw [H2.out], by rw [H0.out], by go_num, HZ.out, hE2⟩, rfl⟩)
          case measure => simp [intOf]; omega
      omega
    · obtain rfl : k = 64 := by omega
      have HP := Lib.hid (show checkP r = tailF r by rw [HP.out, if_pos A.out])
      clear A HN hlt hk hn1 hn2
      have hR := hR1.ext hE2
      have hE := hE.trans hE2
      clear hE2 hR1
      have e01 := some_cnt h 0 1
      have e32 := some_cnt h 3 2
      have ea3 := all_cnt h 3
      have b3 := cntTo_le r.st 3 64
      have b2 := cntTo_le r.st 2 64
      have b1 := cntTo_le r.st 1 64
      have b0 := cntTo_le r.st 0 64
      generalize cntTo r.st 3 64 = a3 at *
      generalize cntTo r.st 2 64 = a2 at *
      generalize cntTo r.st 1 64 = a1 at *
      generalize cntTo r.st 0 64 = a0 at *
      have E01 := Lib.hid e01
      have E32 := Lib.hid e32
      have EA3 := Lib.hid ea3
      clear e01 e32 ea3
      have hso : ∀ x : ExtW wr, x.val.cell? ⟨w.heap.size, 129, none⟩ = some (.bool r.sound) := fun x => (hR.ext x.ext).sound h
      have hnm : ∀ x : ExtW wr, x.val.cell? ⟨w.heap.size, 0, none⟩ = some (.int .i64 r.num) := fun x => (hR.ext x.ext).num h
      have ca := fun x : ExtW wr => rsound_any r.f x.val h.f
      have cn := fun x : ExtW wr => r4number_any r.f x.val h.f
      by_cases s1 : r.sound = true
      · rw [s1] at hso
        by_cases s2 : soundB r.f = true
        · rw [s2] at ca
          by_cases s3 : ((numV r.f : Nat) : Int) = r.num
          · have s3' : (((numV r.f : Nat) : Int) != r.num) = false := by simp [s3]
            by_cases s4 : 0 < a0 + a1
            · have HP2 := Lib.hid (show checkP r = 2 by rw [HP.out]; simp [tailF, s1, E01.out, s4])
              have s4' : (0 : Int) < (a0 : Int) + (a1 : Int) := by omega
              clear HP s1 s2 s3 s4
              go_wp2
              refine wp_region_ext (by kernel_rfl) (by kernel_rfl) ?_
              repeat (go_big_quiet_step (fail))
              refine BigFrame.wpQuiet_want rfl fun K hK => ?_
              refine quiet_load_blk _ _ rfl w.heap.size 1 rfl 64 _ _ _ _ (by rintro _ ⟨x, rfl⟩; exact (hR.ext x.ext)) Tryz.underlying27 rfl info_frame (by rw [encR_size h]; omega) (encF r.f) (encR_ext_f h) (hK _ ?_)
              clear hK K
              simp only [Act.put, List.setIfInBounds_toArray, List.set_cons_zero, List.set_cons_succ]
              repeat (go_big_quiet_step ((first | (go_at_call 29; refine calls_ext (ca _)) | (go_at_call 30; refine calls_ext (cn _)))))
              refine BigFrame.wpQuiet_want rfl fun K hK => ?_
              refine quiet_load_blk _ _ rfl w.heap.size 1 rfl 64 _ _ _ _ (by rintro _ ⟨x, rfl⟩; exact (hR.ext x.ext)) Tryz.underlying27 rfl info_frame (by rw [encR_size h]; omega) (encF r.f) (encR_ext_f h) (hK _ ?_)
              clear hK K
              simp only [Act.put, List.setIfInBounds_toArray, List.set_cons_zero, List.set_cons_succ]
              repeat (go_big_quiet_step ((first | (go_at_call 29; refine calls_ext (ca _)) | (go_at_call 30; refine calls_ext (cn _)))))
              refine wpQuiet_nil ?_
              rintro _ ⟨x, rfl⟩
              go_wp2
              go_ret
              exact ⟨ret_int HP2.out.symm, hE.trans x.ext⟩
            · have s4' : ¬ (0 : Int) < (a0 : Int) + (a1 : Int) := by omega
              have HP := Lib.hid (show checkP r = if decide (r.copies < 0) || (r.copies == 0 && (a3 == 64)) then 9 else if r.conf then 2 else 0 by
                rw [HP.out]
                simp only [tailF, s1, soundAsB, s2, E01.out, EA3.out, s3, beq_self_eq_true, Bool.true_and, Bool.not_true, Bool.false_or, Bool.false_and, Bool.and_true, if_false, Bool.false_eq_true, decide_eq_false s4])
              clear s1 s2 s3 s4
              go_wp2
              refine wp_region_ext (by kernel_rfl) (by kernel_rfl) ?_
              repeat (go_big_quiet_step (fail))
              refine BigFrame.wpQuiet_want rfl fun K hK => ?_
              refine quiet_load_blk _ _ rfl w.heap.size 1 rfl 64 _ _ _ _ (by rintro _ ⟨x, rfl⟩; exact (hR.ext x.ext)) Tryz.underlying27 rfl info_frame (by rw [encR_size h]; omega) (encF r.f) (encR_ext_f h) (hK _ ?_)
              clear hK K
              simp only [Act.put, List.setIfInBounds_toArray, List.set_cons_zero, List.set_cons_succ]
              repeat (go_big_quiet_step ((first | (go_at_call 29; refine calls_ext (ca _)) | (go_at_call 30; refine calls_ext (cn _)))))
              refine BigFrame.wpQuiet_want rfl fun K hK => ?_
              refine quiet_load_blk _ _ rfl w.heap.size 1 rfl 64 _ _ _ _ (by rintro _ ⟨x, rfl⟩; exact (hR.ext x.ext)) Tryz.underlying27 rfl info_frame (by rw [encR_size h]; omega) (encF r.f) (encR_ext_f h) (hK _ ?_)
              clear hK K
              simp only [Act.put, List.setIfInBounds_toArray, List.set_cons_zero, List.set_cons_succ]
              repeat (go_big_quiet_step ((first | (go_at_call 29; refine calls_ext (ca _)) | (go_at_call 30; refine calls_ext (cn _)))))
              refine wpQuiet_nil ?_
              rintro _ ⟨x, rfl⟩
              have hc1 := (hR.ext x.ext).copies h
              have hc2 := (hR.ext x.ext).conf h
              have hc3 := hso x
              by_cases t1 : r.copies < 0
              · have HP2 := Lib.hid (show checkP r = 9 by rw [HP.out]; simp [t1])
                clear HP
                go_wp2
                go_ret
                exact ⟨ret_int HP2.out.symm, hE.trans x.ext⟩
              · cases t2 : (r.copies == 0) with
                | true =>
                  by_cases t3 : a3 = 64
                  · have HP2 := Lib.hid (show checkP r = 9 by rw [HP.out]; simp [t1, t2, t3])
                    subst t3
                    clear HP
                    go_wp2
                    go_ret
                    exact ⟨ret_int HP2.out.symm, hE.trans x.ext⟩
                  · have t3' : (((a3 : Nat) : Int) == 64) = false := by simp; omega
                    have HP2 := Lib.hid (show checkP r = if r.conf then 2 else 0 by rw [HP.out]; simp [t1, t2, t3])
                    clear HP t3
                    cases t4 : r.conf with
                    | true =>
                      rw [t4] at hc2
                      rw [t4] at HP2
                      go_wp2
                      go_ret
                      exact ⟨ret_int HP2.out.symm, hE.trans x.ext⟩
                    | false =>
                      rw [t4] at hc2
                      rw [t4] at HP2
                      go_wp2
                      go_ret
                      exact ⟨ret_int HP2.out.symm, hE.trans x.ext⟩
                | false =>
                  have HP2 := Lib.hid (show checkP r = if r.conf then 2 else 0 by rw [HP.out]; simp [t1, t2])
                  clear HP
                  cases t4 : r.conf with
                  | true =>
                    rw [t4] at hc2
                    rw [t4] at HP2
                    go_wp2
                    go_ret
                    exact ⟨ret_int HP2.out.symm, hE.trans x.ext⟩
                  | false =>
                    rw [t4] at hc2
                    rw [t4] at HP2
                    go_wp2
                    go_ret
                    exact ⟨ret_int HP2.out.symm, hE.trans x.ext⟩
          · have s3' : (((numV r.f : Nat) : Int) != r.num) = true := by simp [s3]
            have HP2 := Lib.hid (show checkP r = 2 by rw [HP.out]; simp [tailF, s1, soundAsB, s2, s3])
            clear HP s1 s2 s3
            go_wp2
            refine wp_region_ext (by kernel_rfl) (by kernel_rfl) ?_
            repeat (go_big_quiet_step (fail))
            refine BigFrame.wpQuiet_want rfl fun K hK => ?_
            refine quiet_load_blk _ _ rfl w.heap.size 1 rfl 64 _ _ _ _ (by rintro _ ⟨x, rfl⟩; exact (hR.ext x.ext)) Tryz.underlying27 rfl info_frame (by rw [encR_size h]; omega) (encF r.f) (encR_ext_f h) (hK _ ?_)
            clear hK K
            simp only [Act.put, List.setIfInBounds_toArray, List.set_cons_zero, List.set_cons_succ]
            repeat (go_big_quiet_step ((first | (go_at_call 29; refine calls_ext (ca _)) | (go_at_call 30; refine calls_ext (cn _)))))
            refine BigFrame.wpQuiet_want rfl fun K hK => ?_
            refine quiet_load_blk _ _ rfl w.heap.size 1 rfl 64 _ _ _ _ (by rintro _ ⟨x, rfl⟩; exact (hR.ext x.ext)) Tryz.underlying27 rfl info_frame (by rw [encR_size h]; omega) (encF r.f) (encR_ext_f h) (hK _ ?_)
            clear hK K
            simp only [Act.put, List.setIfInBounds_toArray, List.set_cons_zero, List.set_cons_succ]
            repeat (go_big_quiet_step ((first | (go_at_call 29; refine calls_ext (ca _)) | (go_at_call 30; refine calls_ext (cn _)))))
            refine wpQuiet_nil ?_
            rintro _ ⟨x, rfl⟩
            go_wp2
            go_ret
            exact ⟨ret_int HP2.out.symm, hE.trans x.ext⟩
        · have s2' : soundB r.f = false := by simpa using s2
          rw [s2'] at ca
          have HP2 := Lib.hid (show checkP r = 2 by rw [HP.out]; simp [tailF, s1, soundAsB, s2'])
          clear HP s1 s2 s2'
          go_wp2
          refine wp_region_ext (by kernel_rfl) (by kernel_rfl) ?_
          repeat (go_big_quiet_step (fail))
          refine BigFrame.wpQuiet_want rfl fun K hK => ?_
          refine quiet_load_blk _ _ rfl w.heap.size 1 rfl 64 _ _ _ _ (by rintro _ ⟨x, rfl⟩; exact (hR.ext x.ext)) Tryz.underlying27 rfl info_frame (by rw [encR_size h]; omega) (encF r.f) (encR_ext_f h) (hK _ ?_)
          clear hK K
          simp only [Act.put, List.setIfInBounds_toArray, List.set_cons_zero, List.set_cons_succ]
          repeat (go_big_quiet_step ((first | (go_at_call 29; refine calls_ext (ca _)) | (go_at_call 30; refine calls_ext (cn _)))))
          refine wpQuiet_nil ?_
          rintro _ ⟨x, rfl⟩
          go_wp2
          go_ret
          exact ⟨ret_int HP2.out.symm, hE.trans x.ext⟩
      · have s1' : r.sound = false := by simpa using s1
        rw [s1'] at hso
        by_cases s4 : 0 < a3 + a2
        · have s4' : (0 : Int) < (a3 : Int) + (a2 : Int) := by omega
          have HP2 := Lib.hid (show checkP r = 2 by rw [HP.out]; simp [tailF, s1', E32.out, s4])
          clear HP s1 s1' s4
          go_wp2
          refine wp_region_ext (by kernel_rfl) (by kernel_rfl) ?_
          repeat (go_big_quiet_step (fail))
          refine wpQuiet_nil ?_
          rintro _ ⟨x, rfl⟩
          have hc1 := (hR.ext x.ext).copies h
          have hc2 := (hR.ext x.ext).conf h
          have hc3 := hso x
          go_wp2
          go_ret
          exact ⟨ret_int HP2.out.symm, hE.trans x.ext⟩
        · have s4' : ¬ (0 : Int) < (a3 : Int) + (a2 : Int) := by omega
          have HP := Lib.hid (show checkP r = if decide (r.copies < 0) then 9 else 0 by
            rw [HP.out]
            simp [tailF, s1', E32.out, decide_eq_false s4])
          clear s1 s1' s4
          go_wp2
          refine wp_region_ext (by kernel_rfl) (by kernel_rfl) ?_
          repeat (go_big_quiet_step (fail))
          refine wpQuiet_nil ?_
          rintro _ ⟨x, rfl⟩
          have hc1 := (hR.ext x.ext).copies h
          have hc2 := (hR.ext x.ext).conf h
          have hc3 := hso x
          by_cases t1 : r.copies < 0
          · have HP2 := Lib.hid (show checkP r = 9 by rw [HP.out]; simp [t1])
            clear HP
            go_wp2
            go_ret
            exact ⟨ret_int HP2.out.symm, hE.trans x.ext⟩
          · have HP2 := Lib.hid (show checkP r = 0 by rw [HP.out]; simp [t1])
            clear HP
            cases t2 : (r.copies == 0) with
            | true =>
              cases t4 : r.conf with
              | true =>
                rw [t4] at hc2
                go_wp2
                go_ret
                exact ⟨ret_int HP2.out.symm, hE.trans x.ext⟩
              | false =>
                rw [t4] at hc2
                go_wp2
                go_ret
                exact ⟨ret_int HP2.out.symm, hE.trans x.ext⟩
            | false =>
              cases t4 : r.conf with
              | true =>
                rw [t4] at hc2
                go_wp2
                go_ret
                exact ⟨ret_int HP2.out.symm, hE.trans x.ext⟩
              | false =>
                rw [t4] at hc2
                go_wp2
                go_ret
                exact ⟨ret_int HP2.out.symm, hE.trans x.ext⟩
end Go.Proofs.YtplddeboinhkbaaGreatDoorRR

/- The reference's restsFault, allGood and agreed. -/

import Derived.Test.YtplddeboinhkbaaGreatDoorRRProg
import Derived.Test.YtplddeboinhkbaaGreatDoorRRRefE
import Derived.Test.YtplddeboinhkbaaGreatDoorRRPlainLaw
namespace Go.Proofs.YtplddeboinhkbaaGreatDoorRR
open Go.RowKit
set_option maxHeartbeats 1000000 in
theorem restsFault_any (b o c : Nat) (l : List SR) (w : World) (hl : l.length < 10000) (hR : RsAt w b o l) (hO : RsOk l) :
    Calls Tryz.prog 21 #[.slice (some ⟨b, o, none⟩) l.length c] w fun e w' => e = .returned (.int .i64 (chkAll l)) ∧ Ext w w' := by
  obtain ⟨n, hn⟩ : ∃ n, n = l.length := ⟨_, rfl⟩
  rw [← hn] at hl ⊢
  have HL := Lib.hid hn
  clear hn
  go_enter Tryz.func21, Tryz.ntmps21
  go_wp2
  go_loopw [8] (fun i wr => ∃ k : Nat, k ≤ n ∧ i = .int .i64 k ∧ Aside (chkTo l k = 0) ∧ Ext w wr) (fun i _ => n - (intOf i).toNat)
  case atStart => exact ⟨0, by omega, rfl, (show Aside _ from rfl), Ext.refl w⟩
  case round =>
    obtain ⟨k, hk, rfl, A, hE⟩ := hrel
    by_cases hlt : k < n
    · have hkl : k < l.length := by rw [← HL.out]; exact hlt
      have hRw := hR.ext hE
      have hO := hO k hkl
      have hc := rcheckRest_any (rv l k)
      have HC := Lib.hid (show ∀ e, checkP (rv l k) = e → e ≠ 0 → chkAll l = e from fun e he hne => chkAll_at l k hkl A.out he hne)
      have HD := Lib.hid (show checkP (rv l k) = 0 → chkTo l (k + 1) = 0 from fun he => by rw [chkTo, if_pos A.out, he])
      obtain ⟨ce, hce⟩ : ∃ ce, ce = checkP (rv l k) := ⟨_, rfl⟩
      rw [← hce] at hc HC HD
      clear hce
      go_wp2_with ((with_reducible refine stop_load 30 rfl ?_))
      apply Stop.go
      refine load_elem rfl _ rfl hRw k hkl rfl ?_
      simp only [Act.put, List.setIfInBounds_toArray, List.set_cons_zero, List.set_cons_succ]
      go_wp2_with ((with_reducible refine stop_store 30 rfl ?_))
      apply Stop.go
      refine wpList_world fun w1 e1 => ?_
      have hEa := Ext.of_eq e1
      clear e1
      refine store_rest rfl _ _ rfl wr.heap.size rfl (rv l k) hO rfl _ (hEa.heap (block_new wr _)) zero_rest fun w2 u2 => ?_
      have hE2 := (ext_of_alloc _ hEa).upd (by simp) u2
      have hE2 := hE.trans hE2
      have hR2 : RAt w2 wr.heap.size (rv l k) := u2.here
      clear u2 hEa w1
      dsimp only [Act.put]
      go_wp2_with ((with_reducible refine stop_load 30 rfl ?_))
      apply Stop.go
      refine wpList_load_blk rfl _ _ rfl wr.heap.size 0 rfl 132 _ _ _ _ hR2 Tryz.underlying30 rfl info_rest (by rw [encR_size hO]; omega) (encR (rv l k)) (encR_whole hO) ?_
      simp only [Act.put, List.setIfInBounds_toArray, List.set_cons_zero, List.set_cons_succ]
      by_cases hz : ce = 0
      · subst hz
        have HZ := Lib.hid (HD.out rfl)
        go_wp2_with fail
        refine (hc _ hO).mono ?_
        rintro e w3 ⟨rfl, hE3⟩
        go_wp2
        go_roundw
        case rel => first | exact ⟨k + 1, by omega, by go_num, HZ.out, hE2.trans hE3⟩ | ((repeat apply Exists.intro); exact ⟨⟨k + 1, by omega, by go_num, HZ.out, hE2.trans hE3⟩, rfl⟩)
        case measure => simp [intOf]; omega
      · have hz' : (ce != 0) = true := by simpa using hz
        have HZ := Lib.hid (HC.out ce rfl hz)
        clear hz
        go_wp2_with fail
        refine (hc _ hO).mono ?_
        rintro e w3 ⟨rfl, hE3⟩
        go_wp2
        go_ret
        exact ⟨ret_int HZ.out.symm, hE2.trans hE3⟩
    · obtain rfl : k = n := by omega
      have HZ := Lib.hid (show chkAll l = 0 by rw [chkAll, ← HL.out]; exact A.out)
      go_wp2
      go_ret
      exact ⟨ret_int HZ.out.symm, hE⟩
theorem rallGood_any (r : SR) (w : World) (h : RestOk r) :
    Calls Tryz.prog 43 #[.agg (encR r)] w fun e w' => e = .returned (.bool (allB r 3)) ∧ Ext w w' := by
  have HA := Lib.hid (allB_iff h 3)
  generalize allB r 3 = z at HA ⊢
  go_enter Tryz.func43, Tryz.ntmps43
  go_wp2_with ((with_reducible refine stop_load 28 rfl ?_))
  apply Stop.go
  refine wpList_world fun w1 e1 => ?_
  have hE1 := Ext.of_eq e1
  clear e1
  have hR1 : RAt w1 w.heap.size r := hE1.heap (block_new w _)
  have hE := ext_of_alloc _ hE1
  clear hE1
  refine wpList_load_blk rfl _ _ rfl w.heap.size 65 rfl 64 _ _ _ _ hR1 Tryz.underlying28 rfl info_states (by rw [encR_size h]; omega) (encS r.st) (encR_ext_st h) ?_
  simp only [Act.put, List.setIfInBounds_toArray, List.set_cons_zero, List.set_cons_succ]
  go_wp2
  go_loopw [7] (fun i wr => ∃ k : Nat, k ≤ 64 ∧ i = .int .i64 k ∧ Aside (∀ j, j < k → sv r.st j = 3) ∧ Ext w1 wr) (fun i _ => 64 - (intOf i).toNat)
  case atStart => exact ⟨0, by omega, rfl, (show Aside _ from fun j hj => by omega), Ext.refl w1⟩
  case round =>
    obtain ⟨k, hk, rfl, A, hE2⟩ := hrel
    by_cases hlt : k < 64
    · have hi := fun w : World => index_states h.st k hlt w
      by_cases h3 : sv r.st k = 3
      · have A2 : Aside (∀ j, j < k + 1 → sv r.st j = 3) := fun j hj => by
          rcases Nat.lt_succ_iff_lt_or_eq.1 hj with e | e
          · exact A.out j e
          · subst e; exact h3
        rw [h3] at hi
        clear h3
        go_wp2
        go_roundw
        case rel => first | exact ⟨k + 1, by omega, by go_num, A2, hE2⟩ | ((repeat apply Exists.intro); exact ⟨⟨k + 1, by omega, by go_num, A2, hE2⟩, rfl⟩)
        case measure => simp [intOf]; omega
      · have h3' : (sv r.st k != 3) = true := by simpa using h3
        have HZ := Lib.hid (show z = false by
          cases z with
          | false => rfl
          | true => exact absurd (HA.out.1 rfl k hlt) h3)
        clear h3
        go_wp2
        go_ret
        exact ⟨ret_bool HZ.out.symm, hE.trans hE2⟩
    · obtain rfl : k = 64 := by omega
      have HZ := Lib.hid (HA.out.2 A.out)
      go_wp2
      go_ret
      exact ⟨ret_bool HZ.out.symm, hE.trans hE2⟩
/-- Do all rests that have word i agree on it, and has one it? -/
def agB (l : List SR) (i : Nat) : Bool := !(pa l i l.length).1 && (pa l i l.length).2.1
theorem pa_stays (l : List SR) (i k : Nat) (h : (pa l i k).1 = true) : ∀ n, k ≤ n → (pa l i n).1 = true
  | 0, hk => by obtain rfl : k = 0 := by omega
                exact h
  | n + 1, hk => by
    by_cases e : k = n + 1
    · rw [← e]; exact h
    · have := pa_stays l i k h n (by omega)
      unfold pa
      split
      · exact this
      · simp [this]
def AgPost (a : Nat) (b : Bool) (w : World) (e : Ending) (w' : World) : Prop := e = .returned (.tuple #[.int .u16 (a : Nat), .bool b]) ∧ Ext w w'
set_option maxHeartbeats 1000000 in
theorem ragreed_any (b o c : Nat) (l : List SR) (i : Nat) (w : World) (hi : i < 64) (hl : l.length < 10000) (hR : RsAt w b o l) (hO : RsOk l) :
    Calls Tryz.prog 44 #[.slice (some ⟨b, o, none⟩) l.length c, .int .i64 i] w (AgPost (pw l i) (agB l i) w) := by
  have HW := Lib.hid (show pw l i = if (pa l i l.length).1 then 0 else (pa l i l.length).2.2 from rfl)
  have HG := Lib.hid (show agB l i = (!(pa l i l.length).1 && (pa l i l.length).2.1) from rfl)
  generalize pw l i = a at HW ⊢
  generalize agB l i = z at HG ⊢
  obtain ⟨n, hn⟩ : ∃ n, n = l.length := ⟨_, rfl⟩
  rw [← hn] at hl HW HG ⊢
  have HL := Lib.hid hn
  have hi' : ((i : Nat) : Int) < 64 := by omega
  clear hn
  go_enter Tryz.func44, Tryz.ntmps44
  go_wp2
  go_loopw [6, 7, 12] (fun s6 s7 s12 wr => ∃ k : Nat, k ≤ n ∧ s6 = .int .u16 ((pa l i k).2.2 : Nat) ∧ s7 = .bool (pa l i k).2.1 ∧ s12 = .int .i64 k ∧ Aside ((pa l i k).1 = false) ∧ Ext w wr) (fun _ _ s12 _ => n - (intOf s12).toNat)
  case atStart => exact ⟨0, by omega, rfl, rfl, rfl, (show Aside _ from rfl), Ext.refl w⟩
  case round =>
    obtain ⟨k, hk, rfl, rfl, rfl, A, hE⟩ := hrel
    by_cases hlt : k < n
    · have hkl : k < l.length := by rw [← HL.out]; exact hlt
      have hRw := hR.ext hE
      have hOk := hO k hkl
      have hb := pa_lt hO i k (by omega)
      have HB0 := Lib.hid (show sv (rv l k).st i = 0 → pa l i (k + 1) = pa l i k from fun h => by simp [pa, h])
      have HB1 := Lib.hid (show ¬ sv (rv l k).st i = 0 → pa l i (k + 1) = ((pa l i k).1 || ((pa l i k).2.1 && ((pa l i k).2.2 != wd (rv l k).f i)), true, wd (rv l k).f i) from fun h => by simp [pa, h])
      have HS := Lib.hid (show (pa l i (k + 1)).1 = true → a = 0 ∧ z = false from fun h => by
        have := pa_stays l i (k + 1) h n hlt
        rw [HW.out, HG.out, this]
        exact ⟨rfl, rfl⟩)
      go_wp2_with ((with_reducible refine stop_load 30 rfl ?_))
      apply Stop.go
      refine load_elem rfl _ rfl hRw k hkl rfl ?_
      simp only [Act.put, List.setIfInBounds_toArray, List.set_cons_zero, List.set_cons_succ]
      go_wp2_with ((with_reducible refine stop_store 30 rfl ?_))
      apply Stop.go
      refine wpList_world fun w1 e1 => ?_
      have hEa := Ext.of_eq e1
      clear e1
      refine store_rest rfl _ _ rfl wr.heap.size rfl (rv l k) hOk rfl _ (hEa.heap (block_new wr _)) zero_rest fun w2 u2 => ?_
      have hE2 := (ext_of_alloc _ hEa).upd (by simp) u2
      have hE2 := hE.trans hE2
      have hR2 : RAt w2 wr.heap.size (rv l k) := u2.here
      clear u2 hEa w1
      dsimp only [Act.put]
      obtain ⟨r, hr⟩ : ∃ r, r = rv l k := ⟨_, rfl⟩
      rw [← hr] at hR2 hOk HB0 HB1
      clear hr hRw hR
      have hcs := hR2.st hOk i hi
      by_cases s0 : sv r.st i = 0
      · rw [s0] at hcs
        have HB := Lib.hid (HB0.out s0)
        clear HB0 HB1 HS s0
        have A2 : Aside ((pa l i (k + 1)).1 = false) := by
          show (pa l i (k + 1)).1 = false
          rw [HB.out]
          exact A.out
        generalize hq : pa l i k = q at HB hb ⊢
        clear hq A
        go_wp2
        go_roundw
        case rel => first | exact ⟨k + 1, by omega, by rw [HB.out], by rw [HB.out], by go_num, A2, hE2⟩ | ((repeat apply Exists.intro); exact ⟨⟨k + 1, by omega, by rw [HB.out], by rw [HB.out], by go_num, A2, hE2⟩, rfl⟩)
        case measure => simp [intOf]; omega
      · have s0' : (sv r.st i == 0) = false := by simp [s0]
        have HB := Lib.hid (HB1.out s0)
        clear HB0 HB1 s0
        have hcf := hR2.f hOk i hi
        have hbf := hOk.f.2 i
        have A2 := Lib.hid A.out
        clear A
        generalize (pa l i k).1 = d at HB A2
        generalize (pa l i k).2.1 = p at HB ⊢
        generalize (pa l i k).2.2 = fv at HB hb ⊢
        obtain ⟨rf, hrf⟩ : ∃ rf, rf = wd r.f i := ⟨_, rfl⟩
        rw [← hrf] at hcf HB hbf
        clear hrf hR2
        cases p with
        | false =>
          have HB := Lib.hid (show pa l i (k + 1) = (false, true, rf) by rw [HB.out, A2.out]; rfl)
          have A3 : Aside ((pa l i (k + 1)).1 = false) := by
            show (pa l i (k + 1)).1 = false
            rw [HB.out]
          clear HS A2
          go_wp2
          go_roundw
          case rel => first | exact ⟨k + 1, by omega, by rw [HB.out], by rw [HB.out], by go_num, A3, hE2⟩ | ((repeat apply Exists.intro); exact ⟨⟨k + 1, by omega, by rw [HB.out], by rw [HB.out], by go_num, A3, hE2⟩, rfl⟩)
          case measure => simp [intOf]; omega
        | true =>
          cases hne : (fv != rf) with
          | true =>
            have hne' : (((fv : Nat) : Int) != ((rf : Nat) : Int)) = true := ne_int (by simpa using hne)
            have HZ := Lib.hid (HS.out (by rw [HB.out, hne]; simp))
            clear HS HB A2 hne
            go_wp2
            go_ret2
            exact ⟨by rw [HZ.out.1, HZ.out.2]; rfl, hE2⟩
          | false =>
            have hne' : (((fv : Nat) : Int) != ((rf : Nat) : Int)) = false := nne_int (by simpa using hne)
            have HB := Lib.hid (show pa l i (k + 1) = (false, true, rf) by rw [HB.out, A2.out, hne]; rfl)
            have A3 : Aside ((pa l i (k + 1)).1 = false) := by
              show (pa l i (k + 1)).1 = false
              rw [HB.out]
            clear HS A2 hne
            go_wp2
            go_roundw
            case rel => first | exact ⟨k + 1, by omega, by rw [HB.out], by rw [HB.out], by go_num, A3, hE2⟩ | ((repeat apply Exists.intro); exact ⟨⟨k + 1, by omega, by rw [HB.out], by rw [HB.out], by go_num, A3, hE2⟩, rfl⟩)
            case measure => simp [intOf]; omega
    · obtain rfl : k = n := by omega
      have HZ := Lib.hid (show a = (pa l i k).2.2 ∧ z = (pa l i k).2.1 by
        rw [HW.out, HG.out, A.out]
        simp)
      clear A
      generalize (pa l i k).2.2 = fv at HZ ⊢
      generalize (pa l i k).2.1 = p at HZ ⊢
      go_wp2
      go_ret2
      exact ⟨by rw [HZ.out.1, HZ.out.2]; rfl, hE⟩
end Go.Proofs.YtplddeboinhkbaaGreatDoorRR

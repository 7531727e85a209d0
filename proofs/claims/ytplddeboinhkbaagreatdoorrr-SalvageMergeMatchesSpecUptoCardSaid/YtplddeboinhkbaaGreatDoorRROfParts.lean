/- The program's ofParts: word by word, what all rests agree on. -/

import Derived.Test.YtplddeboinhkbaaGreatDoorRRProg
import Derived.Test.YtplddeboinhkbaaGreatDoorRROfSound
namespace Go.Proofs.YtplddeboinhkbaaGreatDoorRR
open Go.RowKit
/-- Of word i, behind k rests: do they differ, has one the word, the word last seen. -/
def pa (l : List SR) (i : Nat) : Nat → Bool × Bool × Nat
  | 0 => (false, false, 0)
  | k + 1 => if sv (rv l k).st i = 0 then pa l i k else ((pa l i k).1 || ((pa l i k).2.1 && ((pa l i k).2.2 != wd (rv l k).f i)), true, wd (rv l k).f i)
def p1 (b : Bool) : Int := if b then 1 else 0
def pw (l : List SR) (i : Nat) : Nat := if (pa l i l.length).1 then 0 else (pa l i l.length).2.2
def ps (l : List SR) (i : Nat) : Int := if (pa l i l.length).1 then 0 else p1 (pa l i l.length).2.1
def parF (l : List SR) (i : Nat) : List Nat := (List.range 64).map fun j => if j < i then pw l j else 0
def parS (l : List SR) (i : Nat) : List Int := (List.range 64).map fun j => if j < i then ps l j else 0
/-- The first i words are done. -/
def par (l : List SR) (o : SR) (i : Nat) : SR := { o with f := parF l i, st := parS l i }
/-- And of word i the first k rests have been looked at. -/
def parI (l : List SR) (o : SR) (i k : Nat) : SR := { o with f := (parF l i).set i (pa l i k).2.2, st := (parS l i).set i (p1 (pa l i k).2.1) }
theorem parF_length (l : List SR) (i : Nat) : (parF l i).length = 64 := by simp [parF]
theorem parS_length (l : List SR) (i : Nat) : (parS l i).length = 64 := by simp [parS]
theorem pa_lt {l : List SR} (hO : RsOk l) (i : Nat) : ∀ k, k ≤ l.length → (pa l i k).2.2 < 65536
  | 0, _ => by simp [pa]
  | k + 1, hk => by
    unfold pa
    split
    · exact pa_lt hO i k (by omega)
    · exact (hO k (by omega)).f.2 i
theorem pw_lt {l : List SR} (hO : RsOk l) (i : Nat) : pw l i < 65536 := by
  unfold pw
  split
  · omega
  · exact pa_lt hO i _ (Nat.le_refl _)
theorem frameOk_map (g : Nat → Nat) (h : ∀ j, g j < 65536) : FrameOk ((List.range 64).map g) :=
  ⟨by simp, fun k => by
    unfold wd
    rw [List.getD_eq_getElem?_getD, List.getElem?_map]
    by_cases hk : k < 64
    · simp [hk, h k]
    · simp [hk]⟩
theorem parF_ok {l : List SR} (hO : RsOk l) (i : Nat) : FrameOk (parF l i) := frameOk_map _ fun j => by
  split
  · exact pw_lt hO j
  · omega
theorem par_ok {l : List SR} (hO : RsOk l) (o : SR) (i : Nat) : RestOk (par l o i) := ⟨parF_ok hO i, parS_length l i⟩
theorem parI_ok {l : List SR} (hO : RsOk l) (o : SR) (i k : Nat) (hi : i < 64) (hk : k ≤ l.length) : RestOk (parI l o i k) :=
  ⟨(parF_ok hO i).set i _ hi (pa_lt hO i k hk), by simp [parI, parS_length]⟩
theorem parI_zero (l : List SR) (o : SR) (i : Nat) (_hi : i < 64) : parI l o i 0 = par l o i := by
  have h1 : (parF l i).set i 0 = parF l i := by
    apply List.ext_getElem (by simp)
    intro j h1 h2
    rw [List.getElem_set]
    split
    · rename_i e; subst e; simp [parF]
    · rfl
  have h2 : (parS l i).set i 0 = parS l i := by
    apply List.ext_getElem (by simp)
    intro j h1 h2
    rw [List.getElem_set]
    split
    · rename_i e; subst e; simp [parS]
    · rfl
  simp [parI, par, pa, p1, h1, h2]
theorem parF_set (l : List SR) (i : Nat) (_hi : i < 64) : (parF l i).set i (pw l i) = parF l (i + 1) := by
  apply List.ext_getElem (by simp [parF])
  intro j h1 h2
  rw [List.getElem_set]
  split
  · rename_i e; subst e; simp [parF]
  · rename_i e
    simp only [parF, List.getElem_map, List.getElem_range]
    by_cases h3 : j < i
    · simp [h3, show j < i + 1 from by omega]
    · simp [h3, show ¬ j < i + 1 from by omega]
theorem parS_set (l : List SR) (i : Nat) (_hi : i < 64) : (parS l i).set i (ps l i) = parS l (i + 1) := by
  apply List.ext_getElem (by simp [parS])
  intro j h1 h2
  rw [List.getElem_set]
  split
  · rename_i e; subst e; simp [parS]
  · rename_i e
    simp only [parS, List.getElem_map, List.getElem_range]
    by_cases h3 : j < i
    · simp [h3, show j < i + 1 from by omega]
    · simp [h3, show ¬ j < i + 1 from by omega]
theorem parI_end_true (l : List SR) (o : SR) (i : Nat) (hi : i < 64) (h : (pa l i l.length).1 = true) :
    par l o (i + 1) = { parI l o i l.length with st := (parI l o i l.length).st.set i 0, f := (parI l o i l.length).f.set i 0 } := by
  have h1 := parF_set l i hi
  have h2 := parS_set l i hi
  simp only [pw, ps, h, if_true] at h1 h2
  simp [par, parI, List.set_set, h1, h2]
theorem parI_end_false (l : List SR) (o : SR) (i : Nat) (hi : i < 64) (h : (pa l i l.length).1 = false) : par l o (i + 1) = parI l o i l.length := by
  have h1 := parF_set l i hi
  have h2 := parS_set l i hi
  simp only [pw, ps, h, if_false, Bool.false_eq_true] at h1 h2
  simp [par, parI, h1, h2]
theorem parI_stay (l : List SR) (o : SR) (i k : Nat) (h : sv (rv l k).st i = 0) : parI l o i (k + 1) = parI l o i k := by simp [parI, pa, h]
theorem parI_step (l : List SR) (o : SR) (i k : Nat) (h : ¬ sv (rv l k).st i = 0) :
    parI l o i (k + 1) = { parI l o i k with st := (parI l o i k).st.set i 1, f := (parI l o i k).f.set i (wd (rv l k).f i) } := by
  simp [parI, pa, h, p1, List.set_set]
theorem parI_st (l : List SR) (o : SR) (i k : Nat) (hi : i < 64) : sv (parI l o i k).st i = p1 (pa l i k).2.1 := by
  simp [parI, sv, List.getD_eq_getElem?_getD, parS_length, hi]
theorem parI_f (l : List SR) (o : SR) (i k : Nat) (hi : i < 64) : wd (parI l o i k).f i = (pa l i k).2.2 := by
  simp [parI, wd, List.getD_eq_getElem?_getD, parF_length, hi]
set_option maxRecDepth 100000 in
set_option maxHeartbeats 4000000 in
theorem ofParts_any (g b o c : Nat) (l : List SR) (o0 : SR) (w : World) (hl : l.length < 10000) (hR : RsAt w b o l) (hbg : b ≠ g) (hG : RAt w g (par l o0 0)) (hgw : g < w.heap.size) (hO : RsOk l) :
    Calls Tryz.prog 41 #[.pointer (some ⟨g, 0, none⟩), .slice (some ⟨b, o, none⟩) l.length c] w fun e w' => e = .returned (.tuple #[]) ∧ RAt w' g (par l o0 64) ∧ Mod g w w' := by
  obtain ⟨n, hn⟩ : ∃ n, n = l.length := ⟨_, rfl⟩
  have HL := Lib.hid hn
  rw [← hn] at hl ⊢
  clear hn
  go_enter Tryz.func41, Tryz.ntmps41
  go_wp2
  go_loopw [8] (fun s8 wr => ∃ i : Nat, i ≤ 64 ∧ s8 = .int .i64 i ∧ Aside (RAt wr g (par l o0 i)) ∧ Mod g w wr) (fun s8 _ => 64 - (intOf s8).toNat)
  case atStart => exact ⟨0, by omega, rfl, hG, Mod.refl g w⟩
  case round =>
    obtain ⟨i, hi, rfl, B0, hM0⟩ := hrel
    by_cases hlt : i < 64
    · have hG0 := B0.out
      have hlt' : ((i : Nat) : Int) < 64 := by omega
      clear hG B0
      go_wp2
      go_loopw [5, 13] (fun s5 s13 wr => ∃ k : Nat, k ≤ n ∧ s5 = .bool (pa l i k).1 ∧ s13 = .int .i64 k ∧ Aside (RAt wr g (parI l o0 i k)) ∧ Mod g w wr) (fun _ s13 _ => n - (intOf s13).toNat)
      case atStart => exact ⟨0, by omega, rfl, rfl, (by rw [parI_zero l o0 i hlt]; exact hG0), hM0⟩
      case round =>
        obtain ⟨k, hk, rfl, rfl, B, hM⟩ := hrel
        by_cases hlk : k < n
        · have hkl : k < l.length := by rw [← HL.out]; exact hlk
          have hRw := hR.mod hM hbg
          have hOk := hO k hkl
          have hqo := parI_ok hO o0 i k hlt (by omega)
          have hqs := parI_st l o0 i k hlt
          have hqf := parI_f l o0 i k hlt
          have HB0 := Lib.hid (parI_stay l o0 i k)
          have HB1 := Lib.hid (parI_step l o0 i k)
          have HD0 := Lib.hid (show sv (rv l k).st i = 0 → (pa l i (k + 1)).1 = (pa l i k).1 from fun h => by simp [pa, h])
          have HD1 := Lib.hid (show ¬ sv (rv l k).st i = 0 → (pa l i (k + 1)).1 = ((pa l i k).1 || ((pa l i k).2.1 && ((pa l i k).2.2 != wd (rv l k).f i))) from fun h => by simp [pa, h])
          have hGq : RAt wr g (parI l o0 i k) := B.out
          clear B hG0
          generalize parI l o0 i k = q at hqo hqs hqf HB0 HB1 hGq
          generalize (pa l i k).1 = d at HD0 HD1 ⊢
          generalize (pa l i k).2.1 = p at HD0 HD1 hqs ⊢
          generalize (pa l i k).2.2 = fv at HD0 HD1 hqf ⊢
          obtain ⟨r, hr⟩ : ∃ r, r = rv l k := ⟨_, rfl⟩
          rw [← hr] at HB0 HB1 HD0 HD1
          go_wp2_with ((with_reducible refine stop_load 30 rfl ?_))
          apply Stop.go
          refine load_elem rfl _ rfl hRw k hkl rfl ?_
          simp only [Act.put, List.setIfInBounds_toArray, List.set_cons_zero, List.set_cons_succ]
          go_wp2_with ((with_reducible refine stop_store 30 rfl ?_))
          apply Stop.go
          refine wpList_world fun w1 e1 => ?_
          have hEa := Ext.of_eq e1
          clear e1
          refine store_rest rfl _ _ rfl wr.heap.size rfl (rv l k) hOk rfl _ (hEa.heap (block_new wr _)) zero_rest fun w2 u2 => ?_
          have hE2 := (ext_of_alloc _ hEa).upd (by simp) u2
          have hM2 := hM.ext hE2
          have hR2 : RAt w2 wr.heap.size (rv l k) := u2.here
          have hG2 := hGq.ext hE2
          clear u2 hEa w1 hRw hE2 hGq
          dsimp only [Act.put]
          rw [← hr] at hR2 hOk ⊢
          clear hr
          have hcs := hR2.st hOk i hlt
          by_cases s0 : sv r.st i = 0
          · rw [s0] at hcs
            have HB := Lib.hid (HB0.out s0)
            have HD := Lib.hid (HD0.out s0)
            clear HB0 HB1 HD0 HD1 s0
            go_wp2
            have hB : Aside (RAt w2 g (parI l o0 i (k + 1))) := by
              show RAt w2 g (parI l o0 i (k + 1))
              rw [HB.out]
              exact hG2
            go_roundw
            case rel => first | exact ⟨k + 1, by omega, by rw [HD.out], by go_num, hB, hM2⟩ | ((repeat apply Exists.intro); exact ⟨⟨k + 1, by omega, by rw [HD.out], by go_num, hB, hM2⟩, rfl⟩)
            case measure => simp [intOf]; omega
          · have s0' : (sv r.st i == 0) = false := by simp [s0]
            have HB := Lib.hid (HB1.out s0)
            have HD := Lib.hid (HD1.out s0)
            clear HB0 HB1 HD0 HD1 s0
            have cq1 : ∀ x : ExtW w2, x.val.cell? ⟨g, 65 + i, none⟩ = some (.int .i64 (p1 p)) := fun x => by rw [← hqs]; exact (hG2.ext x.ext).st hqo i hlt
            have cq2 : ∀ x : ExtW w2, x.val.cell? ⟨g, 1 + i, none⟩ = some (.int .u16 (fv : Nat)) := fun x => by rw [← hqf]; exact (hG2.ext x.ext).f hqo i hlt
            have cr : ∀ x : ExtW w2, x.val.cell? ⟨wr.heap.size, 1 + i, none⟩ = some (.int .u16 (wd r.f i : Nat)) := fun x => (hR2.ext x.ext).f hOk i hlt
            obtain ⟨rf, hrf⟩ : ∃ rf, rf = wd r.f i := ⟨_, rfl⟩
            have hrl : rf < 65536 := by rw [hrf]; exact hOk.f.2 i
            rw [← hrf] at cr HD HB
            have HRF := Lib.hid hrf
            clear hrf
            cases hd : d with
            | true =>
              rw [hd] at HD
              have HD := Lib.hid (show (pa l i (k + 1)).1 = true by rw [HD.out]; rfl)
              go_wp2
              refine wp_region_ext (by kernel_rfl) (by kernel_rfl) ?_
              repeat (go_big_quiet_step (fail))
              refine wpQuiet_nil ?_
              rintro _ ⟨x, rfl⟩
              have hG3 := hG2.ext x.ext
              have hR3 := hR2.ext x.ext
              have hM3 := hM2.ext x.ext
              generalize x.val = w3 at hG3 hR3 hM3 ⊢
              clear hcs cq1 cq2 cr hG2 hR2 hM2 x
              have hng : wr.heap.size ≠ g := by have := hM.size; omega
              have q1o : RestOk { q with st := q.st.set i 1 } := ⟨hqo.f, by simp [hqo.st]⟩
              have q2o : RestOk { q with st := q.st.set i 1, f := q.f.set i rf } := ⟨hqo.f.set i rf hlt hrl, by simp [hqo.st]⟩
              obtain ⟨S, hS⟩ : ∃ S : Nat → World → Prop, S = fun k w' => Mod g w3 w' ∧ RAt w' g (pr3 q { q with st := q.st.set i 1 } { q with st := q.st.set i 1, f := q.f.set i rf } k) := ⟨_, rfl⟩
              have hcr : ∀ x : InS S, x.val.cell? ⟨wr.heap.size, 1 + i, none⟩ = some (.int .u16 (rf : Nat)) := fun x => by
                have hk := x.ok
                generalize x.val = y at hk ⊢
                obtain ⟨k, hk⟩ := hk
                rw [hS] at hk
                rw [HRF.out]
                exact (hR3.mod hk.1 hng).f hOk i hlt
              have HS := Lib.hid hS
              clear hS
              go_wp2
              refine wp_region_stores2 [11, 15] S (by kernel_rfl) (by kernel_rfl) (by kernel_rfl) (by rw [HS.out]; exact ⟨(Mod.refl g w3).ext (Ext.refl w3).drew, hG3.ext (Ext.refl w3).drew⟩) fun hNE => ?_
              simp only [List.map_cons, List.map_nil, idle1, isStore, if_true, if_false, Bool.false_eq_true, idle]
              repeat (go_big_quiet_step (fail))
              refine wpQuiet_nil ?_
              refine stores_two 11 15 rfl rfl (fun w4 hw => ?_) (fun w4 hw => ?_) fun w4 hw => ?_
              · rw [HS.out] at hw ⊢
                have hw2 : RAt w4 g q := hw.2
                refine exec_store1k (P := Tryz.prog) 3 _ _ rfl g (65 + i) rfl (.int .i64 1) rfl _ _ hw2 info_int (by rw [encR_size hqo]; omega) rfl fun w5 u => ⟨hw.1.upd u, ?_⟩
                have h2 := u.here
                rw [setR_st hqo i hlt] at h2
                exact h2
              · rw [HS.out] at hw ⊢
                have hw2 : RAt w4 g { q with st := q.st.set i 1 } := hw.2
                refine exec_store1k (P := Tryz.prog) 25 _ _ rfl g (1 + i) rfl (.int .u16 (rf : Nat)) rfl _ _ hw2 info_u16 (by rw [encR_size q1o]; omega) rfl fun w5 u => ⟨hw.1.upd u, ?_⟩
                have h2 := u.here
                rw [setR_f q1o i hlt] at h2
                exact h2
              rw [HS.out] at hw
              have hw2 : RAt w4 g { q with st := q.st.set i 1, f := q.f.set i rf } := hw.2
              have hM4 := hM3.trans hw.1
              clear hw hM3 hR3 hG3 hNE hcr HS S w3
              have hB : Aside (RAt w4 g (parI l o0 i (k + 1))) := by
                show RAt w4 g (parI l o0 i (k + 1))
                rw [HB.out]
                exact hw2
              go_wp2
              go_roundw
              case rel => first | exact ⟨k + 1, by omega, by rw [HD.out], by go_num, hB, hM4⟩ | ((repeat apply Exists.intro); exact ⟨⟨k + 1, by omega, by rw [HD.out], by go_num, hB, hM4⟩, rfl⟩)
              case measure => simp [intOf]; omega
            | false =>
              rw [hd] at HD
              cases hp : p with
              | false =>
                rw [hp] at HD hqs
                replace cq1 : ∀ x : ExtW w2, x.val.cell? ⟨g, 65 + i, none⟩ = some (.int .i64 0) := fun x => by rw [cq1 x, hp]; rfl
                have HD := Lib.hid (show (pa l i (k + 1)).1 = false by rw [HD.out]; rfl)
                go_wp2
                refine wp_region_ext (by kernel_rfl) (by kernel_rfl) ?_
                repeat (go_big_quiet_step (fail))
                refine wpQuiet_nil ?_
                rintro _ ⟨x, rfl⟩
                have hG3 := hG2.ext x.ext
                have hR3 := hR2.ext x.ext
                have hM3 := hM2.ext x.ext
                generalize x.val = w3 at hG3 hR3 hM3 ⊢
                clear hcs cq1 cq2 cr hG2 hR2 hM2 x
                have hng : wr.heap.size ≠ g := by have := hM.size; omega
                have q1o : RestOk { q with st := q.st.set i 1 } := ⟨hqo.f, by simp [hqo.st]⟩
                have q2o : RestOk { q with st := q.st.set i 1, f := q.f.set i rf } := ⟨hqo.f.set i rf hlt hrl, by simp [hqo.st]⟩
                obtain ⟨S, hS⟩ : ∃ S : Nat → World → Prop, S = fun k w' => Mod g w3 w' ∧ RAt w' g (pr3 q { q with st := q.st.set i 1 } { q with st := q.st.set i 1, f := q.f.set i rf } k) := ⟨_, rfl⟩
                have hcr : ∀ x : InS S, x.val.cell? ⟨wr.heap.size, 1 + i, none⟩ = some (.int .u16 (rf : Nat)) := fun x => by
                  have hk := x.ok
                  generalize x.val = y at hk ⊢
                  obtain ⟨k, hk⟩ := hk
                  rw [hS] at hk
                  rw [HRF.out]
                  exact (hR3.mod hk.1 hng).f hOk i hlt
                have HS := Lib.hid hS
                clear hS
                go_wp2
                refine wp_region_stores2 [11, 15] S (by kernel_rfl) (by kernel_rfl) (by kernel_rfl) (by rw [HS.out]; exact ⟨(Mod.refl g w3).ext (Ext.refl w3).drew, hG3.ext (Ext.refl w3).drew⟩) fun hNE => ?_
                simp only [List.map_cons, List.map_nil, idle1, isStore, if_true, if_false, Bool.false_eq_true, idle]
                repeat (go_big_quiet_step (fail))
                refine wpQuiet_nil ?_
                refine stores_two 11 15 rfl rfl (fun w4 hw => ?_) (fun w4 hw => ?_) fun w4 hw => ?_
                · rw [HS.out] at hw ⊢
                  have hw2 : RAt w4 g q := hw.2
                  refine exec_store1k (P := Tryz.prog) 3 _ _ rfl g (65 + i) rfl (.int .i64 1) rfl _ _ hw2 info_int (by rw [encR_size hqo]; omega) rfl fun w5 u => ⟨hw.1.upd u, ?_⟩
                  have h2 := u.here
                  rw [setR_st hqo i hlt] at h2
                  exact h2
                · rw [HS.out] at hw ⊢
                  have hw2 : RAt w4 g { q with st := q.st.set i 1 } := hw.2
                  refine exec_store1k (P := Tryz.prog) 25 _ _ rfl g (1 + i) rfl (.int .u16 (rf : Nat)) rfl _ _ hw2 info_u16 (by rw [encR_size q1o]; omega) rfl fun w5 u => ⟨hw.1.upd u, ?_⟩
                  have h2 := u.here
                  rw [setR_f q1o i hlt] at h2
                  exact h2
                rw [HS.out] at hw
                have hw2 : RAt w4 g { q with st := q.st.set i 1, f := q.f.set i rf } := hw.2
                have hM4 := hM3.trans hw.1
                clear hw hM3 hR3 hG3 hNE hcr HS S w3
                have hB : Aside (RAt w4 g (parI l o0 i (k + 1))) := by
                  show RAt w4 g (parI l o0 i (k + 1))
                  rw [HB.out]
                  exact hw2
                go_wp2
                go_roundw
                case rel => first | exact ⟨k + 1, by omega, by rw [HD.out], by go_num, hB, hM4⟩ | ((repeat apply Exists.intro); exact ⟨⟨k + 1, by omega, by rw [HD.out], by go_num, hB, hM4⟩, rfl⟩)
                case measure => simp [intOf]; omega
              | true =>
                rw [hp] at HD hqs
                replace cq1 : ∀ x : ExtW w2, x.val.cell? ⟨g, 65 + i, none⟩ = some (.int .i64 1) := fun x => by rw [cq1 x, hp]; rfl
                cases hne : (fv != rf) with
                | true =>
                  rw [hne] at HD
                  have HD := Lib.hid (show (pa l i (k + 1)).1 = true by rw [HD.out]; rfl)
                  have hne' : (((fv : Nat) : Int) != ((rf : Nat) : Int)) = true := ne_int (by simpa using hne)
                  clear hne
                  go_wp2
                  refine wp_region_ext (by kernel_rfl) (by kernel_rfl) ?_
                  repeat (go_big_quiet_step (fail))
                  refine wpQuiet_nil ?_
                  rintro _ ⟨x, rfl⟩
                  have hG3 := hG2.ext x.ext
                  have hR3 := hR2.ext x.ext
                  have hM3 := hM2.ext x.ext
                  generalize x.val = w3 at hG3 hR3 hM3 ⊢
                  clear hcs cq1 cq2 cr hG2 hR2 hM2 x
                  have hng : wr.heap.size ≠ g := by have := hM.size; omega
                  have q1o : RestOk { q with st := q.st.set i 1 } := ⟨hqo.f, by simp [hqo.st]⟩
                  have q2o : RestOk { q with st := q.st.set i 1, f := q.f.set i rf } := ⟨hqo.f.set i rf hlt hrl, by simp [hqo.st]⟩
                  obtain ⟨S, hS⟩ : ∃ S : Nat → World → Prop, S = fun k w' => Mod g w3 w' ∧ RAt w' g (pr3 q { q with st := q.st.set i 1 } { q with st := q.st.set i 1, f := q.f.set i rf } k) := ⟨_, rfl⟩
                  have hcr : ∀ x : InS S, x.val.cell? ⟨wr.heap.size, 1 + i, none⟩ = some (.int .u16 (rf : Nat)) := fun x => by
                    have hk := x.ok
                    generalize x.val = y at hk ⊢
                    obtain ⟨k, hk⟩ := hk
                    rw [hS] at hk
                    rw [HRF.out]
                    exact (hR3.mod hk.1 hng).f hOk i hlt
                  have HS := Lib.hid hS
                  clear hS
                  go_wp2
                  refine wp_region_stores2 [11, 15] S (by kernel_rfl) (by kernel_rfl) (by kernel_rfl) (by rw [HS.out]; exact ⟨(Mod.refl g w3).ext (Ext.refl w3).drew, hG3.ext (Ext.refl w3).drew⟩) fun hNE => ?_
                  simp only [List.map_cons, List.map_nil, idle1, isStore, if_true, if_false, Bool.false_eq_true, idle]
                  repeat (go_big_quiet_step (fail))
                  refine wpQuiet_nil ?_
                  refine stores_two 11 15 rfl rfl (fun w4 hw => ?_) (fun w4 hw => ?_) fun w4 hw => ?_
                  · rw [HS.out] at hw ⊢
                    have hw2 : RAt w4 g q := hw.2
                    refine exec_store1k (P := Tryz.prog) 3 _ _ rfl g (65 + i) rfl (.int .i64 1) rfl _ _ hw2 info_int (by rw [encR_size hqo]; omega) rfl fun w5 u => ⟨hw.1.upd u, ?_⟩
                    have h2 := u.here
                    rw [setR_st hqo i hlt] at h2
                    exact h2
                  · rw [HS.out] at hw ⊢
                    have hw2 : RAt w4 g { q with st := q.st.set i 1 } := hw.2
                    refine exec_store1k (P := Tryz.prog) 25 _ _ rfl g (1 + i) rfl (.int .u16 (rf : Nat)) rfl _ _ hw2 info_u16 (by rw [encR_size q1o]; omega) rfl fun w5 u => ⟨hw.1.upd u, ?_⟩
                    have h2 := u.here
                    rw [setR_f q1o i hlt] at h2
                    exact h2
                  rw [HS.out] at hw
                  have hw2 : RAt w4 g { q with st := q.st.set i 1, f := q.f.set i rf } := hw.2
                  have hM4 := hM3.trans hw.1
                  clear hw hM3 hR3 hG3 hNE hcr HS S w3
                  have hB : Aside (RAt w4 g (parI l o0 i (k + 1))) := by
                    show RAt w4 g (parI l o0 i (k + 1))
                    rw [HB.out]
                    exact hw2
                  go_wp2
                  go_roundw
                  case rel => first | exact ⟨k + 1, by omega, by rw [HD.out], by go_num, hB, hM4⟩ | ((repeat apply Exists.intro); exact ⟨⟨k + 1, by omega, by rw [HD.out], by go_num, hB, hM4⟩, rfl⟩)
                  case measure => simp [intOf]; omega
                | false =>
                  rw [hne] at HD
                  have HD := Lib.hid (show (pa l i (k + 1)).1 = false by rw [HD.out]; rfl)
                  have hne' : (((fv : Nat) : Int) != ((rf : Nat) : Int)) = false := nne_int (by simpa using hne)
                  clear hne
                  go_wp2
                  refine wp_region_ext (by kernel_rfl) (by kernel_rfl) ?_
                  repeat (go_big_quiet_step (fail))
                  refine wpQuiet_nil ?_
                  rintro _ ⟨x, rfl⟩
                  have hG3 := hG2.ext x.ext
                  have hR3 := hR2.ext x.ext
                  have hM3 := hM2.ext x.ext
                  generalize x.val = w3 at hG3 hR3 hM3 ⊢
                  clear hcs cq1 cq2 cr hG2 hR2 hM2 x
                  have hng : wr.heap.size ≠ g := by have := hM.size; omega
                  have q1o : RestOk { q with st := q.st.set i 1 } := ⟨hqo.f, by simp [hqo.st]⟩
                  have q2o : RestOk { q with st := q.st.set i 1, f := q.f.set i rf } := ⟨hqo.f.set i rf hlt hrl, by simp [hqo.st]⟩
                  obtain ⟨S, hS⟩ : ∃ S : Nat → World → Prop, S = fun k w' => Mod g w3 w' ∧ RAt w' g (pr3 q { q with st := q.st.set i 1 } { q with st := q.st.set i 1, f := q.f.set i rf } k) := ⟨_, rfl⟩
                  have hcr : ∀ x : InS S, x.val.cell? ⟨wr.heap.size, 1 + i, none⟩ = some (.int .u16 (rf : Nat)) := fun x => by
                    have hk := x.ok
                    generalize x.val = y at hk ⊢
                    obtain ⟨k, hk⟩ := hk
                    rw [hS] at hk
                    rw [HRF.out]
                    exact (hR3.mod hk.1 hng).f hOk i hlt
                  have HS := Lib.hid hS
                  clear hS
                  go_wp2
                  refine wp_region_stores2 [11, 15] S (by kernel_rfl) (by kernel_rfl) (by kernel_rfl) (by rw [HS.out]; exact ⟨(Mod.refl g w3).ext (Ext.refl w3).drew, hG3.ext (Ext.refl w3).drew⟩) fun hNE => ?_
                  simp only [List.map_cons, List.map_nil, idle1, isStore, if_true, if_false, Bool.false_eq_true, idle]
                  repeat (go_big_quiet_step (fail))
                  refine wpQuiet_nil ?_
                  refine stores_two 11 15 rfl rfl (fun w4 hw => ?_) (fun w4 hw => ?_) fun w4 hw => ?_
                  · rw [HS.out] at hw ⊢
                    have hw2 : RAt w4 g q := hw.2
                    refine exec_store1k (P := Tryz.prog) 3 _ _ rfl g (65 + i) rfl (.int .i64 1) rfl _ _ hw2 info_int (by rw [encR_size hqo]; omega) rfl fun w5 u => ⟨hw.1.upd u, ?_⟩
                    have h2 := u.here
                    rw [setR_st hqo i hlt] at h2
                    exact h2
                  · rw [HS.out] at hw ⊢
                    have hw2 : RAt w4 g { q with st := q.st.set i 1 } := hw.2
                    refine exec_store1k (P := Tryz.prog) 25 _ _ rfl g (1 + i) rfl (.int .u16 (rf : Nat)) rfl _ _ hw2 info_u16 (by rw [encR_size q1o]; omega) rfl fun w5 u => ⟨hw.1.upd u, ?_⟩
                    have h2 := u.here
                    rw [setR_f q1o i hlt] at h2
                    exact h2
                  rw [HS.out] at hw
                  have hw2 : RAt w4 g { q with st := q.st.set i 1, f := q.f.set i rf } := hw.2
                  have hM4 := hM3.trans hw.1
                  clear hw hM3 hR3 hG3 hNE hcr HS S w3
                  have hB : Aside (RAt w4 g (parI l o0 i (k + 1))) := by
                    show RAt w4 g (parI l o0 i (k + 1))
                    rw [HB.out]
                    exact hw2
                  go_wp2
                  go_roundw
                  case rel => first | exact ⟨k + 1, by omega, by rw [HD.out], by go_num, hB, hM4⟩ | ((repeat apply Exists.intro); exact ⟨⟨k + 1, by omega, by rw [HD.out], by go_num, hB, hM4⟩, rfl⟩)
                  case measure => simp [intOf]; omega
        · obtain rfl : k = n := by omega
          have hGq : RAt wr g (parI l o0 i k) := B.out
          have hqo := parI_ok hO o0 i k hlt (by rw [← HL.out]; exact Nat.le_refl _)
          have HT := Lib.hid (parI_end_true l o0 i hlt)
          have HF := Lib.hid (parI_end_false l o0 i hlt)
          rw [← HL.out] at HT HF
          clear B hG0
          generalize parI l o0 i k = q at hGq hqo HT HF
          cases hd : (pa l i k).1 with
          | true =>
            have HB := Lib.hid (HT.out hd)
            clear HT HF hd
            have q1o : RestOk { q with st := q.st.set i 0 } := ⟨hqo.f, by simp [hqo.st]⟩
            obtain ⟨S, hS⟩ : ∃ S : Nat → World → Prop, S = fun k w' => Mod g wr w' ∧ RAt w' g (pr3 q { q with st := q.st.set i 0 } { q with st := q.st.set i 0, f := q.f.set i 0 } k) := ⟨_, rfl⟩
            have HS := Lib.hid hS
            clear hS
            go_wp2
            refine wp_region_stores2 [7, 11] S (by kernel_rfl) (by kernel_rfl) (by kernel_rfl) (by rw [HS.out]; exact ⟨(Mod.refl g wr).ext (Ext.refl wr).drew, hGq.ext (Ext.refl wr).drew⟩) fun hNE => ?_
            simp only [List.map_cons, List.map_nil, idle1, isStore, if_true, if_false, Bool.false_eq_true, idle]
            repeat (go_big_quiet_step (fail))
            refine wpQuiet_nil ?_
            refine stores_two 7 11 rfl rfl (fun w4 hw => ?_) (fun w4 hw => ?_) fun w4 hw => ?_
            · rw [HS.out] at hw ⊢
              have hw2 : RAt w4 g q := hw.2
              refine exec_store1k (P := Tryz.prog) 3 _ _ rfl g (65 + i) rfl (.int .i64 0) rfl _ _ hw2 info_int (by rw [encR_size hqo]; omega) rfl fun w5 u => ⟨hw.1.upd u, ?_⟩
              have h2 := u.here
              rw [setR_st hqo i hlt] at h2
              exact h2
            · rw [HS.out] at hw ⊢
              have hw2 : RAt w4 g { q with st := q.st.set i 0 } := hw.2
              refine exec_store1k (P := Tryz.prog) 25 _ _ rfl g (1 + i) rfl (.int .u16 ((0 : Nat) : Int)) rfl _ _ hw2 info_u16 (by rw [encR_size q1o]; omega) rfl fun w5 u => ⟨hw.1.upd u, ?_⟩
              have h2 := u.here
              rw [setR_f q1o i hlt] at h2
              exact h2
            rw [HS.out] at hw
            have hw2 : RAt w4 g { q with st := q.st.set i 0, f := q.f.set i 0 } := hw.2
            have hM4 := hM.trans hw.1
            clear hw hGq hM hNE HS S
            have hB : Aside (RAt w4 g (par l o0 (i + 1))) := by
              show RAt w4 g (par l o0 (i + 1))
              rw [HB.out]
              exact hw2
            go_wp2
            go_roundw
            case rel => first | exact ⟨i + 1, by omega, by go_num, hB, hM4⟩ | ((repeat apply Exists.intro); exact ⟨⟨i + 1, by omega, by go_num, hB, hM4⟩, rfl⟩)
            case measure => simp [intOf]; omega
          | false =>
            have hB : Aside (RAt wr g (par l o0 (i + 1))) := by
              show RAt wr g (par l o0 (i + 1))
              rw [HF.out hd]
              exact hGq
            clear HT HF hGq
            go_wp2
            go_roundw
            case rel => first | exact ⟨i + 1, by omega, by go_num, hB, hM⟩ | ((repeat apply Exists.intro); exact ⟨⟨i + 1, by omega, by go_num, hB, hM⟩, rfl⟩)
            case measure => simp [intOf]; omega
    · obtain rfl : i = 64 := by omega
      have hG0 := B0.out
      clear hG B0
      go_wp2
      go_end0
      exact ⟨rfl, hG0, hM0⟩
end Go.Proofs.YtplddeboinhkbaaGreatDoorRR

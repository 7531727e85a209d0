/- The reference's merge: what it makes of right rests of one number. -/

import Derived.Test.YtplddeboinhkbaaGreatDoorRRProg
import Derived.Test.YtplddeboinhkbaaGreatDoorRRRefF
namespace Go.Proofs.YtplddeboinhkbaaGreatDoorRR
open Go.RowKit
/-- Has one of the first k rests a conflict? -/
def cfTo (l : List SR) : Nat → Bool
  | 0 => false
  | k + 1 => cfTo l k || (rv l k).conf
theorem cfTo_any (l : List SR) : cfTo l l.length = confAny l := by
  have h : ∀ k, k ≤ l.length → cfTo l k = (l.take k).any fun r => r.conf := fun k => by
    induction k with
    | zero => simp [cfTo]
    | succ k ih =>
      intro hk
      rw [cfTo, ih (by omega), List.take_succ_eq_append_getElem (by omega), List.any_append, rv_get (by omega)]
      simp
  rw [h _ (Nat.le_refl _), List.take_length]
  rfl
/-- What the reference has behind k rests. -/
def rfTo (l : List SR) (k : Nat) : SR := { soTo l (baseR l) k with copies := copTo l k, conf := cfTo l k || soDiff l (baseR l) k }
theorem rfTo_ok {l : List SR} (hO : RsOk l) (k : Nat) (hk : k ≤ l.length) : RestOk (rfTo l k) :=
  ⟨(soTo_ok (baseR_ok l) hO k hk).f, (soTo_ok (baseR_ok l) hO k hk).st⟩
theorem rfTo_zero (l : List SR) : rfTo l 0 = zeroR (rv l 0).num := rfl
theorem soTo_conf (l : List SR) : ∀ k, (soTo l (baseR l) k).conf = false
  | 0 => rfl
  | k + 1 => by
    have := soTo_conf l k
    simp only [soTo, soStep]
    split
    · exact this
    · exact this
theorem rfTo_skip (l : List SR) (k : Nat) (h : (rv l k).sound = false) :
    rfTo l (k + 1) = { rfTo l k with copies := (rfTo l k).copies + (rv l k).copies, conf := (rfTo l k).conf || (rv l k).conf } := by
  have h1 : soTo l (baseR l) (k + 1) = soTo l (baseR l) k := by simp [soTo, soStep, h]
  have h2 : soDiff l (baseR l) (k + 1) = soDiff l (baseR l) k := by simp [soDiff, h]
  have h3 : (cfTo l (k + 1) || soDiff l (baseR l) (k + 1)) = (cfTo l k || soDiff l (baseR l) k || (rv l k).conf) := by
    rw [h2, cfTo]
    cases cfTo l k <;> cases soDiff l (baseR l) k <;> cases (rv l k).conf <;> rfl
  unfold rfTo
  rw [h1, h3, copTo]
theorem rfTo_step (l : List SR) (k : Nat) (h : (rv l k).sound = true) :
    rfTo l (k + 1) = { rfTo l k with copies := (rfTo l k).copies + (rv l k).copies, conf := ((rfTo l k).conf || (rv l k).conf) || ((rfTo l k).sound && ((rfTo l k).f != (rv l k).f)), sound := true, f := (rv l k).f, st := mixS (rfTo l k).st (rv l k).st 64 } := by
  have h1 : soTo l (baseR l) (k + 1) = { soTo l (baseR l) k with sound := true, f := (rv l k).f, st := mixS (soTo l (baseR l) k).st (rv l k).st 64 } := by simp [soTo, soStep, h]
  have h2 : soDiff l (baseR l) (k + 1) = (soDiff l (baseR l) k || ((soTo l (baseR l) k).sound && ((soTo l (baseR l) k).f != (rv l k).f))) := by simp [soDiff, h]
  have h3 : (cfTo l (k + 1) || soDiff l (baseR l) (k + 1)) = ((cfTo l k || soDiff l (baseR l) k || (rv l k).conf) || ((soTo l (baseR l) k).sound && ((soTo l (baseR l) k).f != (rv l k).f))) := by
    rw [h2, cfTo]
    cases cfTo l k <;> cases soDiff l (baseR l) k <;> cases (rv l k).conf <;> cases ((soTo l (baseR l) k).sound && ((soTo l (baseR l) k).f != (rv l k).f)) <;> rfl
  unfold rfTo
  rw [h1, h3, copTo]
/-- Do all agree on the first words? -/
def agTo (l : List SR) : Nat → Bool
  | 0 => true
  | i + 1 => agTo l i && agB l i
theorem agTo_iff (l : List SR) : ∀ n, agTo l n = true ↔ ∀ i, i < n → agB l i = true
  | 0 => by simp [agTo]
  | n + 1 => by
    rw [agTo, Bool.and_eq_true, agTo_iff l n]
    constructor
    · rintro ⟨h1, h2⟩ i hi
      rcases Nat.lt_succ_iff_lt_or_eq.1 hi with e | e
      · exact h1 i e
      · rw [e]; exact h2
    · intro h
      exact ⟨fun i hi => h i (by omega), h n (by omega)⟩
theorem ps_ag (l : List SR) (i : Nat) : ps l i = if agB l i then 1 else 0 := by
  unfold ps agB p1
  cases (pa l i l.length).1 <;> cases (pa l i l.length).2.1 <;> rfl
theorem ag_some {l : List SR} (hO : RsOk l) (o : SR) : (!someB (par l o 64) 0 0) = agTo l 64 := by
  rw [Bool.eq_iff_iff, agTo_iff, Bool.not_eq_true', someB_false (par_ok hO o 64)]
  have h : ∀ k, k < 64 → sv (par l o 64).st k = if agB l k then 1 else 0 := fun k hk => by
    show sv (parS l 64) k = _
    rw [sv_parS l 64 k hk, if_pos hk, ps_ag]
  constructor
  · intro h2 i hi
    have := (h2 i hi).1
    rw [h i hi] at this
    cases hb : agB l i with
    | true => rfl
    | false => rw [hb] at this; exact absurd rfl this
  · intro h2 k hk
    rw [h k hk, h2 k hk]
    simp
theorem par_skip (l : List SR) (o : SR) (i : Nat) (hi : i < 64) (hz : (pa l i l.length).2.1 = false → (pa l i l.length).2.2 = 0) (h : agB l i = false) : par l o (i + 1) = par l o i := by
  have h1 := parF_set l i hi
  have h2 := parS_set l i hi
  have e1 : pw l i = 0 := by
    unfold agB at h
    unfold pw
    split
    · rfl
    · rename_i h3
      have h4 : (pa l i l.length).1 = false := by simpa using h3
      rw [h4] at h
      exact hz (by simpa using h)
  have e2 : ps l i = 0 := by rw [ps_ag, h]; rfl
  rw [e1] at h1
  rw [e2] at h2
  have h3 : (parF l i).set i 0 = parF l i := by
    apply List.ext_getElem (by simp)
    intro j h1 h2
    rw [List.getElem_set]
    split
    · rename_i e; subst e; simp [parF]
    · rfl
  have h4 : (parS l i).set i 0 = parS l i := by
    apply List.ext_getElem (by simp)
    intro j h1 h2
    rw [List.getElem_set]
    split
    · rename_i e; subst e; simp [parS]
    · rfl
  unfold par
  rw [← h1, ← h2, h3, h4]
theorem par_put (l : List SR) (o : SR) (i : Nat) (hi : i < 64) (h : agB l i = true) : par l o (i + 1) = { par l o i with f := (parF l i).set i (pw l i), st := (parS l i).set i 1 } := by
  have h2 := parS_set l i hi
  rw [ps_ag, h, if_pos rfl] at h2
  unfold par
  rw [parF_set l i hi, h2]
theorem pa_none (l : List SR) (i : Nat) : ∀ k, (pa l i k).2.1 = false → (pa l i k).2.2 = 0
  | 0, _ => rfl
  | k + 1, h => by
    unfold pa at h ⊢
    split
    · rename_i h2
      rw [if_pos h2] at h
      exact pa_none l i k h
    · rename_i h2
      rw [if_neg h2] at h
      cases h
/-- The first k anew. -/
def upS (st : List Int) (s : Int) (k : Nat) : List Int := List.replicate k s ++ st.drop k
theorem upS_length {st : List Int} (h : st.length = 64) (s : Int) (k : Nat) (hk : k ≤ 64) : (upS st s k).length = 64 := by simp [upS, h]; omega
theorem upS_set {st : List Int} (h : st.length = 64) (s : Int) (k : Nat) (hk : k < 64) : (upS st s k).set k s = upS st s (k + 1) := by
  unfold upS
  rw [List.set_append_right _ _ (by simp), List.length_replicate, Nat.sub_self, List.drop_eq_getElem_cons (by omega : k < st.length), List.set_cons_zero, List.replicate_succ' (n := k)]
  simp
theorem upS_all {st : List Int} (h : st.length = 64) (s : Int) : upS st s 64 = List.replicate 64 s := by
  unfold upS
  rw [List.drop_of_length_le (by omega), List.append_nil]
theorem goodR_zero {q : SR} (h1 : q.sound = true) (h2 : allB q 3 = true) (h3 : q.copies = 0) : goodR q = { q with copies := 1 } := by
  unfold goodR
  rw [h1, h2, h3]
  rfl
theorem goodR_pos {q : SR} (h : 1 ≤ q.copies) : goodR q = q := by
  unfold goodR
  split
  · have : max q.copies 1 = q.copies := by omega
    rw [this]
  · rfl
theorem goodR_bad {q : SR} (h : allB q 3 = false) : goodR q = q := by
  unfold goodR
  rw [h, Bool.and_false]
  rfl
theorem rfTo_conf (l : List SR) : (rfTo l l.length).conf = clash l := by
  show (cfTo l l.length || soDiff l (baseR l) l.length) = clash l
  rw [cfTo_any]
  rfl
theorem rfTo_num (l : List SR) : (rfTo l l.length).num = (baseR l).num := (soTo_same l (baseR l) l.length).1
theorem rfTo_end (l : List SR) (h : clash l = false) : rfTo l l.length = soTo l (baseR l) l.length := by
  have h1 := rfTo_conf l
  rw [h] at h1
  have h2 := soTo_conf l l.length
  have h3 := (soTo_same l (baseR l) l.length).2
  have h4 : (baseR l).copies = copTo l l.length := rfl
  rw [h4] at h3
  unfold rfTo at h1 ⊢
  simp only at h1
  rw [h1, ← h2, ← h3]
theorem copTo_last {l : List SR} (h : CopOk l) (h0 : 0 < l.length) : 0 ≤ copTo l l.length := by
  obtain ⟨n, hn⟩ : ∃ n, l.length = n + 1 := ⟨l.length - 1, by omega⟩
  have := h n (by omega)
  rw [hn, copTo]
  omega
set_option maxRecDepth 100000 in
set_option maxHeartbeats 4000000 in
theorem rmerge_any (b o c : Nat) (l : List SR) (w : World) (hl : l.length < 10000) (h0 : 0 < l.length) (hR : RsAt w b o l) (hO : RsOk l) (hC : CopOk l) :
    Calls Tryz.prog 22 #[.slice (some ⟨b, o, none⟩) l.length c] w fun e w' => e = .returned (.agg (encR (mergeP l))) ∧ Ext w w' := by
  have hbw : b < w.heap.size := by
    obtain ⟨cs, t, fr, hb, _⟩ := hR
    rcases Nat.lt_or_ge b w.heap.size with h | h
    · exact h
    · rw [Array.getElem?_eq_none h] at hb; cases hb
  have hc0 : ∀ x : ExtW w, x.val.cell? ⟨b, o, none⟩ = some (.int .i64 (rv l 0).num) := fun x => by
    have := (hR.ext x.ext).cell (k := 0) h0 (j := 0) (by omega) (encR_num (hO 0 h0))
    simpa using this
  have HLast := Lib.hid (copTo_last hC h0)
  obtain ⟨n, hn⟩ : ∃ n, n = l.length := ⟨_, rfl⟩
  have HL := Lib.hid hn
  rw [← hn] at hl h0 ⊢
  clear hn
  have hc1 : ∀ ob : Obj, (w.alloc ob).cell? ⟨b, o, none⟩ = some (.int .i64 (rv l 0).num) := fun ob => hc0 ⟨w.alloc ob, (Ext.refl w).alloc ob⟩
  clear hc0
  go_enter Tryz.func22, Tryz.ntmps22
  go_wp2_with ((with_reducible refine stop_store 30 rfl ?_))
  apply Stop.go
  rw [zero_num]
  refine wpList_world fun w1 e1 => ?_
  have hE1 := Ext.of_eq e1
  clear e1 hc1
  refine store_rest rfl _ _ rfl (w.heap.size + 1) rfl (zeroR (rv l 0).num) (zeroR_ok _) rfl _ (hE1.heap (heap_alloc2_new w _ _)) zero_rest fun w2 u2 => ?_
  have hZ := u2.keep (hE1.heap (block_old _ (block_new w _))) (by omega)
  have hE2 := (ext_of_alloc _ (ext_of_alloc _ hE1)).upd (by omega) u2
  have hG : RAt w2 (w.heap.size + 1) (zeroR (rv l 0).num) := u2.here
  have hgw : w.heap.size + 1 < w2.heap.size := by
    have := hE1.size
    simp at this
    rw [u2.size]
    omega
  clear u2 hE1 w1
  dsimp only [Act.put]
  obtain ⟨g, hg⟩ : ∃ g, g = w.heap.size + 1 := ⟨_, rfl⟩
  rw [← hg] at hG hgw ⊢
  have hgz : w.heap.size < g := by omega
  clear hg
  have hbg : b ≠ g := by omega
  go_wp2
  go_loopw [20] (fun i wr => ∃ k : Nat, k ≤ n ∧ i = .int .i64 k ∧ Aside (RAt wr g (rfTo l k)) ∧ wr.heap[w.heap.size]? = some (.cells Tryz.zeroCells30 30 (0, 0)) ∧ Ext w wr ∧ g < wr.heap.size) (fun i _ => n - (intOf i).toNat)
  case atStart => exact ⟨0, by omega, rfl, hG, hZ, hE2, hgw⟩
  case round =>
    obtain ⟨k, hk, rfl, B, hZ, hE, hgr⟩ := hrel
    by_cases hlt : k < n
    · have hkl : k < l.length := by rw [← HL.out]; exact hlt
      have hRw := hR.ext hE
      have hOk := hO k hkl
      have hqo0 := rfTo_ok hO k (by omega)
      have hGq := B.out
      have HK := Lib.hid (rfTo_skip l k)
      have HT := Lib.hid (rfTo_step l k)
      have b1 := hC k hkl
      have b2 : 0 ≤ (rfTo l k).copies ∧ (rfTo l k).copies ≤ 10995116277760000 := ⟨b1.1, b1.2.1⟩
      have b3 := b1.2.2
      clear B hG hE2 hgw b1 HLast
      generalize rfTo l k = q0 at hqo0 hGq HK HT b2
      go_wp2_with ((with_reducible refine stop_load 30 rfl ?_))
      apply Stop.go
      refine load_elem rfl _ rfl hRw k hkl rfl ?_
      simp only [Act.put, List.setIfInBounds_toArray, List.set_cons_zero, List.set_cons_succ]
      go_wp2_with ((with_reducible refine stop_store 30 rfl ?_))
      apply Stop.go
      refine wpList_world fun w3 e3 => ?_
      have hEa := Ext.of_eq e3
      clear e3
      refine store_rest rfl _ _ rfl wr.heap.size rfl (rv l k) hOk rfl _ (hEa.heap (block_new wr _)) zero_rest fun w4 u4 => ?_
      have hE4 := (ext_of_alloc _ hEa).upd (by simp) u4
      have hR4 : RAt w4 wr.heap.size (rv l k) := u4.here
      have hG4 := hGq.ext hE4
      have hZ4 := hE4.heap hZ
      have hgr4 : g < w4.heap.size := Nat.lt_of_lt_of_le hgr hE4.size
      have hE4 := hE.trans hE4
      clear u4 hEa w3 hRw hGq hZ hE
      dsimp only [Act.put]
      obtain ⟨r, hr⟩ : ∃ r, r = rv l k := ⟨_, rfl⟩
      rw [← hr] at hR4 hOk HK HT b3
      clear hr
      have c1 := hG4.copies hqo0
      have c2 := hR4.copies hOk
      have hng0 : wr.heap.size ≠ g := by omega
      obtain ⟨b21, b22⟩ := b2
      obtain ⟨b31, b32⟩ := b3
      have q1o : RestOk { q0 with copies := q0.copies + r.copies } := ⟨hqo0.f, hqo0.st⟩
      go_wp2_with ((with_reducible refine stop_store 3 rfl ?_))
      apply Stop.go
      refine wpList_store1 rfl _ _ _ rfl g 130 rfl (.int .i64 (q0.copies + r.copies)) rfl _ _ hG4 info_int (by rw [encR_size hqo0]; omega) rfl fun w6 u6 => ?_
      dsimp only [Act.put]
      have hG6 := u6.here
      rw [setR_copies hqo0] at hG6
      have hR6 : RAt w6 wr.heap.size r := u6.keep hR4 hng0
      have hZ6 := u6.keep hZ4 (by omega)
      have hE6 := hE4.upd (by omega) u6
      have hgr6 : g < w6.heap.size := by rw [u6.size]; exact hgr4
      have cf1 : w6.cell? ⟨g, 131, none⟩ = some (.bool q0.conf) := RAt.conf (r := { q0 with copies := q0.copies + r.copies }) q1o hG6
      have cf2 : w6.cell? ⟨wr.heap.size, 131, none⟩ = some (.bool r.conf) := RAt.conf hOk hR6
      clear u6 hG4 hR4 hZ4 hE4 hgr4 c1 c2
      cases hqc : q0.conf with
      | true =>
        rw [hqc] at cf1
        have HCF := Lib.hid (show (q0.conf || r.conf) = true by rw [hqc]; rfl)
        clear hqc
        go_wp2_with ((with_reducible refine stop_store 4 rfl ?_))
        apply Stop.go
        refine wpList_store1 rfl _ _ _ rfl g 131 rfl (.bool true) rfl _ _ hG6 info_bool (by rw [encR_size q1o]; omega) rfl fun w7 u7 => ?_
        dsimp only [Act.put]
        have hG7 := u7.here
        rw [setR_conf q1o] at hG7
        have hR7 : RAt w7 wr.heap.size r := u7.keep hR6 hng0
        have hZ7 := u7.keep hZ6 (by omega)
        have hE7 := hE6.upd (by omega) u7
        have hgr7 : g < w7.heap.size := by rw [u7.size]; exact hgr6
        clear u7 hG6 hR6 hZ6 hE6 hgr6 cf1 cf2
        obtain ⟨q, hq⟩ : ∃ q : SR, q = { q0 with copies := q0.copies + r.copies, conf := true } := ⟨_, rfl⟩
        have hqo : RestOk q := by rw [hq]; exact ⟨hqo0.f, hqo0.st⟩
        have HK := Lib.hid (show r.sound = false → rfTo l (k + 1) = q from fun h => by rw [HK.out h, HCF.out, hq])
        have HT := Lib.hid (show r.sound = true → rfTo l (k + 1) = { q with conf := q.conf || (q.sound && (q.f != r.f)), sound := true, f := r.f, st := mixS q.st r.st 64 } from fun h => by rw [HT.out h, HCF.out, hq])
        have hG3 : RAt w7 g q := by rw [hq]; exact hG7
        clear hq hG7 HCF hqo0
        have hso := hR7.sound hOk
        have hng : wr.heap.size ≠ g := by omega
        by_cases s1 : r.sound = true
        · rw [s1] at hso
          have HT := Lib.hid (HT.out s1)
          have go1 := hG3.sound hqo
          by_cases s2 : q.sound = true
          · rw [s2] at go1
            have hne := neq_frames q.f r.f hqo.f.1 hOk.f.1
            by_cases s3 : (q.f != r.f) = true
            · rw [s3] at hne
              obtain ⟨q3, hq3⟩ : ∃ q3 : SR, q3 = { q with conf := true } := ⟨_, rfl⟩
              have hqo3 : RestOk q3 := by rw [hq3]; exact ⟨hqo.f, hqo.st⟩
              have HB := Lib.hid (show rfTo l (k + 1) = { q3 with sound := true, f := r.f, st := mixS q3.st r.st 64 } by rw [HT.out, s2, s3, hq3, Bool.and_self, Bool.or_true])
              have HQ3 := Lib.hid hq3
              clear HK HT s1 s2 s3 hq3
              go_wp2_with ((with_reducible refine stop_load 27 rfl ?_))
              apply Stop.go
              refine wpList_wanted rfl fun K hK => ?_
              refine wp_load_blk _ _ rfl g 1 rfl 64 _ _ _ _ hG3 Tryz.underlying27 rfl info_frame (by rw [encR_size hqo]; omega) (encF q.f) (encR_ext_f hqo) (hK _ _ ?_)
              clear hK K
              simp only [Act.put, List.setIfInBounds_toArray, List.set_cons_zero, List.set_cons_succ]
              go_wp2_with ((with_reducible refine stop_load 27 rfl ?_))
              apply Stop.go
              refine wpList_wanted rfl fun K hK => ?_
              refine wp_load_blk _ _ rfl wr.heap.size 1 rfl 64 _ _ _ _ hR7 Tryz.underlying27 rfl info_frame (by rw [encR_size hOk]; omega) (encF r.f) (encR_ext_f hOk) (hK _ _ ?_)
              clear hK K
              simp only [Act.put, List.setIfInBounds_toArray, List.set_cons_zero, List.set_cons_succ]
              go_wp2_with ((with_reducible refine stop_store 4 rfl ?_))
              apply Stop.go
              refine wpList_store1 rfl _ _ _ rfl g 131 rfl (.bool true) rfl _ _ hG3 info_bool (by rw [encR_size hqo]; omega) rfl fun w8 u8 => ?_
              dsimp only [Act.put]
              have hG8 := u8.here
              rw [setR_conf hqo, ← HQ3.out] at hG8
              have hR3 : RAt w8 wr.heap.size r := u8.keep hR7 hng
              have hZ3 := u8.keep hZ7 (by omega)
              have hE3 := hE7.upd (by omega) u8
              have hgr3 : g < w8.heap.size := by rw [u8.size]; exact hgr7
              clear u8 hG3 hR7 hZ7 hE7 hgr7 go1 hso hne HQ3
              have hG3 : RAt w8 g q3 := hG8
              clear hG8
              have q2o : RestOk { q3 with sound := true, f := r.f } := ⟨hOk.f, hqo3.st⟩
              have q1o : RestOk { q3 with sound := true } := ⟨hqo3.f, hqo3.st⟩
              obtain ⟨S, hS⟩ : ∃ S : Nat → World → Prop, S = fun k w' => Mod g w8 w' ∧ RAt w' g (pr3 q3 { q3 with sound := true } { q3 with sound := true, f := r.f } k) := ⟨_, rfl⟩
              have HX := Lib.hid (show ∀ k w', S k w' → RAt w' wr.heap.size r from fun k w' h => by rw [hS] at h; exact hR3.mod h.1 hng)
              have HS := Lib.hid hS
              clear hS
              go_wp2
              refine wp_region_stores2 [3, 5] S (by kernel_rfl) (by kernel_rfl) (by kernel_rfl) (by rw [HS.out]; exact ⟨(Mod.refl g w8).ext (Ext.refl w8).drew, hG3.ext (Ext.refl w8).drew⟩) fun hNE => ?_
              simp only [List.map_cons, List.map_nil, idle1, isStore, if_true, if_false, Bool.false_eq_true, idle]
              repeat (go_big_quiet_step (fail))
              refine BigFrame.wpQuiet_want rfl fun K hK => ?_
              refine quiet_load_blk _ _ rfl wr.heap.size 1 rfl 64 _ _ _ _ (by rintro _ ⟨x, rfl⟩; exact (x.ok.elim fun _ h => HX.out _ _ h)) Tryz.underlying27 rfl info_frame (by rw [encR_size hOk]; omega) (encF r.f) (encR_ext_f hOk) (hK _ ?_)
              clear hK K
              simp only [Act.put, List.setIfInBounds_toArray, List.set_cons_zero, List.set_cons_succ]
              repeat (go_big_quiet_step (fail))
              refine wpQuiet_nil ?_
              refine stores_two 3 5 rfl rfl (fun w4 hw => ?_) (fun w4 hw => ?_) fun w4 hw => ?_
              · rw [HS.out] at hw ⊢
                have hw2 : RAt w4 g q3 := hw.2
                refine exec_store1k (P := Tryz.prog) 4 _ _ rfl g 129 rfl (.bool true) rfl _ _ hw2 info_bool (by rw [encR_size hqo3]; omega) rfl fun w5 u => ⟨hw.1.upd u, ?_⟩
                have h2 := u.here
                rw [setR_sound hqo3] at h2
                exact h2
              · rw [HS.out] at hw ⊢
                have hw2 : RAt w4 g { q3 with sound := true } := hw.2
                refine exec_store_blkk (P := Tryz.prog) 27 _ _ rfl g 1 rfl (encF r.f) rfl _ _ hw2 (by rw [encF_size hOk.f]; exact info_frame) (by rw [encR_size q1o, encF_size hOk.f]; omega) (encF_one _) fun w5 u => ⟨hw.1.upd u, ?_⟩
                have h2 := u.here
                rw [setR_frame q1o _ hOk.f.1] at h2
                exact h2
              rw [HS.out] at hw
              have hw2 : RAt w4 g { q3 with sound := true, f := r.f } := hw.2
              have hR4 := hR3.mod hw.1 hng
              have hZ4 := hw.1.heap hZ3 (by omega)
              have hgr4 : g < w4.heap.size := Nat.lt_of_lt_of_le hgr3 hw.1.size
              have hE4 := hE3.mod (by omega) hw.1
              clear hw hR3 hG3 hNE HX HS S hZ3 hgr3 hE3 w8
              go_wp2_with ((with_reducible refine stop_load 28 rfl ?_))
              apply Stop.go
              refine wpList_load_blk rfl _ _ rfl wr.heap.size 65 rfl 64 _ _ _ _ hR4 Tryz.underlying28 rfl info_states (by rw [encR_size hOk]; omega) (encS r.st) (encR_ext_st hOk) ?_
              simp only [Act.put, List.setIfInBounds_toArray, List.set_cons_zero, List.set_cons_succ]
              go_wp2
              go_loopw [56] (fun i wv => ∃ j : Nat, j ≤ 64 ∧ i = .int .i64 j ∧ Aside (RAt wv g { q3 with sound := true, f := r.f, st := mixS q3.st r.st j }) ∧ wv.heap[w.heap.size]? = some (.cells Tryz.zeroCells30 30 (0, 0)) ∧ Ext w wv ∧ g < wv.heap.size) (fun i _ => 64 - (intOf i).toNat)
              case atStart => exact ⟨0, by omega, rfl, (by rw [mixS_zero q3.st r.st hqo3.st]; exact hw2), hZ4, hE4, hgr4⟩
              case round =>
                obtain ⟨j, hj, rfl, B, hZv, hEv, hgv⟩ := hrel
                by_cases hjl : j < 64
                · have hi := fun w : World => index_states hOk.st j hjl w
                  have hGv := B.out
                  have qvo : RestOk { q3 with sound := true, f := r.f, st := mixS q3.st r.st j } := ⟨hOk.f, mixS_length _ _ _⟩
                  have hcv : wr.cell? ⟨g, 65 + j, none⟩ = some (.int .i64 (sv q3.st j)) := by
                    have := hGv.st qvo j hjl
                    rw [sv_mixS _ _ _ _ hjl, if_neg (Nat.lt_irrefl j)] at this
                    exact this
                  clear B hw2 hR4 hZ4 hE4 hgr4
                  go_wp2_with ((with_reducible refine stop_store 3 rfl ?_))
                  apply Stop.go
                  refine wpList_store1 rfl _ _ _ rfl g (65 + j) rfl (.int .i64 (max (sv q3.st j) (sv r.st j))) rfl _ _ hGv info_int (by rw [encR_size qvo]; omega) rfl fun w6 u6 => ?_
                  dsimp only [Act.put]
                  have hG6 := u6.here
                  rw [setR_st qvo j hjl, mixS_set q3.st r.st j hjl] at hG6
                  have hZ6 := u6.keep hZv (by omega)
                  have hE6 := hEv.upd (by omega) u6
                  have hgr6 : g < w6.heap.size := by rw [u6.size]; exact hgv
                  clear u6 hGv hcv hZv hEv hgv
                  go_wp2
                  go_roundw
                  case rel => first | exact ⟨j + 1, by omega, by go_num, hG6, hZ6, hE6, hgr6⟩ | ((repeat apply Exists.intro); exact ⟨⟨j + 1, by omega, by go_num, hG6, hZ6, hE6, hgr6⟩, rfl⟩)
                  case measure => simp [intOf]; omega
                · obtain rfl : j = 64 := by omega
                  have hG6 : Aside (RAt wr g (rfTo l (k + 1))) := by
                    show RAt wr g (rfTo l (k + 1))
                    rw [HB.out]
                    exact B.out
                  clear B hw2 hR4 hZ4 hE4 hgr4
                  go_wp2
                  go_roundw
                  case rel => first | exact ⟨k + 1, by omega, by go_num, hG6, hZv, hEv, hgv⟩ | ((repeat apply Exists.intro); exact ⟨⟨k + 1, by omega, by go_num, hG6, hZv, hEv, hgv⟩, rfl⟩)
                  case measure => simp [intOf]; omega
            · have s3' : (q.f != r.f) = false := by simpa using s3
              rw [s3'] at hne
              have HB := Lib.hid (show rfTo l (k + 1) = { q with sound := true, f := r.f, st := mixS q.st r.st 64 } by rw [HT.out, s3', Bool.and_false, Bool.or_false])
              clear HK HT s1 s2 s3 s3'
              go_wp2_with ((with_reducible refine stop_load 27 rfl ?_))
              apply Stop.go
              refine wpList_wanted rfl fun K hK => ?_
              refine wp_load_blk _ _ rfl g 1 rfl 64 _ _ _ _ hG3 Tryz.underlying27 rfl info_frame (by rw [encR_size hqo]; omega) (encF q.f) (encR_ext_f hqo) (hK _ _ ?_)
              clear hK K
              simp only [Act.put, List.setIfInBounds_toArray, List.set_cons_zero, List.set_cons_succ]
              go_wp2_with ((with_reducible refine stop_load 27 rfl ?_))
              apply Stop.go
              refine wpList_wanted rfl fun K hK => ?_
              refine wp_load_blk _ _ rfl wr.heap.size 1 rfl 64 _ _ _ _ hR7 Tryz.underlying27 rfl info_frame (by rw [encR_size hOk]; omega) (encF r.f) (encR_ext_f hOk) (hK _ _ ?_)
              clear hK K
              simp only [Act.put, List.setIfInBounds_toArray, List.set_cons_zero, List.set_cons_succ]
              have hR3 := hR7
              have hZ3 := hZ7
              have hE3 := hE7
              have hgr3 := hgr7
              clear hR7 hZ7 hE7 hgr7 go1 hso
              have q2o : RestOk { q with sound := true, f := r.f } := ⟨hOk.f, hqo.st⟩
              have q1o : RestOk { q with sound := true } := ⟨hqo.f, hqo.st⟩
              obtain ⟨S, hS⟩ : ∃ S : Nat → World → Prop, S = fun k w' => Mod g w7 w' ∧ RAt w' g (pr3 q { q with sound := true } { q with sound := true, f := r.f } k) := ⟨_, rfl⟩
              have HX := Lib.hid (show ∀ k w', S k w' → RAt w' wr.heap.size r from fun k w' h => by rw [hS] at h; exact hR3.mod h.1 hng)
              have HS := Lib.hid hS
              clear hS
              go_wp2
              refine wp_region_stores2 [3, 5] S (by kernel_rfl) (by kernel_rfl) (by kernel_rfl) (by rw [HS.out]; exact ⟨(Mod.refl g w7).ext (Ext.refl w7).drew, hG3.ext (Ext.refl w7).drew⟩) fun hNE => ?_
              simp only [List.map_cons, List.map_nil, idle1, isStore, if_true, if_false, Bool.false_eq_true, idle]
              repeat (go_big_quiet_step (fail))
              refine BigFrame.wpQuiet_want rfl fun K hK => ?_
              refine quiet_load_blk _ _ rfl wr.heap.size 1 rfl 64 _ _ _ _ (by rintro _ ⟨x, rfl⟩; exact (x.ok.elim fun _ h => HX.out _ _ h)) Tryz.underlying27 rfl info_frame (by rw [encR_size hOk]; omega) (encF r.f) (encR_ext_f hOk) (hK _ ?_)
              clear hK K
              simp only [Act.put, List.setIfInBounds_toArray, List.set_cons_zero, List.set_cons_succ]
              repeat (go_big_quiet_step (fail))
              refine wpQuiet_nil ?_
              refine stores_two 3 5 rfl rfl (fun w4 hw => ?_) (fun w4 hw => ?_) fun w4 hw => ?_
              · rw [HS.out] at hw ⊢
                have hw2 : RAt w4 g q := hw.2
                refine exec_store1k (P := Tryz.prog) 4 _ _ rfl g 129 rfl (.bool true) rfl _ _ hw2 info_bool (by rw [encR_size hqo]; omega) rfl fun w5 u => ⟨hw.1.upd u, ?_⟩
                have h2 := u.here
                rw [setR_sound hqo] at h2
                exact h2
              · rw [HS.out] at hw ⊢
                have hw2 : RAt w4 g { q with sound := true } := hw.2
                refine exec_store_blkk (P := Tryz.prog) 27 _ _ rfl g 1 rfl (encF r.f) rfl _ _ hw2 (by rw [encF_size hOk.f]; exact info_frame) (by rw [encR_size q1o, encF_size hOk.f]; omega) (encF_one _) fun w5 u => ⟨hw.1.upd u, ?_⟩
                have h2 := u.here
                rw [setR_frame q1o _ hOk.f.1] at h2
                exact h2
              rw [HS.out] at hw
              have hw2 : RAt w4 g { q with sound := true, f := r.f } := hw.2
              have hR4 := hR3.mod hw.1 hng
              have hZ4 := hw.1.heap hZ3 (by omega)
              have hgr4 : g < w4.heap.size := Nat.lt_of_lt_of_le hgr3 hw.1.size
              have hE4 := hE3.mod (by omega) hw.1
              clear hw hR3 hG3 hNE HX HS S hZ3 hgr3 hE3 w7
              go_wp2_with ((with_reducible refine stop_load 28 rfl ?_))
              apply Stop.go
              refine wpList_load_blk rfl _ _ rfl wr.heap.size 65 rfl 64 _ _ _ _ hR4 Tryz.underlying28 rfl info_states (by rw [encR_size hOk]; omega) (encS r.st) (encR_ext_st hOk) ?_
              simp only [Act.put, List.setIfInBounds_toArray, List.set_cons_zero, List.set_cons_succ]
              go_wp2
              go_loopw [56] (fun i wv => ∃ j : Nat, j ≤ 64 ∧ i = .int .i64 j ∧ Aside (RAt wv g { q with sound := true, f := r.f, st := mixS q.st r.st j }) ∧ wv.heap[w.heap.size]? = some (.cells Tryz.zeroCells30 30 (0, 0)) ∧ Ext w wv ∧ g < wv.heap.size) (fun i _ => 64 - (intOf i).toNat)
              case atStart => exact ⟨0, by omega, rfl, (by rw [mixS_zero q.st r.st hqo.st]; exact hw2), hZ4, hE4, hgr4⟩
              case round =>
                obtain ⟨j, hj, rfl, B, hZv, hEv, hgv⟩ := hrel
                by_cases hjl : j < 64
                · have hi := fun w : World => index_states hOk.st j hjl w
                  have hGv := B.out
                  have qvo : RestOk { q with sound := true, f := r.f, st := mixS q.st r.st j } := ⟨hOk.f, mixS_length _ _ _⟩
                  have hcv : wr.cell? ⟨g, 65 + j, none⟩ = some (.int .i64 (sv q.st j)) := by
                    have := hGv.st qvo j hjl
                    rw [sv_mixS _ _ _ _ hjl, if_neg (Nat.lt_irrefl j)] at this
                    exact this
                  clear B hw2 hR4 hZ4 hE4 hgr4
                  go_wp2_with ((with_reducible refine stop_store 3 rfl ?_))
                  apply Stop.go
                  refine wpList_store1 rfl _ _ _ rfl g (65 + j) rfl (.int .i64 (max (sv q.st j) (sv r.st j))) rfl _ _ hGv info_int (by rw [encR_size qvo]; omega) rfl fun w6 u6 => ?_
                  dsimp only [Act.put]
                  have hG6 := u6.here
                  rw [setR_st qvo j hjl, mixS_set q.st r.st j hjl] at hG6
                  have hZ6 := u6.keep hZv (by omega)
                  have hE6 := hEv.upd (by omega) u6
                  have hgr6 : g < w6.heap.size := by rw [u6.size]; exact hgv
                  clear u6 hGv hcv hZv hEv hgv
                  go_wp2
                  go_roundw
                  case rel => first | exact ⟨j + 1, by omega, by go_num, hG6, hZ6, hE6, hgr6⟩ | ((repeat apply Exists.intro); exact ⟨⟨j + 1, by omega, by go_num, hG6, hZ6, hE6, hgr6⟩, rfl⟩)
                  case measure => simp [intOf]; omega
                · obtain rfl : j = 64 := by omega
                  have hG6 : Aside (RAt wr g (rfTo l (k + 1))) := by
                    show RAt wr g (rfTo l (k + 1))
                    rw [HB.out]
                    exact B.out
                  clear B hw2 hR4 hZ4 hE4 hgr4
                  go_wp2
                  go_roundw
                  case rel => first | exact ⟨k + 1, by omega, by go_num, hG6, hZv, hEv, hgv⟩ | ((repeat apply Exists.intro); exact ⟨⟨k + 1, by omega, by go_num, hG6, hZv, hEv, hgv⟩, rfl⟩)
                  case measure => simp [intOf]; omega
          · have s2' : q.sound = false := by simpa using s2
            rw [s2'] at go1
            have HB := Lib.hid (show rfTo l (k + 1) = { q with sound := true, f := r.f, st := mixS q.st r.st 64 } by rw [HT.out, s2', Bool.false_and, Bool.or_false])
            clear HK HT s1 s2 s2'
            go_wp2
            have hR3 := hR7
            have hZ3 := hZ7
            have hE3 := hE7
            have hgr3 := hgr7
            clear hR7 hZ7 hE7 hgr7 go1 hso
            have q2o : RestOk { q with sound := true, f := r.f } := ⟨hOk.f, hqo.st⟩
            have q1o : RestOk { q with sound := true } := ⟨hqo.f, hqo.st⟩
            obtain ⟨S, hS⟩ : ∃ S : Nat → World → Prop, S = fun k w' => Mod g w7 w' ∧ RAt w' g (pr3 q { q with sound := true } { q with sound := true, f := r.f } k) := ⟨_, rfl⟩
            have HX := Lib.hid (show ∀ k w', S k w' → RAt w' wr.heap.size r from fun k w' h => by rw [hS] at h; exact hR3.mod h.1 hng)
            have HS := Lib.hid hS
            clear hS
            go_wp2
            refine wp_region_stores2 [3, 5] S (by kernel_rfl) (by kernel_rfl) (by kernel_rfl) (by rw [HS.out]; exact ⟨(Mod.refl g w7).ext (Ext.refl w7).drew, hG3.ext (Ext.refl w7).drew⟩) fun hNE => ?_
            simp only [List.map_cons, List.map_nil, idle1, isStore, if_true, if_false, Bool.false_eq_true, idle]
            repeat (go_big_quiet_step (fail))
            refine BigFrame.wpQuiet_want rfl fun K hK => ?_
            refine quiet_load_blk _ _ rfl wr.heap.size 1 rfl 64 _ _ _ _ (by rintro _ ⟨x, rfl⟩; exact (x.ok.elim fun _ h => HX.out _ _ h)) Tryz.underlying27 rfl info_frame (by rw [encR_size hOk]; omega) (encF r.f) (encR_ext_f hOk) (hK _ ?_)
            clear hK K
            simp only [Act.put, List.setIfInBounds_toArray, List.set_cons_zero, List.set_cons_succ]
            repeat (go_big_quiet_step (fail))
            refine wpQuiet_nil ?_
            refine stores_two 3 5 rfl rfl (fun w4 hw => ?_) (fun w4 hw => ?_) fun w4 hw => ?_
            · rw [HS.out] at hw ⊢
              have hw2 : RAt w4 g q := hw.2
              refine exec_store1k (P := Tryz.prog) 4 _ _ rfl g 129 rfl (.bool true) rfl _ _ hw2 info_bool (by rw [encR_size hqo]; omega) rfl fun w5 u => ⟨hw.1.upd u, ?_⟩
              have h2 := u.here
              rw [setR_sound hqo] at h2
              exact h2
            · rw [HS.out] at hw ⊢
              have hw2 : RAt w4 g { q with sound := true } := hw.2
              refine exec_store_blkk (P := Tryz.prog) 27 _ _ rfl g 1 rfl (encF r.f) rfl _ _ hw2 (by rw [encF_size hOk.f]; exact info_frame) (by rw [encR_size q1o, encF_size hOk.f]; omega) (encF_one _) fun w5 u => ⟨hw.1.upd u, ?_⟩
              have h2 := u.here
              rw [setR_frame q1o _ hOk.f.1] at h2
              exact h2
            rw [HS.out] at hw
            have hw2 : RAt w4 g { q with sound := true, f := r.f } := hw.2
            have hR4 := hR3.mod hw.1 hng
            have hZ4 := hw.1.heap hZ3 (by omega)
            have hgr4 : g < w4.heap.size := Nat.lt_of_lt_of_le hgr3 hw.1.size
            have hE4 := hE3.mod (by omega) hw.1
            clear hw hR3 hG3 hNE HX HS S hZ3 hgr3 hE3 w7
            go_wp2_with ((with_reducible refine stop_load 28 rfl ?_))
            apply Stop.go
            refine wpList_load_blk rfl _ _ rfl wr.heap.size 65 rfl 64 _ _ _ _ hR4 Tryz.underlying28 rfl info_states (by rw [encR_size hOk]; omega) (encS r.st) (encR_ext_st hOk) ?_
            simp only [Act.put, List.setIfInBounds_toArray, List.set_cons_zero, List.set_cons_succ]
            go_wp2
            go_loopw [56] (fun i wv => ∃ j : Nat, j ≤ 64 ∧ i = .int .i64 j ∧ Aside (RAt wv g { q with sound := true, f := r.f, st := mixS q.st r.st j }) ∧ wv.heap[w.heap.size]? = some (.cells Tryz.zeroCells30 30 (0, 0)) ∧ Ext w wv ∧ g < wv.heap.size) (fun i _ => 64 - (intOf i).toNat)
            case atStart => exact ⟨0, by omega, rfl, (by rw [mixS_zero q.st r.st hqo.st]; exact hw2), hZ4, hE4, hgr4⟩
            case round =>
              obtain ⟨j, hj, rfl, B, hZv, hEv, hgv⟩ := hrel
              by_cases hjl : j < 64
              · have hi := fun w : World => index_states hOk.st j hjl w
                have hGv := B.out
                have qvo : RestOk { q with sound := true, f := r.f, st := mixS q.st r.st j } := ⟨hOk.f, mixS_length _ _ _⟩
                have hcv : wr.cell? ⟨g, 65 + j, none⟩ = some (.int .i64 (sv q.st j)) := by
                  have := hGv.st qvo j hjl
                  rw [sv_mixS _ _ _ _ hjl, if_neg (Nat.lt_irrefl j)] at this
                  exact this
                clear B hw2 hR4 hZ4 hE4 hgr4
                go_wp2_with ((with_reducible refine stop_store 3 rfl ?_))
                apply Stop.go
                refine wpList_store1 rfl _ _ _ rfl g (65 + j) rfl (.int .i64 (max (sv q.st j) (sv r.st j))) rfl _ _ hGv info_int (by rw [encR_size qvo]; omega) rfl fun w6 u6 => ?_
                dsimp only [Act.put]
                have hG6 := u6.here
                rw [setR_st qvo j hjl, mixS_set q.st r.st j hjl] at hG6
                have hZ6 := u6.keep hZv (by omega)
                have hE6 := hEv.upd (by omega) u6
                have hgr6 : g < w6.heap.size := by rw [u6.size]; exact hgv
                clear u6 hGv hcv hZv hEv hgv
                go_wp2
                go_roundw
                case rel => first | exact ⟨j + 1, by omega, by go_num, hG6, hZ6, hE6, hgr6⟩ | ((repeat apply Exists.intro); exact ⟨⟨j + 1, by omega, by go_num, hG6, hZ6, hE6, hgr6⟩, rfl⟩)
                case measure => simp [intOf]; omega
              · obtain rfl : j = 64 := by omega
                have hG6 : Aside (RAt wr g (rfTo l (k + 1))) := by
                  show RAt wr g (rfTo l (k + 1))
                  rw [HB.out]
                  exact B.out
                clear B hw2 hR4 hZ4 hE4 hgr4
                go_wp2
                go_roundw
                case rel => first | exact ⟨k + 1, by omega, by go_num, hG6, hZv, hEv, hgv⟩ | ((repeat apply Exists.intro); exact ⟨⟨k + 1, by omega, by go_num, hG6, hZv, hEv, hgv⟩, rfl⟩)
                case measure => simp [intOf]; omega
        · have s1' : r.sound = false := by simpa using s1
          rw [s1'] at hso
          have HB := Lib.hid (HK.out s1')
          clear HK HT s1 s1'
          have hGn : Aside (RAt w7 g (rfTo l (k + 1))) := by
            show RAt w7 g (rfTo l (k + 1))
            rw [HB.out]
            exact hG3
          clear hG3
          go_wp2
          go_roundw
          case rel => first | exact ⟨k + 1, by omega, by go_num, hGn, hZ7, hE7, hgr7⟩ | ((repeat apply Exists.intro); exact ⟨⟨k + 1, by omega, by go_num, hGn, hZ7, hE7, hgr7⟩, rfl⟩)
          case measure => simp [intOf]; omega
      | false =>
        rw [hqc] at cf1
        have HCF := Lib.hid (show (q0.conf || r.conf) = r.conf by rw [hqc]; rfl)
        clear hqc
        go_wp2_with ((with_reducible refine stop_store 4 rfl ?_))
        apply Stop.go
        refine wpList_store1 rfl _ _ _ rfl g 131 rfl (.bool r.conf) rfl _ _ hG6 info_bool (by rw [encR_size q1o]; omega) rfl fun w7 u7 => ?_
        dsimp only [Act.put]
        have hG7 := u7.here
        rw [setR_conf q1o] at hG7
        have hR7 : RAt w7 wr.heap.size r := u7.keep hR6 hng0
        have hZ7 := u7.keep hZ6 (by omega)
        have hE7 := hE6.upd (by omega) u7
        have hgr7 : g < w7.heap.size := by rw [u7.size]; exact hgr6
        clear u7 hG6 hR6 hZ6 hE6 hgr6 cf1 cf2
        obtain ⟨q, hq⟩ : ∃ q : SR, q = { q0 with copies := q0.copies + r.copies, conf := r.conf } := ⟨_, rfl⟩
        have hqo : RestOk q := by rw [hq]; exact ⟨hqo0.f, hqo0.st⟩
        have HK := Lib.hid (show r.sound = false → rfTo l (k + 1) = q from fun h => by rw [HK.out h, HCF.out, hq])
        have HT := Lib.hid (show r.sound = true → rfTo l (k + 1) = { q with conf := q.conf || (q.sound && (q.f != r.f)), sound := true, f := r.f, st := mixS q.st r.st 64 } from fun h => by rw [HT.out h, HCF.out, hq])
        have hG3 : RAt w7 g q := by rw [hq]; exact hG7
        clear hq hG7 HCF hqo0
        have hso := hR7.sound hOk
        have hng : wr.heap.size ≠ g := by omega
        by_cases s1 : r.sound = true
        · rw [s1] at hso
          have HT := Lib.hid (HT.out s1)
          have go1 := hG3.sound hqo
          by_cases s2 : q.sound = true
          · rw [s2] at go1
            have hne := neq_frames q.f r.f hqo.f.1 hOk.f.1
            by_cases s3 : (q.f != r.f) = true
            · rw [s3] at hne
              obtain ⟨q3, hq3⟩ : ∃ q3 : SR, q3 = { q with conf := true } := ⟨_, rfl⟩
              have hqo3 : RestOk q3 := by rw [hq3]; exact ⟨hqo.f, hqo.st⟩
              have HB := Lib.hid (show rfTo l (k + 1) = { q3 with sound := true, f := r.f, st := mixS q3.st r.st 64 } by rw [HT.out, s2, s3, hq3, Bool.and_self, Bool.or_true])
              have HQ3 := Lib.hid hq3
              clear HK HT s1 s2 s3 hq3
              go_wp2_with ((with_reducible refine stop_load 27 rfl ?_))
              apply Stop.go
              refine wpList_wanted rfl fun K hK => ?_
              refine wp_load_blk _ _ rfl g 1 rfl 64 _ _ _ _ hG3 Tryz.underlying27 rfl info_frame (by rw [encR_size hqo]; omega) (encF q.f) (encR_ext_f hqo) (hK _ _ ?_)
              clear hK K
              simp only [Act.put, List.setIfInBounds_toArray, List.set_cons_zero, List.set_cons_succ]
              go_wp2_with ((with_reducible refine stop_load 27 rfl ?_))
              apply Stop.go
              refine wpList_wanted rfl fun K hK => ?_
              refine wp_load_blk _ _ rfl wr.heap.size 1 rfl 64 _ _ _ _ hR7 Tryz.underlying27 rfl info_frame (by rw [encR_size hOk]; omega) (encF r.f) (encR_ext_f hOk) (hK _ _ ?_)
              clear hK K
              simp only [Act.put, List.setIfInBounds_toArray, List.set_cons_zero, List.set_cons_succ]
              go_wp2_with ((with_reducible refine stop_store 4 rfl ?_))
              apply Stop.go
              refine wpList_store1 rfl _ _ _ rfl g 131 rfl (.bool true) rfl _ _ hG3 info_bool (by rw [encR_size hqo]; omega) rfl fun w8 u8 => ?_
              dsimp only [Act.put]
              have hG8 := u8.here
              rw [setR_conf hqo, ← HQ3.out] at hG8
              have hR3 : RAt w8 wr.heap.size r := u8.keep hR7 hng
              have hZ3 := u8.keep hZ7 (by omega)
              have hE3 := hE7.upd (by omega) u8
              have hgr3 : g < w8.heap.size := by rw [u8.size]; exact hgr7
              clear u8 hG3 hR7 hZ7 hE7 hgr7 go1 hso hne HQ3
              have hG3 : RAt w8 g q3 := hG8
              clear hG8
              have q2o : RestOk { q3 with sound := true, f := r.f } := ⟨hOk.f, hqo3.st⟩
              have q1o : RestOk { q3 with sound := true } := ⟨hqo3.f, hqo3.st⟩
              obtain ⟨S, hS⟩ : ∃ S : Nat → World → Prop, S = fun k w' => Mod g w8 w' ∧ RAt w' g (pr3 q3 { q3 with sound := true } { q3 with sound := true, f := r.f } k) := ⟨_, rfl⟩
              have HX := Lib.hid (show ∀ k w', S k w' → RAt w' wr.heap.size r from fun k w' h => by rw [hS] at h; exact hR3.mod h.1 hng)
              have HS := Lib.hid hS
              clear hS
              go_wp2
              refine wp_region_stores2 [3, 5] S (by kernel_rfl) (by kernel_rfl) (by kernel_rfl) (by rw [HS.out]; exact ⟨(Mod.refl g w8).ext (Ext.refl w8).drew, hG3.ext (Ext.refl w8).drew⟩) fun hNE => ?_
              simp only [List.map_cons, List.map_nil, idle1, isStore, if_true, if_false, Bool.false_eq_true, idle]
              repeat (go_big_quiet_step (fail))
              refine BigFrame.wpQuiet_want rfl fun K hK => ?_
              refine quiet_load_blk _ _ rfl wr.heap.size 1 rfl 64 _ _ _ _ (by rintro _ ⟨x, rfl⟩; exact (x.ok.elim fun _ h => HX.out _ _ h)) Tryz.underlying27 rfl info_frame (by rw [encR_size hOk]; omega) (encF r.f) (encR_ext_f hOk) (hK _ ?_)
              clear hK K
              simp only [Act.put, List.setIfInBounds_toArray, List.set_cons_zero, List.set_cons_succ]
              repeat (go_big_quiet_step (fail))
              refine wpQuiet_nil ?_
              refine stores_two 3 5 rfl rfl (fun w4 hw => ?_) (fun w4 hw => ?_) fun w4 hw => ?_
              · rw [HS.out] at hw ⊢
                have hw2 : RAt w4 g q3 := hw.2
                refine exec_store1k (P := Tryz.prog) 4 _ _ rfl g 129 rfl (.bool true) rfl _ _ hw2 info_bool (by rw [encR_size hqo3]; omega) rfl fun w5 u => ⟨hw.1.upd u, ?_⟩
                have h2 := u.here
                rw [setR_sound hqo3] at h2
                exact h2
              · rw [HS.out] at hw ⊢
                have hw2 : RAt w4 g { q3 with sound := true } := hw.2
                refine exec_store_blkk (P := Tryz.prog) 27 _ _ rfl g 1 rfl (encF r.f) rfl _ _ hw2 (by rw [encF_size hOk.f]; exact info_frame) (by rw [encR_size q1o, encF_size hOk.f]; omega) (encF_one _) fun w5 u => ⟨hw.1.upd u, ?_⟩
                have h2 := u.here
                rw [setR_frame q1o _ hOk.f.1] at h2
                exact h2
              rw [HS.out] at hw
              have hw2 : RAt w4 g { q3 with sound := true, f := r.f } := hw.2
              have hR4 := hR3.mod hw.1 hng
              have hZ4 := hw.1.heap hZ3 (by omega)
              have hgr4 : g < w4.heap.size := Nat.lt_of_lt_of_le hgr3 hw.1.size
              have hE4 := hE3.mod (by omega) hw.1
              clear hw hR3 hG3 hNE HX HS S hZ3 hgr3 hE3 w8
              go_wp2_with ((with_reducible refine stop_load 28 rfl ?_))
              apply Stop.go
              refine wpList_load_blk rfl _ _ rfl wr.heap.size 65 rfl 64 _ _ _ _ hR4 Tryz.underlying28 rfl info_states (by rw [encR_size hOk]; omega) (encS r.st) (encR_ext_st hOk) ?_
              simp only [Act.put, List.setIfInBounds_toArray, List.set_cons_zero, List.set_cons_succ]
              go_wp2
              go_loopw [56] (fun i wv => ∃ j : Nat, j ≤ 64 ∧ i = .int .i64 j ∧ Aside (RAt wv g { q3 with sound := true, f := r.f, st := mixS q3.st r.st j }) ∧ wv.heap[w.heap.size]? = some (.cells Tryz.zeroCells30 30 (0, 0)) ∧ Ext w wv ∧ g < wv.heap.size) (fun i _ => 64 - (intOf i).toNat)
              case atStart => exact ⟨0, by omega, rfl, (by rw [mixS_zero q3.st r.st hqo3.st]; exact hw2), hZ4, hE4, hgr4⟩
              case round =>
                obtain ⟨j, hj, rfl, B, hZv, hEv, hgv⟩ := hrel
                by_cases hjl : j < 64
                · have hi := fun w : World => index_states hOk.st j hjl w
                  have hGv := B.out
                  have qvo : RestOk { q3 with sound := true, f := r.f, st := mixS q3.st r.st j } := ⟨hOk.f, mixS_length _ _ _⟩
                  have hcv : wr.cell? ⟨g, 65 + j, none⟩ = some (.int .i64 (sv q3.st j)) := by
                    have := hGv.st qvo j hjl
                    rw [sv_mixS _ _ _ _ hjl, if_neg (Nat.lt_irrefl j)] at this
                    exact this
                  clear B hw2 hR4 hZ4 hE4 hgr4
                  go_wp2_with ((with_reducible refine stop_store 3 rfl ?_))
                  apply Stop.go
                  refine wpList_store1 rfl _ _ _ rfl g (65 + j) rfl (.int .i64 (max (sv q3.st j) (sv r.st j))) rfl _ _ hGv info_int (by rw [encR_size qvo]; omega) rfl fun w6 u6 => ?_
                  dsimp only [Act.put]
                  have hG6 := u6.here
                  rw [setR_st qvo j hjl, mixS_set q3.st r.st j hjl] at hG6
                  have hZ6 := u6.keep hZv (by omega)
                  have hE6 := hEv.upd (by omega) u6
                  have hgr6 : g < w6.heap.size := by rw [u6.size]; exact hgv
                  clear u6 hGv hcv hZv hEv hgv
                  go_wp2
                  go_roundw
                  case rel => first | exact ⟨j + 1, by omega, by go_num, hG6, hZ6, hE6, hgr6⟩ | ((repeat apply Exists.intro); exact ⟨⟨j + 1, by omega, by go_num, hG6, hZ6, hE6, hgr6⟩, rfl⟩)
                  case measure => simp [intOf]; omega
                · obtain rfl : j = 64 := by omega
                  have hG6 : Aside (RAt wr g (rfTo l (k + 1))) := by
                    show RAt wr g (rfTo l (k + 1))
                    rw [HB.out]
                    exact B.out
                  clear B hw2 hR4 hZ4 hE4 hgr4
                  go_wp2
                  go_roundw
                  case rel => first | exact ⟨k + 1, by omega, by go_num, hG6, hZv, hEv, hgv⟩ | ((repeat apply Exists.intro); exact ⟨⟨k + 1, by omega, by go_num, hG6, hZv, hEv, hgv⟩, rfl⟩)
                  case measure => simp [intOf]; omega
            · have s3' : (q.f != r.f) = false := by simpa using s3
              rw [s3'] at hne
              have HB := Lib.hid (show rfTo l (k + 1) = { q with sound := true, f := r.f, st := mixS q.st r.st 64 } by rw [HT.out, s3', Bool.and_false, Bool.or_false])
              clear HK HT s1 s2 s3 s3'
              go_wp2_with ((with_reducible refine stop_load 27 rfl ?_))
              apply Stop.go
              refine wpList_wanted rfl fun K hK => ?_
              refine wp_load_blk _ _ rfl g 1 rfl 64 _ _ _ _ hG3 Tryz.underlying27 rfl info_frame (by rw [encR_size hqo]; omega) (encF q.f) (encR_ext_f hqo) (hK _ _ ?_)
              clear hK K
              simp only [Act.put, List.setIfInBounds_toArray, List.set_cons_zero, List.set_cons_succ]
              go_wp2_with ((with_reducible refine stop_load 27 rfl ?_))
              apply Stop.go
              refine wpList_wanted rfl fun K hK => ?_
              refine wp_load_blk _ _ rfl wr.heap.size 1 rfl 64 _ _ _ _ hR7 Tryz.underlying27 rfl info_frame (by rw [encR_size hOk]; omega) (encF r.f) (encR_ext_f hOk) (hK _ _ ?_)
              clear hK K
              simp only [Act.put, List.setIfInBounds_toArray, List.set_cons_zero, List.set_cons_succ]
              have hR3 := hR7
              have hZ3 := hZ7
              have hE3 := hE7
              have hgr3 := hgr7
              clear hR7 hZ7 hE7 hgr7 go1 hso
              have q2o : RestOk { q with sound := true, f := r.f } := ⟨hOk.f, hqo.st⟩
              have q1o : RestOk { q with sound := true } := ⟨hqo.f, hqo.st⟩
              obtain ⟨S, hS⟩ : ∃ S : Nat → World → Prop, S = fun k w' => Mod g w7 w' ∧ RAt w' g (pr3 q { q with sound := true } { q with sound := true, f := r.f } k) := ⟨_, rfl⟩
              have HX := Lib.hid (show ∀ k w', S k w' → RAt w' wr.heap.size r from fun k w' h => by rw [hS] at h; exact hR3.mod h.1 hng)
              have HS := Lib.hid hS
              clear hS
              go_wp2
              refine wp_region_stores2 [3, 5] S (by kernel_rfl) (by kernel_rfl) (by kernel_rfl) (by rw [HS.out]; exact ⟨(Mod.refl g w7).ext (Ext.refl w7).drew, hG3.ext (Ext.refl w7).drew⟩) fun hNE => ?_
              simp only [List.map_cons, List.map_nil, idle1, isStore, if_true, if_false, Bool.false_eq_true, idle]
              repeat (go_big_quiet_step (fail))
              refine BigFrame.wpQuiet_want rfl fun K hK => ?_
              refine quiet_load_blk _ _ rfl wr.heap.size 1 rfl 64 _ _ _ _ (by rintro _ ⟨x, rfl⟩; exact (x.ok.elim fun _ h => HX.out _ _ h)) Tryz.underlying27 rfl info_frame (by rw [encR_size hOk]; omega) (encF r.f) (encR_ext_f hOk) (hK _ ?_)
              clear hK K
              simp only [Act.put, List.setIfInBounds_toArray, List.set_cons_zero, List.set_cons_succ]
              repeat (go_big_quiet_step (fail))
              refine wpQuiet_nil ?_
              refine stores_two 3 5 rfl rfl (fun w4 hw => ?_) (fun w4 hw => ?_) fun w4 hw => ?_
              · rw [HS.out] at hw ⊢
                have hw2 : RAt w4 g q := hw.2
                refine exec_store1k (P := Tryz.prog) 4 _ _ rfl g 129 rfl (.bool true) rfl _ _ hw2 info_bool (by rw [encR_size hqo]; omega) rfl fun w5 u => ⟨hw.1.upd u, ?_⟩
                have h2 := u.here
                rw [setR_sound hqo] at h2
                exact h2
              · rw [HS.out] at hw ⊢
                have hw2 : RAt w4 g { q with sound := true } := hw.2
                refine exec_store_blkk (P := Tryz.prog) 27 _ _ rfl g 1 rfl (encF r.f) rfl _ _ hw2 (by rw [encF_size hOk.f]; exact info_frame) (by rw [encR_size q1o, encF_size hOk.f]; omega) (encF_one _) fun w5 u => ⟨hw.1.upd u, ?_⟩
                have h2 := u.here
                rw [setR_frame q1o _ hOk.f.1] at h2
                exact h2
              rw [HS.out] at hw
              have hw2 : RAt w4 g { q with sound := true, f := r.f } := hw.2
              have hR4 := hR3.mod hw.1 hng
              have hZ4 := hw.1.heap hZ3 (by omega)
              have hgr4 : g < w4.heap.size := Nat.lt_of_lt_of_le hgr3 hw.1.size
              have hE4 := hE3.mod (by omega) hw.1
              clear hw hR3 hG3 hNE HX HS S hZ3 hgr3 hE3 w7
              go_wp2_with ((with_reducible refine stop_load 28 rfl ?_))
              apply Stop.go
              refine wpList_load_blk rfl _ _ rfl wr.heap.size 65 rfl 64 _ _ _ _ hR4 Tryz.underlying28 rfl info_states (by rw [encR_size hOk]; omega) (encS r.st) (encR_ext_st hOk) ?_
              simp only [Act.put, List.setIfInBounds_toArray, List.set_cons_zero, List.set_cons_succ]
              go_wp2
              go_loopw [56] (fun i wv => ∃ j : Nat, j ≤ 64 ∧ i = .int .i64 j ∧ Aside (RAt wv g { q with sound := true, f := r.f, st := mixS q.st r.st j }) ∧ wv.heap[w.heap.size]? = some (.cells Tryz.zeroCells30 30 (0, 0)) ∧ Ext w wv ∧ g < wv.heap.size) (fun i _ => 64 - (intOf i).toNat)
              case atStart => exact ⟨0, by omega, rfl, (by rw [mixS_zero q.st r.st hqo.st]; exact hw2), hZ4, hE4, hgr4⟩
              case round =>
                obtain ⟨j, hj, rfl, B, hZv, hEv, hgv⟩ := hrel
                by_cases hjl : j < 64
                · have hi := fun w : World => index_states hOk.st j hjl w
                  have hGv := B.out
                  have qvo : RestOk { q with sound := true, f := r.f, st := mixS q.st r.st j } := ⟨hOk.f, mixS_length _ _ _⟩
                  have hcv : wr.cell? ⟨g, 65 + j, none⟩ = some (.int .i64 (sv q.st j)) := by
                    have := hGv.st qvo j hjl
                    rw [sv_mixS _ _ _ _ hjl, if_neg (Nat.lt_irrefl j)] at this
                    exact this
                  clear B hw2 hR4 hZ4 hE4 hgr4
                  go_wp2_with ((with_reducible refine stop_store 3 rfl ?_))
                  apply Stop.go
                  refine wpList_store1 rfl _ _ _ rfl g (65 + j) rfl (.int .i64 (max (sv q.st j) (sv r.st j))) rfl _ _ hGv info_int (by rw [encR_size qvo]; omega) rfl fun w6 u6 => ?_
                  dsimp only [Act.put]
                  have hG6 := u6.here
                  rw [setR_st qvo j hjl, mixS_set q.st r.st j hjl] at hG6
                  have hZ6 := u6.keep hZv (by omega)
                  have hE6 := hEv.upd (by omega) u6
                  have hgr6 : g < w6.heap.size := by rw [u6.size]; exact hgv
                  clear u6 hGv hcv hZv hEv hgv
                  go_wp2
                  go_roundw
                  case rel => first | exact ⟨j + 1, by omega, by go_num, hG6, hZ6, hE6, hgr6⟩ | ((repeat apply Exists.intro); exact ⟨⟨j + 1, by omega, by go_num, hG6, hZ6, hE6, hgr6⟩, rfl⟩)
                  case measure => simp [intOf]; omega
                · obtain rfl : j = 64 := by omega
                  have hG6 : Aside (RAt wr g (rfTo l (k + 1))) := by
                    show RAt wr g (rfTo l (k + 1))
                    rw [HB.out]
                    exact B.out
                  clear B hw2 hR4 hZ4 hE4 hgr4
                  go_wp2
                  go_roundw
                  case rel => first | exact ⟨k + 1, by omega, by go_num, hG6, hZv, hEv, hgv⟩ | ((repeat apply Exists.intro); exact ⟨⟨k + 1, by omega, by go_num, hG6, hZv, hEv, hgv⟩, rfl⟩)
                  case measure => simp [intOf]; omega
          · have s2' : q.sound = false := by simpa using s2
            rw [s2'] at go1
            have HB := Lib.hid (show rfTo l (k + 1) = { q with sound := true, f := r.f, st := mixS q.st r.st 64 } by rw [HT.out, s2', Bool.false_and, Bool.or_false])
            clear HK HT s1 s2 s2'
            go_wp2
            have hR3 := hR7
            have hZ3 := hZ7
            have hE3 := hE7
            have hgr3 := hgr7
            clear hR7 hZ7 hE7 hgr7 go1 hso
            have q2o : RestOk { q with sound := true, f := r.f } := ⟨hOk.f, hqo.st⟩
            have q1o : RestOk { q with sound := true } := ⟨hqo.f, hqo.st⟩
            obtain ⟨S, hS⟩ : ∃ S : Nat → World → Prop, S = fun k w' => Mod g w7 w' ∧ RAt w' g (pr3 q { q with sound := true } { q with sound := true, f := r.f } k) := ⟨_, rfl⟩
            have HX := Lib.hid (show ∀ k w', S k w' → RAt w' wr.heap.size r from fun k w' h => by rw [hS] at h; exact hR3.mod h.1 hng)
            have HS := Lib.hid hS
            clear hS
            go_wp2
            refine wp_region_stores2 [3, 5] S (by kernel_rfl) (by kernel_rfl) (by kernel_rfl) (by rw [HS.out]; exact ⟨(Mod.refl g w7).ext (Ext.refl w7).drew, hG3.ext (Ext.refl w7).drew⟩) fun hNE => ?_
            simp only [List.map_cons, List.map_nil, idle1, isStore, if_true, if_false, Bool.false_eq_true, idle]
            repeat (go_big_quiet_step (fail))
            refine BigFrame.wpQuiet_want rfl fun K hK => ?_
            refine quiet_load_blk _ _ rfl wr.heap.size 1 rfl 64 _ _ _ _ (by rintro _ ⟨x, rfl⟩; exact (x.ok.elim fun _ h => HX.out _ _ h)) Tryz.underlying27 rfl info_frame (by rw [encR_size hOk]; omega) (encF r.f) (encR_ext_f hOk) (hK _ ?_)
            clear hK K
            simp only [Act.put, List.setIfInBounds_toArray, List.set_cons_zero, List.set_cons_succ]
            repeat (go_big_quiet_step (fail))
            refine wpQuiet_nil ?_
            refine stores_two 3 5 rfl rfl (fun w4 hw => ?_) (fun w4 hw => ?_) fun w4 hw => ?_
            · rw [HS.out] at hw ⊢
              have hw2 : RAt w4 g q := hw.2
              refine exec_store1k (P := Tryz.prog) 4 _ _ rfl g 129 rfl (.bool true) rfl _ _ hw2 info_bool (by rw [encR_size hqo]; omega) rfl fun w5 u => ⟨hw.1.upd u, ?_⟩
              have h2 := u.here
              rw [setR_sound hqo] at h2
              exact h2
            · rw [HS.out] at hw ⊢
              have hw2 : RAt w4 g { q with sound := true } := hw.2
              refine exec_store_blkk (P := Tryz.prog) 27 _ _ rfl g 1 rfl (encF r.f) rfl _ _ hw2 (by rw [encF_size hOk.f]; exact info_frame) (by rw [encR_size q1o, encF_size hOk.f]; omega) (encF_one _) fun w5 u => ⟨hw.1.upd u, ?_⟩
              have h2 := u.here
              rw [setR_frame q1o _ hOk.f.1] at h2
              exact h2
            rw [HS.out] at hw
            have hw2 : RAt w4 g { q with sound := true, f := r.f } := hw.2
            have hR4 := hR3.mod hw.1 hng
            have hZ4 := hw.1.heap hZ3 (by omega)
            have hgr4 : g < w4.heap.size := Nat.lt_of_lt_of_le hgr3 hw.1.size
            have hE4 := hE3.mod (by omega) hw.1
            clear hw hR3 hG3 hNE HX HS S hZ3 hgr3 hE3 w7
            go_wp2_with ((with_reducible refine stop_load 28 rfl ?_))
            apply Stop.go
            refine wpList_load_blk rfl _ _ rfl wr.heap.size 65 rfl 64 _ _ _ _ hR4 Tryz.underlying28 rfl info_states (by rw [encR_size hOk]; omega) (encS r.st) (encR_ext_st hOk) ?_
            simp only [Act.put, List.setIfInBounds_toArray, List.set_cons_zero, List.set_cons_succ]
            go_wp2
            go_loopw [56] (fun i wv => ∃ j : Nat, j ≤ 64 ∧ i = .int .i64 j ∧ Aside (RAt wv g { q with sound := true, f := r.f, st := mixS q.st r.st j }) ∧ wv.heap[w.heap.size]? = some (.cells Tryz.zeroCells30 30 (0, 0)) ∧ Ext w wv ∧ g < wv.heap.size) (fun i _ => 64 - (intOf i).toNat)
            case atStart => exact ⟨0, by omega, rfl, (by rw [mixS_zero q.st r.st hqo.st]; exact hw2), hZ4, hE4, hgr4⟩
            case round =>
              obtain ⟨j, hj, rfl, B, hZv, hEv, hgv⟩ := hrel
              by_cases hjl : j < 64
              · have hi := fun w : World => index_states hOk.st j hjl w
                have hGv := B.out
                have qvo : RestOk { q with sound := true, f := r.f, st := mixS q.st r.st j } := ⟨hOk.f, mixS_length _ _ _⟩
                have hcv : wr.cell? ⟨g, 65 + j, none⟩ = some (.int .i64 (sv q.st j)) := by
                  have := hGv.st qvo j hjl
                  rw [sv_mixS _ _ _ _ hjl, if_neg (Nat.lt_irrefl j)] at this
                  exact this
                clear B hw2 hR4 hZ4 hE4 hgr4
                go_wp2_with ((with_reducible refine stop_store 3 rfl ?_))
                apply Stop.go
                refine wpList_store1 rfl _ _ _ rfl g (65 + j) rfl (.int .i64 (max (sv q.st j) (sv r.st j))) rfl _ _ hGv info_int (by rw [encR_size qvo]; omega) rfl fun w6 u6 => ?_
                dsimp only [Act.put]
                have hG6 := u6.here
                rw [setR_st qvo j hjl, mixS_set q.st r.st j hjl] at hG6
                have hZ6 := u6.keep hZv (by omega)
                have hE6 := hEv.upd (by omega) u6
                have hgr6 : g < w6.heap.size := by rw [u6.size]; exact hgv
                clear u6 hGv hcv hZv hEv hgv
                go_wp2
                go_roundw
                case rel => first | exact ⟨j + 1, by omega, by go_num, hG6, hZ6, hE6, hgr6⟩ | ((repeat apply Exists.intro); exact ⟨⟨j + 1, by omega, by go_num, hG6, hZ6, hE6, hgr6⟩, rfl⟩)
                case measure => simp [intOf]; omega
              · obtain rfl : j = 64 := by omega
                have hG6 : Aside (RAt wr g (rfTo l (k + 1))) := by
                  show RAt wr g (rfTo l (k + 1))
                  rw [HB.out]
                  exact B.out
                clear B hw2 hR4 hZ4 hE4 hgr4
                go_wp2
                go_roundw
                case rel => first | exact ⟨k + 1, by omega, by go_num, hG6, hZv, hEv, hgv⟩ | ((repeat apply Exists.intro); exact ⟨⟨k + 1, by omega, by go_num, hG6, hZv, hEv, hgv⟩, rfl⟩)
                case measure => simp [intOf]; omega
        · have s1' : r.sound = false := by simpa using s1
          rw [s1'] at hso
          have HB := Lib.hid (HK.out s1')
          clear HK HT s1 s1'
          have hGn : Aside (RAt w7 g (rfTo l (k + 1))) := by
            show RAt w7 g (rfTo l (k + 1))
            rw [HB.out]
            exact hG3
          clear hG3
          go_wp2
          go_roundw
          case rel => first | exact ⟨k + 1, by omega, by go_num, hGn, hZ7, hE7, hgr7⟩ | ((repeat apply Exists.intro); exact ⟨⟨k + 1, by omega, by go_num, hGn, hZ7, hE7, hgr7⟩, rfl⟩)
          case measure => simp [intOf]; omega
    · obtain rfl : k = n := by omega
      have hqo := rfTo_ok hO k (by rw [← HL.out]; exact Nat.le_refl _)
      have hG0 := B.out
      have Hcf := Lib.hid (show (rfTo l k).conf = clash l by rw [HL.out]; exact rfTo_conf l)
      have Hnm := Lib.hid (show (rfTo l k).num = (baseR l).num by rw [HL.out]; exact rfTo_num l)
      have Hcp := Lib.hid (show (rfTo l k).copies = (baseR l).copies by rw [HL.out]; rfl)
      have HEnd := Lib.hid (show clash l = false → rfTo l k = soTo l (baseR l) l.length from fun h => by rw [HL.out]; exact rfTo_end l h)
      have hcp0 : 0 ≤ (rfTo l k).copies := by rw [Hcp.out]; exact HLast.out
      have hMP := Lib.hid (show mergeP l = if clash l then clashR l else goodR (bothR l) from rfl)
      clear B hG hE2 hgw HLast
      generalize rfTo l k = q at hqo hG0 Hcf Hnm Hcp HEnd hcp0
      have hcf := hG0.conf hqo
      rw [Hcf.out] at hcf
      cases hcl : clash l with
      | true =>
        rw [hcl] at hcf
        have HP := Lib.hid (show mergeP l = clashR l by rw [hMP.out, if_pos hcl])
        have c1 := hG0.num hqo
        have c2 := hG0.copies hqo
        rw [Hnm.out] at c1
        rw [Hcp.out] at c2
        clear hMP hcl HEnd
        go_wp2_with ((with_reducible refine stop_store 30 rfl ?_))
        apply Stop.go
        rw [clash_cells]
        refine store_rest rfl _ _ rfl w.heap.size rfl (clashR l) (clashR_ok l) rfl _ hZ zero_rest fun w5 u5 => ?_
        dsimp only [Act.put]
        go_wp2
        exact bodyPost_ret (v := .agg (encR (clashR l))) (results_cell_row Tryz.results22 _ _ w.heap.size _ _ _ _ rfl u5.here Tryz.underlying30 rfl (by rw [encR_size (clashR_ok l)]; exact info_rest)) rfl ⟨by rw [HP.out], (hE.upd (by omega) u5)⟩
      | false =>
        rw [hcl] at hcf
        have HQ := Lib.hid (HEnd.out hcl)
        have HP := Lib.hid (show mergeP l = goodR (bothR l) by rw [hMP.out, hcl]; rfl)
        have hso := hG0.sound hqo
        clear hMP hcl HEnd Hcf Hnm Hcp
        cases hs : q.sound with
        | true =>
          have HF := Lib.hid (show mergeP l = goodR q by
            rw [HP.out, bothR, ← HQ.out, hs]
            rfl)
          rw [hs] at hso
          have hcc := hG0.copies hqo
          have cg := rallGood_any q
          by_cases hc0 : q.copies = 0
          · rw [hc0] at hcc
            go_wp2_with ((with_reducible refine stop_load 30 rfl ?_))
            apply Stop.go
            refine wpList_wanted rfl fun K hK => ?_
            refine wp_load_blk _ _ rfl g 0 rfl 132 _ _ _ _ hG0 Tryz.underlying30 rfl info_rest (by rw [encR_size hqo]; omega) (encR q) (encR_whole hqo) (hK _ _ ?_)
            clear hK K
            simp only [Act.put, List.setIfInBounds_toArray, List.set_cons_zero, List.set_cons_succ]
            cases hall : allB q 3 with
            | true =>
              rw [hall] at cg
              have HF := Lib.hid (show mergeP l = { q with copies := 1 } by rw [HF.out, goodR_zero hs hall hc0])
              go_wp2_with fail
              refine (cg _ hqo).mono ?_
              rintro e w6 ⟨rfl, hE6⟩
              have hG6 := hG0.ext hE6
              have hZ6 := hE6.heap hZ
              have hE6 := hE.trans hE6
              go_wp2_with ((with_reducible refine stop_store 3 rfl ?_))
              apply Stop.go
              refine wpList_store1 rfl _ _ _ rfl g 130 rfl (.int .i64 1) rfl _ _ hG6 info_int (by rw [encR_size hqo]; omega) rfl fun w7 u7 => ?_
              dsimp only [Act.put]
              have hG7 := u7.here
              rw [setR_copies hqo] at hG7
              have hZ7 := u7.keep hZ6 (by omega)
              have hE7 := hE6.upd (by omega) u7
              have hq7 : RestOk { q with copies := 1 } := ⟨hqo.f, hqo.st⟩
              clear u7 hG6 hZ6 hE6 cg hG0 hZ hE hcc hso hcf
              go_wp2_with ((with_reducible refine stop_load 30 rfl ?_))
              apply Stop.go
              refine wpList_load_blk rfl _ _ rfl g 0 rfl 132 _ _ _ _ hG7 Tryz.underlying30 rfl info_rest (by rw [encR_size hq7]; omega) (encR { q with copies := 1 }) (encR_whole hq7) ?_
              simp only [Act.put, List.setIfInBounds_toArray, List.set_cons_zero, List.set_cons_succ]
              go_wp2_with ((with_reducible refine stop_store 30 rfl ?_))
              apply Stop.go
              refine store_rest rfl _ _ rfl w.heap.size rfl { q with copies := 1 } hq7 rfl _ hZ7 zero_rest fun w9 u9 => ?_
              dsimp only [Act.put]
              go_wp2
              exact bodyPost_ret (v := .agg (encR { q with copies := 1 })) (results_cell_row Tryz.results22 _ _ w.heap.size _ _ _ _ rfl u9.here Tryz.underlying30 rfl (by rw [encR_size hq7]; exact info_rest)) rfl ⟨by rw [HF.out], (hE7.upd (by omega) u9)⟩
            | false =>
              rw [hall] at cg
              have HF := Lib.hid (show mergeP l = q by rw [HF.out, goodR_bad hall])
              go_wp2_with fail
              refine (cg _ hqo).mono ?_
              rintro e w6 ⟨rfl, hE6⟩
              have hG6 := hG0.ext hE6
              have hZ6 := hE6.heap hZ
              have hE6 := hE.trans hE6
              clear cg hG0 hZ hE hcc hso hcf
              go_wp2_with ((with_reducible refine stop_load 30 rfl ?_))
              apply Stop.go
              refine wpList_load_blk rfl _ _ rfl g 0 rfl 132 _ _ _ _ hG6 Tryz.underlying30 rfl info_rest (by rw [encR_size hqo]; omega) (encR q) (encR_whole hqo) ?_
              simp only [Act.put, List.setIfInBounds_toArray, List.set_cons_zero, List.set_cons_succ]
              go_wp2_with ((with_reducible refine stop_store 30 rfl ?_))
              apply Stop.go
              refine store_rest rfl _ _ rfl w.heap.size rfl q hqo rfl _ hZ6 zero_rest fun w9 u9 => ?_
              dsimp only [Act.put]
              go_wp2
              exact bodyPost_ret (v := .agg (encR q)) (results_cell_row Tryz.results22 _ _ w.heap.size _ _ _ _ rfl u9.here Tryz.underlying30 rfl (by rw [encR_size hqo]; exact info_rest)) rfl ⟨by rw [HF.out], (hE6.upd (by omega) u9)⟩
          · have hc0' : (q.copies == 0) = false := by simpa using hc0
            have HF := Lib.hid (show mergeP l = q by rw [HF.out, goodR_pos (by omega)])
            clear hc0 hs
            go_wp2_with ((with_reducible refine stop_load 30 rfl ?_))
            apply Stop.go
            refine wpList_unwanted rfl ?_
            simp only [Act.put, List.setIfInBounds_toArray, List.set_cons_zero, List.set_cons_succ]
            go_wp2_with ((with_reducible refine stop_load 30 rfl ?_))
            apply Stop.go
            refine wpList_load_blk rfl _ _ rfl g 0 rfl 132 _ _ _ _ hG0 Tryz.underlying30 rfl info_rest (by rw [encR_size hqo]; omega) (encR q) (encR_whole hqo) ?_
            simp only [Act.put, List.setIfInBounds_toArray, List.set_cons_zero, List.set_cons_succ]
            go_wp2_with ((with_reducible refine stop_store 30 rfl ?_))
            apply Stop.go
            refine store_rest rfl _ _ rfl w.heap.size rfl q hqo rfl _ hZ zero_rest fun w9 u9 => ?_
            dsimp only [Act.put]
            go_wp2
            exact bodyPost_ret (v := .agg (encR q)) (results_cell_row Tryz.results22 _ _ w.heap.size _ _ _ _ rfl u9.here Tryz.underlying30 rfl (by rw [encR_size hqo]; exact info_rest)) rfl ⟨by rw [HF.out], (hE.upd (by omega) u9)⟩
        | false =>
          rw [hs] at hso
          have hqb : q = baseR l := by
            rw [HQ.out]
            exact soTo_unsound l (baseR l) l.length (by rw [← HQ.out]; exact hs)
          have HF := Lib.hid (show mergeP l = goodR (wholeR (par l (baseR l) 64)) by
            rw [HP.out, bothR, ← HQ.out, hs]
            rfl)
          have hGb : RAt wr g (par l (baseR l) 0) := by
            rw [baseR_par, ← hqb]
            exact hG0
          have hRr := hR.ext hE
          have HAg := Lib.hid (ag_some hO (baseR l))
          have hpo := par_ok hO (baseR l) 64
          have hps : (par l (baseR l) 64).sound = false := rfl
          have HF0 := Lib.hid (show agTo l 64 = false → mergeP l = par l (baseR l) 64 from fun h => by
            rw [HF.out, wholeR, HAg.out, h, Bool.false_and, if_neg (by simp), goodR_unsound rfl])
          have HF1 := Lib.hid (show agTo l 64 = true → soundAsB (par l (baseR l) 64).f (par l (baseR l) 64).num = false → mergeP l = par l (baseR l) 64 from fun h h2 => by
            rw [HF.out, wholeR, HAg.out, h, h2, Bool.and_false, if_neg (by simp), goodR_unsound rfl])
          have HF2 := Lib.hid (show agTo l 64 = true → soundAsB (par l (baseR l) 64).f (par l (baseR l) 64).num = true → mergeP l = { par l (baseR l) 64 with sound := true, st := List.replicate 64 3, copies := 1 } from fun h h2 => by
            rw [HF.out, wholeR, HAg.out, h, h2, Bool.and_self, if_pos rfl, goodR_pos (by simp)])
          clear HQ HP hqb hG0 hs hqo hcp0 HF HAg
          go_wp2
          clear hso hcf
          go_loopw [8, 89] (fun s8 s89 wr => ∃ i : Nat, i ≤ 64 ∧ s8 = .bool (agTo l i) ∧ s89 = .int .i64 i ∧ Aside (RAt wr g (par l (baseR l) i)) ∧ wr.heap[w.heap.size]? = some (.cells Tryz.zeroCells30 30 (0, 0)) ∧ Ext w wr ∧ g < wr.heap.size) (fun _ s89 _ => 64 - (intOf s89).toNat)
          case atStart => exact ⟨0, by omega, rfl, rfl, hGb, hZ, hE, hgr⟩
          case round =>
            obtain ⟨i, hi, rfl, rfl, B, hZ, hE, hgr⟩ := hrel
            by_cases hlt : i < 64
            · have hag := ragreed_any b o c l i wr hlt (by rw [← HL.out]; exact hl) (hR.ext hE) hO
              rw [← HL.out] at hag
              have hlt' : ((i : Nat) : Int) < 64 := by omega
              have hv := pw_lt hO i
              have HS := Lib.hid (par_skip l (baseR l) i hlt (pa_none l i l.length))
              have HP := Lib.hid (par_put l (baseR l) i hlt)
              have HA := Lib.hid (show agTo l (i + 1) = (agTo l i && agB l i) from rfl)
              have hqo := par_ok hO (baseR l) i
              have hGq := B.out
              have HQ := Lib.hid (show agB l i = true → par l (baseR l) (i + 1) = { par l (baseR l) i with f := (par l (baseR l) i).f.set i (pw l i), st := (par l (baseR l) i).st.set i 1 } from HP.out)
              clear B hGb hRr HP HF0 HF1 HF2 hpo hps
              generalize par l (baseR l) i = p at hqo hGq HS HQ
              generalize pw l i = v at hag hv HQ
              go_wp2_with fail
              refine hag.mono ?_
              rintro e w3 ⟨rfl, hE3⟩
              have hG3 := hGq.ext hE3
              have hZ3 := hE3.heap hZ
              have hgr3 : g < w3.heap.size := Nat.lt_of_lt_of_le hgr hE3.size
              have hE3 := hE.trans hE3
              clear hag hGq hZ hE
              cases hb : agB l i with
              | true =>
                have HQ := Lib.hid (HQ.out hb)
                rw [hb] at HA
                have p1o : RestOk { p with f := p.f.set i v } := ⟨hqo.f.set i v hlt hv, hqo.st⟩
                cases ha : agTo l i with
                | true =>
                  rw [ha] at HA
                  clear hb ha HS
                  go_wp2_with ((with_reducible refine stop_store 25 rfl ?_))
                  apply Stop.go
                  refine wpList_store1 rfl _ _ _ rfl g (1 + i) rfl (.int .u16 (v : Nat)) rfl _ _ hG3 info_u16 (by rw [encR_size hqo]; omega) rfl fun w4 u4 => ?_
                  dsimp only [Act.put]
                  have hG4 := u4.here
                  rw [setR_f hqo i hlt] at hG4
                  have hZ4 := u4.keep hZ3 (by omega)
                  have hE4 := hE3.upd (by omega) u4
                  have hgr4 : g < w4.heap.size := by rw [u4.size]; exact hgr3
                  clear u4 hG3 hZ3 hE3 hgr3
                  go_wp2_with ((with_reducible refine stop_store 3 rfl ?_))
                  apply Stop.go
                  refine wpList_store1 rfl _ _ _ rfl g (65 + i) rfl (.int .i64 1) rfl _ _ hG4 info_int (by rw [encR_size p1o]; omega) rfl fun w5 u5 => ?_
                  dsimp only [Act.put]
                  have hG5 := u5.here
                  rw [setR_st p1o i hlt] at hG5
                  have hZ5 := u5.keep hZ4 (by omega)
                  have hE5 := hE4.upd (by omega) u5
                  have hgr5 : g < w5.heap.size := by rw [u5.size]; exact hgr4
                  have hGn : Aside (RAt w5 g (par l (baseR l) (i + 1))) := by
                    show RAt w5 g (par l (baseR l) (i + 1))
                    rw [HQ.out]
                    exact hG5
                  clear u5 hG4 hZ4 hE4 hgr4 hG5 HQ
                  go_wp2
                  go_roundw
                  case rel => first | exact ⟨i + 1, by omega, by rw [HA.out]; rfl, by go_num, hGn, hZ5, hE5, hgr5⟩ | ((repeat apply Exists.intro); exact ⟨⟨i + 1, by omega, by rw [HA.out]; rfl, by go_num, hGn, hZ5, hE5, hgr5⟩, rfl⟩)
                  case measure => simp [intOf]; omega
                | false =>
                  rw [ha] at HA
                  clear hb ha HS
                  go_wp2_with ((with_reducible refine stop_store 25 rfl ?_))
                  apply Stop.go
                  refine wpList_store1 rfl _ _ _ rfl g (1 + i) rfl (.int .u16 (v : Nat)) rfl _ _ hG3 info_u16 (by rw [encR_size hqo]; omega) rfl fun w4 u4 => ?_
                  dsimp only [Act.put]
                  have hG4 := u4.here
                  rw [setR_f hqo i hlt] at hG4
                  have hZ4 := u4.keep hZ3 (by omega)
                  have hE4 := hE3.upd (by omega) u4
                  have hgr4 : g < w4.heap.size := by rw [u4.size]; exact hgr3
                  clear u4 hG3 hZ3 hE3 hgr3
                  go_wp2_with ((with_reducible refine stop_store 3 rfl ?_))
                  apply Stop.go
                  refine wpList_store1 rfl _ _ _ rfl g (65 + i) rfl (.int .i64 1) rfl _ _ hG4 info_int (by rw [encR_size p1o]; omega) rfl fun w5 u5 => ?_
                  dsimp only [Act.put]
                  have hG5 := u5.here
                  rw [setR_st p1o i hlt] at hG5
                  have hZ5 := u5.keep hZ4 (by omega)
                  have hE5 := hE4.upd (by omega) u5
                  have hgr5 : g < w5.heap.size := by rw [u5.size]; exact hgr4
                  have hGn : Aside (RAt w5 g (par l (baseR l) (i + 1))) := by
                    show RAt w5 g (par l (baseR l) (i + 1))
                    rw [HQ.out]
                    exact hG5
                  clear u5 hG4 hZ4 hE4 hgr4 hG5 HQ
                  go_wp2
                  go_roundw
                  case rel => first | exact ⟨i + 1, by omega, by rw [HA.out]; rfl, by go_num, hGn, hZ5, hE5, hgr5⟩ | ((repeat apply Exists.intro); exact ⟨⟨i + 1, by omega, by rw [HA.out]; rfl, by go_num, hGn, hZ5, hE5, hgr5⟩, rfl⟩)
                  case measure => simp [intOf]; omega
              | false =>
                have HS := Lib.hid (HS.out hb)
                rw [hb] at HA
                have hGn : Aside (RAt w3 g (par l (baseR l) (i + 1))) := by
                  show RAt w3 g (par l (baseR l) (i + 1))
                  rw [HS.out]
                  exact hG3
                cases ha : agTo l i with
                | true =>
                  rw [ha] at HA
                  clear hb ha HQ HS hG3
                  go_wp2
                  go_roundw
                  case rel => first | exact ⟨i + 1, by omega, by rw [HA.out]; rfl, by go_num, hGn, hZ3, hE3, hgr3⟩ | ((repeat apply Exists.intro); exact ⟨⟨i + 1, by omega, by rw [HA.out]; rfl, by go_num, hGn, hZ3, hE3, hgr3⟩, rfl⟩)
                  case measure => simp [intOf]; omega
                | false =>
                  rw [ha] at HA
                  clear hb ha HQ HS hG3
                  go_wp2
                  go_roundw
                  case rel => first | exact ⟨i + 1, by omega, by rw [HA.out]; rfl, by go_num, hGn, hZ3, hE3, hgr3⟩ | ((repeat apply Exists.intro); exact ⟨⟨i + 1, by omega, by rw [HA.out]; rfl, by go_num, hGn, hZ3, hE3, hgr3⟩, rfl⟩)
                  case measure => simp [intOf]; omega
            · obtain rfl : i = 64 := by omega
              have hG := B.out
              clear B hGb hRr
              generalize par l (baseR l) 64 = p at hpo hps HF0 HF1 HF2 hG
              have hld : ∀ x : ExtW wr, RAt x.val g p := fun x => hG.ext x.ext
              have hnm : ∀ x : ExtW wr, x.val.cell? ⟨g, 0, none⟩ = some (.int .i64 p.num) := fun x => (hG.ext x.ext).num hpo
              have ca := fun x : ExtW wr => rsound_any p.f x.val hpo.f
              have cn := fun x : ExtW wr => r4number_any p.f x.val hpo.f
              cases ha : agTo l 64 with
              | false =>
                have HF := Lib.hid (HF0.out ha)
                clear HF0 HF1 HF2 ha
                go_wp2
                refine wp_region_ext (by kernel_rfl) (by kernel_rfl) ?_
                repeat (go_big_quiet_step (fail))
                refine wpQuiet_nil ?_
                rintro _ ⟨x, rfl⟩
                have hG5 := hG.ext x.ext
                have hZ5 := x.ext.heap hZ
                have hE5 := hE.trans x.ext
                generalize x.val = w5 at hG5 hZ5 hE5 ⊢
                clear hG hZ hgr hE hld hnm ca cn x
                go_wp2_with ((with_reducible refine stop_load 30 rfl ?_))
                apply Stop.go
                refine wpList_load_blk rfl _ _ rfl g 0 rfl 132 _ _ _ _ hG5 Tryz.underlying30 rfl info_rest (by rw [encR_size hpo]; omega) (encR p) (encR_whole hpo) ?_
                simp only [Act.put, List.setIfInBounds_toArray, List.set_cons_zero, List.set_cons_succ]
                go_wp2_with ((with_reducible refine stop_store 30 rfl ?_))
                apply Stop.go
                refine store_rest rfl _ _ rfl w.heap.size rfl p hpo rfl _ hZ5 zero_rest fun w9 u9 => ?_
                dsimp only [Act.put]
                go_wp2
                exact bodyPost_ret (v := .agg (encR p)) (results_cell_row Tryz.results22 _ _ w.heap.size _ _ _ _ rfl u9.here Tryz.underlying30 rfl (by rw [encR_size hpo]; exact info_rest)) rfl ⟨by rw [HF.out], (hE5.upd (by omega) u9)⟩
              | true =>
                have HF1 := Lib.hid (HF1.out ha)
                have HF2 := Lib.hid (HF2.out ha)
                cases hs2 : soundB p.f with
                | false =>
                  rw [hs2] at ca
                  have HF := Lib.hid (HF1.out (by rw [soundAsB, hs2]; rfl))
                  clear HF0 HF1 HF2 ha hs2
                  go_wp2
                  refine wp_region_ext (by kernel_rfl) (by kernel_rfl) ?_
                  repeat (go_big_quiet_step (fail))
                  refine BigFrame.wpQuiet_want rfl fun K hK => ?_
                  refine quiet_load_blk _ _ rfl g 1 rfl 64 _ _ _ _ (by rintro _ ⟨x, rfl⟩; exact (hG.ext x.ext)) Tryz.underlying27 rfl info_frame (by rw [encR_size hpo]; omega) (encF p.f) (encR_ext_f hpo) (hK _ ?_)
                  clear hK K
                  simp only [Act.put, List.setIfInBounds_toArray, List.set_cons_zero, List.set_cons_succ]
                  repeat (go_big_quiet_step ((first | (go_at_call 29; refine calls_ext (ca _)) | (go_at_call 30; refine calls_ext (cn _)))))
                  refine wpQuiet_nil ?_
                  rintro _ ⟨x, rfl⟩
                  have hG5 := hG.ext x.ext
                  have hZ5 := x.ext.heap hZ
                  have hE5 := hE.trans x.ext
                  generalize x.val = w5 at hG5 hZ5 hE5 ⊢
                  clear hG hZ hgr hE hld hnm ca cn x
                  go_wp2_with ((with_reducible refine stop_load 30 rfl ?_))
                  apply Stop.go
                  refine wpList_load_blk rfl _ _ rfl g 0 rfl 132 _ _ _ _ hG5 Tryz.underlying30 rfl info_rest (by rw [encR_size hpo]; omega) (encR p) (encR_whole hpo) ?_
                  simp only [Act.put, List.setIfInBounds_toArray, List.set_cons_zero, List.set_cons_succ]
                  go_wp2_with ((with_reducible refine stop_store 30 rfl ?_))
                  apply Stop.go
                  refine store_rest rfl _ _ rfl w.heap.size rfl p hpo rfl _ hZ5 zero_rest fun w9 u9 => ?_
                  dsimp only [Act.put]
                  go_wp2
                  exact bodyPost_ret (v := .agg (encR p)) (results_cell_row Tryz.results22 _ _ w.heap.size _ _ _ _ rfl u9.here Tryz.underlying30 rfl (by rw [encR_size hpo]; exact info_rest)) rfl ⟨by rw [HF.out], (hE5.upd (by omega) u9)⟩
                | true =>
                  rw [hs2] at ca
                  by_cases s3 : ((numV p.f : Nat) : Int) = p.num
                  · have s3' : (((numV p.f : Nat) : Int) == p.num) = true := by simp [s3]
                    have HF := Lib.hid (HF2.out (by rw [soundAsB, hs2, s3']; rfl))
                    clear HF0 HF1 HF2 ha hs2 s3
                    go_wp2
                    refine wp_region_ext (by kernel_rfl) (by kernel_rfl) ?_
                    repeat (go_big_quiet_step (fail))
                    refine BigFrame.wpQuiet_want rfl fun K hK => ?_
                    refine quiet_load_blk _ _ rfl g 1 rfl 64 _ _ _ _ (by rintro _ ⟨x, rfl⟩; exact (hG.ext x.ext)) Tryz.underlying27 rfl info_frame (by rw [encR_size hpo]; omega) (encF p.f) (encR_ext_f hpo) (hK _ ?_)
                    clear hK K
                    simp only [Act.put, List.setIfInBounds_toArray, List.set_cons_zero, List.set_cons_succ]
                    repeat (go_big_quiet_step ((first | (go_at_call 29; refine calls_ext (ca _)) | (go_at_call 30; refine calls_ext (cn _)))))
                    refine BigFrame.wpQuiet_want rfl fun K hK => ?_
                    refine quiet_load_blk _ _ rfl g 1 rfl 64 _ _ _ _ (by rintro _ ⟨x, rfl⟩; exact (hG.ext x.ext)) Tryz.underlying27 rfl info_frame (by rw [encR_size hpo]; omega) (encF p.f) (encR_ext_f hpo) (hK _ ?_)
                    clear hK K
                    simp only [Act.put, List.setIfInBounds_toArray, List.set_cons_zero, List.set_cons_succ]
                    repeat (go_big_quiet_step ((first | (go_at_call 29; refine calls_ext (ca _)) | (go_at_call 30; refine calls_ext (cn _)))))
                    refine wpQuiet_nil ?_
                    rintro _ ⟨x, rfl⟩
                    have hG5 := hG.ext x.ext
                    have hZ5 := x.ext.heap hZ
                    have hgr5 : g < x.val.heap.size := Nat.lt_of_lt_of_le hgr x.ext.size
                    have hE5 := hE.trans x.ext
                    generalize x.val = w5 at hG5 hZ5 hgr5 hE5 ⊢
                    clear hG hZ hgr hE hld hnm ca cn s3' x
                    go_wp2
                    go_loopw [125] (fun s125 wv => ∃ j : Nat, j ≤ 64 ∧ s125 = .int .i64 j ∧ Aside (RAt wv g { p with st := upS p.st 3 j }) ∧ wv.heap[w.heap.size]? = some (.cells Tryz.zeroCells30 30 (0, 0)) ∧ Ext w wv ∧ g < wv.heap.size) (fun s125 _ => 64 - (intOf s125).toNat)
                    case atStart => exact ⟨0, by omega, rfl, hG5, hZ5, hE5, hgr5⟩
                    case round =>
                      obtain ⟨j, hj, rfl, B, hZ, hE, hgr⟩ := hrel
                      clear hG5 hZ5 hE5 hgr5
                      by_cases hjl : j < 64
                      · have hGv := B.out
                        have qvo : RestOk { p with st := upS p.st 3 j } := ⟨hpo.f, upS_length hpo.st 3 j hj⟩
                        have hjl' : ((j : Nat) : Int) < 64 := by omega
                        go_wp2_with ((with_reducible refine stop_store 3 rfl ?_))
                        apply Stop.go
                        refine wpList_store1 rfl _ _ _ rfl g (65 + j) rfl (.int .i64 3) rfl _ _ hGv info_int (by rw [encR_size qvo]; omega) rfl fun w6 u6 => ?_
                        dsimp only [Act.put]
                        have hG6 := u6.here
                        rw [setR_st qvo j hjl, upS_set hpo.st 3 j hjl] at hG6
                        have hZ6 := u6.keep hZ (by omega)
                        have hE6 := hE.upd (by omega) u6
                        have hgr6 : g < w6.heap.size := by rw [u6.size]; exact hgr
                        clear u6 hGv B hZ hE hgr
                        go_wp2
                        go_roundw
                        case rel => first | exact ⟨j + 1, by omega, by go_num, hG6, hZ6, hE6, hgr6⟩ | ((repeat apply Exists.intro); exact ⟨⟨j + 1, by omega, by go_num, hG6, hZ6, hE6, hgr6⟩, rfl⟩)
                        case measure => simp [intOf]; omega
                      · obtain rfl : j = 64 := by omega
                        have hG8 := B.out
                        rw [upS_all hpo.st 3] at hG8
                        have q1o : RestOk { p with st := List.replicate 64 3 } := ⟨hpo.f, by simp⟩
                        have q2o : RestOk { p with st := List.replicate 64 3, sound := true } := ⟨hpo.f, by simp⟩
                        have q3o : RestOk { p with sound := true, st := List.replicate 64 3, copies := 1 } := ⟨hpo.f, by simp⟩
                        go_wp2_with ((with_reducible refine stop_store 4 rfl ?_))
                        apply Stop.go
                        refine wpList_store1 rfl _ _ _ rfl g 129 rfl (.bool true) rfl _ _ hG8 info_bool (by rw [encR_size q1o]; omega) rfl fun w9 u9 => ?_
                        dsimp only [Act.put]
                        have hG9 := u9.here
                        rw [setR_sound q1o] at hG9
                        have hZ9 := u9.keep hZ (by omega)
                        have hE9 := hE.upd (by omega) u9
                        clear u9 hG8 hZ hE B
                        go_wp2_with ((with_reducible refine stop_store 3 rfl ?_))
                        apply Stop.go
                        refine wpList_store1 rfl _ _ _ rfl g 130 rfl (.int .i64 1) rfl _ _ hG9 info_int (by rw [encR_size q2o]; omega) rfl fun w11 u11 => ?_
                        dsimp only [Act.put]
                        have hG11 := u11.here
                        rw [setR_copies q2o] at hG11
                        have hZ11 := u11.keep hZ9 (by omega)
                        have hE11 := hE9.upd (by omega) u11
                        clear u11 hG9 hZ9 hE9
                        go_wp2_with ((with_reducible refine stop_load 30 rfl ?_))
                        apply Stop.go
                        refine wpList_load_blk rfl _ _ rfl g 0 rfl 132 _ _ _ _ hG11 Tryz.underlying30 rfl info_rest (by rw [encR_size q3o]; omega) (encR { p with sound := true, st := List.replicate 64 3, copies := 1 }) (encR_whole q3o) ?_
                        simp only [Act.put, List.setIfInBounds_toArray, List.set_cons_zero, List.set_cons_succ]
                        go_wp2_with ((with_reducible refine stop_store 30 rfl ?_))
                        apply Stop.go
                        refine store_rest rfl _ _ rfl w.heap.size rfl { p with sound := true, st := List.replicate 64 3, copies := 1 } q3o rfl _ hZ11 zero_rest fun w9 u9 => ?_
                        dsimp only [Act.put]
                        go_wp2
                        exact bodyPost_ret (v := .agg (encR { p with sound := true, st := List.replicate 64 3, copies := 1 })) (results_cell_row Tryz.results22 _ _ w.heap.size _ _ _ _ rfl u9.here Tryz.underlying30 rfl (by rw [encR_size q3o]; exact info_rest)) rfl ⟨by rw [HF.out], (hE11.upd (by omega) u9)⟩
                  · have s3' : (((numV p.f : Nat) : Int) == p.num) = false := by simp [s3]
                    have HF := Lib.hid (HF1.out (by rw [soundAsB, hs2, s3']; rfl))
                    clear HF0 HF1 HF2 ha hs2 s3
                    go_wp2
                    refine wp_region_ext (by kernel_rfl) (by kernel_rfl) ?_
                    repeat (go_big_quiet_step (fail))
                    refine BigFrame.wpQuiet_want rfl fun K hK => ?_
                    refine quiet_load_blk _ _ rfl g 1 rfl 64 _ _ _ _ (by rintro _ ⟨x, rfl⟩; exact (hG.ext x.ext)) Tryz.underlying27 rfl info_frame (by rw [encR_size hpo]; omega) (encF p.f) (encR_ext_f hpo) (hK _ ?_)
                    clear hK K
                    simp only [Act.put, List.setIfInBounds_toArray, List.set_cons_zero, List.set_cons_succ]
                    repeat (go_big_quiet_step ((first | (go_at_call 29; refine calls_ext (ca _)) | (go_at_call 30; refine calls_ext (cn _)))))
                    refine BigFrame.wpQuiet_want rfl fun K hK => ?_
                    refine quiet_load_blk _ _ rfl g 1 rfl 64 _ _ _ _ (by rintro _ ⟨x, rfl⟩; exact (hG.ext x.ext)) Tryz.underlying27 rfl info_frame (by rw [encR_size hpo]; omega) (encF p.f) (encR_ext_f hpo) (hK _ ?_)
                    clear hK K
                    simp only [Act.put, List.setIfInBounds_toArray, List.set_cons_zero, List.set_cons_succ]
                    repeat (go_big_quiet_step ((first | (go_at_call 29; refine calls_ext (ca _)) | (go_at_call 30; refine calls_ext (cn _)))))
                    refine wpQuiet_nil ?_
                    rintro _ ⟨x, rfl⟩
                    have hG5 := hG.ext x.ext
                    have hZ5 := x.ext.heap hZ
                    have hE5 := hE.trans x.ext
                    generalize x.val = w5 at hG5 hZ5 hE5 ⊢
                    clear hG hZ hgr hE hld hnm ca cn x
                    go_wp2_with ((with_reducible refine stop_load 30 rfl ?_))
                    apply Stop.go
                    refine wpList_load_blk rfl _ _ rfl g 0 rfl 132 _ _ _ _ hG5 Tryz.underlying30 rfl info_rest (by rw [encR_size hpo]; omega) (encR p) (encR_whole hpo) ?_
                    simp only [Act.put, List.setIfInBounds_toArray, List.set_cons_zero, List.set_cons_succ]
                    go_wp2_with ((with_reducible refine stop_store 30 rfl ?_))
                    apply Stop.go
                    refine store_rest rfl _ _ rfl w.heap.size rfl p hpo rfl _ hZ5 zero_rest fun w9 u9 => ?_
                    dsimp only [Act.put]
                    go_wp2
                    exact bodyPost_ret (v := .agg (encR p)) (results_cell_row Tryz.results22 _ _ w.heap.size _ _ _ _ rfl u9.here Tryz.underlying30 rfl (by rw [encR_size hpo]; exact info_rest)) rfl ⟨by rw [HF.out], (hE5.upd (by omega) u9)⟩
end Go.Proofs.YtplddeboinhkbaaGreatDoorRR

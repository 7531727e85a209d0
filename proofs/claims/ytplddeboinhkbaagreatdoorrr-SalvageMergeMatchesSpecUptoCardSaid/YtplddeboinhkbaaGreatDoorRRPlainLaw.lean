/- What the merged and the mended rest are: right by the check of a rest; and a merged one stays as it is when it is merged alone. -/

import Derived.Test.YtplddeboinhkbaaGreatDoorRRProg
import Derived.Test.YtplddeboinhkbaaGreatDoorRRMergeB
import Derived.Test.YtplddeboinhkbaaGreatDoorRRRefE
namespace Go.Proofs.YtplddeboinhkbaaGreatDoorRR
open Go.RowKit
theorem cellFault_zero {s : Int} {f : Nat} : cellFault s f = 0 ↔ (0 ≤ s ∧ s ≤ 3) ∧ (s = 0 → f = 0) ∧ f ≤ 4095 := by
  unfold cellFault
  split
  · rename_i h
    split
    · rename_i h2
      simp only [h, true_and, and_self]
      constructor
      · intro h3; omega
      · rintro ⟨h3, h4⟩
        rcases h2 with ⟨h5, h6⟩ | h5
        · exact absurd (h3 h5) h6
        · omega
    · rename_i h2
      simp only [h, true_and, and_self, true_iff]
      refine ⟨fun h3 => Classical.byContradiction fun h4 => h2 (.inl ⟨h3, h4⟩), ?_⟩
      exact Nat.le_of_not_lt fun h4 => h2 (.inr h4)
  · rename_i h
    simp [h]
theorem scanTo_zero (r : SR) : ∀ n, scanTo r n = 0 ↔ ∀ k, k < n → cellFault (sv r.st k) (wd r.f k) = 0
  | 0 => by simp [scanTo]
  | n + 1 => by
    have ih := scanTo_zero r n
    unfold scanTo
    split
    · rename_i h
      rw [ih] at h
      constructor
      · intro h2 k hk
        rcases Nat.lt_succ_iff_lt_or_eq.1 hk with e | e
        · exact h k e
        · rw [e]; exact h2
      · intro h2
        exact h2 n (by omega)
    · rename_i h
      constructor
      · intro h2
        exact absurd h2 h
      · intro h2
        exact absurd (ih.2 fun k hk => h2 k (by omega)) h
/-- A right rest, told in words. -/
structure Fine (r : SR) : Prop where
  lo : 0 ≤ r.num
  hi : r.num ≤ 4194303
  st : ∀ k, k < 64 → 0 ≤ sv r.st k ∧ sv r.st k ≤ 3
  lost : ∀ k, k < 64 → sv r.st k = 0 → wd r.f k = 0
  word : ∀ k, k < 64 → wd r.f k ≤ 4095
  sound : r.sound = true → soundAsB r.f r.num = true ∧ (∀ k, k < 64 → 2 ≤ sv r.st k) ∧ r.conf = false
  unsound : r.sound = false → ∀ k, k < 64 → sv r.st k ≤ 1
  copies : 0 ≤ r.copies
  good : r.sound = true → allB r 3 = true → 1 ≤ r.copies
theorem someB_iff {r : SR} (h : RestOk r) (s t : Int) : someB r s t = true ↔ ∃ k, k < 64 ∧ (sv r.st k = s ∨ sv r.st k = t) := by
  unfold someB
  rw [any_sv h.st]
  simp
theorem someB_false {r : SR} (h : RestOk r) (s t : Int) : someB r s t = false ↔ ∀ k, k < 64 → sv r.st k ≠ s ∧ sv r.st k ≠ t := by
  rw [Bool.eq_false_iff, ne_eq, someB_iff h]
  constructor
  · intro h2 k hk
    exact ⟨fun e => h2 ⟨k, hk, .inl e⟩, fun e => h2 ⟨k, hk, .inr e⟩⟩
  · rintro h2 ⟨k, hk, e | e⟩
    · exact (h2 k hk).1 e
    · exact (h2 k hk).2 e
theorem allB_iff {r : SR} (h : RestOk r) (s : Int) : allB r s = true ↔ ∀ k, k < 64 → sv r.st k = s := by
  unfold allB
  rw [Bool.not_eq_true', Bool.eq_false_iff, ne_eq, any_sv h.st]
  constructor
  · intro h2 k hk
    apply Classical.byContradiction
    intro hne
    exact h2 ⟨k, hk, by simpa using hne⟩
  · rintro h2 ⟨k, hk, e⟩
    rw [h2 k hk] at e
    simp at e
theorem tailF_zero (r : SR) : tailF r = 0 ↔ (r.sound = true → soundAsB r.f r.num = true ∧ someB r 0 1 = false ∧ r.conf = false) ∧ (r.sound = false → someB r 3 2 = false) ∧ 0 ≤ r.copies ∧ (r.sound = true → allB r 3 = true → r.copies ≠ 0) := by
  have hd : decide (r.copies < 0) = true ↔ ¬ 0 ≤ r.copies := by rw [decide_eq_true_iff]; omega
  unfold tailF
  cases hs : r.sound <;> cases h1 : soundAsB r.f r.num <;> cases h2 : someB r 0 1 <;> cases h3 : someB r 3 2 <;> cases h4 : r.conf <;> cases h5 : allB r 3 <;> by_cases h6 : 0 ≤ r.copies <;> by_cases h7 : r.copies = 0 <;> simp_all <;> omega
theorem fine_iff {r : SR} (h : RestOk r) : checkP r = 0 ↔ Fine r := by
  unfold checkP
  constructor
  · intro hc
    split at hc
    · rename_i hn
      split at hc
      · rename_i hsc
        rw [scanTo_zero] at hsc
        rw [tailF_zero] at hc
        obtain ⟨t1, t2, t3, t4⟩ := hc
        have hcell := fun k hk => cellFault_zero.1 (hsc k hk)
        refine ⟨hn.1, hn.2, fun k hk => (hcell k hk).1, fun k hk => (hcell k hk).2.1, fun k hk => (hcell k hk).2.2, fun hs => ?_, fun hs k hk => ?_, t3, fun hs ha => ?_⟩
        · obtain ⟨u1, u2, u3⟩ := t1 hs
          refine ⟨u1, fun k hk => ?_, u3⟩
          have := (someB_false h 0 1).1 u2 k hk
          have := (hcell k hk).1
          omega
        · have := (someB_false h 3 2).1 (t2 hs) k hk
          have := (hcell k hk).1
          omega
        · have := t4 hs ha
          omega
      · rename_i hsc
        exact absurd hc hsc
    · simp at hc
  · intro hf
    rw [if_pos ⟨hf.lo, hf.hi⟩]
    have hsc : scanTo r 64 = 0 := (scanTo_zero r 64).2 fun k hk => cellFault_zero.2 ⟨hf.st k hk, hf.lost k hk, hf.word k hk⟩
    rw [if_pos hsc, tailF_zero]
    refine ⟨fun hs => ?_, fun hs => ?_, hf.copies, fun hs ha => ?_⟩
    · obtain ⟨u1, u2, u3⟩ := hf.sound hs
      refine ⟨u1, (someB_false h 0 1).2 fun k hk => ?_, u3⟩
      have := u2 k hk
      omega
    · refine (someB_false h 3 2).2 fun k hk => ?_
      have := hf.unsound hs k hk
      omega
    · have := hf.good hs ha
      omega
/-- A sound frame has no wide word. -/
theorem soundB_word {f : List Nat} (h : soundB f = true) (k : Nat) (hk : k < 64) : wd f k ≤ 4095 := by
  unfold soundB at h
  simp only [Bool.and_eq_true, Bool.not_eq_true'] at h
  have hw := h.1.1.1.1
  apply Nat.le_of_not_lt
  intro h2
  have := (wideTo_iff f 64).2 ⟨k, hk, h2⟩
  unfold wideB at hw
  rw [this] at hw
  cases hw
theorem soundAsB_word {f : List Nat} {n : Int} (h : soundAsB f n = true) (k : Nat) (hk : k < 64) : wd f k ≤ 4095 := by
  unfold soundAsB at h
  rw [Bool.and_eq_true] at h
  exact soundB_word h.1 k hk
theorem sv_rep (s : Int) (k : Nat) (hk : k < 64) : sv (List.replicate 64 s) k = s := by rw [sv, List.getD_eq_getElem?_getD, List.getElem?_replicate, if_pos hk]; rfl
theorem wd_rep (s : Nat) (k : Nat) (hk : k < 64) : wd (List.replicate 64 s) k = s := by rw [wd, List.getD_eq_getElem?_getD, List.getElem?_replicate, if_pos hk]; rfl
/-- Right rests of one number. -/
structure FineL (l : List SR) : Prop where
  pos : 0 < l.length
  ok : RsOk l
  fine : ∀ k, k < l.length → Fine (rv l k)
  num : ∀ k, k < l.length → (rv l k).num = (rv l 0).num
theorem fineL_of {l : List SR} (h0 : 0 < l.length) (hO : RsOk l) (h : mergeE l = 0) : FineL l := by
  unfold mergeE at h
  split at h
  · rename_i hc
    rw [if_neg (by omega)] at h
    split at h
    · simp at h
    · rename_i hd
      refine ⟨h0, hO, fun k hk => (fine_iff (hO k hk)).1 (chkTo_all l l.length hc k hk), fun k hk => ?_⟩
      have : numDiff l = false := by simpa using hd
      unfold numDiff at this
      rw [List.any_eq_false] at this
      have := this (rv l k) (rv_mem hk)
      simpa using this
  · rename_i hc
    exact absurd h hc
theorem copTo_nonneg {l : List SR} (h : FineL l) : ∀ k, k ≤ l.length → 0 ≤ copTo l k
  | 0, _ => Int.le_refl 0
  | k + 1, hk => by
    have := copTo_nonneg h k (by omega)
    have := (h.fine k (by omega)).copies
    simp only [copTo]
    omega
theorem sv_mix64 (a b : List Int) (i : Nat) (hi : i < 64) : sv (mixS a b 64) i = max (sv a i) (sv b i) := by
  rw [sv_mixS _ _ _ _ hi, if_pos hi]
/-- Behind k rests: nothing sound as yet, or what is sound. -/
theorem soTo_fine {l : List SR} (h : FineL l) : ∀ k, k ≤ l.length → soTo l (baseR l) k = baseR l ∨
    ((soTo l (baseR l) k).sound = true ∧ soundAsB (soTo l (baseR l) k).f (rv l 0).num = true ∧ (∀ i, i < 64 → 2 ≤ sv (soTo l (baseR l) k).st i ∧ sv (soTo l (baseR l) k).st i ≤ 3) ∧ (soTo l (baseR l) k).conf = false)
  | 0, _ => .inl rfl
  | k + 1, hk => by
    have ih := soTo_fine h k (by omega)
    have hf := h.fine k (by omega)
    have hn := h.num k (by omega)
    simp only [soTo, soStep]
    split
    · rename_i hs
      right
      obtain ⟨u1, u2, u3⟩ := hf.sound hs
      rw [hn] at u1
      refine ⟨rfl, u1, fun i hi => ?_, ?_⟩
      · rw [sv_mix64 _ _ i hi]
        have a1 := u2 i hi
        have a2 := (hf.st i hi).2
        have a3 : sv (soTo l (baseR l) k).st i ≤ 3 := by
          rcases ih with e | ⟨_, _, e, _⟩
          · rw [e]
            show sv (List.replicate 64 0) i ≤ 3
            rw [sv_rep _ i hi]
            omega
          · exact (e i hi).2
        omega
      · rcases ih with e | ⟨_, _, _, e⟩
        · rw [e]; rfl
        · exact e
    · exact ih
theorem pa_unsound {l : List SR} (h : FineL l) (i : Nat) (hi : i < 64) : ∀ k, k ≤ l.length → (pa l i k).2.2 ≤ 4095 ∧ ((pa l i k).2.1 = false → (pa l i k).2.2 = 0)
  | 0, _ => by simp [pa]
  | k + 1, hk => by
    have ih := pa_unsound h i hi k (by omega)
    unfold pa
    split
    · exact ih
    · exact ⟨(h.fine k (by omega)).word i hi, fun e => by simp at e⟩
theorem sv_parS (l : List SR) (i j : Nat) (hj : j < 64) : sv (parS l i) j = if j < i then ps l j else 0 := by simp [sv, parS, List.getD_eq_getElem?_getD, hj]
theorem wd_parF (l : List SR) (i j : Nat) (hj : j < 64) : wd (parF l i) j = if j < i then pw l j else 0 := by simp [wd, parF, List.getD_eq_getElem?_getD, hj]
theorem par_fine {l : List SR} (h : FineL l) : Fine (par l (baseR l) 64) := by
  have hf0 := h.fine 0 h.pos
  have hps : ∀ i, i < 64 → (ps l i = 0 ∨ ps l i = 1) ∧ (ps l i = 0 → pw l i = 0) ∧ pw l i ≤ 4095 := fun i hi => by
    have := pa_unsound h i hi l.length (Nat.le_refl _)
    unfold ps pw p1
    split
    · simp
    · cases h2 : (pa l i l.length).2.1 with
      | true => simp [this.1]
      | false => simp [this.2 h2]
  refine ⟨hf0.lo, hf0.hi, fun k hk => ?_, fun k hk h0 => ?_, fun k hk => ?_, fun hs => ?_, fun _ k hk => ?_, copTo_nonneg h _ (Nat.le_refl _), fun hs => ?_⟩
  · show 0 ≤ sv (parS l 64) k ∧ sv (parS l 64) k ≤ 3
    rw [sv_parS l 64 k hk, if_pos hk]
    have := (hps k hk).1
    omega
  · have h0 : sv (parS l 64) k = 0 := h0
    show wd (parF l 64) k = 0
    rw [sv_parS l 64 k hk, if_pos hk] at h0
    rw [wd_parF l 64 k hk, if_pos hk]
    exact (hps k hk).2.1 h0
  · show wd (parF l 64) k ≤ 4095
    rw [wd_parF l 64 k hk, if_pos hk]
    exact (hps k hk).2.2
  · cases hs
  · show sv (parS l 64) k ≤ 1
    rw [sv_parS l 64 k hk, if_pos hk]
    have := (hps k hk).1
    omega
  · cases hs
theorem allB_rep (r : SR) (h : r.st = List.replicate 64 3) : allB r 3 = true := by
  unfold allB
  rw [h]
  simp
theorem goodR_fine {q : SR} (_h : RestOk q) (h1 : q.sound = true → soundAsB q.f q.num = true ∧ (∀ k, k < 64 → 2 ≤ sv q.st k) ∧ q.conf = false) (h2 : q.sound = false → ∀ k, k < 64 → sv q.st k ≤ 1)
    (h3 : ∀ k, k < 64 → 0 ≤ sv q.st k ∧ sv q.st k ≤ 3) (h4 : ∀ k, k < 64 → sv q.st k = 0 → wd q.f k = 0) (h5 : ∀ k, k < 64 → wd q.f k ≤ 4095) (h6 : 0 ≤ q.num) (h7 : q.num ≤ 4194303) (h8 : 0 ≤ q.copies) : Fine (goodR q) := by
  unfold goodR
  split
  · rename_i hg
    refine ⟨h6, h7, h3, h4, h5, h1, h2, ?_, fun _ _ => ?_⟩
    · show 0 ≤ max q.copies 1
      omega
    · show 1 ≤ max q.copies 1
      omega
  · rename_i hg
    refine ⟨h6, h7, h3, h4, h5, h1, h2, h8, fun hs ha => ?_⟩
    rw [hs, ha] at hg
    simp at hg
theorem merge_fine {l : List SR} (h : FineL l) : Fine (mergeP l) := by
  have hf0 := h.fine 0 h.pos
  have hcp := copTo_nonneg h _ (Nat.le_refl _)
  unfold mergeP
  split
  · refine ⟨hf0.lo, hf0.hi, fun k hk => ?_, fun k hk _ => ?_, fun k hk => ?_, fun hs => ?_, fun _ k hk => ?_, hcp, fun hs => ?_⟩
    · show 0 ≤ sv (List.replicate 64 0) k ∧ sv (List.replicate 64 0) k ≤ 3
      rw [sv_rep _ k hk]
      omega
    · show wd (List.replicate 64 0) k = 0
      rw [wd_rep _ k hk]
    · show wd (List.replicate 64 0) k ≤ 4095
      rw [wd_rep _ k hk]
      omega
    · cases hs
    · show sv (List.replicate 64 0) k ≤ 1
      rw [sv_rep _ k hk]
      omega
    · cases hs
  · unfold bothR
    have hso := soTo_fine h l.length (Nat.le_refl _)
    have hsm := soTo_same l (baseR l) l.length
    have hok := soTo_ok (baseR_ok l) h.ok l.length (Nat.le_refl _)
    split
    · rename_i hs
      rcases hso with e | ⟨_, e1, e2, e3⟩
      · rw [e] at hs
        cases hs
      · have hn : (soTo l (baseR l) l.length).num = (rv l 0).num := hsm.1
        have hc : (soTo l (baseR l) l.length).copies = copTo l l.length := hsm.2
        refine goodR_fine hok (fun _ => ⟨by rw [hn]; exact e1, fun k hk => (e2 k hk).1, e3⟩) (fun hs2 => absurd (hs.symm.trans hs2) (by simp)) (fun k hk => ⟨by have := (e2 k hk).1; omega, (e2 k hk).2⟩)
          (fun k hk h0 => by have := (e2 k hk).1; omega) (fun k hk => soundAsB_word e1 k hk) (by rw [hn]; exact hf0.lo) (by rw [hn]; exact hf0.hi) (by rw [hc]; exact hcp)
    · have hp := par_fine h
      have hpo := par_ok h.ok (baseR l) 64
      have hps : (par l (baseR l) 64).sound = false := rfl
      have hpc : (par l (baseR l) 64).conf = false := rfl
      generalize par l (baseR l) 64 = p at hp hpo hps hpc ⊢
      unfold wholeR
      split
      · rename_i hw
        rw [Bool.and_eq_true] at hw
        refine goodR_fine ⟨hpo.f, by simp⟩ (fun _ => ⟨hw.2, fun k hk => ?_, ?_⟩) (fun hs => by cases hs) (fun k hk => ?_) (fun k hk h0 => ?_) hp.word hp.lo hp.hi (by simp)
        · show 2 ≤ sv (List.replicate 64 3) k
          rw [sv_rep _ k hk]; omega
        · exact hpc
        · show 0 ≤ sv (List.replicate 64 3) k ∧ sv (List.replicate 64 3) k ≤ 3
          rw [sv_rep _ k hk]; omega
        · have h0 : sv (List.replicate 64 3) k = 0 := h0
          rw [sv_rep _ k hk] at h0
          omega
      · exact goodR_fine hpo hp.sound hp.unsound hp.st hp.lost hp.word hp.lo hp.hi hp.copies
/-- What a merged rest is beside right. -/
structure Merged (q : SR) : Prop where
  conf : q.conf = true → q = { zeroR q.num with copies := q.copies, conf := true }
  whole : q.sound = false → q.conf = false → (!someB q 0 0 && soundAsB q.f q.num) = false
theorem goodR_same (q : SR) : (goodR q).sound = q.sound ∧ (goodR q).conf = q.conf ∧ (goodR q).num = q.num := by
  unfold goodR
  split <;> exact ⟨rfl, rfl, rfl⟩
theorem goodR_unsound {q : SR} (h : q.sound = false) : goodR q = q := by
  unfold goodR
  rw [h]
  simp
theorem merge_merged {l : List SR} (h : FineL l) : Merged (mergeP l) := by
  unfold mergeP
  split
  · exact ⟨fun _ => rfl, fun _ hc => by cases hc⟩
  · unfold bothR
    have hso := soTo_fine h l.length (Nat.le_refl _)
    split
    · rename_i hs
      rcases hso with e | ⟨_, e1, e2, e3⟩
      · rw [e] at hs
        cases hs
      · generalize soTo l (baseR l) l.length = q at hs e3
        have hg := goodR_same q
        exact ⟨fun hc => absurd (e3.symm.trans (hg.2.1.symm.trans hc)) (by simp), fun hs2 => absurd (hs.symm.trans (hg.1.symm.trans hs2)) (by simp)⟩
    · have hps : (par l (baseR l) 64).sound = false := rfl
      have hpc : (par l (baseR l) 64).conf = false := rfl
      generalize par l (baseR l) 64 = p at hps hpc ⊢
      unfold wholeR
      split
      · rename_i hw
        have hg := goodR_same { p with sound := true, st := List.replicate 64 3, copies := 1 }
        exact ⟨fun hc => absurd (hpc.symm.trans (hg.2.1.symm.trans hc)) (by simp), fun hs2 => absurd (hg.1.symm.trans hs2) (by simp)⟩
      · rename_i hw
        rw [goodR_unsound hps]
        exact ⟨fun hc => absurd (hpc.symm.trans hc) (by simp), fun _ _ => by simpa using hw⟩
theorem f_ext {f g : List Nat} (hf : f.length = 64) (hg : g.length = 64) (h : ∀ k, k < 64 → wd f k = wd g k) : f = g := by
  apply List.ext_getElem (by omega)
  intro i h1 h2
  have := h i (by omega)
  unfold wd at this
  rw [List.getD_eq_getElem?_getD, List.getD_eq_getElem?_getD, List.getElem?_eq_getElem h1, List.getElem?_eq_getElem h2] at this
  exact this
theorem st_ext {f g : List Int} (hf : f.length = 64) (hg : g.length = 64) (h : ∀ k, k < 64 → sv f k = sv g k) : f = g := by
  apply List.ext_getElem (by omega)
  intro i h1 h2
  rw [sv_at h1, sv_at h2]
  exact h i (by omega)
theorem merge_one {q : SR} (hq : RestOk q) (hf : Fine q) (hm : Merged q) : mergeP [q] = q := by
  have hrv : rv [q] 0 = q := rfl
  have hb : baseR [q] = { zeroR q.num with copies := q.copies } := by
    simp [baseR, copTo, rv, zeroR]
  have hcl : clash [q] = q.conf := by
    simp [clash, confAny, soDiff, soTo, baseR, zeroR]
  unfold mergeP
  rw [hcl]
  cases hc : q.conf with
  | true =>
    rw [if_pos rfl]
    unfold clashR
    rw [hb]
    exact (hm.conf hc).symm
  | false =>
    rw [if_neg (by simp)]
    cases hs : q.sound with
    | true =>
      have h1 : soTo [q] (baseR [q]) 1 = { q with sound := true, conf := false } := by
        show soStep (baseR [q]) q = _
        rw [soStep, if_pos hs, hb]
        have : mixS (List.replicate 64 0) q.st 64 = q.st := st_ext (mixS_length _ _ _) hq.st fun k hk => by
          rw [sv_mix64 _ _ k hk, sv_rep _ k hk]
          have := (hf.st k hk).1
          omega
        rw [show ({ zeroR q.num with copies := q.copies } : SR).st = List.replicate 64 0 from rfl, this]
        rfl
      have h2 : ({ q with sound := true, conf := false } : SR) = q := by
        cases q
        simp_all
      rw [h2] at h1
      have h3 : bothR [q] = q := by
        unfold bothR
        rw [show [q].length = 1 from rfl, h1, if_pos hs]
      rw [h3]
      unfold goodR
      split
      · rename_i hg
        rw [Bool.and_eq_true] at hg
        have := hf.good hg.1 hg.2
        have h4 : max q.copies 1 = q.copies := by omega
        rw [h4]
      · rfl
    | false =>
      have h1 : soTo [q] (baseR [q]) 1 = baseR [q] := by
        show soStep (baseR [q]) q = _
        rw [soStep, if_neg (by simp [hs])]
      have hpa : ∀ i, pa [q] i 1 = if sv q.st i = 0 then (false, false, 0) else (false, true, wd q.f i) := fun i => by
        simp [pa, rv]
      have hpw : parF [q] 64 = q.f := f_ext (parF_length _ _) hq.f.1 fun k hk => by
        rw [wd_parF _ _ _ hk, if_pos hk]
        unfold pw
        rw [show [q].length = 1 from rfl, hpa]
        by_cases h2 : sv q.st k = 0
        · rw [if_pos h2]
          exact (hf.lost k hk h2).symm
        · rw [if_neg h2]
          rfl
      have hps : parS [q] 64 = q.st := st_ext (parS_length _ _) hq.st fun k hk => by
        rw [sv_parS _ _ _ hk, if_pos hk]
        unfold ps
        rw [show [q].length = 1 from rfl, hpa]
        have u1 := hf.unsound hs k hk
        have u2 := (hf.st k hk).1
        by_cases h2 : sv q.st k = 0
        · simp [h2, p1]
        · simp only [if_neg h2]
          simp only [p1, if_true, Bool.false_eq_true, if_false]
          omega
      have hp : par [q] (baseR [q]) 64 = q := by
        unfold par
        rw [hpw, hps, hb]
        cases q
        simp_all [zeroR]
      have h3 : bothR [q] = q := by
        unfold bothR
        rw [show [q].length = 1 from rfl, h1, hp, if_neg (by simp [baseR, zeroR])]
        unfold wholeR
        rw [hm.whole hs hc, if_neg (by simp)]
      rw [h3, goodR_unsound hs]
theorem sv_rep_set (q : Nat) (hl : q < 64) (k : Nat) (hk : k < 64) : sv ((List.replicate 64 3).set q 2) k = if k = q then 2 else 3 := by
  unfold sv
  rw [List.getD_eq_getElem?_getD, List.getElem?_set]
  by_cases e : q = k
  · subst e; simp [hl]
  · rw [if_neg e, List.getElem?_replicate, if_pos hk, if_neg (Ne.symm e)]; rfl
theorem mended_fine {r : SR} (h : RestOk r) (hf : Fine r) : Fine (mendedP r) := by
  unfold mendedP
  split
  · exact hf
  · rename_i h1
    have hc : r.conf = false := by
      cases h2 : r.conf with
      | false => rfl
      | true => rw [h2, Bool.or_true] at h1; exact absurd rfl h1
    split
    · exact hf
    · split
      · rename_i h2
        rw [Bool.and_eq_true] at h2
        have hl := lostAt_lt r.st 64 (by omega)
        have hsv := sv_rep_set (lostAt r.st 64) hl
        refine ⟨hf.lo, hf.hi, fun k hk => ?_, fun k hk h0 => ?_, fun k hk => soundAsB_word h2.2 k hk, fun _ => ⟨h2.2, fun k hk => ?_, hc⟩, (fun hs => by cases hs), by simp [mendR], fun _ ha => ?_⟩
        · show 0 ≤ sv ((List.replicate 64 3).set (lostAt r.st 64) 2) k ∧ sv ((List.replicate 64 3).set (lostAt r.st 64) 2) k ≤ 3
          rw [hsv k hk]
          split <;> omega
        · have h0 : sv ((List.replicate 64 3).set (lostAt r.st 64) 2) k = 0 := h0
          rw [hsv k hk] at h0
          split at h0 <;> omega
        · show 2 ≤ sv ((List.replicate 64 3).set (lostAt r.st 64) 2) k
          rw [hsv k hk]
          split <;> omega
        · have := (allB_iff (mendR_ok (replR_ok h.f hl)) 3).1 ha (lostAt r.st 64) hl
          have h5 : sv ((List.replicate 64 3).set (lostAt r.st 64) 2) (lostAt r.st 64) = 3 := this
          rw [hsv _ hl, if_pos rfl] at h5
          omega
      · exact hf
end Go.Proofs.YtplddeboinhkbaaGreatDoorRR

/- A region that draws its order among its first operations alone: behind them every operation waits for all ahead of it. -/
import Derived.Test.YtplddeboinhkbaaGreatDoorRRExt
namespace Go.Proofs.YtplddeboinhkbaaGreatDoorRR
open Go.RowKit
section
variable {P : Program} {md : Region.Mode} {C : World → Prop} {Q : Exit → Act → World → Prop} {R : Act → Prop}
/-- From n on each waits for all ahead of it; no guards. -/
def prefB (md : Region.Mode) (ops : Array Oper) (n : Nat) : Bool :=
  backB md ops && ((List.range ops.size).all fun j => decide (j < n) || (List.range j).all fun i => Region.waitsFor md ops j i) &&
  ((List.range ops.size).all fun j => match ops[j]? with | some o => o.guard.isNone | none => true) && decide (n ≤ ops.size)
theorem pref_tail {L : List Oper} {n : Nat} (hp : prefB md L.toArray n = true) :
    ∀ (d m : Nat) (fuel : Nat) (listed : Array Bool) (a : Act) (w : World), m + d = L.toArray.size → n ≤ m → d ≤ fuel → listed.size = L.toArray.size →
      (∀ j, j < L.toArray.size → (listed.getD j true = true ↔ j < m)) → wpList P L.toArray Q (L.drop m) a w → wpAny P md L.toArray Q fuel listed a w := by
  have hp' := hp
  simp only [prefB, Bool.and_eq_true, decide_eq_true_eq] at hp
  obtain ⟨⟨⟨hback, hwait⟩, hgd⟩, hn⟩ := hp
  intro d
  induction d with
  | zero =>
    intro m fuel listed a w hm hnm hd hsz hinv h
    have hnil : Region.ready md L.toArray listed = [] := by
      apply List.eq_nil_iff_forall_not_mem.2
      intro j hj
      obtain ⟨hun, o, ho, _⟩ := mem_ready.1 hj
      have hjl := (Array.getElem?_eq_some_iff.1 ho).1
      rw [(hinv j hjl).2 (by omega)] at hun
      cases hun
    have hq : Q .normal a w := by
      rw [List.drop_of_length_le (by simp at hm; omega)] at h
      exact h
    cases fuel with
    | zero => exact ⟨hnil, hq⟩
    | succ f => exact ⟨fun _ => hq, fun j hj => by rw [hnil] at hj; cases hj⟩
  | succ d ih =>
    intro m fuel listed a w hm hnm hd hsz hinv h
    obtain ⟨f, rfl⟩ : ∃ f, fuel = f + 1 := ⟨fuel - 1, by omega⟩
    have hml : m < L.toArray.size := by omega
    have hun : listed.getD m true = false := by
      cases hl : listed.getD m true with
      | false => rfl
      | true => have := (hinv m hml).1 hl; omega
    refine ⟨fun h0 => absurd h0 (ready_some hback hsz m hml hun), fun i hi => ?_⟩
    obtain ⟨hun2, o, ho, hdeps⟩ := mem_ready.1 hi
    have hil := (Array.getElem?_eq_some_iff.1 ho).1
    have him : i = m := by
      apply Classical.byContradiction
      intro hne
      have hgt : m < i := by
        rcases Nat.lt_trichotomy i m with h' | h' | h'
        · rw [(hinv i hil).2 h'] at hun2; cases hun2
        · exact absurd h' hne
        · exact h'
      have hw := List.all_eq_true.1 hwait i (List.mem_range.2 hil)
      simp only [show ¬ i < n from by omega, decide_false, Bool.false_or] at hw
      have hw2 := List.all_eq_true.1 hw m (List.mem_range.2 hgt)
      obtain ⟨o', ho', e, he, hb, hon⟩ := Region.waitsFor_spec hw2
      have : o' = o := Option.some.inj (ho'.symm.trans ho)
      subst this
      have hl := hdeps e he hb
      rw [hon, getD_both hun] at hl
      cases hl
    subst him
    have hdrop : L.drop i = o :: L.drop (i + 1) := by
      have : i < L.length := by simpa using hil
      rw [List.drop_eq_getElem_cons this]
      congr 1
      have h2 : L[i]? = some o := by simpa using ho
      rw [List.getElem?_eq_getElem this] at h2
      exact Option.some.inj h2
    rw [hdrop] at h
    have hg := List.all_eq_true.1 hgd i (List.mem_range.2 hil)
    simp only [ho] at hg
    have hg' : o.guard = none := by simpa using hg
    simp only [wpList, Region.wanted, hg', if_true] at h
    have hgo : ∀ a' w', wpList P L.toArray Q (L.drop (i + 1)) a' w' → wpAny P md L.toArray Q f (listed.setIfInBounds i true) a' w' := fun a' w' h' =>
      ih (i + 1) f _ a' w' (by omega) (by omega) (by omega) (by simp; simpa using hsz) (fun j hj => by
        by_cases e : i = j
        · subst e
          have : i < listed.size := by rw [hsz]; exact hil
          simp [this]
        · rw [getD_set_ne true e, hinv j hj]
          omega) h'
    unfold wpOp
    simp only [ho]
    rw [if_pos (by simp [Region.wanted, hg'])]
    exact h.imp (Oper.wp_mono fun a' w' hx => hgo a' w' hx) id
theorem wpAny_of_prefix {L : List Oper} {n : Nat} (hp : prefB md L.toArray n = true) (hR : ∀ a w, C w → R a → wpList P L.toArray Q (L.drop n) a w) :
    ∀ (fuel d : Nat) (listed lp : Array Bool) (a : Act) (w : World), C w → listed.size = L.toArray.size → lp.size = n → L.toArray.size ≤ n + d →
      (∀ j, n ≤ j → j < L.toArray.size → listed.getD j true = false) → (∀ j, j < n → lp[j]? = listed[j]?) →
      wpAnyQ P md (L.take n).toArray C R fuel lp a → wpAny P md L.toArray Q (fuel + d) listed a w := by
  have hp' := hp
  simp only [prefB, Bool.and_eq_true, decide_eq_true_eq] at hp
  obtain ⟨⟨⟨hback, hwait⟩, hgd⟩, hn⟩ := hp
  have hsp : (L.take n).toArray.size = n := by simp only [List.size_toArray, List.length_take] at hn ⊢; omega
  have hat : ∀ i, i < n → (L.take n).toArray[i]? = L.toArray[i]? := fun i hi => by simp [hi]
  have hbackp : backB md (L.take n).toArray = true := by
    unfold backB
    rw [hsp]
    apply List.all_eq_true.2
    intro i hi
    have hi := List.mem_range.1 hi
    rw [hat i hi]
    exact List.all_eq_true.1 hback i (List.mem_range.2 (by omega))
  have hget : ∀ (listed lp : Array Bool) (b : Bool), (∀ j, j < n → lp[j]? = listed[j]?) → ∀ j, j < n → lp.getD j b = listed.getD j b := fun listed lp b h j hj => by
    rw [Array.getD_eq_getD_getElem?, Array.getD_eq_getD_getElem?, h j hj]
  have hdone : ∀ (fuel d : Nat) (listed lp : Array Bool) (a : Act) (w : World), C w → listed.size = L.toArray.size → lp.size = n → L.toArray.size ≤ n + d →
      (∀ j, n ≤ j → j < L.toArray.size → listed.getD j true = false) → (∀ j, j < n → lp[j]? = listed[j]?) → Region.ready md (L.take n).toArray lp = [] → R a → wpAny P md L.toArray Q (fuel + d) listed a w := by
    intro fuel d listed lp a w hC hsz hsl hd hun hsame hnil hRa
    refine pref_tail hp' (L.toArray.size - n) n (fuel + d) listed a w (by omega) (Nat.le_refl _) (by omega) hsz (fun j hj => ?_) (hR a w hC hRa)
    constructor
    · intro h
      apply Classical.byContradiction
      intro hge
      rw [hun j (by omega) hj] at h
      cases h
    · intro hjn
      cases hl : listed.getD j true with
      | true => rfl
      | false => exact absurd hnil (ready_some hbackp (by rw [hsp, hsl]) j (by rw [hsp]; exact hjn) (by rw [hget listed lp true hsame j hjn]; exact hl))
  intro fuel
  induction fuel with
  | zero =>
    intro d listed lp a w hC hsz hsl hd hun hsame h
    exact hdone 0 d listed lp a w hC hsz hsl hd hun hsame h.1 h.2
  | succ fuel ih =>
    intro d listed lp a w hC hsz hsl hd hun hsame h
    cases hr : Region.ready md (L.take n).toArray lp with
    | nil => exact hdone (fuel + 1) d listed lp a w hC hsz hsl hd hun hsame hr (h.1 hr)
    | cons i0 l0 =>
      have hi0 : i0 ∈ Region.ready md (L.take n).toArray lp := by rw [hr]; exact List.mem_cons_self
      obtain ⟨hun0, o0, ho0, _⟩ := mem_ready.1 hi0
      have hi0n : i0 < n := by
        have := (Array.getElem?_eq_some_iff.1 ho0).1
        omega
      have hl0 : listed.getD i0 true = false := by rw [← hget listed lp true hsame i0 hi0n]; exact hun0
      rw [show fuel + 1 + d = (fuel + d) + 1 from by omega]
      refine ⟨fun h0 => absurd h0 (ready_some hback hsz i0 (by omega) hl0), fun i hi => ?_⟩
      obtain ⟨hun2, o, ho, hdeps⟩ := mem_ready.1 hi
      have hil := (Array.getElem?_eq_some_iff.1 ho).1
      have hin : i < n := by
        apply Classical.byContradiction
        intro hge
        have hw := List.all_eq_true.1 hwait i (List.mem_range.2 hil)
        simp only [show ¬ i < n from hge, decide_false, Bool.false_or] at hw
        have hw2 := List.all_eq_true.1 hw i0 (List.mem_range.2 (by omega))
        obtain ⟨o', ho', e, he, hb, hon⟩ := Region.waitsFor_spec hw2
        have : o' = o := Option.some.inj (ho'.symm.trans ho)
        subst this
        have hl := hdeps e he hb
        rw [hon, getD_both hl0] at hl
        cases hl
      have hback2 := List.all_eq_true.1 hback i (List.mem_range.2 hil)
      simp only [ho] at hback2
      have hip : i ∈ Region.ready md (L.take n).toArray lp := mem_ready.2 ⟨by rw [hget listed lp true hsame i hin]; exact hun2, o, by rw [hat i hin]; exact ho, fun e he hb => by
        have h2 := Array.all_eq_true_iff_forall_mem.1 hback2 e he
        simp only [hb, Bool.not_true, Bool.false_or, decide_eq_true_eq] at h2
        rw [hget listed lp false hsame e.on (by omega)]
        exact hdeps e he hb⟩
      have hq := h.2 i hip
      have hg := List.all_eq_true.1 hgd i (List.mem_range.2 hil)
      simp only [ho] at hg
      have hg' : o.guard = none := by simpa using hg
      have hq2 : qOp P L.toArray C i (wpAnyQ P md (L.take n).toArray C R fuel (lp.setIfInBounds i true)) a := by
        unfold qOp at hq ⊢
        rw [hat i hin] at hq
        simp only [ho, Region.wanted, hg', if_true] at hq ⊢
        exact hq
      refine wpOp_of_qOp hC (fun a' w' hC' hK => ih d _ _ a' w' hC' (by simp; simpa using hsz) (by simp; exact hsl) hd (fun j hj hjl => ?_) (fun j hj => ?_) hK) hq2
      · rw [getD_set_ne true (by omega)]
        exact hun j hj hjl
      · rw [Array.getElem?_setIfInBounds, Array.getElem?_setIfInBounds, hsame j hj, hsl, hsz]
        by_cases e : i = j
        · subst e; simp [hin, show i < L.length from by simpa using hil]
        · simp [e]
theorem wp_region_prefix {id : Nat} {a : Act} {w : World} {L : List Oper} (n : Nat)
    (hm : P.follows .mixedOrders = true) (hB : Region.lexB .any (L.take n).toArray = true) (hp : prefB .any L.toArray n = true)
    (h : wpQuiet P (L.take n).toArray (fun w' => ∃ x : ExtW w, w' = x.val) (fun a' => ∀ w', (∃ x : ExtW w, w' = x.val) → wpList P L.toArray Q (L.drop n) a' w') (L.take n) a) : (Code.region id L.toArray true).wp P Q a w := by
  refine wp_region_any hm ?_
  simp only [Region.lexB, Bool.and_eq_true] at hB
  have hn : n ≤ L.toArray.size := by
    simp only [prefB, Bool.and_eq_true, decide_eq_true_eq] at hp
    exact hp.2
  have hq := wpAnyQ_lex (C := fun w' => ∃ x : ExtW w, w' = x.val) (md := .any) hB.1 (L.take n) 0 (Array.replicate (L.take n).toArray.size false) a (by simp) (by simpa using hB.2) h
  have hlen : (L.take n).length = n := by simp only [List.size_toArray, List.length_take] at hn ⊢; omega
  have hlen2 : (L.take n).toArray.size = n := by simpa using hlen
  rw [hlen, hlen2] at hq
  have key := wpAny_of_prefix (C := fun w' => ∃ x : ExtW w, w' = x.val) (Q := Q) hp (fun a w' hw' hR => hR w' hw') n (L.toArray.size - n) (Array.replicate L.toArray.size false) (Array.replicate n false) a w.drew ⟨⟨w.drew, (Ext.refl w).drew⟩, rfl⟩ (by simp) (by simp) (by omega)
    (fun j _ hjl => by
      have : j < L.length := by simpa using hjl
      simp [this]) (fun j hj => by
      have : j < L.length := by simp at hn; omega
      simp [hj, this]) hq
  rw [show n + (L.toArray.size - n) = L.toArray.size from by omega] at key
  exact key
end
end Go.Proofs.YtplddeboinhkbaaGreatDoorRR

/- What a call leaves behind that makes memory of its own and turns nothing that was there; and how a region that draws its order is walked once, in the order of the text, where its calls make memory. -/
import Derived.WalkKit
import Derived.WalkLawsBesides
import Derived.Deep.QuietTactic
import Derived.BigQuiet
import Derived.Deep.MidRow
import Derived.Deep.LoopGhost
import Derived.Deep.DeepCutAuto
import Derived.Lib.Hide
import Derived.StillTail
namespace Go.Proofs.YtplddeboinhkbaaGreatDoorRR
open Go.RowKit

/-- All that lay in w lies in w' as it was. -/
def Ext (w w' : World) : Prop := Below w.heap.size w w'
theorem Ext.refl (w : World) : Ext w w := Below.refl _ w
theorem Ext.trans {a b c : World} (h : Ext a b) (k : Ext b c) : Ext a c := Below.trans h (Below.mono k (Below.size h))
theorem Ext.size {w w' : World} (h : Ext w w') : w.heap.size ≤ w'.heap.size := Below.size h
theorem Ext.cell {w w' : World} (h : Ext w w') {a : Addr} {v : Value} (hc : w.cell? a = some v) : w'.cell? a = some v :=
  (Below.cell h (World.block_lt_of_cell? w a hc)).trans hc
theorem Ext.heap {w w' : World} (h : Ext w w') {b : Nat} {o : Obj} (hb : w.heap[b]? = some o) : w'.heap[b]? = some o :=
  (Below.block h b (lt_of_block hb)).trans hb
theorem Ext.alloc {w w' : World} (h : Ext w w') (o : Obj) : Ext w (w'.alloc o) := Below.alloc h (Below.size h) o
theorem Ext.drew {w w' : World} (h : Ext w w') : Ext w w'.drew := Below.drew h
theorem Ext.drewN {w w' : World} (h : Ext w w') (n : Nat) : Ext w (w'.drewN n) := ⟨h.os, h.tape, h.output, h.size, h.block⟩
theorem Ext.setCell {w w' : World} (h : Ext w w') {p : Addr} (hp : w.heap.size ≤ p.block) (u : Value) : Ext w (w'.setCell p u) := Below.setCell h hp u
theorem Ext.range {w w' : World} (h : Ext w w') {b o : Nat} {cs : List Value} (hr : w.rangeAt b o cs) : w'.rangeAt b o cs :=
  fun j v hv => h.cell (hr j v hv)
theorem Ext.frozen {w w' : World} (h : Ext w w') {a : Addr} (ha : a.block < w.heap.size) : w'.frozen? a = w.frozen? a := Below.frozen h ha
theorem ext_of_alloc {w w' : World} (o : Obj) (h : Ext (w.alloc o) w') : Ext w w' := ((Ext.refl w).alloc o).trans h
theorem ext_of_drew {w w' : World} (h : Ext w.drew w') : Ext w w' := (Ext.refl w).drew.trans h

/-- The worlds that extend w. -/
structure ExtW (w : World) where
  val : World
  ext : Ext w val
instance (w : World) : Nonempty (ExtW w) := ⟨⟨w, Ext.refl w⟩⟩
theorem wp_region_ext {P : Program} {id : Nat} {Q : Exit → Act → World → Prop} {a : Act} {w : World} {l : List Oper} (hm : P.follows .mixedOrders = true) (hB : Region.lexB .any l.toArray = true)
    (h : wpQuiet P l.toArray (fun w' => ∃ x : ExtW w, w' = x.val) (fun a' => ∀ w', (∃ x : ExtW w, w' = x.val) → Q .normal a' w') l a) : (Code.region id l.toArray true).wp P Q a w :=
  wp_region_quiet (C := fun w' => ∃ x : ExtW w, w' = x.val) hm hB ⟨⟨w.drew, (Ext.refl w).drew⟩, rfl⟩ (by simpa using h)
/-- A callee's contract, met in a world that extends w. -/
theorem calls_ext {P : Program} {f : FuncId} {args : Array Value} {w : World} {x : ExtW w} {v : Value}
    (h : Calls P f args x.val fun e w' => e = .returned v ∧ Ext x.val w') : Calls P f args x.val fun e w'' => e = .returned v ∧ ∃ y : ExtW w, w'' = y.val :=
  h.mono fun _ w' ⟨he, hm⟩ => ⟨he, ⟨w', x.ext.trans hm⟩, rfl⟩

theorem Ext.of_eq {w w1 : World} (h : w1 = w) : Ext w w1 := h ▸ Ext.refl w
theorem wp_world {P : Program} {c : Code} {Q : Exit → Act → World → Prop} {a : Act} {w : World} (h : ∀ w1, w1 = w → c.wp P Q a w1) : c.wp P Q a w := h w rfl
theorem ret_int {k : IntKind} {a b : Int} (h : a = b) : Ending.returned (.int k a) = .returned (.int k b) := by rw [h]
theorem ret_bool {a b : Bool} (h : a = b) : Ending.returned (.bool a) = .returned (.bool b) := by rw [h]
theorem val_int {k : IntKind} {a b : Int} (h : a = b) : Value.int k a = .int k b := by rw [h]
theorem val_bool {a b : Bool} (h : a = b) : Value.bool a = .bool b := by rw [h]
/-! ### A region that draws its order, and ends in one store -/
section
variable {P : Program} {md : Region.Mode} {C : World → Prop} {Q : Exit → Act → World → Prop} {R : Act → Prop}
/-- Every operation waits for earlier ones alone. -/
def backB (md : Region.Mode) (ops : Array Oper) : Bool :=
  (List.range ops.size).all fun i => match ops[i]? with
    | some o => o.after.all fun e => !Region.binds md e || decide (e.on < i)
    | none => true
def tailB (md : Region.Mode) (ops : Array Oper) (n : Nat) : Bool := Region.sinkB md ops n && Region.chainB md ops n && backB md ops && (n + 1 == ops.size)
/-- The same operation that does nothing. -/
def idle (o : Oper) : Oper := { o with op := .move (.const (.tuple #[])) }
theorem idle_at (L : List Oper) (n j : Nat) : ((L.modify n idle)[j]?).map (fun o => (o.dst, o.after, o.guard)) = (L[j]?).map (fun o => (o.dst, o.after, o.guard)) := by
  rw [List.getElem?_modify]
  split
  · cases L[j]? <;> rfl
  · simp
theorem ready_idle (L : List Oper) (n : Nat) (listed : Array Bool) : Region.ready md (L.modify n idle).toArray listed = Region.ready md L.toArray listed := by
  unfold Region.ready
  have hs : (L.modify n idle).toArray.size = L.toArray.size := by simp
  rw [hs]
  apply List.filter_congr
  intro j _
  have h := congrArg (Option.map (fun x : Option Tmp × Array Edge × Option (Nat × Bool) => x.2.1.all fun e => !Region.binds md e || listed.getD e.on false)) (idle_at L n j)
  simp only [Option.map_map, Function.comp_def] at h
  simp only [List.getElem?_toArray]
  rw [h]
theorem yielded_idle (L : List Oper) (n : Nat) (tmps : Array Value) : yielded (L.modify n idle).toArray tmps = yielded L.toArray tmps := by
  funext j
  have h := congrArg (Option.map (fun x : Option Tmp × Array Edge × Option (Nat × Bool) => x.1)) (idle_at L n j)
  simp only [Option.map_map, Function.comp_def] at h
  have h2 : ((L.modify n idle)[j]?).bind (·.dst) = (L[j]?).bind (·.dst) := by
    cases h3 : (L.modify n idle)[j]? <;> cases h4 : L[j]? <;> simp [h3, h4] at h ⊢
    exact h
  unfold yielded
  simp only [List.getElem?_toArray]
  rw [h2]
theorem ready_some {ops : Array Oper} (hb : backB md ops = true) {listed : Array Bool} (hs : listed.size = ops.size) :
    ∀ i, i < ops.size → listed.getD i true = false → Region.ready md ops listed ≠ [] := by
  intro i
  induction i using Nat.strongRecOn with
  | _ i ih =>
    intro hi hun hnil
    obtain ⟨o, ho⟩ : ∃ o, ops[i]? = some o := ⟨ops[i], Array.getElem?_eq_getElem hi⟩
    have hback := List.all_eq_true.1 hb i (List.mem_range.2 hi)
    simp only [ho] at hback
    by_cases hall : ∀ e ∈ o.after, Region.binds md e = true → listed.getD e.on false = true
    · have : i ∈ Region.ready md ops listed := mem_ready.2 ⟨hun, o, ho, hall⟩
      rw [hnil] at this
      cases this
    · have : ∃ e, e ∈ o.after ∧ Region.binds md e = true ∧ listed.getD e.on false ≠ true := by
        apply Classical.byContradiction
        intro hne
        exact hall fun e he hbd => Classical.byContradiction fun hx => hne ⟨e, he, hbd, hx⟩
      obtain ⟨e, he, hbd, hx⟩ := this
      have h2 := Array.all_eq_true_iff_forall_mem.1 hback e he
      simp only [hbd, Bool.not_true, Bool.false_or, decide_eq_true_eq] at h2
      exact ih e.on h2 (by omega) (getD_in (by omega) (by simpa using hx)) hnil
theorem wpAny_of_tail (L : List Oper) (n : Nat) (ol : Oper) (hol : L[n]? = some ol) (hd : ol.dst = none) (hg : ol.guard = none) (ht : tailB md L.toArray n = true)
    (hR : ∀ a w, C w → R a → wpList P L.toArray Q [ol] a w) :
    ∀ (fuel : Nat) (listed : Array Bool) (a : Act) (w : World), C w → HeadInv md L.toArray n listed →
      wpAnyQ P md (L.modify n idle).toArray C R fuel listed a → wpAny P md L.toArray Q fuel listed a w := by
  simp only [tailB, Bool.and_eq_true, beq_iff_eq] at ht
  obtain ⟨⟨⟨hs, hc⟩, hb⟩, hn⟩ := ht
  have hnlt : n < L.toArray.size := by omega
  intro fuel
  induction fuel with
  | zero =>
    intro listed a w _ inv h
    have h1 := h.1
    rw [ready_idle] at h1
    exact absurd h1 (ready_some hb inv.size n hnlt (inv.tail n (Nat.le_refl _) hnlt))
  | succ fuel ih =>
    intro listed a w hC inv h
    have hnun : listed.getD n true = false := inv.tail n (Nat.le_refl _) hnlt
    refine ⟨fun h0 => absurd h0 (ready_some hb inv.size n hnlt hnun), fun i hi => ?_⟩
    have hi' : i ∈ Region.ready md (L.modify n idle).toArray listed := by rw [ready_idle]; exact hi
    have hq := h.2 i hi'
    have hil : i < L.toArray.size := by
      obtain ⟨_, o, ho, _⟩ := mem_ready.1 hi
      exact (Array.getElem?_eq_some_iff.1 ho).1
    by_cases hin : i < n
    · have hne : ¬ n = i := by omega
      have hsame : (L.modify n idle).toArray[i]? = L.toArray[i]? := by simp [hne]
      have hq2 : qOp P L.toArray C i (wpAnyQ P md (L.modify n idle).toArray C R fuel (listed.setIfInBounds i true)) a := by
        unfold qOp at hq ⊢
        rw [hsame, yielded_idle] at hq
        exact hq
      exact wpOp_of_qOp hC (fun a' w' hC' hK => ih _ a' w' hC' (inv.set hi hin) hK) hq2
    · obtain rfl : i = n := by omega
      have hall : ∀ j, j < i → listed.getD j true = true := fun j hj => by
        cases hl : listed.getD j true with
        | true => rfl
        | false => exact absurd hi (tail_waits hs hc hnlt inv _ j rfl hj hl i (Nat.le_refl _))
      have hnil : Region.ready md L.toArray (listed.setIfInBounds i true) = [] := by
        apply List.eq_nil_iff_forall_not_mem.2
        intro j hj
        obtain ⟨hun, o, ho, _⟩ := mem_ready.1 hj
        have hjl : j < L.toArray.size := (Array.getElem?_eq_some_iff.1 ho).1
        by_cases hji : j = i
        · subst hji
          have : j < listed.size := by rw [inv.size]; omega
          simp [this] at hun
        · rw [getD_set_ne true (Ne.symm hji), hall j (by omega)] at hun
          cases hun
      have hidle : (L.modify i idle).toArray[i]? = some (idle ol) := by simp [hol]
      have hRa : R a := by
        unfold qOp at hq
        simp only [hidle, Region.wanted, idle, hg, if_true] at hq
        obtain ⟨v, _, hK⟩ := hq
        simp only [hd, Act.put] at hK
        have hnil' : Region.ready md (L.modify i idle).toArray (listed.setIfInBounds i true) = [] := by rw [ready_idle]; exact hnil
        cases fuel with
        | zero => exact hK.2
        | succ f => exact hK.1 hnil'
      have hlast := hR a w hC hRa
      have hgo : ∀ a' w', Q .normal a' w' → wpAny P md L.toArray Q fuel (listed.setIfInBounds i true) a' w' := fun a' w' hqn => by
        cases fuel with
        | zero => exact ⟨hnil, hqn⟩
        | succ f => exact ⟨fun _ => hqn, fun j hj => by rw [hnil] at hj; cases hj⟩
      unfold wpOp
      have hat : L.toArray[i]? = some ol := by simpa using hol
      simp only [hat]
      simp only [wpList] at hlast
      split
      · rename_i hw
        rw [if_pos hw] at hlast
        exact hlast.imp (Oper.wp_mono fun a' w' hx => hgo a' w' hx) id
      · rename_i hw
        rw [if_neg hw] at hlast
        exact hgo _ _ hlast
/-- The walk of such a region: all but the store in the order of the text, each quiet in the worlds that extend w; then the store. -/
theorem wp_region_tail {P : Program} {id : Nat} {Q : Exit → Act → World → Prop} {a : Act} {w : World} {L : List Oper} (n : Nat) (ol : Oper) (hol : L[n]? = some ol) (hd : ol.dst = none) (hg : ol.guard = none)
    (hm : P.follows .mixedOrders = true) (hB : Region.lexB .any (L.modify n idle).toArray = true) (ht : tailB .any L.toArray n = true)
    (h : wpQuiet P (L.modify n idle).toArray (fun w' => ∃ x : ExtW w, w' = x.val) (fun a' => ∀ w', (∃ x : ExtW w, w' = x.val) → wpList P L.toArray Q [ol] a' w') (L.modify n idle) a) : (Code.region id L.toArray true).wp P Q a w := by
  refine wp_region_any hm ?_
  have hn : n + 1 = L.toArray.size := by
    simp only [tailB, Bool.and_eq_true, beq_iff_eq] at ht
    exact ht.2
  simp only [Region.lexB, Bool.and_eq_true] at hB
  have hq := wpAnyQ_lex (C := fun w' => ∃ x : ExtW w, w' = x.val) (md := .any) hB.1 (L.modify n idle) 0 (Array.replicate (L.modify n idle).toArray.size false) a (by simp) (by simpa using hB.2) h
  have hinv : HeadInv .any L.toArray n (Array.replicate L.toArray.size false) := by
    refine ⟨by simp, fun j oj _ hl => ?_, fun t _ ht => by simp at ht; simp [ht]⟩
    rw [getD_replicate_false] at hl
    cases hl
  have hlen : (L.modify n idle).length = L.toArray.size := by simp
  rw [hlen] at hq
  have hlen2 : (L.modify n idle).toArray.size = L.toArray.size := by simp
  rw [hlen2] at hq
  exact wpAny_of_tail (C := fun w' => ∃ x : ExtW w, w' = x.val) L n ol hol hd hg ht (fun a w' hw' hR => hR w' hw') _ _ _ _ ⟨⟨w.drew, (Ext.refl w).drew⟩, rfl⟩ hinv hq
end
end Go.Proofs.YtplddeboinhkbaaGreatDoorRR

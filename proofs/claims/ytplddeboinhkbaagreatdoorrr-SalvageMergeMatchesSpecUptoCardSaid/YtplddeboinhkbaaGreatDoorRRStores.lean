/- A region that draws its order, in which stores float among operations that do not look at what is stored: the stores are carried out one behind the other, whatever order is drawn. -/
import Derived.Test.YtplddeboinhkbaaGreatDoorRRMem
namespace Go.Proofs.YtplddeboinhkbaaGreatDoorRR
open Go.RowKit
section
variable {P : Program}
/-- An operation that hands no call on. -/
def plainOp : Op → Bool
  | .move _ | .assign _ | .pick .. | .load .. | .nilCheck _ | .binOp .. | .unOp .. | .fieldAddr .. | .indexAddr .. | .field .. | .index .. | .convert .. => true
  | _ => false
/-- Where it ends well it hands a value back. -/
def SemVal (P : Program) (s : Sem Next) : Prop := ∀ w n w', s.run P w = .ok n w' → ∃ v, n = .value v
theorem SemVal.pure (v : Value) : SemVal P (pure (.value v)) := fun w n w' h => by
  simp only [Sem.run_pure, Result.ok.injEq] at h
  exact ⟨_, h.1.symm⟩
theorem SemVal.bind {α : Type} (t : Sem α) (f : α → Sem Next) (h : ∀ a, SemVal P (f a)) : SemVal P (t >>= f) := fun w n w' hr => by
  rw [Sem.run_bind] at hr
  cases hs : t.run P w with
  | ok a w1 => rw [hs] at hr; exact h a w1 n w' hr
  | halt x w1 => rw [hs] at hr; simp [Result.andThen] at hr
theorem SemVal.halt (x : Halt) : SemVal P (.halt x) := fun w n w' hr => by simp [Sem.run] at hr
theorem SemVal.v (s : Sem Value) : SemVal P (do Pure.pure (.value (← s))) := SemVal.bind s _ fun a => SemVal.pure a
theorem plain_value {o : Oper} (ho : plainOp o.op = true) (ρ : Operand → Value) : SemVal P (execOp ρ o) := by
  unfold execOp
  cases hop : o.op <;> rw [hop] at ho <;> simp only [plainOp, Bool.false_eq_true] at ho <;> dsimp only <;> try exact SemVal.v _
  case move x => exact SemVal.pure _
  case assign x => exact SemVal.pure _
  case pick c a b => exact SemVal.bind _ _ fun a => SemVal.pure _
  case nilCheck x =>
    split
    · exact SemVal.bind _ _ fun a => SemVal.halt _
    · exact SemVal.bind _ _ fun a => SemVal.halt _
    · exact SemVal.bind _ _ fun a => SemVal.halt _
    · split
      · exact SemVal.bind _ _ fun a => SemVal.halt _
      · refine SemVal.bind _ _ fun a => ?_
        refine SemVal.bind _ _ fun a => ?_
        split
        · exact SemVal.bind _ _ fun a => SemVal.pure _
        · exact SemVal.pure _
      · exact SemVal.pure _
    · exact SemVal.pure _
def isStore : Op → Bool
  | .store .. => true
  | _ => false
def idle1 (o : Oper) : Oper := if isStore o.op then idle o else o
/-- What can be looked at ahead: the stores stand at T, one waits for the other; what their operands are has been reckoned before they come up; nothing else writes. -/
def floatB (md : Region.Mode) (ops : Array Oper) (T : List Nat) : Bool :=
  backB md ops &&
  ((List.range ops.size).all fun i => match ops[i]? with
    | some o => if isStore o.op then T.contains i && o.dst.isNone && o.guard.isNone &&
        (o.op.operands.all fun x => match x with
          | .tmp d => (List.range ops.size).all fun j => !((ops[j]?).bind (·.dst) == some d) || Region.waitsFor md ops i j
          | _ => true) else plainOp o.op
    | none => true) &&
  ((List.range T.length).all fun k => match T[k]?, T[k + 1]? with
    | some s, some t => Region.waitsFor md ops t s
    | _, _ => true) && (T.all fun t => match ops[t]? with | some o => isStore o.op | none => false) && ((List.range T.length).all fun k => (List.range T.length).all fun m => !(T[k]? == T[m]?) || k == m)
theorem idle1_at (L : List Oper) (j : Nat) : ((L.map idle1)[j]?).map (fun o => (o.dst, o.after, o.guard)) = (L[j]?).map (fun o => (o.dst, o.after, o.guard)) := by
  rw [List.getElem?_map]
  cases L[j]? with
  | none => rfl
  | some o => simp only [Option.map_some, idle1]; split <;> rfl
theorem ready_idle1 {md : Region.Mode} (L : List Oper) (listed : Array Bool) : Region.ready md (L.map idle1).toArray listed = Region.ready md L.toArray listed := by
  unfold Region.ready
  have hs : (L.map idle1).toArray.size = L.toArray.size := by simp
  rw [hs]
  apply List.filter_congr
  intro j _
  have h := congrArg (Option.map (fun x : Option Tmp × Array Edge × Option (Nat × Bool) => x.2.1.all fun e => !Region.binds md e || listed.getD e.on false)) (idle1_at L j)
  simp only [Option.map_map, Function.comp_def] at h
  simp only [List.getElem?_toArray]
  rw [h]
theorem dst_idle1 (L : List Oper) (j : Nat) : ((L.map idle1)[j]?).bind (·.dst) = (L[j]?).bind (·.dst) := by
  have h := congrArg (Option.map (fun x : Option Tmp × Array Edge × Option (Nat × Bool) => x.1)) (idle1_at L j)
  simp only [Option.map_map, Function.comp_def] at h
  cases h3 : (L.map idle1)[j]? <;> cases h4 : L[j]? <;> simp [h3, h4] at h ⊢
  exact h
theorem yielded_idle1 (L : List Oper) (tmps : Array Value) : yielded (L.map idle1).toArray tmps = yielded L.toArray tmps := by
  funext j
  unfold yielded
  simp only [List.getElem?_toArray]
  rw [dst_idle1]
theorem put_getD (a : Act) (d : Option Tmp) (v : Value) (x : Nat) (h : d ≠ some x) : (a.put d v).tmps.getD x undef = a.tmps.getD x undef := by
  cases d with
  | none => rfl
  | some d =>
    have : d ≠ x := fun e => h (by rw [e])
    simp [Act.put, Array.getElem?_setIfInBounds_ne this]
/-- Some end is reached, and what no operation still to come writes is there as it is. -/
theorem end_of_any {md : Region.Mode} {ops : Array Oper} {D : World → Prop} {R : Act → Prop} : ∀ (fuel : Nat) (listed : Array Bool) (a : Act), wpAnyQ P md ops D R fuel listed a →
    ∃ af, R af ∧ ∀ x, (∀ (i : Nat) (o : Oper), ops[i]? = some o → listed.getD i true = false → o.dst ≠ some x) → af.tmps.getD x undef = a.tmps.getD x undef
  | 0, _, a, h => ⟨a, h.2, fun _ _ => rfl⟩
  | fuel + 1, listed, a, h => by
    cases hr : Region.ready md ops listed with
    | nil => exact ⟨a, h.1 hr, fun _ _ => rfl⟩
    | cons i l =>
      have hi : i ∈ Region.ready md ops listed := by rw [hr]; exact List.mem_cons_self
      have hq := h.2 i hi
      obtain ⟨hun, o, ho, _⟩ := mem_ready.1 hi
      have key : ∀ v, wpAnyQ P md ops D R fuel (listed.setIfInBounds i true) (a.put o.dst v) → ∃ af, R af ∧ ∀ x, (∀ (i : Nat) (o : Oper), ops[i]? = some o → listed.getD i true = false → o.dst ≠ some x) → af.tmps.getD x undef = a.tmps.getD x undef := fun v hK => by
        obtain ⟨af, hR, hx⟩ := end_of_any fuel _ _ hK
        refine ⟨af, hR, fun x hp => ?_⟩
        rw [hx x fun j oj hj hl => hp j oj hj ?_, put_getD _ _ _ _ (hp i o ho hun)]
        by_cases e : i = j
        · subst e; exact hun
        · rw [getD_set_ne true e] at hl; exact hl
      unfold qOp at hq
      simp only [ho] at hq
      split at hq
      · obtain ⟨v, _, hK⟩ := hq
        exact key v hK
      · exact key _ hq
theorem store_same {o : Oper} (hs : isStore o.op = true) {ρ σ : Operand → Value} (h : ∀ x ∈ o.op.operands, ρ x = σ x) : execOp ρ o = execOp σ o := by
  cases hop : o.op <;> rw [hop] at hs h <;> simp only [isStore, Bool.false_eq_true] at hs
  rename_i ty x y
  have h1 := h x (by simp [Op.operands])
  have h2 := h y (by simp [Op.operands])
  unfold execOp
  rw [hop]
  dsimp only
  rw [h1, h2]
/-- What is asked behind the walk: the stores one behind the other, and what follows. -/
def StoresGo (P : Program) (L : List Oper) (T : List Nat) (S : Nat → World → Prop) (Q : Exit → Act → World → Prop) (a : Act) : Prop :=
  (∀ (k t : Nat) (o : Oper) (w : World), T[k]? = some t → L[t]? = some o → S k w → ∃ w', (execOp a.eval o).run P w = .ok .skip w' ∧ S (k + 1) w') ∧ ∀ w, S T.length w → Q .normal a w
theorem wpAny_of_stores {md : Region.Mode} {Q : Exit → Act → World → Prop} (L : List Oper) (T : List Nat) (S : Nat → World → Prop) (hB : floatB md L.toArray T = true) :
    ∀ (fuel : Nat) (listed : Array Bool) (a : Act) (w : World) (k : Nat), k ≤ T.length → S k w → listed.size = L.toArray.size →
      (∀ (j t : Nat), T[j]? = some t → (listed.getD t true = true ↔ j < k)) →
      wpAnyQ P md (L.map idle1).toArray (fun w => ∃ k, S k w) (StoresGo P L T S Q) fuel listed a → wpAny P md L.toArray Q fuel listed a w := by
  simp only [floatB, Bool.and_eq_true] at hB
  obtain ⟨⟨⟨⟨hback, hops⟩, hchain⟩, hT⟩, hdup⟩ := hB
  have hend : ∀ (listed : Array Bool) (a : Act) (w : World) (k : Nat), k ≤ T.length → S k w → listed.size = L.toArray.size → (∀ (j t : Nat), T[j]? = some t → (listed.getD t true = true ↔ j < k)) →
      Region.ready md L.toArray listed = [] → StoresGo P L T S Q a → Q .normal a w := by
    intro listed a w k hk hS hsz hinv hnil hgo
    have : k = T.length := by
      apply Classical.byContradiction
      intro hne
      have hlt : k < T.length := by omega
      have ht : T[k]? = some T[k] := List.getElem?_eq_getElem hlt
      have hun : listed.getD T[k] true = false := by
        cases h : listed.getD T[k] true with
        | false => rfl
        | true => have := (hinv k _ ht).1 h; omega
      have hmem := List.all_eq_true.1 hT T[k] (List.getElem_mem hlt)
      have hsize : T[k] < L.toArray.size := by
        rcases Nat.lt_or_ge T[k] L.toArray.size with h | h
        · exact h
        · simp [Array.getElem?_eq_none h] at hmem
      exact ready_some hback hsz _ hsize hun hnil
    subst this
    exact hgo.2 w hS
  intro fuel
  induction fuel with
  | zero =>
    intro listed a w k hk hS hsz hinv h
    have h1 := h.1
    rw [ready_idle1] at h1
    exact ⟨h1, hend listed a w k hk hS hsz hinv h1 h.2⟩
  | succ fuel ih =>
    intro listed a w k hk hS hsz hinv h
    refine ⟨fun h0 => hend listed a w k hk hS hsz hinv h0 (h.1 (by rw [ready_idle1]; exact h0)), fun i hi => ?_⟩
    have hi' : i ∈ Region.ready md (L.map idle1).toArray listed := by rw [ready_idle1]; exact hi
    have hq := h.2 i hi'
    obtain ⟨hun, o, ho, hdeps⟩ := mem_ready.1 hi
    have hil : i < L.toArray.size := (Array.getElem?_eq_some_iff.1 ho).1
    have hoL : L[i]? = some o := by simpa using ho
    have hopi := List.all_eq_true.1 hops i (List.mem_range.2 hil)
    simp only [ho] at hopi
    have hset : (listed.setIfInBounds i true).size = L.toArray.size := by simp; simpa using hsz
    by_cases hs : isStore o.op = true
    · rw [if_pos hs] at hopi
      simp only [Bool.and_eq_true] at hopi
      obtain ⟨⟨⟨hin, hd⟩, hg⟩, hprot⟩ := hopi
      have hd' : o.dst = none := by simpa using hd
      have hg' : o.guard = none := by simpa using hg
      obtain ⟨j, hj⟩ : ∃ j, T[j]? = some i := by
        obtain ⟨j, hj, e⟩ := List.getElem_of_mem (List.contains_iff_mem.1 hin)
        exact ⟨j, by rw [List.getElem?_eq_getElem hj, e]⟩
      have hjT : j < T.length := (List.getElem?_eq_some_iff.1 hj).1
      have hjk : ¬ j < k := fun hlt => by have := (hinv j i hj).2 hlt; rw [hun] at this; cases this
      obtain rfl : j = k := by
        apply Classical.byContradiction
        intro hne
        have hj1 : 0 < j := by omega
        have hp : T[j - 1]? = some T[j - 1] := List.getElem?_eq_getElem (by omega)
        have hc := List.all_eq_true.1 hchain (j - 1) (List.mem_range.2 (by omega))
        rw [show j - 1 + 1 = j from by omega, hp, hj] at hc
        obtain ⟨o', ho', e, he, hb, hon⟩ := Region.waitsFor_spec hc
        have : o' = o := Option.some.inj (ho'.symm.trans ho)
        subst this
        have hl := hdeps e he hb
        rw [hon] at hl
        have hl2 : listed.getD T[j - 1] true = true := by
          rcases Nat.lt_or_ge T[j - 1] listed.size with h' | h'
          · simp [h'] at hl ⊢; exact hl
          · simp [Array.getElem?_eq_none h']
        have := (hinv (j - 1) _ hp).1 hl2
        omega
      have hidle : (L.map idle1).toArray[i]? = some (idle o) := by simp [hoL, idle1, hs]
      have hK : wpAnyQ P md (L.map idle1).toArray (fun w => ∃ k, S k w) (StoresGo P L T S Q) fuel (listed.setIfInBounds i true) a := by
        unfold qOp at hq
        simp only [hidle, Region.wanted, idle, hg', if_true] at hq
        obtain ⟨v, _, hK⟩ := hq
        simp only [hd', Act.put] at hK
        exact hK
      obtain ⟨af, hR, hx⟩ := end_of_any _ _ _ hK
      have hsame : ∀ x ∈ o.op.operands, a.eval x = af.eval x := fun x hx' => by
        cases x with
        | tmp d =>
          refine (hx d fun m om hm hl => ?_).symm
          have hm2 : (L.map idle1)[m]? = some om := by simpa using hm
          have hpx := Array.all_eq_true_iff_forall_mem.1 hprot (.tmp d) hx'
          simp only at hpx
          have hml : m < L.toArray.size := by
            have := (List.getElem?_eq_some_iff.1 hm2).1
            simpa using this
          have hw := List.all_eq_true.1 hpx m (List.mem_range.2 hml)
          intro hdst
          have hdm : (L.toArray[m]?).bind (·.dst) = some d := by
            have := dst_idle1 L m
            rw [hm2] at this
            simp only [Option.bind_some, hdst] at this
            simpa using this.symm
          rw [hdm] at hw
          simp only [beq_self_eq_true, Bool.not_true, Bool.false_or] at hw
          obtain ⟨o', ho', e, he, hb, hon⟩ := Region.waitsFor_spec hw
          have : o' = o := Option.some.inj (ho'.symm.trans ho)
          subst this
          have hlist := hdeps e he hb
          rw [hon] at hlist
          by_cases e2 : i = m
          · subst e2
            rw [getD_both hun] at hlist
            cases hlist
          · rw [getD_set_ne true e2] at hl
            rw [getD_both hl] at hlist
            cases hlist
        | const v => rfl
        | global g => rfl
        | func f => rfl
      obtain ⟨w', hrun, hS'⟩ := hR.1 j i o w hj hoL hS
      rw [← store_same hs hsame] at hrun
      unfold wpOp
      simp only [ho]
      rw [if_pos (by simp [Region.wanted, hg'])]
      refine .inl ?_
      unfold Oper.wp
      rw [hrun]
      simp only [Oper.upon, hd', Act.put]
      refine ih _ _ _ (j + 1) (by omega) hS' hset (fun m t hm => ?_) hK
      by_cases e : i = t
      · subst e
        have hmj : m = j := by
          have h1 := List.all_eq_true.1 (List.all_eq_true.1 hdup j (List.mem_range.2 hjT)) m (List.mem_range.2 (List.getElem?_eq_some_iff.1 hm).1)
          rw [hj, hm] at h1
          simp at h1
          exact h1.symm
        subst hmj
        have : i < listed.size := by rw [hsz]; exact hil
        simp [this]
      · rw [getD_set_ne true e, hinv m t hm]
        have hne : m ≠ j := fun e2 => e (by rw [e2] at hm; exact Option.some.inj (hj.symm.trans hm))
        omega
    · rw [if_neg hs] at hopi
      have hsame : (L.map idle1).toArray[i]? = some o := by simp [hoL, idle1, hs]
      have hiT : ∀ (m t : Nat), T[m]? = some t → i ≠ t := fun m t hm e => by
        subst e
        have h1 := List.all_eq_true.1 hT i (List.mem_of_getElem? hm)
        simp only [ho] at h1
        exact hs h1
      have hinv' : ∀ (m t : Nat), T[m]? = some t → ((listed.setIfInBounds i true).getD t true = true ↔ m < k) := fun m t hm => by
        rw [getD_set_ne true (hiT m t hm)]
        exact hinv m t hm
      unfold qOp at hq
      simp only [hsame, yielded_idle1] at hq
      unfold wpOp
      simp only [ho]
      by_cases hw : Region.wanted o (yielded L.toArray a.tmps) = true
      · rw [if_pos hw] at hq ⊢
        obtain ⟨v, hv, hK⟩ := hq
        refine .inl ?_
        have hvw := hv w ⟨k, hS⟩
        have hval := plain_value (P := P) hopi a.eval w
        unfold Oper.quietAt at hvw
        unfold Oper.wp
        cases hr : (execOp a.eval o).run P w with
        | halt x w' => rw [hr] at hvw; exact absurd hvw (by simp [Oper.quietUpon])
        | ok n w' =>
          obtain ⟨v', rfl⟩ := hval n w' hr
          rw [hr] at hvw
          simp only [Oper.quietUpon] at hvw
          obtain ⟨rfl, rfl⟩ := hvw
          simp only [Oper.upon]
          exact ih _ _ _ k hk hS hset hinv' hK
      · rw [if_neg hw] at hq ⊢
        exact ih _ _ _ k hk hS hset hinv' hq
/-- The walk of such a region: all but the stores in the order of the text, each quiet in every world that the stores pass through; then the stores, one behind the other. -/
theorem wp_region_stores {id : Nat} {Q : Exit → Act → World → Prop} {a : Act} {w : World} {L : List Oper} (T : List Nat) (S : Nat → World → Prop)
    (hm : P.follows .mixedOrders = true) (hB : Region.lexB .any (L.map idle1).toArray = true) (ht : floatB .any L.toArray T = true) (h0 : S 0 w.drew)
    (h : wpQuiet P (L.map idle1).toArray (fun w => ∃ k, S k w) (StoresGo P L T S Q) (L.map idle1) a) : (Code.region id L.toArray true).wp P Q a w := by
  refine wp_region_any hm ?_
  simp only [Region.lexB, Bool.and_eq_true] at hB
  have hq := wpAnyQ_lex (C := fun w => ∃ k, S k w) (md := .any) hB.1 (L.map idle1) 0 (Array.replicate (L.map idle1).toArray.size false) a (by simp) (by simpa using hB.2) h
  have hlen : (L.map idle1).length = L.toArray.size := by simp
  rw [hlen] at hq
  have hlen2 : (L.map idle1).toArray.size = L.toArray.size := by simp
  rw [hlen2] at hq
  refine wpAny_of_stores L T S ht _ _ _ _ 0 (Nat.zero_le _) h0 (by simp) (fun j t hj => ?_) hq
  simp only [floatB, Bool.and_eq_true] at ht
  have h1 := List.all_eq_true.1 ht.1.2 t (List.mem_of_getElem? hj)
  have hlt : t < L.toArray.size := by
    rcases Nat.lt_or_ge t L.toArray.size with h | h
    · exact h
    · simp [Array.getElem?_eq_none h] at h1
  have hlt' : t < L.length := by simpa using hlt
  simp [hlt']
/-- A world that the stores pass through. -/
structure InS (S : Nat → World → Prop) where
  val : World
  ok : ∃ k, S k val
/-- The same, the worlds named as the walk of a region asks it. -/
theorem wp_region_stores2 {id : Nat} {Q : Exit → Act → World → Prop} {a : Act} {w : World} {L : List Oper} (T : List Nat) (S : Nat → World → Prop)
    (hm : P.follows .mixedOrders = true) (hB : Region.lexB .any (L.map idle1).toArray = true) (ht : floatB .any L.toArray T = true) (h0 : S 0 w.drew)
    (h : Nonempty (InS S) → wpQuiet P (L.map idle1).toArray (fun w' => ∃ x : InS S, w' = x.val) (StoresGo P L T S Q) (L.map idle1) a) : (Code.region id L.toArray true).wp P Q a w := by
  have e : (fun w' => ∃ x : InS S, w' = x.val) = fun w => ∃ k, S k w := by
    funext w'
    apply propext
    exact ⟨fun ⟨x, hx⟩ => by rw [hx]; exact x.ok, fun h => ⟨⟨w', h⟩, rfl⟩⟩
  have h := h ⟨⟨w.drew, 0, h0⟩⟩
  rw [e] at h
  exact wp_region_stores T S hm hB ht h0 h
theorem exec_store1 {op : Oper} {ρ : Operand → Value} {w : World} (ty : TypeId) (x y : Operand) (ho : op.op = .store ty x y)
    (b o : Nat) (hx : ρ x = .pointer (some ⟨b, o, none⟩)) (v : Value) (hy : ρ y = v) (t : TypeId) (cs : Array Value) (hb : w.heap[b]? = some (.cells cs t (0, 0)))
    (hi : (P.info? ty).map (·.size) = some 1) (hn : o < cs.size) (h1 : v.oneCell' = true) :
    ∃ w', (execOp ρ op).run P w = .ok .skip w' ∧ Upd w b (.cells (cs.setIfInBounds o v) t (0, 0)) w' := by
  have hc : v.cells = #[v] := by cases v <;> first | rfl | simp [Value.oneCell'] at h1
  have hcell : w.cell? ⟨b, o, none⟩ = some cs[o] := by rw [cell_of_row w b o cs t (0, 0) hb, Array.getElem?_eq_getElem hn]
  have hfr := frozen_of_row w b o cs t hb
  have hrun : (Instr.storeAt ty (.pointer (some ⟨b, o, none⟩)) v).run P w = .ok () (w.setCell ⟨b, o, none⟩ v) := by
    have := run_storeCells_cells (P := P) b o [v] 0 w (fun j hj => by obtain rfl : j = 0 := by simpa using hj
                                                                      simpa using by rw [hcell]; rfl)
      (fun j hj => by obtain rfl : j = 0 := by simpa using hj
                      simpa using hfr) (fun u hu => by obtain rfl : u = v := by simpa using hu
                                                       exact h1)
    cases hq : P.info? ty with
    | none => simp [hq] at hi
    | some i =>
      have hs : i.size = 1 := by simpa [hq] using hi
      simp only [Nat.add_zero] at this
      simp [Instr.storeAt, Instr.sureAddr, storeVar, sizeOf, typeInfo, hq, hc, hs, this, World.setCells]
  refine ⟨w.setCell ⟨b, o, none⟩ v, ?_, upd_setCell hb v⟩
  unfold execOp
  simp only [ho, hx, hy, Sem.run_bind, Sem.run_pure, Result.andThen_ok, hrun]
theorem exec_store_blk {op : Oper} {ρ : Operand → Value} {w : World} (ty : TypeId) (x y : Operand) (ho : op.op = .store ty x y)
    (b o : Nat) (hx : ρ x = .pointer (some ⟨b, o, none⟩)) (vs : Array Value) (hy : ρ y = .agg vs) (t : TypeId) (cs : Array Value) (hb : w.heap[b]? = some (.cells cs t (0, 0)))
    (hi : (P.info? ty).map (·.size) = some vs.size) (hn : o + vs.size ≤ cs.size) (h1 : vs.all (·.oneCell') = true) :
    ∃ w', (execOp ρ op).run P w = .ok .skip w' ∧ Upd w b (.cells (splice cs o vs) t (0, 0)) w' := by
  refine ⟨w.setCells b o vs.toList, ?_, ?_⟩
  · unfold execOp
    simp only [ho, hx, hy, Sem.run_bind, Sem.run_pure, Result.andThen_ok, run_storeAt_mid w b o ty vs (there_of_block hb o _ hn) hi h1]
  · have := upd_splice vs.toList o cs w hb (by simpa using hn)
    simpa using this
theorem exec_store1k {op : Oper} {ρ : Operand → Value} {w : World} {R : World → Prop} (ty : TypeId) (x y : Operand) (ho : op.op = .store ty x y)
    (b o : Nat) (hx : ρ x = .pointer (some ⟨b, o, none⟩)) (v : Value) (hy : ρ y = v) (t : TypeId) (cs : Array Value) (hb : w.heap[b]? = some (.cells cs t (0, 0)))
    (hi : (P.info? ty).map (·.size) = some 1) (hn : o < cs.size) (h1 : v.oneCell' = true)
    (h : ∀ w', Upd w b (.cells (cs.setIfInBounds o v) t (0, 0)) w' → R w') : ∃ w', (execOp ρ op).run P w = .ok .skip w' ∧ R w' := by
  obtain ⟨w', h2, u⟩ := exec_store1 ty x y ho b o hx v hy t cs hb hi hn h1
  exact ⟨w', h2, h w' u⟩
theorem exec_store_blkk {op : Oper} {ρ : Operand → Value} {w : World} {R : World → Prop} (ty : TypeId) (x y : Operand) (ho : op.op = .store ty x y)
    (b o : Nat) (hx : ρ x = .pointer (some ⟨b, o, none⟩)) (vs : Array Value) (hy : ρ y = .agg vs) (t : TypeId) (cs : Array Value) (hb : w.heap[b]? = some (.cells cs t (0, 0)))
    (hi : (P.info? ty).map (·.size) = some vs.size) (hn : o + vs.size ≤ cs.size) (h1 : vs.all (·.oneCell') = true)
    (h : ∀ w', Upd w b (.cells (splice cs o vs) t (0, 0)) w' → R w') : ∃ w', (execOp ρ op).run P w = .ok .skip w' ∧ R w' := by
  obtain ⟨w', h2, u⟩ := exec_store_blk ty x y ho b o hx vs hy t cs hb hi hn h1
  exact ⟨w', h2, h w' u⟩
theorem stores_two {L : List Oper} {S : Nat → World → Prop} {Q : Exit → Act → World → Prop} {a : Act} (i j : Nat) {o1 o2 : Oper} (e1 : L[i]? = some o1) (e2 : L[j]? = some o2)
    (h1 : ∀ w, S 0 w → ∃ w', (execOp a.eval o1).run P w = .ok .skip w' ∧ S 1 w') (h2 : ∀ w, S 1 w → ∃ w', (execOp a.eval o2).run P w = .ok .skip w' ∧ S 2 w')
    (h : ∀ w, S 2 w → Q .normal a w) : StoresGo P L [i, j] S Q a := by
  refine ⟨fun k t o w hk ho hS => ?_, h⟩
  match k, hk with
  | 0, hk =>
    obtain rfl : i = t := by simpa using hk
    obtain rfl : o1 = o := Option.some.inj (e1.symm.trans ho)
    exact h1 w hS
  | 1, hk =>
    obtain rfl : j = t := by simpa using hk
    obtain rfl : o2 = o := Option.some.inj (e2.symm.trans ho)
    exact h2 w hS
  | k + 2, hk => simp at hk
end
end Go.Proofs.YtplddeboinhkbaaGreatDoorRR

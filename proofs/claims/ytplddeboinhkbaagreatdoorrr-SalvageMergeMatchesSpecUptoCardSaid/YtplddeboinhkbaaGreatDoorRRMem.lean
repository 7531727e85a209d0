/- Memory by blocks: a value of many cells is read out of a block and written into one of the call's own; what is left is told block by block. -/
import Derived.Test.YtplddeboinhkbaaGreatDoorRRExt
namespace Go.Proofs.YtplddeboinhkbaaGreatDoorRR
open Go.RowKit

/-- w' is w, but block b is now o. -/
structure Upd (w : World) (b : Nat) (o : Obj) (w' : World) : Prop where
  os : w'.os = w.os
  tape : w'.tape = w.tape
  output : w'.output = w.output
  size : w'.heap.size = w.heap.size
  here : w'.heap[b]? = some o
  other : ∀ k, k ≠ b → w'.heap[k]? = w.heap[k]?
theorem Ext.upd {w0 w w' : World} {b : Nat} {o : Obj} (h : Ext w0 w) (hb : w0.heap.size ≤ b) (u : Upd w b o w') : Ext w0 w' :=
  ⟨u.os.trans h.os, u.tape.trans h.tape, u.output.trans h.output, by rw [u.size]; exact h.size, fun k hk => (u.other k (by omega)).trans (h.block k hk)⟩
theorem Upd.keep {w w' : World} {b : Nat} {o : Obj} (u : Upd w b o w') {k : Nat} {o' : Obj} (hk : w.heap[k]? = some o') (hne : k ≠ b) : w'.heap[k]? = some o' := (u.other k hne).trans hk
theorem Upd.range {w w' : World} {b : Nat} {o : Obj} (u : Upd w b o w') {k j : Nat} {cs : List Value} (hr : w.rangeAt k j cs) (hne : k ≠ b) : w'.rangeAt k j cs := fun i v hv => by
  have h := hr i v hv
  unfold World.cell? at h ⊢
  rw [u.other k hne]
  exact h
theorem Upd.cell {w w' : World} {b : Nat} {o : Obj} (u : Upd w b o w') {a : Addr} {v : Value} (h : w.cell? a = some v) (hne : a.block ≠ b) : w'.cell? a = some v := by
  unfold World.cell? at h ⊢
  rw [u.other _ hne]
  exact h
theorem block_new (w : World) (o : Obj) : (w.alloc o).heap[w.heap.size]? = some o := heap_alloc_new w o
theorem block_old {w : World} (o : Obj) {k : Nat} {o' : Obj} (h : w.heap[k]? = some o') : (w.alloc o).heap[k]? = some o' := ((Ext.refl w).alloc o).heap h
theorem upd_setCell {w : World} {b i : Nat} {cs : Array Value} {t : TypeId} (h : w.heap[b]? = some (.cells cs t (0, 0))) (v : Value) : Upd w b (.cells (cs.setIfInBounds i v) t (0, 0)) (w.setCell ⟨b, i, none⟩ v) :=
  ⟨rfl, rfl, rfl, by simp, heap_setCell_same w b i cs t v h, fun k hk => heap_setCell_other w ⟨b, i, none⟩ k v hk⟩

/-- The walk stands still here. -/
def Stop (p : Prop) : Prop := p
theorem Stop.go {p : Prop} (h : p) : Stop p := h
section
variable {P : Program} {ops : Array Oper} {rest : List Oper} {op : Oper} {a : Act} {w : World} {Q : Exit → Act → World → Prop}
theorem wpList_world {l : List Oper} (h : ∀ w1, w1 = w → wpList P ops Q l a w1) : wpList P ops Q l a w := h w rfl
theorem stop_store (ty : TypeId) {x y : Operand} (_ : op.op = .store ty x y) (h : Stop (wpList P ops Q (op :: rest) a w)) : wpList P ops Q (op :: rest) a w := h
theorem stop_load (ty : TypeId) {x : Operand} (_ : op.op = .load ty x) (h : Stop (wpList P ops Q (op :: rest) a w)) : wpList P ops Q (op :: rest) a w := h
theorem stop_index (ty : TypeId) {x y : Operand} (_ : op.op = .index ty x y) (h : Stop (wpList P ops Q (op :: rest) a w)) : wpList P ops Q (op :: rest) a w := h
theorem stop_dst (d : Nat) (_ : op.dst = some d) (h : Stop (wpList P ops Q (op :: rest) a w)) : wpList P ops Q (op :: rest) a w := h
end
section
variable {P : Program}
theorem run_load_blk (w : World) (b o n : Nat) (ty t : TypeId) (cs : Array Value) (fr : Nat × Nat) (d : TypeDesc) (hb : w.heap[b]? = some (.cells cs t fr))
    (hu : P.underlying ty = some d) (hd : d.isRow = true) (hi : (P.info? ty).map (·.size) = some n) (hn : o + n ≤ cs.size) :
    (Instr.loadAt ty (.pointer (some ⟨b, o, none⟩))).run P w = .ok (.agg (cs.extract o (o + n))) w := by
  have hlen : (cs.extract o (o + n)).toList.length = n := by simp; omega
  have h := run_loadAt_mid (P := P) w b o ty (cs.extract o (o + n)).toList d (World.rangeAt_of_block hb o n) hu hd (by rw [hlen]; exact hi)
  rw [Array.toArray_toList] at h
  exact h
theorem wp_load_blk {op : Oper} {a : Act} {w : World} {K : Act → World → Prop} {Q : Exit → Act → World → Prop} (ty : TypeId) (x : Operand) (ho : op.op = .load ty x)
    (b o : Nat) (hx : a.eval x = .pointer (some ⟨b, o, none⟩)) (n : Nat) (t : TypeId) (cs : Array Value) (fr : Nat × Nat) (d : TypeDesc) (hb : w.heap[b]? = some (.cells cs t fr))
    (hu : P.underlying ty = some d) (hd : d.isRow = true) (hi : (P.info? ty).map (·.size) = some n) (hn : o + n ≤ cs.size) (vs : Array Value) (hvs : cs.extract o (o + n) = vs)
    (h : K (a.put op.dst (.agg vs)) w) : op.wp P a w K Q := by
  subst hvs
  unfold Oper.wp execOp
  simp only [ho, hx, Sem.run_bind, Sem.run_pure, Result.andThen_ok, run_load_blk w b o n ty t cs fr d hb hu hd hi hn]
  exact h
theorem wpList_load_blk {ops : Array Oper} {rest : List Oper} {op : Oper} {a : Act} {w : World} {Q : Exit → Act → World → Prop} (hgd : op.guard = none) (ty : TypeId) (x : Operand) (ho : op.op = .load ty x)
    (b o : Nat) (hx : a.eval x = .pointer (some ⟨b, o, none⟩)) (n : Nat) (t : TypeId) (cs : Array Value) (fr : Nat × Nat) (d : TypeDesc) (hb : w.heap[b]? = some (.cells cs t fr))
    (hu : P.underlying ty = some d) (hd : d.isRow = true) (hi : (P.info? ty).map (·.size) = some n) (hn : o + n ≤ cs.size) (vs : Array Value) (hvs : cs.extract o (o + n) = vs)
    (h : wpList P ops Q rest (a.put op.dst (.agg vs)) w) : wpList P ops Q (op :: rest) a w :=
  wpList_plain hgd fun _ hK => wp_load_blk ty x ho b o hx n t cs fr d hb hu hd hi hn vs hvs (hK _ _ h)
theorem quiet_load_blk {op : Oper} {a : Act} {C : World → Prop} {K : Act → Prop} (ty : TypeId) (x : Operand) (ho : op.op = .load ty x)
    (b o : Nat) (hx : a.eval x = .pointer (some ⟨b, o, none⟩)) (n : Nat) (t : TypeId) (cs : Array Value) (fr : Nat × Nat) (d : TypeDesc) (hb : ∀ w, C w → w.heap[b]? = some (.cells cs t fr))
    (hu : P.underlying ty = some d) (hd : d.isRow = true) (hi : (P.info? ty).map (·.size) = some n) (hn : o + n ≤ cs.size) (vs : Array Value) (hvs : cs.extract o (o + n) = vs)
    (h : K (a.put op.dst (.agg vs))) : op.quiet P a C K := by
  subst hvs
  refine ⟨.agg (cs.extract o (o + n)), fun w hw => ?_, h⟩
  unfold Oper.quietAt execOp
  simp only [ho, hx, Sem.run_bind, Sem.run_pure, Result.andThen_ok, run_load_blk w b o n ty t cs fr d (hb w hw) hu hd hi hn, Oper.quietUpon]
  exact ⟨trivial, trivial⟩
/-- The cells of b from o on become vs. -/
def splice (cs : Array Value) (o : Nat) (vs : Array Value) : Array Value := (cs.toList.take o ++ vs.toList ++ cs.toList.drop (o + vs.size)).toArray
theorem upd_splice {b : Nat} {t : TypeId} : ∀ (vs : List Value) (o : Nat) (cs : Array Value) (w : World), w.heap[b]? = some (.cells cs t (0, 0)) → o + vs.length ≤ cs.size →
    Upd w b (.cells (splice cs o vs.toArray) t (0, 0)) (w.setCells b o vs)
  | [], o, cs, w, hb, hle => by
    have : splice cs o #[] = cs := by simp [splice]
    rw [this]
    exact ⟨rfl, rfl, rfl, rfl, hb, fun _ _ => rfl⟩
  | v :: r, o, cs, w, hb, hle => by
    simp only [List.length_cons] at hle
    have u1 := upd_setCell (i := o) hb v
    have u2 := upd_splice r (o + 1) (cs.setIfInBounds o v) _ u1.here (by simp; omega)
    have e : splice (cs.setIfInBounds o v) (o + 1) r.toArray = splice cs o (v :: r).toArray := by
      unfold splice
      congr 1
      apply List.ext_getElem?
      intro k
      simp only [Array.toList_setIfInBounds, List.getElem?_append, List.length_append, List.length_take, List.length_set, Array.length_toList, List.getElem?_take, List.getElem?_drop, List.getElem?_set, List.size_toArray, List.length_cons]
      rcases Nat.lt_trichotomy k o with h | h | h
      · simp [show k < min (o + 1) cs.size + r.length from by omega, show k < min (o + 1) cs.size from by omega, show k < o + 1 from by omega, show ¬ o = k from by omega, show k < min o cs.size + (r.length + 1) from by omega, show k < min o cs.size from by omega, h]
      · subst h
        simp [show k < min (k + 1) cs.size + r.length from by omega, show k < min (k + 1) cs.size from by omega, show k < min k cs.size + (r.length + 1) from by omega, show ¬ k < min k cs.size from by omega, show k < cs.size from by omega, show k - min k cs.size = 0 from by omega]
      · by_cases h2 : k < o + 1 + r.length
        · simp [show k < min (o + 1) cs.size + r.length from by omega, show ¬ k < min (o + 1) cs.size from by omega, show k < min o cs.size + (r.length + 1) from by omega, show ¬ k < min o cs.size from by omega, show k - min o cs.size = (k - min (o + 1) cs.size) + 1 from by omega]
        · simp [show ¬ k < min (o + 1) cs.size + r.length from by omega, show ¬ k < min o cs.size + (r.length + 1) from by omega]
          congr 1
          · simp [show ¬ o = o + 1 + r.length + (k - (min (o + 1) cs.size + r.length)) from by omega]
            congr 1
            omega
    rw [← e]
    exact ⟨u2.os, u2.tape, u2.output, u2.size.trans u1.size, u2.here, fun k hk => (u2.other k hk).trans (u1.other k hk)⟩
theorem there_of_block {w : World} {b : Nat} {t : TypeId} {cs : Array Value} (hb : w.heap[b]? = some (.cells cs t (0, 0))) (o n : Nat) (hn : o + n ≤ cs.size) : w.there b o n := fun j hj => by
  refine ⟨?_, frozen_of_row w b (o + j) cs t hb⟩
  rw [cell_of_row w b (o + j) cs t (0, 0) hb, Array.getElem?_eq_getElem (by omega)]
  rfl
theorem wp_store_blk {op : Oper} {a : Act} {w : World} {K : Act → World → Prop} {Q : Exit → Act → World → Prop} (ty : TypeId) (x y : Operand) (ho : op.op = .store ty x y)
    (b o : Nat) (hx : a.eval x = .pointer (some ⟨b, o, none⟩)) (vs : Array Value) (hy : a.eval y = .agg vs) (t : TypeId) (cs : Array Value) (hb : w.heap[b]? = some (.cells cs t (0, 0)))
    (hi : (P.info? ty).map (·.size) = some vs.size) (hn : o + vs.size ≤ cs.size) (h1 : vs.all (·.oneCell') = true)
    (h : ∀ w', Upd w b (.cells (splice cs o vs) t (0, 0)) w' → K (a.put op.dst undef) w') : op.wp P a w K Q := by
  refine wp_store_mid ty x y ho b o vs hx hy (there_of_block hb o _ hn) hi h1 (h _ ?_)
  have := upd_splice vs.toList o cs w hb (by simpa using hn)
  simpa using this
theorem wpList_store_blk {ops : Array Oper} {rest : List Oper} {op : Oper} {a : Act} {w : World} {Q : Exit → Act → World → Prop} (hgd : op.guard = none) (ty : TypeId) (x y : Operand) (ho : op.op = .store ty x y)
    (b o : Nat) (hx : a.eval x = .pointer (some ⟨b, o, none⟩)) (vs : Array Value) (hy : a.eval y = .agg vs) (t : TypeId) (cs : Array Value) (hb : w.heap[b]? = some (.cells cs t (0, 0)))
    (hi : (P.info? ty).map (·.size) = some vs.size) (hn : o + vs.size ≤ cs.size) (h1 : vs.all (·.oneCell') = true)
    (h : ∀ w', Upd w b (.cells (splice cs o vs) t (0, 0)) w' → wpList P ops Q rest (a.put op.dst undef) w') : wpList P ops Q (op :: rest) a w :=
  wpList_plain hgd fun _ hK => wp_store_blk ty x y ho b o hx vs hy t cs hb hi hn h1 fun w' u => hK _ _ (h w' u)
theorem splice_whole {cs vs : Array Value} (h : vs.size = cs.size) : splice cs 0 vs = vs := by
  unfold splice
  rw [List.drop_of_length_le (by simp; omega)]
  simp
/-- A whole block anew. -/
theorem wpList_store_whole {ops : Array Oper} {rest : List Oper} {op : Oper} {a : Act} {w : World} {Q : Exit → Act → World → Prop} (hgd : op.guard = none) (ty : TypeId) (x y : Operand) (ho : op.op = .store ty x y)
    (b : Nat) (hx : a.eval x = .pointer (some ⟨b, 0, none⟩)) (vs : Array Value) (hy : a.eval y = .agg vs) (t : TypeId) (cs : Array Value) (hb : w.heap[b]? = some (.cells cs t (0, 0)))
    (hi : (P.info? ty).map (·.size) = some vs.size) (hn : vs.size = cs.size) (h1 : vs.all (·.oneCell') = true)
    (h : ∀ w', Upd w b (.cells vs t (0, 0)) w' → wpList P ops Q rest (a.put op.dst undef) w') : wpList P ops Q (op :: rest) a w :=
  wpList_store_blk hgd ty x y ho b 0 hx vs hy t cs hb hi (by omega) h1 fun w' u => h w' (by rw [splice_whole hn] at u; exact u)
/-- One cell anew. -/
theorem wp_store1 {op : Oper} {a : Act} {w : World} {K : Act → World → Prop} {Q : Exit → Act → World → Prop} (ty : TypeId) (x y : Operand) (ho : op.op = .store ty x y)
    (b o : Nat) (hx : a.eval x = .pointer (some ⟨b, o, none⟩)) (v : Value) (hy : a.eval y = v) (t : TypeId) (cs : Array Value) (hb : w.heap[b]? = some (.cells cs t (0, 0)))
    (hi : (P.info? ty).map (·.size) = some 1) (hn : o < cs.size) (h1 : v.oneCell' = true)
    (h : ∀ w', Upd w b (.cells (cs.setIfInBounds o v) t (0, 0)) w' → K (a.put op.dst undef) w') : op.wp P a w K Q := by
  have hc : v.cells = #[v] := by cases v <;> first | rfl | simp [Value.oneCell'] at h1
  have hcell : w.cell? ⟨b, o, none⟩ = some cs[o] := by rw [cell_of_row w b o cs t (0, 0) hb, Array.getElem?_eq_getElem hn]
  have hfr := frozen_of_row w b o cs t hb
  have hrun : (Instr.storeAt ty (.pointer (some ⟨b, o, none⟩)) v).run P w = .ok () (w.setCell ⟨b, o, none⟩ v) := by
    have := run_storeCells_cells (P := P) b o [v] 0 w (fun j hj => by obtain rfl : j = 0 := by simpa using hj
                                                                      simpa using by rw [hcell]; rfl)
      (fun j hj => by obtain rfl : j = 0 := by simpa using hj
                      simpa using hfr) (fun u hu => by obtain rfl : u = v := by simpa using hu
                                                       exact h1)
    cases hq : P.info? ty with
    | none => simp [hq] at hi
    | some i =>
      have hs : i.size = 1 := by simpa [hq] using hi
      simp only [Nat.add_zero] at this
      simp [Instr.storeAt, Instr.sureAddr, storeVar, sizeOf, typeInfo, hq, hc, hs, this, World.setCells]
  unfold Oper.wp execOp
  simp only [ho, hx, hy, Sem.run_bind, Sem.run_pure, Result.andThen_ok, hrun]
  exact h _ (upd_setCell hb v)
theorem wpList_store1 {ops : Array Oper} {rest : List Oper} {op : Oper} {a : Act} {w : World} {Q : Exit → Act → World → Prop} (hgd : op.guard = none) (ty : TypeId) (x y : Operand) (ho : op.op = .store ty x y)
    (b o : Nat) (hx : a.eval x = .pointer (some ⟨b, o, none⟩)) (v : Value) (hy : a.eval y = v) (t : TypeId) (cs : Array Value) (hb : w.heap[b]? = some (.cells cs t (0, 0)))
    (hi : (P.info? ty).map (·.size) = some 1) (hn : o < cs.size) (h1 : v.oneCell' = true)
    (h : ∀ w', Upd w b (.cells (cs.setIfInBounds o v) t (0, 0)) w' → wpList P ops Q rest (a.put op.dst undef) w') : wpList P ops Q (op :: rest) a w :=
  wpList_plain hgd fun _ hK => wp_store1 ty x y ho b o hx v hy t cs hb hi hn h1 fun w' u => hK _ _ (h w' u)
theorem results_cell_tmp {fn : Func} {p q : Tmp} {ty : TypeId} (h : fn.results = #[.cell p ty, .tmp q]) (tmps : Array Value) (w : World) (g : Nat) (t : TypeId) (cs : Array Value) (fr : Nat × Nat) (d : TypeDesc)
    (hp : tmps.getD p undef = .pointer (some ⟨g, 0, none⟩)) (v : Value) (hq : tmps.getD q undef = v) (hg : w.heap[g]? = some (.cells cs t fr))
    (hu : P.underlying ty = some d) (hd : (match d with | .struct _ | .array _ _ => true | _ => false) = true) (hi : (P.info? ty).map (·.size) = some cs.size) :
    (results fn tmps).run P w = .ok (.tuple #[.agg cs, v]) w := by
  have hp' : tmps[p]?.getD undef = .pointer (some ⟨g, 0, none⟩) := by simpa using hp
  have hq' : tmps[q]?.getD undef = v := by simpa using hq
  simp [results, h, hp', hq', asAddr, run_loadVar_row w g t ty cs fr d hg hu hd hi]
end
/-- An element of an array that is a value. -/
theorem run_index_agg {P : Program} (w : World) (T e len : Nat) (d : TypeDesc) (hT : P.underlying T = some (.array len e)) (he : P.underlying e = some d) (hd : d.isRow = false) (hi : (P.info? e).map (·.size) = some 1)
    (cs : Array Value) (kd : IntKind) (k : Nat) (hk : k < len) (v : Value) (hv : cs[k]? = some v) : (Instr.index T (.agg cs) (.int kd (k : Int))).run P w = .ok v w := by
  have hagg : (isAgg e).run P w = .ok false w := by
    unfold isAgg
    rw [Sem.run_bind, run_underlying he w]
    cases d <;> simp_all
  cases hq : P.info? e with
  | none => simp [hq] at hi
  | some i =>
    have hs : i.size = 1 := by simpa [hq] using hi
    have hk2 : ¬ len ≤ k := by omega
    simp [Instr.index, asIntOf, Sem.run_bind, run_underlying hT, sizeOf, typeInfo, hq, hs, part, hagg, hv]
    intro h
    exact absurd h hk2
/-- The cells of a block that has just been made. -/
theorem cells_new (w : World) (cs : Array Value) (t : TypeId) : ∀ j u, cs.toList[j]? = some u → (w.alloc (.cells cs t)).cell? ((⟨w.heap.size, 0, none⟩ : Addr).add j) = some u := fun j u h => by
  have hadd : (⟨w.heap.size, 0, none⟩ : Addr).add j = ⟨w.heap.size, j, none⟩ := by unfold Addr.add; split <;> simp_all
  rw [hadd, World.cell?_alloc_new]
  simpa using h
/-- 'append' to a slice of the call's own: all that lay ahead of it stays. -/
theorem wpList_append_ext {P : Program} {w0 w : World} (hE : Ext w0 w) {ops : Array Oper} {rest : List Oper} {o : Oper} {a : Act} {Q : Exit → Act → World → Prop} (hgd : o.guard = none) (s x : Operand) (t : TypeId)
    (ho : o.op = .call { callee := .builtin .append, args := #[s, x], argTypes := #[t, t] })
    (e : TypeId) (i : TypeInfo) (z : Value) (size bytes : Nat) (ht : P.underlying t = some (.slice e)) (hi : P.info? e = some i) (hz : i.zero = some z)
    (hsize : i.size = size) (hby : i.bytes = bytes) (hzs : z.cells.size = size) (hsz : 0 < size)
    (v : Value) (n : Nat) (xs : List Value) (hs : a.eval s = v) (hown : w.ownsRow w0.heap.size e size v n xs)
    (ad : Addr) (m c : Nat) (news : List Value) (hx : a.eval x = .slice (some ad) m c) (hl : news.length = m * size) (hnews : ∀ j u, news[j]? = some u → w.cell? (ad.add j) = some u) (h1 : ∀ u ∈ news, u.oneCell' = true)
    (h63 : n + m ≤ maxLen) (hbytes : (n + m) * bytes ≤ 140737488355328)
    (h : ∀ v' w', w'.ownsRow w0.heap.size e size v' (n + m) (xs ++ news) → Ext w0 w' → wpList P ops Q rest (a.put o.dst v') w') : wpList P ops Q (o :: rest) a w :=
  wpList_append_own w hgd s x t ho w0.heap.size e i z size bytes ht hi hz hsize hby hzs hsz v n xs hs hown ad m c news hx hl hnews h1 h63 hbytes hE.size
    fun v' w' h2 h3 _ => h v' w' h2 (Below.grown hE h3 hE.size fun k hk => (hown.lt k hk).1)
/-- What a slice of the call's own looks like. -/
theorem ownsRow_shape {w : World} {base : Nat} {e : TypeId} {size : Nat} {v : Value} {n : Nat} {xs : List Value} (h : w.ownsRow base e size v n xs) : ∃ a c, v = .slice a n c := by
  rcases h.2 with ⟨rfl, rfl⟩ | ⟨g, cap, cur, rfl, _⟩
  · exact ⟨none, 0, rfl⟩
  · exact ⟨_, _, rfl⟩
theorem ownsRow_ext {w w' : World} {base : Nat} {e : TypeId} {size : Nat} {v : Value} {n : Nat} {xs : List Value} (h : w.ownsRow base e size v n xs) (hE : Ext w w') : w'.ownsRow base e size v n xs := by
  refine ⟨h.1, ?_⟩
  rcases h.2 with hn | ⟨g, cap, cur, rfl, hb, hgg, r⟩
  · exact .inl hn
  · exact .inr ⟨g, cap, cur, rfl, hb, hE.heap hgg, r⟩
end Go.Proofs.YtplddeboinhkbaaGreatDoorRR

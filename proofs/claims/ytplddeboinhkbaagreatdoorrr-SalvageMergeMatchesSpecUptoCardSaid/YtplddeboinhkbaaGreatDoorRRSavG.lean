/- Regions that draw their order and make memory: what only reads is taken first, what acts comes one by one; and the run of a map's operations at the first key. -/

import Derived.OrdersHeld
import Derived.MapKept
import Derived.Carry
import Derived.Test.YtplddeboinhkbaaGreatDoorRRProg
import Derived.Test.YtplddeboinhkbaaGreatDoorRRSavF
namespace Go.Proofs.YtplddeboinhkbaaGreatDoorRR
open Go.RowKit
section
variable {P : Program} {ops : Array Oper} {Q : Exit → Act → World → Prop} {md : Region.Mode} {S : World → Prop}
/-- An operation by its place. -/
theorem op_at {l : List Oper} {i : Nat} {o : Oper} (h : l[i]? = some o) : l.toArray[i]? = some o := by simpa using h
/-- The region behind its draw, its answer a name alone. -/
theorem wp_region_open {id : Nat} {a : Act} {w : World} (S : World → Prop) (hm : P.follows .mixedOrders = true) (hp : ∀ c a d v w, Q (.panic c) (a.put d v) w → Q (.panic c) a w)
    (h : ∀ Q' : Exit → Act → World → Prop, (∀ c a d v w, Q' (.panic c) (a.put d v) w → Q' (.panic c) a w) → (∀ a w, Q .normal a w → Q' .normal a w) → wpAnyH P .any ops Q' S ops.size (Array.replicate ops.size false) a { w with drawn := w.drawn + 1 }) :
    (Code.region id ops true).wp P Q a w :=
  wp_region_held hm (h Q hp fun _ _ h => h)
/-- One that only reads is taken first. -/
theorem held_take (i : Nat) (v : Value) {oi : Oper} {fuel : Nat} {listed : Array Bool} {a : Act} {w : World} (hi : ops[i]? = some oi) (hs : Region.noSelect ops = true) (hf : Region.free md ops listed i = true) (hr : (Region.ready md ops listed).contains i = true)
    (hQ : ∀ c a d v w, Q (.panic c) (a.put d v) w → Q (.panic c) a w) (hw : Region.wanted oi (yielded ops a.tmps) = true) (hS : S w) (hv : ∀ w, S w → (execOp a.eval oi).run P w = .ok (.value v) w)
    (h : wpAnyH P md ops Q S fuel (listed.setIfInBounds i true) (a.put oi.dst v) w) : wpAnyH P md ops Q S (fuel + 1) listed a w :=
  wpAnyH_take hi hs hf hr (fun c _ w h => hQ c _ _ _ w h) (.inl ⟨hw, hv⟩) hS h
/-- One operation alone may come up. -/
theorem held_one {i : Nat} {oi : Oper} {fuel : Nat} {listed : Array Bool} {a : Act} {w : World} (hi : ops[i]? = some oi) (hr : Region.ready md ops listed = [i]) (hw : Region.wanted oi (yielded ops a.tmps) = true)
    (h : oi.wp P a w (fun a' w' => S w' ∧ wpAnyH P md ops Q S fuel (listed.setIfInBounds i true) a' w') Q) : wpAnyH P md ops Q S (fuel + 1) listed a w := by
  refine wpAnyH_all hr (by simp) fun j hj => ?_
  obtain rfl : j = i := by simpa using hj
  unfold wpOp
  simp only [hi]
  rw [if_pos hw]
  exact .inl h
/-- One of two may come up. -/
theorem held_two {i j : Nat} {oi oj : Oper} {fuel : Nat} {listed : Array Bool} {a : Act} {w : World} (hi : ops[i]? = some oi) (hj : ops[j]? = some oj) (hr : Region.ready md ops listed = [i, j]) (hwi : Region.wanted oi (yielded ops a.tmps) = true) (hwj : Region.wanted oj (yielded ops a.tmps) = true)
    (h1 : oi.wp P a w (fun a' w' => S w' ∧ wpAnyH P md ops Q S fuel (listed.setIfInBounds i true) a' w') Q)
    (h2 : oj.wp P a w (fun a' w' => S w' ∧ wpAnyH P md ops Q S fuel (listed.setIfInBounds j true) a' w') Q) : wpAnyH P md ops Q S (fuel + 1) listed a w := by
  refine wpAnyH_all hr (by simp) fun k hk => ?_
  rcases List.mem_cons.1 hk with rfl | hk
  · unfold wpOp
    simp only [hi]
    rw [if_pos hwi]
    exact .inl h1
  · obtain rfl : k = j := by simpa using hk
    unfold wpOp
    simp only [hj]
    rw [if_pos hwj]
    exact .inl h2
/-- What an operation yields that only reads. -/
theorem op_value {op : Oper} {a : Act} {w : World} {v : Value} {K : Act → World → Prop} (hr : (execOp a.eval op).run P w = .ok (.value v) w) (h : K (a.put op.dst v) w) : op.wp P a w K Q := by
  unfold Oper.wp
  rw [hr]
  exact h
end
section
variable {P : Program} {op : Oper} {a : Act} {w w' : World} {K : Act → World → Prop} {Q : Exit → Act → World → Prop} {t : TypeId} {m k x : Operand} {u1 u2 u3 v : Value}
theorem wp_mapEntry (ho : op.op = .mapEntry t m k) (h1 : a.eval m = u1) (h2 : a.eval k = u2) (hr : (Instr.mapEntry t u1 u2).run P w = .ok v w') (h : K (a.put op.dst v) w') : op.wp P a w K Q := by
  unfold Oper.wp execOp
  simp only [ho, h1, h2, Sem.run_bind, hr, Result.andThen_ok]
  exact h
theorem wp_entryStore (ho : op.op = .entryStore t m k x) (h1 : a.eval m = u1) (h2 : a.eval k = u2) (h3 : a.eval x = u3) (hr : (Instr.entryStore t u1 u2 u3).run P w = .ok () w') (h : K (a.put op.dst undef) w') : op.wp P a w K Q := by
  unfold Oper.wp execOp
  simp only [ho, h1, h2, h3, Sem.run_bind, hr, Result.andThen_ok]
  exact h
theorem wp_mapUpdate (ho : op.op = .mapUpdate t m k x) (h1 : a.eval m = u1) (h2 : a.eval k = u2) (h3 : a.eval x = u3) (hr : (Instr.mapUpdate t u1 u2 u3).run P w = .ok () w') (h : K (a.put op.dst undef) w') : op.wp P a w K Q := by
  unfold Oper.wp execOp
  simp only [ho, h1, h2, h3, Sem.run_bind, hr, Result.andThen_ok]
  exact h
end
theorem cells_at {w : World} {b : Nat} {cs : Array Value} {t : TypeId} {fr : Nat × Nat} (hb : w.heap[b]? = some (.cells cs t fr)) : ∀ j u, cs.toList[j]? = some u → w.cell? ((⟨b, 0, none⟩ : Addr).add j) = some u := fun j u h => by
  have hadd : (⟨b, 0, none⟩ : Addr).add j = ⟨b, j, none⟩ := by unfold Addr.add; split <;> simp_all
  rw [hadd, cell_of_row w b j cs t fr hb]
  simpa using h
/-- 'append' of one to nothing: a block of the call's own. -/
theorem wp_append_nil {P : Program} {w : World} {o : Oper} {a : Act} {K : Act → World → Prop} {Q : Exit → Act → World → Prop} (s x : Operand) (t : TypeId)
    (ho : o.op = .call { callee := .builtin .append, args := #[s, x], argTypes := #[t, t] })
    (e : TypeId) (i : TypeInfo) (z : Value) (size bytes : Nat) (ht : P.underlying t = some (.slice e)) (hi : P.info? e = some i) (hz : i.zero = some z)
    (hsize : i.size = size) (hby : i.bytes = bytes) (hzs : z.cells.size = size) (hsz : 0 < size) (hs : a.eval s = .slice none 0 0)
    (b c : Nat) (news : List Value) (hx : a.eval x = .slice (some ⟨b, 0, none⟩) 1 c) (hl : news.length = size) (e' : TypeId) (fr : Nat × Nat) (hb : w.heap[b]? = some (.cells news.toArray e' fr)) (h1 : ∀ u ∈ news, u.oneCell' = true)
    (hbytes : bytes ≤ 140737488355328)
    (h : ∀ g cap cur w', w.heap.size ≤ g → w'.heap[g]? = some (.cells cur e (0, 0)) → 1 ≤ cap → cur.size = cap * size → cur.extract 0 (0 + size) = news.toArray → w'.ownsRow w.heap.size e size (.slice (some ⟨g, 0, none⟩) 1 cap) 1 news → Ext w w' → K (a.put o.dst (.slice (some ⟨g, 0, none⟩) 1 cap)) w') : o.wp P a w K Q := by
  refine wp_append_own w s x t ho w.heap.size e i z size bytes ht hi hz hsize hby hzs hsz (.slice none 0 0) 0 [] hs (World.ownsRow_nil _ _ _ _) ⟨b, 0, none⟩ 1 c news hx (by rw [hl, Nat.one_mul]) (cells_at hb) h1 (by decide) (by omega) (Nat.le_refl _) fun v' w' hown hg _ => ?_
  have hE : Ext w w' := Below.grown (Ext.refl w) hg (Nat.le_refl _) fun k hk => by cases hk
  obtain ⟨g, cap, cur, rfl, hgb, hgg, hcap, hcs, hcx⟩ := owns_one hown
  exact h g cap cur w' hgb hgg hcap hcs (by simpa using hcx) (by simpa using hown) hE
/-- 'append' of one element of another row to nothing. -/
theorem wp_append_nil' {P : Program} {w : World} {o : Oper} {a : Act} {K : Act → World → Prop} {Q : Exit → Act → World → Prop} (s x : Operand) (t : TypeId)
    (ho : o.op = .call { callee := .builtin .append, args := #[s, x], argTypes := #[t, t] })
    (e : TypeId) (i : TypeInfo) (z : Value) (size bytes : Nat) (ht : P.underlying t = some (.slice e)) (hi : P.info? e = some i) (hz : i.zero = some z)
    (hsize : i.size = size) (hby : i.bytes = bytes) (hzs : z.cells.size = size) (hsz : 0 < size) (hs : a.eval s = .slice none 0 0)
    (b c : Nat) (news : List Value) (hx : a.eval x = .slice (some ⟨b, 0, none⟩) 1 c) (hl : news.length = size) (hb : ∀ j u, news[j]? = some u → w.cell? ((⟨b, 0, none⟩ : Addr).add j) = some u) (h1 : ∀ u ∈ news, u.oneCell' = true)
    (hbytes : bytes ≤ 140737488355328)
    (h : ∀ g cap cur w', w.heap.size ≤ g → w'.heap[g]? = some (.cells cur e (0, 0)) → 1 ≤ cap → cur.size = cap * size → cur.extract 0 (0 + size) = news.toArray → Ext w w' → K (a.put o.dst (.slice (some ⟨g, 0, none⟩) 1 cap)) w') : o.wp P a w K Q := by
  refine wp_append_own w s x t ho w.heap.size e i z size bytes ht hi hz hsize hby hzs hsz (.slice none 0 0) 0 [] hs (World.ownsRow_nil _ _ _ _) ⟨b, 0, none⟩ 1 c news hx (by rw [hl, Nat.one_mul]) hb h1 (by decide) (by omega) (Nat.le_refl _) fun v' w' hown hg _ => ?_
  have hE : Ext w w' := Below.grown (Ext.refl w) hg (Nat.le_refl _) fun k hk => by cases hk
  obtain ⟨g, cap, cur, rfl, hgb, hgg, hcap, hcs, hcx⟩ := owns_one hown
  exact h g cap cur w' hgb hgg hcap hcs (by simpa using hcx) hE
/-! ### A map at its first key -/
/-- Another object in a block. -/
theorem upd_map {w : World} {r : Nat} {o o' : Obj} (hb : w.heap[r]? = some o) : Upd w r o' { w with heap := w.heap.setIfInBounds r o' } :=
  ⟨rfl, rfl, rfl, by simp, (MapKept.heap_set hb).1, fun k hk => (MapKept.heap_set hb).2 k hk⟩
section
variable {P : Program} {w : World} {mty kt et : TypeId} {r clock : Nat} {x : Int} (hm : P.underlying mty = some (.map kt et)) (hk : P.underlying kt = some (.int .i64))
include hm hk
theorem run_lookup_none (hb : w.heap[r]? = some (.map #[] clock)) {z : Value} (hz : (zeroValue et).run P w = .ok z w) : (Instr.lookup mty (.map (some r)) (.int .i64 x) false).run P w = .ok z w := by
  have hf : Instr.findNow (.int .i64) (.int .i64 x) ([] : List MapEntry) 0 = some none := rfl
  have hc : (Instr.checkKey true 10000 kt (.int .i64 x)).run P w = .ok () w := MapKept.run_checkKey (k := .int .i64 x) hk (by simp [MapKept.IsKey]) true 9999
  simp [Instr.lookup, run_underlying hm, MapKept.run_getObj_map hb, hc, MapKept.run_findKey hk hf, hz, Result.andThen]
theorem run_lookup_one {val : Value} {born : Nat} (hb : w.heap[r]? = some (.map #[{ key := .int .i64 x, val := val, born := born }] clock)) : (Instr.lookup mty (.map (some r)) (.int .i64 x) false).run P w = .ok val w := by
  have hf : Instr.findNow (.int .i64) (.int .i64 x) ([{ key := .int .i64 x, val := val, born := born }] : List MapEntry) 0 = some (some (0, val)) := by simp [Instr.findNow, Instr.sameNow]
  have hc : (Instr.checkKey false 10000 kt (.int .i64 x)).run P w = .ok () w := MapKept.run_checkKey (k := .int .i64 x) hk (by simp [MapKept.IsKey]) false 9999
  simp [Instr.lookup, run_underlying hm, MapKept.run_getObj_map hb, hc, MapKept.run_findKey hk hf, Result.andThen]
theorem run_mapUpdate_int (hb : w.heap[r]? = some (.map #[] clock)) (val : Value) :
    (Instr.mapUpdate mty (.map (some r)) (.int .i64 x) val).run P w = .ok () { w with heap := w.heap.setIfInBounds r (.map #[{ key := .int .i64 x, val := val, born := clock }] (clock + 1)) } := by
  have hf : Instr.findNow (.int .i64) (.int .i64 x) ([] : List MapEntry) 0 = some none := rfl
  have hc : (Instr.checkKey false 10000 kt (.int .i64 x)).run P w = .ok () w := MapKept.run_checkKey (k := .int .i64 x) hk (by simp [MapKept.IsKey]) false 9999
  simp [Instr.mapUpdate, run_underlying hm, MapKept.run_getObj_map hb, hc, MapKept.run_findKey hk hf, MapKept.run_setObj_map _ hb, Result.andThen]
theorem run_mapEntry_int (hb : w.heap[r]? = some (.map #[] clock)) {z : Value} (hz : (zeroValue et).run P w = .ok z w) :
    (Instr.mapEntry mty (.map (some r)) (.int .i64 x)).run P w = .ok (.tuple #[z, .int .i64 clock]) { w with heap := w.heap.setIfInBounds r (.map #[{ key := .int .i64 x, val := z, born := clock }] (clock + 1)) } := by
  have hf : Instr.findNow (.int .i64) (.int .i64 x) ([] : List MapEntry) 0 = some none := rfl
  have hc : (Instr.checkKey false 10000 kt (.int .i64 x)).run P w = .ok () w := MapKept.run_checkKey (k := .int .i64 x) hk (by simp [MapKept.IsKey]) false 9999
  simp [Instr.mapEntry, run_underlying hm, MapKept.run_getObj_map hb, hc, MapKept.run_findKey hk hf, MapKept.run_setObj_map _ hb, hz, Result.andThen, goInt]
end
theorem run_entryStore_int {P : Program} {w : World} {mty : TypeId} {r clock born : Nat} {key val0 : Value} (hb : w.heap[r]? = some (.map #[{ key := key, val := val0, born := born }] clock)) (val : Value) :
    (Instr.entryStore mty (.map (some r)) (.int .i64 born) val).run P w = .ok () { w with heap := w.heap.setIfInBounds r (.map #[{ key := key, val := val, born := born }] clock) } := by
  simp [Instr.entryStore, MapKept.run_getObj_map hb, asInt, asIntOf, Result.andThen]
  rw [MapKept.run_setObj_map _ hb]
end Go.Proofs.YtplddeboinhkbaaGreatDoorRR

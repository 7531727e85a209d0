/- Composite values of several parts: what 'build' makes. -/

import Derived.Test.YtplddeboinhkbaaGreatDoorRRProg
import Derived.Test.YtplddeboinhkbaaGreatDoorRRMergeA
import Derived.Laws.Tables
namespace Go.Proofs.YtplddeboinhkbaaGreatDoorRR
open Go.RowKit
theorem splice_cons (cs : Array Value) (o : Nat) (v : Value) (r : List Value) (h : o < cs.size) : splice (cs.setIfInBounds o v) (o + 1) r.toArray = splice cs o (v :: r).toArray := by
  have h' : o < cs.toList.length := by simpa using h
  have e1 : (cs.toList.set o v).take (o + 1) = cs.toList.take o ++ [v] := by
    rw [List.take_succ_eq_append_getElem (by simpa using h'), List.take_set_of_le (Nat.le_refl _), List.getElem_set_self]
  have e2 : (cs.toList.set o v).drop (o + 1 + r.length) = cs.toList.drop (o + (r.length + 1)) := by
    rw [List.drop_set_of_lt (by omega)]
    congr 1
    omega
  unfold splice
  simp only [Array.toList_setIfInBounds, List.size_toArray, List.length_cons, e1, e2, List.append_assoc, List.cons_append, List.nil_append]
theorem splice_nil (cs : Array Value) (o : Nat) : splice cs o #[] = cs := by simp [splice]
theorem splice_one (cs : Array Value) (o : Nat) (v : Value) (h : o < cs.size) : splice cs o #[v] = cs.setIfInBounds o v := by
  have := splice_cons cs o v [] h
  rw [← this]
  exact splice_nil _ _
theorem fold_splice : ∀ (vs : List Value) (off k : Nat) (cs : Array Value), off + k + vs.length ≤ cs.size →
    (vs.zipIdx k).foldl (fun cs (x : Value × Nat) => cs.setIfInBounds (off + x.2) x.1) cs = splice cs (off + k) vs.toArray
  | [], off, k, cs, _ => (splice_nil _ _).symm
  | v :: vs, off, k, cs, h => by
    simp only [List.length_cons] at h
    rw [List.zipIdx_cons, List.foldl_cons, fold_splice vs off (k + 1) _ (by simp; omega), ← splice_cons cs (off + k) v vs (by omega)]
    rfl
theorem fill_step (place : Nat → Option (Nat × Nat)) (cs : Array Value) (i off n : Nat) (v : Value) (xs : Array Value) (rest : List (Nat × Value)) (hp : place i = some (off, n)) (hv : v.cells = xs) (hn : xs.size = n) (hle : off + n ≤ cs.size) :
    Instr.fill place cs ((i, v) :: rest) = Instr.fill place (splice cs off xs) rest := by
  obtain ⟨l⟩ := xs
  have e := fold_splice l off 0 cs (by simp at hn; omega)
  simp only [Nat.add_zero] at e
  rw [Instr.fill]
  simp only [hp, hv, hn]
  rw [if_neg (by simp; omega)]
  rw [← e]
  congr 1
  simp
theorem splice_size (cs : Array Value) (o : Nat) (vs : Array Value) (h : o + vs.size ≤ cs.size) : (splice cs o vs).size = cs.size := by
  simp [splice]
  omega
theorem built_rest (parts : List (Nat × Value)) : Tryz.prog.built 30 parts = Instr.fill (#[(0, 1), (1, 64), (65, 64), (129, 1), (130, 1), (131, 1)][·]?) Tryz.zeroCells30 parts := by kernel_rfl
section
variable {P : Program} {ops : Array Oper} {rest : List Oper} {op : Oper} {a : Act} {w : World} {Q : Exit → Act → World → Prop}
theorem stop_build (t : TypeId) {parts : Array (Nat × Operand)} (_ : op.op = .build t parts) (h : Stop (wpList P ops Q (op :: rest) a w)) : wpList P ops Q (op :: rest) a w := h
theorem wpList_build_to (hg : op.guard = none) (t : TypeId) (L : List (Nat × Operand)) (ho : op.op = .build t L.toArray) (V : List (Nat × Value)) (hV : L.map (fun (x : Nat × Operand) => (x.1, a.eval x.2)) = V) (cells : Array Value)
    (hf : P.built t V = some cells) (h : wpList P ops Q rest (a.put op.dst (.agg cells)) w) : wpList P ops Q (op :: rest) a w := by
  have hf2 : P.built t (L.toArray.map fun (i, x) => (i, a.eval x)).toList = some cells := by
    rw [Array.toList_map, List.toList_toArray, ← hf, ← hV]
  exact wpList_build hg t L.toArray ho (by rw [hf2]; rfl) (by rw [hf2]; exact h)
end
theorem zero_rest_size : Tryz.zeroCells30.size = 132 := zero_rest
/-- A rest of a number and a sound frame, all else nought. -/
theorem built_blank (n : Int) {f : List Nat} (hf : FrameOk f) : Tryz.prog.built 30 #[(0, Value.int .i64 n), (1, .agg (encF f)), (3, .bool true)].toList = some (encR { zeroR n with f := f, sound := true }) := by
  have h1 : RestOk { zeroR n with f := f } := ⟨hf, by simp [zeroR]⟩
  rw [built_rest]
  rw [fill_step _ _ 0 0 1 _ #[.int .i64 n] _ rfl rfl rfl (by rw [zero_rest]; omega), splice_one _ _ _ (by rw [zero_rest]; omega), zero_num]
  rw [fill_step _ _ 1 1 64 _ (encF f) _ rfl rfl (encF_size hf) (by rw [encR_size (zeroR_ok n)]; omega), setR_frame (zeroR_ok n) f hf.1]
  rw [fill_step _ _ 3 129 1 _ #[.bool true] _ rfl rfl rfl (by rw [encR_size h1]; omega), splice_one _ _ _ (by rw [encR_size h1]; omega), setR_sound h1]
  rfl
/-- A rest of a number, a sound frame, its states and its copies. -/
theorem built_full (n c : Int) {f : List Nat} (hf : FrameOk f) {st : List Int} (hs : st.length = 64) :
    Tryz.prog.built 30 #[(0, Value.int .i64 n), (1, .agg (encF f)), (2, .agg (encS st)), (3, .bool true), (4, .int .i64 c)].toList = some (encR { zeroR n with f := f, st := st, sound := true, copies := c }) := by
  have h1 : RestOk { zeroR n with f := f } := ⟨hf, by simp [zeroR]⟩
  have h2 : RestOk { zeroR n with f := f, st := st } := ⟨hf, hs⟩
  have h3 : RestOk { zeroR n with f := f, st := st, sound := true } := ⟨hf, hs⟩
  rw [built_rest]
  rw [fill_step _ _ 0 0 1 _ #[.int .i64 n] _ rfl rfl rfl (by rw [zero_rest]; omega), splice_one _ _ _ (by rw [zero_rest]; omega), zero_num]
  rw [fill_step _ _ 1 1 64 _ (encF f) _ rfl rfl (encF_size hf) (by rw [encR_size (zeroR_ok n)]; omega), setR_frame (zeroR_ok n) f hf.1]
  rw [fill_step _ _ 2 65 64 _ (encS st) _ rfl rfl (encS_size hs) (by rw [encR_size h1]; omega), setR_states h1 st hs]
  rw [fill_step _ _ 3 129 1 _ #[.bool true] _ rfl rfl rfl (by rw [encR_size h2]; omega), splice_one _ _ _ (by rw [encR_size h2]; omega), setR_sound h2]
  rw [fill_step _ _ 4 130 1 _ #[.int .i64 c] _ rfl rfl rfl (by rw [encR_size h3]; omega), splice_one _ _ _ (by rw [encR_size h3]; omega), setR_copies h3]
  rfl
end Go.Proofs.YtplddeboinhkbaaGreatDoorRR

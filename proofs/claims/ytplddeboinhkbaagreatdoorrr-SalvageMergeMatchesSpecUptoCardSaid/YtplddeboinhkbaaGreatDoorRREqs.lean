/- Comparisons of frames and of rests. -/

import Derived.Test.YtplddeboinhkbaaGreatDoorRRProg
import Derived.Test.YtplddeboinhkbaaGreatDoorRRRestC
import Derived.ChangeKeysEq
namespace Go.Proofs.YtplddeboinhkbaaGreatDoorRR
open Go.RowKit
theorem eqItems_int {P : Program} (w : World) (d : Nat) (e : TypeId) (k : IntKind) (he : P.plainKey e = true) (hu : P.underlying e = some (.int k)) (xs ys : Array Value) (va vb : Nat → Int) :
    ∀ is : List Nat, (∀ i ∈ is, xs[i * 1]? = some (.int k (va i)) ∧ ys[i * 1]? = some (.int k (vb i))) → (Op.eqItems (d + 1) e 1 xs ys is).run P w = .ok (is.all fun i => va i == vb i) w
  | [], _ => by simp [Op.eqItems]
  | i :: is, h => by
    obtain ⟨h1, h2⟩ := h i List.mem_cons_self
    have ih := eqItems_int w d e k he hu xs ys va vb is fun j hj => h j (List.mem_cons_of_mem _ hj)
    simp only [Op.eqItems, Sem.run_bind, run_part_plain w he h1, run_part_plain w he h2, Result.andThen_ok, run_equalIn_int w d e k k _ _ hu, Sem.run_ite, ih]
    cases hq : (va i == vb i) <;> simp [hq]
theorem all_eq_list {α : Type} [BEq α] [LawfulBEq α] (f g : List α) (z : α) (hf : f.length = 64) (hg : g.length = 64) : ((List.range 64).all fun i => f.getD i z == g.getD i z) = (f == g) := by
  rw [Bool.eq_iff_iff]
  simp only [List.all_eq_true, List.mem_range, beq_iff_eq]
  constructor
  · intro h
    apply List.ext_getElem (by omega)
    intro i h1 h2
    have := h i (by omega)
    rw [List.getD_eq_getElem?_getD, List.getD_eq_getElem?_getD, List.getElem?_eq_getElem h1, List.getElem?_eq_getElem h2] at this
    exact this
  · rintro rfl i _
    rfl
theorem cells_u16 : Tryz.prog.cellsOf 25 = 1 := by kernel_rfl
theorem cells_int : Tryz.prog.cellsOf 3 = 1 := by kernel_rfl
theorem plain_u16 : Tryz.prog.plainKey 25 = true := by kernel_rfl
theorem plain_int : Tryz.prog.plainKey 3 = true := by kernel_rfl
theorem run_eqF (d : Nat) (f g : List Nat) (hf : f.length = 64) (hg : g.length = 64) (w : World) :
    (Op.equalIn (d + 1 + 1) 27 (.agg (encF f)) (.agg (encF g))).run Tryz.prog w = .ok (f == g) w := by
  have hi : ∃ i, Tryz.prog.info? 25 = some i := by
    cases h : Tryz.prog.info? 25 with
    | some i => exact ⟨i, rfl⟩
    | none => have := info_u16; rw [h] at this; cases this
  obtain ⟨i, hi⟩ := hi
  rw [run_equalIn_array w (d + 1) _ _ Tryz.underlying27 hi, cells_u16]
  rw [eqItems_int w d 25 .u16 plain_u16 Tryz.underlying25 _ _ (fun i => (wd f i : Nat)) (fun i => (wd g i : Nat)) _ fun i hi => ?_]
  · have he : (fun i => ((wd f i : Nat) : Int) == ((wd g i : Nat) : Int)) = fun i => f.getD i 0 == g.getD i 0 := by
      funext i
      exact eq_int
    rw [← all_eq_list f g 0 hf hg, he]
  · rw [Nat.mul_one]
    have hi := List.mem_range.1 hi
    constructor
    · simp [encF, wd, List.getD_eq_getElem?_getD, List.getElem?_eq_getElem (show i < f.length by omega)]
    · simp [encF, wd, List.getD_eq_getElem?_getD, List.getElem?_eq_getElem (show i < g.length by omega)]
theorem run_eqS (d : Nat) (f g : List Int) (hf : f.length = 64) (hg : g.length = 64) (w : World) :
    (Op.equalIn (d + 1 + 1) 28 (.agg (encS f)) (.agg (encS g))).run Tryz.prog w = .ok (f == g) w := by
  have hi : ∃ i, Tryz.prog.info? 3 = some i := by
    cases h : Tryz.prog.info? 3 with
    | some i => exact ⟨i, rfl⟩
    | none => have := info_int; rw [h] at this; cases this
  obtain ⟨i, hi⟩ := hi
  rw [run_equalIn_array w (d + 1) _ _ Tryz.underlying28 hi, cells_int]
  rw [eqItems_int w d 3 .i64 plain_int Tryz.underlying3 _ _ (fun i => sv f i) (fun i => sv g i) _ fun i hi => ?_]
  · rw [← all_eq_list f g 0 hf hg]
    rfl
  · rw [Nat.mul_one]
    have hi := List.mem_range.1 hi
    exact ⟨encS_at hf i hi, encS_at hg i hi⟩
/-- Two rests are equal. -/
def eqR (r s : SR) : Bool := r.num == s.num && (r.f == s.f) && (r.st == s.st) && (r.sound == s.sound) && (r.copies == s.copies) && (r.conf == s.conf)
theorem eqR_iff (r s : SR) : eqR r s = true ↔ r = s := by
  unfold eqR
  simp only [Bool.and_eq_true, beq_iff_eq]
  constructor
  · rintro ⟨⟨⟨⟨⟨h1, h2⟩, h3⟩, h4⟩, h5⟩, h6⟩
    cases r
    cases s
    simp_all
  · rintro rfl
    simp
theorem part_cell {P : Program} {T : TypeId} {d : TypeDesc} (hu : P.underlying T = some d) (hd : d.isRow = false) {xs : Array Value} {o : Nat} {v : Value} (hx : xs[o]? = some v) (w : World) : (part T xs o).run P w = .ok v w := by
  cases d <;> simp_all [part, isAgg, run_underlying hu, TypeDesc.isRow]
theorem part_row {P : Program} {T : TypeId} {d : TypeDesc} {n : Nat} (hu : P.underlying T = some d) (hd : d.isRow = true) (hi : (P.info? T).map (·.size) = some n) {xs : Array Value} {o : Nat} (w : World) : (part T xs o).run P w = .ok (.agg (xs.extract o (o + n))) w := by
  cases hq : P.info? T with
  | none => simp [hq] at hi
  | some i =>
    have hs : i.size = n := by simpa [hq] using hi
    cases d <;> simp_all [part, isAgg, run_underlying hu, TypeDesc.isRow, sizeOf, typeInfo]
def eqPairs (d : Nat) (xs ys : Array Value) : List (TypeId × Nat) → Sem Bool
  | [] => pure true
  | f :: fs => do
    let a ← part f.1 xs f.2
    let b ← part f.1 ys f.2
    let r ← Op.equalIn d f.1 a b
    if (!r) = true then pure false else eqPairs d xs ys fs
theorem eqFields_pairs (d : Nat) (xs ys : Array Value) : ∀ fs : List Field, (fs.all fun f => f.name != "_") = true → Op.eqFields d xs ys fs = eqPairs d xs ys (fs.map fun f => (f.type, f.offset))
  | [], _ => rfl
  | f :: fs, h => by
    simp only [List.all_cons, Bool.and_eq_true, bne_iff_ne, ne_eq] at h
    have ih := eqFields_pairs d xs ys fs h.2
    unfold Op.eqFields
    rw [if_pos h.1, ih]
    rfl
theorem run_eqR (d : Nat) (r s : SR) (hr : RestOk r) (hs : RestOk s) (w : World) :
    (Op.equalIn (d + 1 + 1 + 1) 30 (.agg (encR r)) (.agg (encR s))).run Tryz.prog w = .ok (eqR r s) w := by
  have hS : Tryz.prog.underlying 30 = some (.struct (Tryz.prog.fieldsOf 30)) := by kernel_rfl
  have hp : Tryz.prog.stoodInHeld 30 = false := by kernel_rfl
  rw [run_equalIn_struct w (d + 1 + 1) 30 _ _ hS hp]
  rw [eqFields_pairs _ _ _ _ (by kernel_rfl)]
  rw [show (Tryz.prog.fieldsOf 30).toList.map (fun f => (f.type, f.offset)) = [(3, 0), (27, 1), (28, 65), (4, 129), (3, 130), (4, 131)] by kernel_rfl]
  have a0 := fun w => part_cell (P := Tryz.prog) Tryz.underlying3 rfl (encR_num hr) w
  have b0 := fun w => part_cell (P := Tryz.prog) Tryz.underlying3 rfl (encR_num hs) w
  have a1 := fun w => part_row (P := Tryz.prog) Tryz.underlying27 rfl info_frame (xs := encR r) (o := 1) w
  have b1 := fun w => part_row (P := Tryz.prog) Tryz.underlying27 rfl info_frame (xs := encR s) (o := 1) w
  rw [encR_ext_f hr] at a1
  rw [encR_ext_f hs] at b1
  have a2 := fun w => part_row (P := Tryz.prog) Tryz.underlying28 rfl info_states (xs := encR r) (o := 65) w
  have b2 := fun w => part_row (P := Tryz.prog) Tryz.underlying28 rfl info_states (xs := encR s) (o := 65) w
  rw [encR_ext_st hr] at a2
  rw [encR_ext_st hs] at b2
  have a3 := fun w => part_cell (P := Tryz.prog) Tryz.underlying4 rfl (encR_sound hr) w
  have b3 := fun w => part_cell (P := Tryz.prog) Tryz.underlying4 rfl (encR_sound hs) w
  have a4 := fun w => part_cell (P := Tryz.prog) Tryz.underlying3 rfl (encR_copies hr) w
  have b4 := fun w => part_cell (P := Tryz.prog) Tryz.underlying3 rfl (encR_copies hs) w
  have a5 := fun w => part_cell (P := Tryz.prog) Tryz.underlying4 rfl (encR_conf hr) w
  have b5 := fun w => part_cell (P := Tryz.prog) Tryz.underlying4 rfl (encR_conf hs) w
  have q0 := fun (a b : Int) w => run_equalIn_int (P := Tryz.prog) w (d + 1) 3 .i64 .i64 a b Tryz.underlying3
  have q1 := run_eqF d _ _ hr.f.1 hs.f.1
  have q2 := run_eqS d _ _ hr.st hs.st
  have q3 := fun (a b : Bool) w => run_equalIn_bool (P := Tryz.prog) w (d + 1) 4 a b Tryz.underlying4
  unfold eqR
  cases h1 : (r.num == s.num) <;> cases h2 : (r.f == s.f) <;> cases h3 : (r.st == s.st) <;> cases h4 : (r.sound == s.sound) <;> cases h5 : (r.copies == s.copies) <;> cases h6 : (r.conf == s.conf) <;>
    simp only [eqPairs, Sem.run_bind, Sem.run_ite, Sem.run_pure, a0, b0, a1, b1, a2, b2, a3, b3, a4, b4, a5, b5, q0, q1, q2, q3, h1, h2, h3, h4, h5, h6, Result.andThen_ok, Bool.not_true, Bool.not_false, Bool.false_eq_true, if_true, if_false, Bool.and_true, Bool.and_false]
end Go.Proofs.YtplddeboinhkbaaGreatDoorRR

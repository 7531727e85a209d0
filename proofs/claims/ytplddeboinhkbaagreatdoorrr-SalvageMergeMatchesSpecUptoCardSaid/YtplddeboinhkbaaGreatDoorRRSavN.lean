/- The piece that the law cuts: its halves, and the one frame in them. -/
import Derived.Test.YtplddeboinhkbaaGreatDoorRRProg
import Derived.Test.YtplddeboinhkbaaGreatDoorRRSavM
import Derived.Test.YtplddeboinhkbaaGreatDoorRRPlainLaw
namespace Go.Proofs.YtplddeboinhkbaaGreatDoorRR
open Go.RowKit
def f9L : List Nat := [1464, 2057, 2048, 2048, 2048, 2048, 2048, 2048, 2048, 2048, 2048, 2048, 2048, 2048, 2048, 2048, 2048, 2048, 2048, 2048, 2048, 2048, 2048, 2048, 2048, 2048, 2048, 2048, 2048, 2048, 2048, 2048, 2048, 2048, 2048, 2048, 2048, 2048, 2048, 2048, 2048, 2048, 2048, 2048, 2048, 2048, 2048, 2048, 2048, 2048, 2048, 2048, 2048, 2048, 2048, 2048, 2048, 2048, 2048, 2048, 2048, 2057, 2845, 1411]
def b9L : List Nat := [91, 136, 9, 128, 8, 0, 128, 8, 0, 128, 8, 0, 128, 8, 0, 128, 8, 0, 128, 8, 0, 128, 8, 0, 128, 8, 0, 128, 8, 0, 128, 8, 0, 128, 8, 0, 128, 8, 0, 128, 8, 0, 128, 8, 0, 128, 8, 0, 128, 8, 0, 128, 8, 0, 128, 8, 0, 128, 8, 0, 128, 8, 0, 128, 8, 0, 128, 8, 0, 128, 8, 0, 128, 8, 0, 128, 8, 0, 128, 8, 0, 128, 8, 0, 128, 8, 0, 128, 8, 0, 128, 8, 9, 177, 213, 131]
set_option maxRecDepth 100000 in
theorem f9_lit : f9 = f9L := by kernel_rfl
theorem b9_all : (List.range 48).all (fun k => byteN f9L k == wd b9L k && byteN f9L (48 + k) == wd b9L (48 + k)) = true := by kernel_rfl
theorem b9_at (k : Nat) (hk : k < 96) : byteN f9L k = wd b9L k := by
  have h := b9_all
  rw [List.all_eq_true] at h
  rcases Nat.lt_or_ge k 48 with h1 | h1
  · have := h k (by simpa using h1)
    simp only [Bool.and_eq_true, beq_iff_eq] at this
    exact this.1
  · have := h (k - 48) (by simp; omega)
    simp only [Bool.and_eq_true, beq_iff_eq] at this
    rw [show 48 + (k - 48) = k by omega] at this
    exact this.2
theorem bytTo_eq (g : Nat → Nat) (l : List Nat) (n : Nat) (hl : l.length = n) (h : ∀ k, k < n → g k = wd l k) : bytTo g n n = l := by
  apply List.ext_getElem
  · rw [bytTo_length, hl]
  · intro k h1 h2
    have hk : k < n := by simpa [bytTo_length] using h1
    have h3 := h k hk
    rw [wd, List.getD_eq_getElem?_getD, List.getElem?_eq_getElem h2] at h3
    simp only [bytTo, List.getElem_map, List.getElem_range, if_pos hk]
    exact h3
theorem b9_len0 : (b9L.take 48).length + (b9L.drop 48).length = 96 := by kernel_rfl
theorem b9_len1 : b9L.length = 96 := by
  have h := b9_len0
  rw [← List.length_append, List.take_append_drop] at h
  exact h
theorem b9_litL : bytTo (byteN f9L) 96 96 = b9L := bytTo_eq (byteN f9L) b9L 96 b9_len1 b9_at
theorem b9_lit : bytesF f9 = b9L := by
  rw [f9_lit]
  unfold bytesF
  exact b9_litL
theorem num9 : numV f9 = 9 := by rw [f9_lit]; kernel_rfl
set_option maxRecDepth 1000000 in
theorem sound9 : soundB f9 = true := by rw [f9_lit]; kernel_rfl
theorem wd_bytTo (g : Nat → Nat) (n k : Nat) : wd (bytTo g n n) k = if k < n then g k else 0 := by
  rcases Nat.lt_or_ge k n with h | h
  · simp [wd, bytTo, List.getD_eq_getElem?_getD, h]
  · rw [if_neg (by omega)]
    simp [wd, bytTo, List.getD_eq_getElem?_getD, Nat.not_lt.2 h]
theorem h9_frame : bytTo (fun i => wordB (halfB (7 :: b9L) (2 + 3 * i)) (halfB (7 :: b9L) (2 + (3 * i + 1))) (halfB (7 :: b9L) (2 + (3 * i + 2)))) 64 64 = f9L := by kernel_rfl
theorem h9_wd (k : Nat) (hk : k < 194) : wd (halvesF (7 :: b9L)) k = halfB (7 :: b9L) k := by
  unfold halvesF
  rw [wd_bytTo, if_pos (show k < 2 * (7 :: b9L).length from hk)]
theorem oneAt9 : OneAt (halvesF (7 :: bytesF f9)) f9 := by
  have hs := sound9
  rw [b9_lit]
  refine ⟨by simp [halvesF, bytTo_length, b9L], fun k => ?_, ?_, ?_, ?_, ?_, hs⟩
  · unfold halvesF
    rw [wd_bytTo]
    split
    · exact halfB_lt _ _
    · omega
  · rw [h9_wd _ (by omega), h9_wd _ (by omega), h9_wd _ (by omega)]
    kernel_rfl
  · rw [h9_wd _ (by omega), h9_wd _ (by omega), h9_wd _ (by omega)]
    kernel_rfl
  · rw [h9_wd _ (by omega), h9_wd _ (by omega), h9_wd _ (by omega)]
    kernel_rfl
  · rw [f9_lit, ← h9_frame]
    unfold frameL
    refine List.map_congr_left fun i hi => ?_
    have hi : i < 64 := by simpa using hi
    rw [if_pos hi, if_pos hi]
    unfold frameH
    rw [wd_drop, wd_drop, wd_drop, h9_wd _ (by omega), h9_wd _ (by omega), h9_wd _ (by omega)]
theorem wd_all {l : List Nat} {n : Nat} (h : l.all (fun x => decide (x < n)) = true) (hn : 0 < n) (k : Nat) : wd l k < n := by
  rw [List.all_eq_true] at h
  rw [wd, List.getD_eq_getElem?_getD]
  cases hk : l[k]? with
  | none => exact hn
  | some x => simpa using h x (List.mem_of_getElem? hk)
theorem b9_lt (k : Nat) : wd (7 :: bytesF f9) k < 256 := by
  rw [b9_lit]
  exact wd_all (by kernel_rfl) (by omega) k
theorem b9_len : (7 :: bytesF f9).length = 97 := by rw [b9_lit]; kernel_rfl
set_option maxRecDepth 1000000 in
theorem merged9 : mergeP [oneR f9] = oneR f9 := by
  refine merge_one (oneR_ok f9_ok) ?_ ?_
  · have hst : ∀ k, k < 64 → sv (oneR f9).st k = 3 := fun k hk => sv_rep 3 k hk
    refine ⟨by show (0 : Int) ≤ (numV f9 : Nat); omega, by show ((numV f9 : Nat) : Int) ≤ _; rw [num9]; omega, fun k hk => by rw [hst k hk]; omega, fun k hk h => by rw [hst k hk] at h; omega, fun k hk => ?_, fun _ => ⟨?_, fun k hk => by rw [hst k hk]; omega, rfl⟩, fun h => (by cases h), by show (0 : Int) ≤ 1; omega, fun _ _ => by show (1 : Int) ≤ 1; omega⟩
    · show wd f9 k ≤ 4095
      have := wd_all (l := f9) (n := 4096) (by rw [f9_lit]; kernel_rfl) (by omega) k
      omega
    · show soundAsB f9 (numV f9 : Nat) = true
      rw [num9, f9_lit]
      kernel_rfl
  · exact ⟨fun h => by simp [oneR, zeroR] at h, fun h => by simp [oneR] at h⟩
theorem cop9 : CopOk [oneR f9] := fun k hk => by
  obtain rfl : k = 0 := by simpa using hk
  exact ⟨by decide, by decide, by decide, by decide⟩
end Go.Proofs.YtplddeboinhkbaaGreatDoorRR

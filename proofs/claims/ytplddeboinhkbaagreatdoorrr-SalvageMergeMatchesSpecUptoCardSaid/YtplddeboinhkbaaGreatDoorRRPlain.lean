/- Plain facts about words, frames and their checks: numbers alone, no program in sight. -/
import Derived.WalkKit
import Derived.Laws.BitsAllLaws
import Derived.Lib.Hide
namespace Go.Proofs.YtplddeboinhkbaaGreatDoorRR
open Go.RowKit

/-! ### bits of int -/
theorem ofInt_i64 (a : Nat) (ha : a < 9223372036854775808) : (BitVec.ofInt 64 (a : Int)).toNat = a := by
  rw [BitVec.ofInt_natCast, BitVec.toNat_ofNat]; exact Nat.mod_eq_of_lt (by omega)
theorem wrap_i64_nat (a : Nat) (ha : a < 9223372036854775808) : IntKind.i64.wrap (a : Int) = a := by rw [IntKind.wrap_i64]; omega
theorem i64_and_nat (a b : Nat) (ha : a < 9223372036854775808) (hb : b < 9223372036854775808) : bits .and .i64 (a : Int) (b : Int) = ((a &&& b : Nat) : Int) := by
  have hx : a &&& b < 2 ^ 63 := Nat.and_lt_two_pow _ (by omega)
  show IntKind.i64.wrap ((BitVec.ofInt 64 (a : Int) &&& BitVec.ofInt 64 (b : Int)).toNat : Int) = _
  rw [BitVec.toNat_and, ofInt_i64 a ha, ofInt_i64 b hb, wrap_i64_nat _ (by omega)]
theorem i64_or_nat (a b : Nat) (ha : a < 9223372036854775808) (hb : b < 9223372036854775808) : bits .or .i64 (a : Int) (b : Int) = ((a ||| b : Nat) : Int) := by
  have hx : a ||| b < 2 ^ 63 := Nat.or_lt_two_pow (by omega) (by omega)
  show IntKind.i64.wrap ((BitVec.ofInt 64 (a : Int) ||| BitVec.ofInt 64 (b : Int)).toNat : Int) = _
  rw [BitVec.toNat_or, ofInt_i64 a ha, ofInt_i64 b hb, wrap_i64_nat _ (by omega)]
theorem i64_xor_nat (a b : Nat) (ha : a < 9223372036854775808) (hb : b < 9223372036854775808) : bits .xor .i64 (a : Int) (b : Int) = ((a ^^^ b : Nat) : Int) := by
  have hx : a ^^^ b < 2 ^ 63 := Nat.xor_lt_two_pow (by omega) (by omega)
  show IntKind.i64.wrap ((BitVec.ofInt 64 (a : Int) ^^^ BitVec.ofInt 64 (b : Int)).toNat : Int) = _
  rw [BitVec.toNat_xor, ofInt_i64 a ha, ofInt_i64 b hb, wrap_i64_nat _ (by omega)]

/-! ### ones of a number -/
def onesF : Nat → Nat → Nat
  | 0, _ => 0
  | k + 1, n => n % 2 + onesF k (n / 2)
/-- How many ones has a number below 2^16? -/
def ones (n : Nat) : Nat := onesF 16 n
def oddB (n : Nat) : Bool := ones n % 2 == 1
/-- Right by itself: 12 bits at most, and an odd number of ones. -/
def rightB (n : Nat) : Bool := decide (n ≤ 4095) && oddB n
theorem onesF_zero : ∀ k, onesF k 0 = 0
  | 0 => rfl
  | k + 1 => by simp [onesF, onesF_zero k]
theorem onesF_add : ∀ (j k a b : Nat), b < 2 ^ j → onesF (j + k) (a * 2 ^ j + b) = onesF k a + onesF j b
  | 0, k, a, b, h => by
    have : b = 0 := by simpa using h
    subst this
    simp [onesF]
  | j + 1, k, a, b, h => by
    have e1 : (a * 2 ^ (j + 1) + b) % 2 = b % 2 := by
      rw [Nat.pow_succ, ← Nat.mul_assoc]; omega
    have e2 : (a * 2 ^ (j + 1) + b) / 2 = a * 2 ^ j + b / 2 := by
      rw [Nat.pow_succ, ← Nat.mul_assoc]; omega
    have hb : b / 2 < 2 ^ j := by rw [Nat.pow_succ] at h; omega
    rw [show j + 1 + k = (j + k) + 1 from by omega]
    simp only [onesF]
    rw [e1, e2, onesF_add j k a (b / 2) hb]
    omega
theorem ones_bytes (n : Nat) : ones n = onesF 8 (n / 256) + onesF 8 (n % 256) := by
  have h := onesF_add 8 8 (n / 256) (n % 256) (by omega)
  unfold ones
  rw [← h]
  congr 1
  omega
theorem onesF_le : ∀ k n, onesF k n ≤ k
  | 0, _ => Nat.le_refl _
  | k + 1, n => by have := onesF_le k (n / 2); simp only [onesF]; omega

/-! ### words -/
def wordN (d : Nat) : Nat := if oddB d then d else d + 2048
def syncN (n : Nat) : Nat := if n % 4 = 0 then 583 else if n % 4 = 1 then 1464 else if n % 4 = 2 then 2631 else 3512
theorem syncN_lt (n : Nat) : syncN n < 4096 := by unfold syncN; split <;> (try split) <;> (try split) <;> omega
theorem wordN_lt (d : Nat) (h : d < 2048) : wordN d < 4096 := by unfold wordN; split <;> omega
theorem or_2048 (d : Nat) (h : d < 2048) : d ||| 2048 = d + 2048 := by
  rw [Nat.or_comm, nat_join 11 2048 d (by decide) (by omega)]; omega

/-! ### frames -/
/-- A word of a frame (a plain name, so that nothing rewrites it). -/
def wd (f : List Nat) (k : Nat) : Nat := f.getD k 0
def FrameOk (f : List Nat) : Prop := f.length = 64 ∧ ∀ k, wd f k < 65536
def wideTo (f : List Nat) : Nat → Bool
  | 0 => false
  | k + 1 => wideTo f k || decide (4095 < wd f k)
theorem wideTo_iff (f : List Nat) : ∀ n, wideTo f n = true ↔ ∃ k, k < n ∧ 4095 < wd f k
  | 0 => by simp [wideTo]
  | n + 1 => by
    simp only [wideTo, Bool.or_eq_true, wideTo_iff f n, decide_eq_true_eq]
    constructor
    · rintro (⟨k, hk, h⟩ | h)
      · exact ⟨k, by omega, h⟩
      · exact ⟨n, by omega, h⟩
    · rintro ⟨k, hk, h⟩
      by_cases e : k = n
      · subst e; exact .inr h
      · exact .inl ⟨k, by omega, h⟩
def wideB (f : List Nat) : Bool := wideTo f 64
def numN (f : List Nat) : Nat := wd f 1 % 2048 + wd f 2 % 2048 * 2048
def sumTo (f : List Nat) : Nat → Nat
  | 0 => 0
  | k + 1 => sumTo f k ^^^ (wd f (k + 1) % 2048)
def sumN (f : List Nat) : Nat := sumTo f 60
theorem sumTo_lt (f : List Nat) : ∀ k, sumTo f k < 2048
  | 0 => Nat.zero_lt_succ _
  | k + 1 => by
    have := sumTo_lt f k
    exact Nat.xor_lt_two_pow (n := 11) this (by omega)
/-- One bit into the check. -/
def crcB (n b : Nat) : Nat := if (n / 2097152 % 2 == 1) != (b == 1) then (n * 2 % 4194304) ^^^ 2097167 else n * 2 % 4194304
/-- The first j bits of a word of 12 bits into the check. -/
def crcW (n w : Nat) : Nat → Nat
  | 0 => n
  | j + 1 => crcB (crcW n w j) (w / 2 ^ (11 - j) % 2)
/-- The check of the first i words. -/
def crcTo (f : List Nat) : Nat → Nat
  | 0 => 0
  | i + 1 => crcW (crcTo f i) (wd f i) 12
def crcN (f : List Nat) : Nat := crcTo f 62
theorem crcB_lt (n b : Nat) : crcB n b < 4194304 := by
  unfold crcB
  split
  · exact Nat.xor_lt_two_pow (n := 22) (by omega) (by omega)
  · omega
theorem crcW_lt (n w : Nat) (h : n < 4194304) : ∀ j, crcW n w j < 4194304
  | 0 => h
  | _ + 1 => crcB_lt _ _
theorem crcTo_lt (f : List Nat) : ∀ i, crcTo f i < 4194304
  | 0 => Nat.zero_lt_succ _
  | i + 1 => crcW_lt _ _ (crcTo_lt f i) 12
def oddTo (f : List Nat) : Nat → Bool
  | 0 => true
  | k + 1 => oddTo f k && rightB (wd f (k + 1))
def soundB (f : List Nat) : Bool :=
  !wideB f && (wd f 0 == syncN (numN f)) && (wd f 61 % 2048 == sumN f) && oddTo f 63 && (wd f 62 % 2048 * 2048 + wd f 63 % 2048 == crcN f)

/-! ### the check by long division -/
/-- One step of the long division. -/
def divB (r b : Nat) : Nat := if r * 2 + b ≥ 4194304 then (r * 2 + b) ^^^ 6291471 else r * 2 + b
def divW (n w : Nat) : Nat → Nat
  | 0 => n
  | j + 1 => divB (divW n w j) (w / 2 ^ (11 - j) % 2)
def div0 (n : Nat) : Nat → Nat
  | 0 => n
  | j + 1 => divB (div0 n j) 0
end Go.Proofs.YtplddeboinhkbaaGreatDoorRR

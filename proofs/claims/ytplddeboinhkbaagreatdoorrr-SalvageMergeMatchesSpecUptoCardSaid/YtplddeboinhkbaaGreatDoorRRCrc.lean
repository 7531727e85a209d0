/- The check by long division is the check bit by bit: a fact on polynomials over two elements. -/
import Derived.Test.YtplddeboinhkbaaGreatDoorRRPlain
namespace Go.Proofs.YtplddeboinhkbaaGreatDoorRR
theorem xor_two_pow (i x : Nat) (hx : x < 2 ^ i) : x ^^^ 2 ^ i = 2 ^ i + x := by
  apply Nat.eq_of_testBit_eq
  intro j
  rw [Nat.testBit_xor, Nat.testBit_two_pow]
  rcases Nat.lt_trichotomy j i with h | h | h
  · rw [Nat.testBit_two_pow_add_gt h]
    have : ¬ i = j := by omega
    simp [this]
  · subst h
    rw [Nat.testBit_two_pow_add_eq, Nat.testBit_lt_two_pow hx]
    simp
  · have h2 : 2 ^ (i + 1) ≤ 2 ^ j := Nat.pow_le_pow_right (by decide) h
    rw [Nat.pow_succ] at h2
    rw [Nat.testBit_lt_two_pow (show x < 2 ^ j by omega), Nat.testBit_lt_two_pow (show 2 ^ i + x < 2 ^ j by omega)]
    have : ¬ i = j := by omega
    simp [this]
theorem even_xor_one (k : Nat) : 2 * k ^^^ 1 = 2 * k + 1 := by
  apply Nat.eq_of_testBit_eq
  intro j
  cases j with
  | zero => simp
  | succ j =>
    rw [Nat.testBit_xor, Nat.testBit_succ, Nat.testBit_succ, Nat.testBit_succ]
    rw [show 2 * k / 2 = k from by omega, show (2 * k + 1) / 2 = k from by omega]
    simp
/-- One step with a 0. -/
def zB (n : Nat) : Nat := (n * 2 % 4194304) ^^^ (if n.testBit 21 then 2097167 else 0)
theorem top_testBit (n : Nat) : n.testBit 21 = (n / 2097152 % 2 == 1) := by
  rw [Nat.testBit_eq_decide_div_mod_eq]
  rw [Bool.eq_iff_iff]; simp
theorem zB_lt (n : Nat) : zB n < 4194304 := by
  unfold zB
  refine Nat.xor_lt_two_pow (n := 22) (by omega) ?_
  split <;> omega
theorem zB_xor (x y : Nat) : zB (x ^^^ y) = zB x ^^^ zB y := by
  have h1 : (x ^^^ y) * 2 % 4194304 = (x * 2 % 4194304) ^^^ (y * 2 % 4194304) := by
    have e : (x ^^^ y) * 2 = (x * 2) ^^^ (y * 2) := by
      have := Nat.shiftLeft_xor_distrib (a := x) (b := y) (i := 1)
      simpa [Nat.shiftLeft_eq] using this
    rw [e]
    exact Nat.xor_mod_two_pow (n := 22)
  unfold zB
  rw [h1, Nat.testBit_xor]
  generalize x * 2 % 4194304 = a
  generalize y * 2 % 4194304 = b
  cases x.testBit 21 <;> cases y.testBit 21 <;> simp
  · exact Nat.xor_assoc _ _ _
  · rw [Nat.xor_assoc, Nat.xor_comm b, ← Nat.xor_assoc]
  · rw [Nat.xor_assoc, Nat.xor_comm 2097167 (b ^^^ 2097167), Nat.xor_assoc b, Nat.xor_self, Nat.xor_zero]
theorem crcB_z (n b : Nat) (hb : b < 2) : crcB n b = zB n ^^^ (if b = 1 then 2097167 else 0) := by
  unfold crcB zB
  rw [top_testBit]
  have h2 : b = 0 ∨ b = 1 := by omega
  rcases h2 with rfl | rfl <;> cases (n / 2097152 % 2 == 1) <;> simp [Nat.xor_assoc]
theorem even_xor (m b : Nat) (hm : m % 2 = 0) (hb : b < 2) : m ^^^ b = m + b := by
  have h2 : b = 0 ∨ b = 1 := by omega
  rcases h2 with rfl | rfl
  · simp
  · obtain ⟨k, rfl⟩ : ∃ k, m = 2 * k := ⟨m / 2, by omega⟩
    exact even_xor_one k
theorem divB_z (n b : Nat) (hn : n < 4194304) (hb : b < 2) : divB n b = zB n ^^^ b := by
  unfold divB zB
  rw [top_testBit]
  have e := even_xor (n * 2) b (by omega) hb
  by_cases h : n * 2 + b ≥ 4194304
  · have ht : n / 2097152 % 2 == 1 := by simp; omega
    rw [if_pos h, if_pos ht, ← e]
    have h1 : n * 2 = (n * 2 % 4194304) ^^^ 4194304 := by
      have := xor_two_pow 22 (n * 2 % 4194304) (by omega)
      rw [show (2 : Nat) ^ 22 = 4194304 from by decide] at this
      rw [this]; omega
    have h2 : (6291471 : Nat) = 2097167 ^^^ 4194304 := by decide
    rw [h2]
    conv => lhs; rw [h1]
    generalize n * 2 % 4194304 = m
    apply Nat.eq_of_testBit_eq
    intro j
    simp only [Nat.testBit_xor]
    cases m.testBit j <;> cases Nat.testBit 4194304 j <;> cases Nat.testBit 2097167 j <;> cases b.testBit j <;> rfl
  · have ht : ¬ (n / 2097152 % 2 == 1) = true := by simp; omega
    rw [if_neg h, if_neg ht, Nat.xor_zero, Nat.mod_eq_of_lt (by omega), e]
theorem divB_lt (n b : Nat) (hn : n < 4194304) (hb : b < 2) : divB n b < 4194304 := by
  rw [divB_z n b hn hb]
  exact Nat.xor_lt_two_pow (n := 22) (zB_lt n) (by omega)
def zN (n : Nat) : Nat → Nat
  | 0 => n
  | k + 1 => zB (zN n k)
theorem zN_xor (x y : Nat) : ∀ k, zN (x ^^^ y) k = zN x k ^^^ zN y k
  | 0 => rfl
  | k + 1 => by simp only [zN]; rw [zN_xor x y k, zB_xor]
theorem zN_succ (x : Nat) : ∀ k, zN x (k + 1) = zN (zB x) k
  | 0 => rfl
  | k + 1 => by
    show zB (zN x (k + 1)) = zB (zN (zB x) k)
    rw [zN_succ x k]
theorem zN_step (d b : Nat) (hd : d < 4194304) (hb : b < 2) : zN (divB d b) 22 = crcB (zN d 22) b := by
  rw [divB_z d b hd hb, crcB_z _ b hb, zN_xor]
  have e1 : zN (zB d) 22 = zB (zN d 22) := (zN_succ d 22).symm
  have e2 : zN b 22 = if b = 1 then 2097167 else 0 := by
    have h2 : b = 0 ∨ b = 1 := by omega
    rcases h2 with rfl | rfl <;> decide
  rw [e1, e2]
theorem zN_div0 (n : Nat) (hn : n < 4194304) : ∀ k, div0 n k = zN n k ∧ zN n k < 4194304
  | 0 => ⟨rfl, hn⟩
  | k + 1 => by
    obtain ⟨h1, h2⟩ := zN_div0 n hn k
    simp only [div0, zN]
    exact ⟨by rw [h1, divB_z _ 0 h2 (by decide), Nat.xor_zero], zB_lt _⟩
theorem divW_lt (n w : Nat) (hn : n < 4194304) : ∀ j, divW n w j < 4194304
  | 0 => hn
  | j + 1 => divB_lt _ _ (divW_lt n w hn j) (by omega)
theorem divW_crc (n w : Nat) (hn : n < 4194304) : ∀ j, zN (divW n w j) 22 = crcW (zN n 22) w j
  | 0 => rfl
  | j + 1 => by
    simp only [divW, crcW]
    rw [zN_step _ _ (divW_lt n w hn j) (by omega), divW_crc n w hn j]
/-- The remainder of the first i words. -/
def divTo (f : List Nat) : Nat → Nat
  | 0 => 0
  | i + 1 => divW (divTo f i) (wd f i) 12
theorem divTo_lt (f : List Nat) : ∀ i, divTo f i < 4194304
  | 0 => Nat.zero_lt_succ _
  | i + 1 => divW_lt _ _ (divTo_lt f i) 12
theorem divTo_crc (f : List Nat) : ∀ i, zN (divTo f i) 22 = crcTo f i
  | 0 => show zN 0 22 = 0 by decide
  | i + 1 => by
    simp only [divTo, crcTo]
    rw [divW_crc _ _ (divTo_lt f i), divTo_crc f i]
theorem div_crc (f : List Nat) : div0 (divTo f 62) 22 = crcN f := by
  rw [(zN_div0 _ (divTo_lt f 62) 22).1, divTo_crc]; rfl
/-- The remainder behind i steps of the long division of the whole. -/
def divSt (f : List Nat) (i : Nat) : Nat := if i < 744 then divW (divTo f (i / 12)) (wd f (i / 12)) (i % 12) else div0 (divTo f 62) (i - 744)
def divBit (f : List Nat) (i : Nat) : Nat := if i < 744 then wd f (i / 12) / 2 ^ (11 - i % 12) % 2 else 0
theorem divSt_lt (f : List Nat) (i : Nat) : divSt f i < 4194304 := by
  unfold divSt
  split
  · exact divW_lt _ _ (divTo_lt f _) _
  · rw [(zN_div0 _ (divTo_lt f 62) _).1]; exact (zN_div0 _ (divTo_lt f 62) _).2
theorem divSt_succ (f : List Nat) (i : Nat) : divSt f (i + 1) = divB (divSt f i) (divBit f i) := by
  unfold divSt divBit
  by_cases h1 : i + 1 < 744
  · rw [if_pos h1, if_pos (show i < 744 by omega), if_pos (show i < 744 by omega)]
    by_cases h2 : i % 12 = 11
    · rw [show (i + 1) / 12 = i / 12 + 1 from by omega, show (i + 1) % 12 = 0 from by omega, h2]
      rfl
    · rw [show (i + 1) / 12 = i / 12 from by omega, show (i + 1) % 12 = i % 12 + 1 from by omega]
      rfl
  · by_cases h2 : i < 744
    · obtain rfl : i = 743 := by omega
      rw [if_neg h1, if_pos h2, if_pos h2]
      rfl
    · rw [if_neg h1, if_neg h2, if_neg h2, show i + 1 - 744 = (i - 744) + 1 from by omega]
      rfl
theorem divSt_end (f : List Nat) : divSt f 766 = crcN f := by
  rw [← div_crc]
  unfold divSt
  rw [if_neg (by decide)]
end Go.Proofs.YtplddeboinhkbaaGreatDoorRR

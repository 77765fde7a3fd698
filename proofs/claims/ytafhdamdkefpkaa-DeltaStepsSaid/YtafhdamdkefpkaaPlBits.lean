/- Plain: sets as numbers, bit by bit. -/
import Derived.Test.YtafhdamdkefpkaaPrepAll
import Derived.Laws.BitsAllLaws
namespace Go.Proofs.Ytafhdamdkefpkaa
open Go.RowKit Go.Proofs.YtafhdamdkefpkaaW.PrintWords Go.Proofs.YtafhdamdkefpkaaW.PrintLast Go.Proofs.YtafhdamdkefpkaaW.PrintMore
set_option linter.unusedVariables false
set_option linter.unusedSimpArgs false
theorem testBit_hi {a : Nat} (ha : a < 18446744073709551616) {j : Nat} (hj : 64 ≤ j) : a.testBit j = false :=
  Nat.testBit_lt_two_pow (Nat.lt_of_lt_of_le (show a < 2 ^ 64 from ha) (Nat.pow_le_pow_right (by decide) hj))

theorem andNot_zero (a b : Nat) (ha : a < 18446744073709551616) (hb : b < 18446744073709551616) : (a &&& (18446744073709551615 - b)) = 0 ↔ ∀ j, a.testBit j = true → b.testBit j = true := by
  have tb : ∀ j, (18446744073709551615 - b).testBit j = (decide (j < 64) && !b.testBit j) := fun j => by
    have := @Nat.testBit_two_pow_sub_succ b 64 hb j
    rw [← this]
    congr 1
    omega
  constructor
  · intro h j hj
    have h1 : (a &&& (18446744073709551615 - b)).testBit j = false := by rw [h]; exact Nat.zero_testBit j
    rw [Nat.testBit_and, tb, hj] at h1
    rcases Nat.lt_or_ge j 64 with h2 | h2
    · simpa [h2] using h1
    · rw [testBit_hi ha h2] at hj; exact absurd hj (by decide)
  · intro h
    refine Nat.eq_of_testBit_eq (fun j => ?_)
    rw [Nat.testBit_and, tb, Nat.zero_testBit]
    cases e : a.testBit j
    · rfl
    · simp [h j e]
theorem withinB_nat (a b : Nat) (ha : a < 18446744073709551616) (hb : b < 18446744073709551616) : withinB (a : Int) (b : Int) = true ↔ ∀ j, a.testBit j = true → b.testBit j = true := by
  unfold withinB
  rw [u64_andNot_nat a b ha hb, beq_iff_eq, ← andNot_zero a b ha hb]
  omega
theorem and_zero (a b : Nat) : (a &&& b) = 0 ↔ ∀ j, ¬ (a.testBit j = true ∧ b.testBit j = true) := by
  constructor
  · rintro h j ⟨h1, h2⟩
    have : (a &&& b).testBit j = false := by rw [h]; exact Nat.zero_testBit j
    rw [Nat.testBit_and, h1, h2] at this
    exact absurd this (by decide)
  · intro h
    refine Nat.eq_of_testBit_eq (fun j => ?_)
    rw [Nat.testBit_and, Nat.zero_testBit]
    have := h j
    cases e : a.testBit j <;> cases e' : b.testBit j <;> simp_all
theorem apartB_nat (a b : Nat) (ha : a < 18446744073709551616) (hb : b < 18446744073709551616) : apartB (a : Int) (b : Int) = true ↔ ∀ j, ¬ (a.testBit j = true ∧ b.testBit j = true) := by
  unfold apartB
  rw [u64_and_nat a b ha hb, beq_iff_eq, ← and_zero a b]
  omega
end Go.Proofs.Ytafhdamdkefpkaa

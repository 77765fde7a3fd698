/- Plain: the reference's functions on sets (Has, Within, Apart, List, Cmp) say what the program's say. -/
import Derived.Test.YtafhdamdkefpkaaPPrepx7
import Derived.Test.YtafhdamdkefpkaaPPrepx3
import Derived.Test.YtafhdamdkefpkaaPrepAll
import Derived.Laws.BitsAllLaws
namespace Go.Proofs.Ytafhdamdkefpkaa
open Go.RowKit Go.Proofs.YtafhdamdkefpkaaW.PrintWords Go.Proofs.YtafhdamdkefpkaaW.PrintLast Go.Proofs.YtafhdamdkefpkaaW.PrintMore Go.Proofs.Ytafhdamdkefpkaa.PPrep
set_option linter.unusedVariables false
set_option linter.unusedSimpArgs false

theorem wrapN (i : Nat) (h : i < 1000000000000) : wrap64 ((i : Int) + 1) = ((i + 1 : Nat) : Int) := by unfold wrap64; omega
theorem testBit_hi {a : Nat} (ha : a < 18446744073709551616) {j : Nat} (hj : 64 ≤ j) : a.testBit j = false :=
  Nat.testBit_lt_two_pow (Nat.lt_of_lt_of_le (show a < 2 ^ 64 from ha) (Nat.pow_le_pow_right (by decide) hj))

theorem has_l (d : Nat) : ∀ (k a i n : Nat), i + d = n → n < 1000 → d < k → a < 18446744073709551616 → saleroomref02_Has.l0 k (a : Int) (n : Int) (i : Int) = some (a.testBit d) := by
  induction d with
  | zero =>
    intro k a i n h hn hk ha
    obtain ⟨k, rfl⟩ : ∃ m, k = m + 1 := ⟨k - 1, by omega⟩
    simp only [saleroomref02_Has.l0]
    rw [if_neg (by omega), Nat.testBit_zero, Int.tmod_eq_emod_of_nonneg (by omega)]
    congr 1
    rw [Bool.eq_iff_iff, beq_iff_eq, decide_eq_true_eq]
    omega
  | succ d ih =>
    intro k a i n h hn hk ha
    obtain ⟨k, rfl⟩ : ∃ m, k = m + 1 := ⟨k - 1, by omega⟩
    simp only [saleroomref02_Has.l0]
    have e : IntKind.u64.wrap (Int.tdiv (a : Int) 2) = ((a / 2 : Nat) : Int) := by
      rw [IntKind.wrap_u64, Int.tdiv_eq_ediv_of_nonneg (by omega)]; omega
    rw [if_pos (by omega), wrapN _ (by omega), e, ih k (a / 2) (i + 1) n (by omega) hn (by omega) (by omega), Nat.testBit_succ]
theorem has_f (k a n : Nat) (hk : 70 ≤ k) (ha : a < 18446744073709551616) (hn : n < 64) : saleroomref02_Has.f k (a : Int) (n : Int) = some (a.testBit n) := by
  obtain ⟨k, rfl⟩ : ∃ m, k = m + 1 := ⟨k - 1, by omega⟩
  unfold saleroomref02_Has.f
  rw [if_neg (by omega)]
  simp only [saleroomref02_Has.j0]
  rw [if_neg (by rw [decide_eq_true_eq]; omega)]
  exact has_l n k a 0 n (by omega) (by omega) (by omega) ha

theorem within_l (d : Nat) : ∀ (k a b i : Nat), i + d = 64 → d + 70 < k → a < 18446744073709551616 → b < 18446744073709551616 →
    ∃ r, saleroomref02_Within.l0 k (a : Int) (b : Int) (i : Int) = some r ∧ (r = true ↔ ∀ j, j < 64 → i ≤ j → a.testBit j = true → b.testBit j = true) := by
  induction d with
  | zero =>
    intro k a b i h hk ha hb
    obtain ⟨k, rfl⟩ : ∃ m, k = m + 1 := ⟨k - 1, by omega⟩
    simp only [saleroomref02_Within.l0]
    rw [if_neg (by omega)]
    exact ⟨true, rfl, fun _ j h1 h2 => by omega, fun _ => rfl⟩
  | succ d ih =>
    intro k a b i h hk ha hb
    obtain ⟨k, rfl⟩ : ∃ m, k = m + 1 := ⟨k - 1, by omega⟩
    have hi : i < 64 := by omega
    simp only [saleroomref02_Within.l0]
    obtain ⟨r, hr, hrr⟩ := ih k a b (i + 1) (by omega) (by omega) ha hb
    rw [if_pos (by omega), has_f k a i (by omega) ha hi, has_f k b i (by omega) hb hi, wrapN _ (by omega), hr]
    simp only [Option.bind_some]
    have step : (∀ j, j < 64 → i ≤ j → a.testBit j = true → b.testBit j = true) ↔ (a.testBit i = true → b.testBit i = true) ∧ ∀ j, j < 64 → i + 1 ≤ j → a.testBit j = true → b.testBit j = true := by
      constructor
      · exact fun h => ⟨h i hi (Nat.le_refl _), fun j h1 h2 => h j h1 (by omega)⟩
      · rintro ⟨h1, h2⟩ j h3 h4
        rcases Nat.lt_or_ge i j with h5 | h5
        · exact h2 j h3 h5
        · rw [show j = i from by omega]; exact h1
    rw [step, ← hrr]
    cases ea : a.testBit i <;> cases eb : b.testBit i <;> simp
theorem andNot_zero (a b : Nat) (ha : a < 18446744073709551616) (hb : b < 18446744073709551616) : (a &&& (18446744073709551615 - b)) = 0 ↔ ∀ j, a.testBit j = true → b.testBit j = true := by
  have tb : ∀ j, (18446744073709551615 - b).testBit j = (decide (j < 64) && !b.testBit j) := fun j => by
    have := @Nat.testBit_two_pow_sub_succ b 64 hb j
    rw [← this]
    congr 1
    omega
  constructor
  · intro h j hj
    have h1 : (a &&& (18446744073709551615 - b)).testBit j = false := by rw [h]; exact Nat.zero_testBit j
    rw [Nat.testBit_and, tb, hj] at h1
    rcases Nat.lt_or_ge j 64 with h2 | h2
    · simpa [h2] using h1
    · rw [testBit_hi ha h2] at hj; exact absurd hj (by decide)
  · intro h
    refine Nat.eq_of_testBit_eq (fun j => ?_)
    rw [Nat.testBit_and, tb, Nat.zero_testBit]
    cases e : a.testBit j
    · rfl
    · simp [h j e]
theorem withinB_nat (a b : Nat) (ha : a < 18446744073709551616) (hb : b < 18446744073709551616) : withinB (a : Int) (b : Int) = true ↔ ∀ j, a.testBit j = true → b.testBit j = true := by
  unfold withinB
  rw [u64_andNot_nat a b ha hb, beq_iff_eq, ← andNot_zero a b ha hb]
  omega
theorem within_f (k : Nat) (x y : Int) (hk : 140 ≤ k) (hx : 0 ≤ x ∧ x < 18446744073709551616) (hy : 0 ≤ y ∧ y < 18446744073709551616) : saleroomref02_Within.f k x y = some (withinB x y) := by
  obtain ⟨a, rfl⟩ := Int.eq_ofNat_of_zero_le hx.1
  obtain ⟨b, rfl⟩ := Int.eq_ofNat_of_zero_le hy.1
  have ha : a < 18446744073709551616 := by omega
  have hb : b < 18446744073709551616 := by omega
  unfold saleroomref02_Within.f
  obtain ⟨r, hr, hrr⟩ := within_l 64 k a b 0 (by omega) (by omega) ha hb
  refine hr.trans (congrArg some ?_)
  rw [Bool.eq_iff_iff, hrr, withinB_nat a b ha hb]
  constructor
  · intro h j hj
    rcases Nat.lt_or_ge j 64 with h2 | h2
    · exact h j h2 (Nat.zero_le _) hj
    · rw [testBit_hi ha h2] at hj; exact absurd hj (by decide)
  · exact fun h j _ _ hj => h j hj

theorem apart_l (d : Nat) : ∀ (k a b i : Nat), i + d = 64 → d + 70 < k → a < 18446744073709551616 → b < 18446744073709551616 →
    ∃ r, saleroomref02_Apart.l0 k (a : Int) (b : Int) (i : Int) = some r ∧ (r = true ↔ ∀ j, j < 64 → i ≤ j → ¬ (a.testBit j = true ∧ b.testBit j = true)) := by
  induction d with
  | zero =>
    intro k a b i h hk ha hb
    obtain ⟨k, rfl⟩ : ∃ m, k = m + 1 := ⟨k - 1, by omega⟩
    simp only [saleroomref02_Apart.l0]
    rw [if_neg (by omega)]
    exact ⟨true, rfl, fun _ j h1 h2 => by omega, fun _ => rfl⟩
  | succ d ih =>
    intro k a b i h hk ha hb
    obtain ⟨k, rfl⟩ : ∃ m, k = m + 1 := ⟨k - 1, by omega⟩
    have hi : i < 64 := by omega
    simp only [saleroomref02_Apart.l0]
    obtain ⟨r, hr, hrr⟩ := ih k a b (i + 1) (by omega) (by omega) ha hb
    rw [if_pos (by omega), has_f k a i (by omega) ha hi, has_f k b i (by omega) hb hi, wrapN _ (by omega), hr]
    simp only [Option.bind_some]
    have step : (∀ j, j < 64 → i ≤ j → ¬ (a.testBit j = true ∧ b.testBit j = true)) ↔ ¬ (a.testBit i = true ∧ b.testBit i = true) ∧ ∀ j, j < 64 → i + 1 ≤ j → ¬ (a.testBit j = true ∧ b.testBit j = true) := by
      constructor
      · exact fun h => ⟨h i hi (Nat.le_refl _), fun j h1 h2 => h j h1 (by omega)⟩
      · rintro ⟨h1, h2⟩ j h3 h4
        rcases Nat.lt_or_ge i j with h5 | h5
        · exact h2 j h3 h5
        · rw [show j = i from by omega]; exact h1
    rw [step, ← hrr]
    cases ea : a.testBit i <;> cases eb : b.testBit i <;> simp
theorem and_zero (a b : Nat) : (a &&& b) = 0 ↔ ∀ j, ¬ (a.testBit j = true ∧ b.testBit j = true) := by
  constructor
  · rintro h j ⟨h1, h2⟩
    have : (a &&& b).testBit j = false := by rw [h]; exact Nat.zero_testBit j
    rw [Nat.testBit_and, h1, h2] at this
    exact absurd this (by decide)
  · intro h
    refine Nat.eq_of_testBit_eq (fun j => ?_)
    rw [Nat.testBit_and, Nat.zero_testBit]
    have := h j
    cases e : a.testBit j <;> cases e' : b.testBit j <;> simp_all
theorem apartB_nat (a b : Nat) (ha : a < 18446744073709551616) (hb : b < 18446744073709551616) : apartB (a : Int) (b : Int) = true ↔ ∀ j, ¬ (a.testBit j = true ∧ b.testBit j = true) := by
  unfold apartB
  rw [u64_and_nat a b ha hb, beq_iff_eq, ← and_zero a b]
  omega
theorem apart_f (k : Nat) (x y : Int) (hk : 140 ≤ k) (hx : 0 ≤ x ∧ x < 18446744073709551616) (hy : 0 ≤ y ∧ y < 18446744073709551616) : saleroomref02_Apart.f k x y = some (apartB x y) := by
  obtain ⟨a, rfl⟩ := Int.eq_ofNat_of_zero_le hx.1
  obtain ⟨b, rfl⟩ := Int.eq_ofNat_of_zero_le hy.1
  have ha : a < 18446744073709551616 := by omega
  have hb : b < 18446744073709551616 := by omega
  unfold saleroomref02_Apart.f
  obtain ⟨r, hr, hrr⟩ := apart_l 64 k a b 0 (by omega) (by omega) ha hb
  refine hr.trans (congrArg some ?_)
  rw [Bool.eq_iff_iff, hrr, apartB_nat a b ha hb]
  constructor
  · rintro h j ⟨h1, h3⟩
    rcases Nat.lt_or_ge j 64 with h2 | h2
    · exact h j h2 (Nat.zero_le _) ⟨h1, h3⟩
    · rw [testBit_hi ha h2] at h1; exact absurd h1 (by decide)
  · exact fun h j _ _ hj => h j hj

/-- A set's items, rising. -/
def bitsTo (a n : Nat) : List Int := ((List.range n).filter fun (j : Nat) => a.testBit j).map fun (j : Nat) => (j : Int)
theorem bitsTo_succ (a n : Nat) : bitsTo a (n + 1) = bitsTo a n ++ (if a.testBit n then [(n : Int)] else []) := by
  unfold bitsTo
  rw [List.range_succ, List.filter_append, List.map_append]
  cases e : a.testBit n <;> simp [e]
theorem bitsTo_le (a n : Nat) : (bitsTo a n).length ≤ n := by
  unfold bitsTo
  rw [List.length_map]
  exact Nat.le_trans (List.length_filter_le _ _) (by simp)
theorem list_l (d : Nat) : ∀ (k a i : Nat), i + d = 64 → d + 70 < k → a < 18446744073709551616 → saleroomref02_List.l0 k (a : Int) (bitsTo a i) (i : Int) = some (bitsTo a 64) := by
  induction d with
  | zero =>
    intro k a i h hk ha
    obtain ⟨k, rfl⟩ : ∃ m, k = m + 1 := ⟨k - 1, by omega⟩
    simp only [saleroomref02_List.l0]
    rw [if_neg (by omega), show i = 64 from by omega]
  | succ d ih =>
    intro k a i h hk ha
    obtain ⟨k, rfl⟩ : ∃ m, k = m + 1 := ⟨k - 1, by omega⟩
    have hi : i < 64 := by omega
    simp only [saleroomref02_List.l0]
    rw [if_pos (by omega), has_f k a i (by omega) ha hi, wrapN _ (by omega)]
    simp only [Option.bind_some]
    have := ih k a (i + 1) (by omega) (by omega) ha
    rw [bitsTo_succ] at this
    have hl := bitsTo_le a i
    rw [if_pos (show (bitsTo a i).length < 17592186044416 from by omega)]
    cases e : a.testBit i
    · rw [e] at this; simpa using this
    · rw [e] at this; simpa using this
theorem list_f (k a : Nat) (hk : 140 ≤ k) (ha : a < 18446744073709551616) : saleroomref02_List.f k (a : Int) = some (bitsTo a 64) := by
  unfold saleroomref02_List.f
  exact list_l 64 k a 0 (by omega) (by omega) ha
theorem popAux_bits : ∀ (f x : Nat), Lib.popAux f x = ((List.range f).filter fun j => x.testBit j).length
  | 0, x => by simp [Lib.popAux]
  | f + 1, x => by
    rw [Lib.popAux, popAux_bits f, List.range_succ_eq_map, List.filter_cons, List.filter_map, Nat.testBit_zero]
    have e : ((fun j => x.testBit j) ∘ Nat.succ) = fun j => (x / 2).testBit j := by
      funext j
      simp [Nat.testBit_succ]
    rw [e]
    rcases Nat.mod_two_eq_zero_or_one x with h | h <;> simp [h] <;> omega
theorem bits_count (a : Nat) : (bitsTo a 64).length = Lib.onesCount a := by
  unfold bitsTo Lib.onesCount
  rw [List.length_map, popAux_bits]
theorem cmp_f (k : Nat) (x y : Int) (hk : 140 ≤ k) (hx : 0 ≤ x ∧ x < 18446744073709551616) (hy : 0 ≤ y ∧ y < 18446744073709551616) : ∃ c, saleroomref02_Cmp.f k x y = some c ∧ (c < 0 ↔ scmp x.toNat y.toNat < 0) := by
  obtain ⟨a, rfl⟩ := Int.eq_ofNat_of_zero_le hx.1
  obtain ⟨b, rfl⟩ := Int.eq_ofNat_of_zero_le hy.1
  have ha : a < 18446744073709551616 := by omega
  have hb : b < 18446744073709551616 := by omega
  unfold saleroomref02_Cmp.f
  rw [list_f k a hk ha, list_f k b hk hb]
  simp only [Option.bind_some, bits_count, Int.toNat_natCast]
  obtain ⟨k, rfl⟩ : ∃ m, k = m + 1 := ⟨k - 1, by omega⟩
  simp only [saleroomref02_Cmp.j0, scmp_neg]
  generalize Lib.onesCount a = p
  generalize Lib.onesCount b = q
  by_cases h1 : (p : Int) < (q : Int)
  · rw [if_pos h1]; exact ⟨-1, by simp, by omega⟩
  · rw [if_neg h1]
    by_cases h2 : (p : Int) = (q : Int)
    · rw [if_pos h2]
      by_cases h3 : (a : Int) < (b : Int)
      · rw [if_pos (decide_eq_true h3)]; exact ⟨-1, rfl, by omega⟩
      · rw [if_neg (by rw [decide_eq_true_eq]; exact h3), if_neg (by omega)]
        by_cases h4 : (a : Int) > (b : Int)
        · rw [if_pos h4]; exact ⟨1, rfl, by omega⟩
        · rw [if_neg h4]; exact ⟨0, rfl, by omega⟩
    · rw [if_neg h2, if_neg (by decide), if_pos (by omega)]
      exact ⟨1, rfl, by omega⟩
end Go.Proofs.Ytafhdamdkefpkaa

/- Plain: the reference's Few, Union, Same, SameAll, Clean as functions on lists. -/
import Derived.Test.YtafhdamdkefpkaaPlOne2
import Derived.Test.YtafhdamdkefpkaaPlClean
import Derived.Test.YtafhdamdkefpkaaRow
namespace Go.Proofs.Ytafhdamdkefpkaa
open Go.RowKit Go.Proofs.YtafhdamdkefpkaaW.PrintWords Go.Proofs.YtafhdamdkefpkaaW.PrintLast Go.Proofs.YtafhdamdkefpkaaW.PrintMore Go.Proofs.Ytafhdamdkefpkaa.PPrep
set_option linter.unusedVariables false
set_option linter.unusedSimpArgs false

theorem wrapM (i n : Nat) (h : i < n) (hn : n ≤ 9223372036854775807) : wrap64 ((i : Int) + 1) = ((i + 1 : Nat) : Int) := by unfold wrap64; omega
/-! Few -/
theorem few_l (xss : List (List S40)) (b : Nat) (hn : xss.length ≤ 9223372036854775807) : ∀ (d i : Nat), i + d = xss.length →
    Ev (fun k => saleroomref14_Few.l0 k xss (b : Int) (i : Int)) ((xss.drop i).all fun xs => decide (xs.length ≤ b)) := by
  intro d
  induction d with
  | zero =>
    intro i h
    refine Ev.step (fun k => by simp only [saleroomref14_Few.l0]; rfl) ?_
    simp only [if_neg (show ¬ ((i : Int) < (xss.length : Int)) from by omega)]
    rw [List.drop_eq_nil_of_le (by omega)]
    exact Ev.now _
  | succ d ih =>
    intro i h
    have hi : i < xss.length := by omega
    refine Ev.step (fun k => by simp only [saleroomref14_Few.l0]; rfl) ?_
    simp only [if_pos (show ((i : Int) < (xss.length : Int)) from by omega), if_pos (show (0 : Int) ≤ (i : Int) from by omega), wrapM i _ hi hn, rdL_nat xss i hi]
    rw [List.drop_eq_getElem_cons hi, List.all_cons]
    by_cases c : (xss[i].length : Int) > (b : Int)
    · simp only [if_pos c]
      rw [show decide (xss[i].length ≤ b) = false from decide_eq_false (by omega), Bool.false_and]
      exact Ev.now _
    · simp only [if_neg c]
      rw [show decide (xss[i].length ≤ b) = true from decide_eq_true (by omega), Bool.true_and]
      exact ih (i + 1) (by omega)
theorem few_f (xss : List (List S40)) (a b : Nat) (hn : xss.length ≤ 9223372036854775807) : Ev (fun k => saleroomref14_Few.f k xss (a : Int) (b : Int)) (decide (xss.length ≤ a) && xss.all fun xs => decide (xs.length ≤ b)) := by
  unfold saleroomref14_Few.f
  by_cases c : (xss.length : Int) > (a : Int)
  · simp only [if_pos c]
    rw [show decide (xss.length ≤ a) = false from decide_eq_false (by omega), Bool.false_and]
    exact Ev.now _
  · simp only [if_neg c]
    rw [show decide (xss.length ≤ a) = true from decide_eq_true (by omega), Bool.true_and]
    have := few_l xss b hn xss.length 0 (by omega)
    rw [List.drop_zero] at this
    exact this
/-! Union -/
theorem runion_l (xs : List S40) (hn : xs.length ≤ 9223372036854775807) : ∀ (d i : Nat) (u : Int), i + d = xs.length → Ev (fun k => saleroomref14_Union.l0 k xs u (i : Int)) ((xs.drop i).foldl (fun u b => Go.bits .or .u64 u b.f0) u) := by
  intro d
  induction d with
  | zero =>
    intro i u h
    refine Ev.step (fun k => by simp only [saleroomref14_Union.l0]; rfl) ?_
    simp only [if_neg (show ¬ ((i : Int) < (xs.length : Int)) from by omega)]
    rw [List.drop_eq_nil_of_le (by omega)]
    exact Ev.now _
  | succ d ih =>
    intro i u h
    have hi : i < xs.length := by omega
    refine Ev.step (fun k => by simp only [saleroomref14_Union.l0]; rfl) ?_
    simp only [if_pos (show ((i : Int) < (xs.length : Int)) from by omega), if_pos (show (0 : Int) ≤ (i : Int) from by omega), wrapM i _ hi hn, rd_nat xs i hi]
    rw [List.drop_eq_getElem_cons hi, List.foldl_cons]
    exact ih (i + 1) _ (by omega)
theorem runion_f (xs : List S40) (hn : xs.length ≤ 9223372036854775807) : Ev (fun k => saleroomref14_Union.f k xs) (uniL xs) := by
  unfold saleroomref14_Union.f
  have := runion_l xs hn xs.length 0 0 (by omega)
  rw [List.drop_zero] at this
  exact this
theorem or_u64 (a b : Nat) (ha : a < 18446744073709551616) (hb : b < 18446744073709551616) : Go.bits .or .u64 (a : Int) (b : Int) = ((a ||| b : Nat) : Int) := u64_or_nat a b ha hb
/-- The items of bids, as a natural number. -/
def uniN (xs : List S40) (u : Nat) : Nat := xs.foldl (fun u b => u ||| b.f0.toNat) u
theorem uniN_lt (xs : List S40) (hu : ∀ x ∈ xs, U64B x) (u : Nat) (h : u < 18446744073709551616) : uniN xs u < 18446744073709551616 := by
  induction xs generalizing u with
  | nil => exact h
  | cons x xs ih =>
    have hx := hu x List.mem_cons_self
    unfold U64B at hx
    exact ih (fun y hy => hu y (List.mem_cons_of_mem _ hy)) _ (Nat.or_lt_two_pow (n := 64) h (by omega))
theorem uniN_fold (xs : List S40) (hu : ∀ x ∈ xs, U64B x) (u : Nat) (h : u < 18446744073709551616) : xs.foldl (fun u b => Go.bits .or .u64 u b.f0) (u : Int) = (uniN xs u : Int) := by
  induction xs generalizing u with
  | nil => rfl
  | cons x xs ih =>
    have hx := hu x List.mem_cons_self
    unfold U64B at hx
    have e : x.f0 = (x.f0.toNat : Int) := by omega
    rw [List.foldl_cons, e, or_u64 u x.f0.toNat h (by omega), ih (fun y hy => hu y (List.mem_cons_of_mem _ hy)) _ (Nat.or_lt_two_pow (n := 64) h (by omega))]
    rfl
theorem uniN_or (xs : List S40) (u : Nat) : uniN xs u = u ||| uniN xs 0 := by
  induction xs generalizing u with
  | nil => simp [uniN]
  | cons x xs ih =>
    show uniN xs (u ||| x.f0.toNat) = u ||| uniN xs (0 ||| x.f0.toNat)
    rw [ih, ih (0 ||| x.f0.toNat), Nat.or_assoc, Nat.zero_or]
theorem uniL_nat (xs : List S40) (hu : ∀ x ∈ xs, U64B x) : uniL xs = (uniN xs 0 : Int) := uniN_fold xs hu 0 (by decide)
theorem uniL_append (xs ys : List S40) (hx : ∀ x ∈ xs, U64B x) (hy : ∀ x ∈ ys, U64B x) : uniL (xs ++ ys) = Go.bits .or .u64 (uniL xs) (uniL ys) := by
  have hxy : ∀ x ∈ xs ++ ys, U64B x := fun x h => (List.mem_append.1 h).elim (hx x) (hy x)
  rw [uniL_nat _ hxy, uniL_nat _ hx, uniL_nat _ hy, or_u64 _ _ (uniN_lt _ hx _ (by decide)) (uniN_lt _ hy _ (by decide)), ← uniN_or]
  unfold uniN
  rw [List.foldl_append]
theorem uniL_b (xs : List S40) (hu : ∀ x ∈ xs, U64B x) : 0 ≤ uniL xs ∧ uniL xs < 18446744073709551616 := by
  rw [uniL_nat xs hu]
  have := uniN_lt xs hu 0 (by decide)
  omega
/-! Same, SameAll: of the same lists -/
theorem same_l (xs : List S40) (hn : xs.length ≤ 9223372036854775807) : ∀ (d i : Nat), i + d = xs.length → Ev (fun k => saleroomref14_Same.l0 k xs xs (i : Int)) true := by
  intro d
  induction d with
  | zero =>
    intro i h
    refine Ev.step (fun k => by simp only [saleroomref14_Same.l0]; rfl) ?_
    simp only [if_neg (show ¬ ((i : Int) < (xs.length : Int)) from by omega)]
    exact Ev.now _
  | succ d ih =>
    intro i h
    have hi : i < xs.length := by omega
    refine Ev.step (fun k => by simp only [saleroomref14_Same.l0]; rfl) ?_
    simp only [if_pos (show ((i : Int) < (xs.length : Int)) from by omega), if_pos (show (0 : Int) ≤ (i : Int) from by omega), wrapM i _ hi hn, beq_self_eq_true, Bool.not_true, Bool.or_self, Bool.false_eq_true, if_false]
    exact ih (i + 1) (by omega)
theorem same_f (xs : List S40) (hn : xs.length ≤ 9223372036854775807) : Ev (fun k => saleroomref14_Same.f k xs xs) true := by
  unfold saleroomref14_Same.f
  simp only [if_true]
  exact same_l xs hn xs.length 0 (by omega)
/-! Clean -/
theorem one_ref_f {xs : List S40} (hu : ∀ x ∈ xs, U64B x) (hn : xs.length ≤ 1000000) : Ev (fun k => saleroomref14_One.f k xs) (oneL xs) := by
  have := refOne_f xs hu hn
  rwa [one_ref hu] at this
theorem u64_of_wf {n : Int} (h : WfI .u64 n) : 0 ≤ n ∧ n < 18446744073709551616 := by
  have h : (Lit.int .u64 n).wf = true := h
  simp only [Lit.wf, Bool.and_eq_true, decide_eq_true_eq] at h
  have e1 : IntKind.u64.min = 0 := by decide
  have e2 : IntKind.u64.max = 18446744073709551615 := by decide
  omega
end Go.Proofs.Ytafhdamdkefpkaa

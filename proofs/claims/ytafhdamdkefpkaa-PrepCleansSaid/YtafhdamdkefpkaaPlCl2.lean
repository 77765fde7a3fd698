/- Plain: the reference's Few, Union, Same, SameAll, Clean; and PrepCleans is true. -/
import Derived.Test.YtafhdamdkefpkaaPPrepx5
import Derived.Test.YtafhdamdkefpkaaPlOne2
import Derived.Test.YtafhdamdkefpkaaPlClean
import Derived.Test.YtafhdamdkefpkaaRow
namespace Go.Proofs.Ytafhdamdkefpkaa
open Go.RowKit Go.Proofs.YtafhdamdkefpkaaW.PrintWords Go.Proofs.YtafhdamdkefpkaaW.PrintLast Go.Proofs.YtafhdamdkefpkaaW.PrintMore Go.Proofs.Ytafhdamdkefpkaa.PPrep
set_option linter.unusedVariables false
set_option linter.unusedSimpArgs false

theorem wrapM (i n : Nat) (h : i < n) (hn : n ≤ 9223372036854775807) : wrap64 ((i : Int) + 1) = ((i + 1 : Nat) : Int) := by unfold wrap64; omega
/-! Few -/
theorem few_l (xss : List (List S40)) (b : Nat) (hn : xss.length ≤ 9223372036854775807) : ∀ (d i : Nat), i + d = xss.length →
    Ev (fun k => saleroomref14_Few.l0 k xss (b : Int) (i : Int)) ((xss.drop i).all fun xs => decide (xs.length ≤ b)) := by
  intro d
  induction d with
  | zero =>
    intro i h
    refine Ev.step (fun k => by simp only [saleroomref14_Few.l0]; rfl) ?_
    simp only [if_neg (show ¬ ((i : Int) < (xss.length : Int)) from by omega)]
    rw [List.drop_eq_nil_of_le (by omega)]
    exact Ev.now _
  | succ d ih =>
    intro i h
    have hi : i < xss.length := by omega
    refine Ev.step (fun k => by simp only [saleroomref14_Few.l0]; rfl) ?_
    simp only [if_pos (show ((i : Int) < (xss.length : Int)) from by omega), if_pos (show (0 : Int) ≤ (i : Int) from by omega), wrapM i _ hi hn, rdL_nat xss i hi]
    rw [List.drop_eq_getElem_cons hi, List.all_cons]
    by_cases c : (xss[i].length : Int) > (b : Int)
    · simp only [if_pos c]
      rw [show decide (xss[i].length ≤ b) = false from decide_eq_false (by omega), Bool.false_and]
      exact Ev.now _
    · simp only [if_neg c]
      rw [show decide (xss[i].length ≤ b) = true from decide_eq_true (by omega), Bool.true_and]
      exact ih (i + 1) (by omega)
theorem few_f (xss : List (List S40)) (a b : Nat) (hn : xss.length ≤ 9223372036854775807) : Ev (fun k => saleroomref14_Few.f k xss (a : Int) (b : Int)) (decide (xss.length ≤ a) && xss.all fun xs => decide (xs.length ≤ b)) := by
  unfold saleroomref14_Few.f
  by_cases c : (xss.length : Int) > (a : Int)
  · simp only [if_pos c]
    rw [show decide (xss.length ≤ a) = false from decide_eq_false (by omega), Bool.false_and]
    exact Ev.now _
  · simp only [if_neg c]
    rw [show decide (xss.length ≤ a) = true from decide_eq_true (by omega), Bool.true_and]
    have := few_l xss b hn xss.length 0 (by omega)
    rw [List.drop_zero] at this
    exact this
/-! Union -/
theorem runion_l (xs : List S40) (hn : xs.length ≤ 9223372036854775807) : ∀ (d i : Nat) (u : Int), i + d = xs.length → Ev (fun k => saleroomref14_Union.l0 k xs u (i : Int)) ((xs.drop i).foldl (fun u b => Go.bits .or .u64 u b.f0) u) := by
  intro d
  induction d with
  | zero =>
    intro i u h
    refine Ev.step (fun k => by simp only [saleroomref14_Union.l0]; rfl) ?_
    simp only [if_neg (show ¬ ((i : Int) < (xs.length : Int)) from by omega)]
    rw [List.drop_eq_nil_of_le (by omega)]
    exact Ev.now _
  | succ d ih =>
    intro i u h
    have hi : i < xs.length := by omega
    refine Ev.step (fun k => by simp only [saleroomref14_Union.l0]; rfl) ?_
    simp only [if_pos (show ((i : Int) < (xs.length : Int)) from by omega), if_pos (show (0 : Int) ≤ (i : Int) from by omega), wrapM i _ hi hn, rd_nat xs i hi]
    rw [List.drop_eq_getElem_cons hi, List.foldl_cons]
    exact ih (i + 1) _ (by omega)
theorem runion_f (xs : List S40) (hn : xs.length ≤ 9223372036854775807) : Ev (fun k => saleroomref14_Union.f k xs) (uniL xs) := by
  unfold saleroomref14_Union.f
  have := runion_l xs hn xs.length 0 0 (by omega)
  rw [List.drop_zero] at this
  exact this
theorem or_u64 (a b : Nat) (ha : a < 18446744073709551616) (hb : b < 18446744073709551616) : Go.bits .or .u64 (a : Int) (b : Int) = ((a ||| b : Nat) : Int) := u64_or_nat a b ha hb
/-- The items of bids, as a natural number. -/
def uniN (xs : List S40) (u : Nat) : Nat := xs.foldl (fun u b => u ||| b.f0.toNat) u
theorem uniN_lt (xs : List S40) (hu : ∀ x ∈ xs, U64B x) (u : Nat) (h : u < 18446744073709551616) : uniN xs u < 18446744073709551616 := by
  induction xs generalizing u with
  | nil => exact h
  | cons x xs ih =>
    have hx := hu x List.mem_cons_self
    unfold U64B at hx
    exact ih (fun y hy => hu y (List.mem_cons_of_mem _ hy)) _ (Nat.or_lt_two_pow (n := 64) h (by omega))
theorem uniN_fold (xs : List S40) (hu : ∀ x ∈ xs, U64B x) (u : Nat) (h : u < 18446744073709551616) : xs.foldl (fun u b => Go.bits .or .u64 u b.f0) (u : Int) = (uniN xs u : Int) := by
  induction xs generalizing u with
  | nil => rfl
  | cons x xs ih =>
    have hx := hu x List.mem_cons_self
    unfold U64B at hx
    have e : x.f0 = (x.f0.toNat : Int) := by omega
    rw [List.foldl_cons, e, or_u64 u x.f0.toNat h (by omega), ih (fun y hy => hu y (List.mem_cons_of_mem _ hy)) _ (Nat.or_lt_two_pow (n := 64) h (by omega))]
    rfl
theorem uniN_or (xs : List S40) (u : Nat) : uniN xs u = u ||| uniN xs 0 := by
  induction xs generalizing u with
  | nil => simp [uniN]
  | cons x xs ih =>
    show uniN xs (u ||| x.f0.toNat) = u ||| uniN xs (0 ||| x.f0.toNat)
    rw [ih, ih (0 ||| x.f0.toNat), Nat.or_assoc, Nat.zero_or]
theorem uniL_nat (xs : List S40) (hu : ∀ x ∈ xs, U64B x) : uniL xs = (uniN xs 0 : Int) := uniN_fold xs hu 0 (by decide)
theorem uniL_append (xs ys : List S40) (hx : ∀ x ∈ xs, U64B x) (hy : ∀ x ∈ ys, U64B x) : uniL (xs ++ ys) = Go.bits .or .u64 (uniL xs) (uniL ys) := by
  have hxy : ∀ x ∈ xs ++ ys, U64B x := fun x h => (List.mem_append.1 h).elim (hx x) (hy x)
  rw [uniL_nat _ hxy, uniL_nat _ hx, uniL_nat _ hy, or_u64 _ _ (uniN_lt _ hx _ (by decide)) (uniN_lt _ hy _ (by decide)), ← uniN_or]
  unfold uniN
  rw [List.foldl_append]
theorem uniL_b (xs : List S40) (hu : ∀ x ∈ xs, U64B x) : 0 ≤ uniL xs ∧ uniL xs < 18446744073709551616 := by
  rw [uniL_nat xs hu]
  have := uniN_lt xs hu 0 (by decide)
  omega
/-! Same, SameAll: of the same lists -/
theorem same_l (xs : List S40) (hn : xs.length ≤ 9223372036854775807) : ∀ (d i : Nat), i + d = xs.length → Ev (fun k => saleroomref14_Same.l0 k xs xs (i : Int)) true := by
  intro d
  induction d with
  | zero =>
    intro i h
    refine Ev.step (fun k => by simp only [saleroomref14_Same.l0]; rfl) ?_
    simp only [if_neg (show ¬ ((i : Int) < (xs.length : Int)) from by omega)]
    exact Ev.now _
  | succ d ih =>
    intro i h
    have hi : i < xs.length := by omega
    refine Ev.step (fun k => by simp only [saleroomref14_Same.l0]; rfl) ?_
    simp only [if_pos (show ((i : Int) < (xs.length : Int)) from by omega), if_pos (show (0 : Int) ≤ (i : Int) from by omega), wrapM i _ hi hn, beq_self_eq_true, Bool.not_true, Bool.or_self, Bool.false_eq_true, if_false]
    exact ih (i + 1) (by omega)
theorem same_f (xs : List S40) (hn : xs.length ≤ 9223372036854775807) : Ev (fun k => saleroomref14_Same.f k xs xs) true := by
  unfold saleroomref14_Same.f
  simp only [if_true]
  exact same_l xs hn xs.length 0 (by omega)
theorem sameAll_l (xss : List (List S40)) (hn : xss.length ≤ 9223372036854775807) (hm : ∀ xs ∈ xss, xs.length ≤ 9223372036854775807) : ∀ (d i : Nat), i + d = xss.length → Ev (fun k => saleroomref14_SameAll.l0 k xss xss (i : Int)) true := by
  intro d
  induction d with
  | zero =>
    intro i h
    refine Ev.step (fun k => by simp only [saleroomref14_SameAll.l0]; rfl) ?_
    simp only [if_neg (show ¬ ((i : Int) < (xss.length : Int)) from by omega)]
    exact Ev.now _
  | succ d ih =>
    intro i h
    have hi : i < xss.length := by omega
    refine Ev.step (fun k => by simp only [saleroomref14_SameAll.l0]; rfl) ?_
    simp only [if_pos (show ((i : Int) < (xss.length : Int)) from by omega), if_pos (show (0 : Int) ≤ (i : Int) from by omega), wrapM i _ hi hn, rdL_nat xss i hi]
    refine Ev.bind (a := true) (same_f _ (hm _ (List.getElem_mem hi))) ?_
    simp only [if_true]
    exact ih (i + 1) (by omega)
theorem sameAll_f (xss : List (List S40)) (hn : xss.length ≤ 9223372036854775807) (hm : ∀ xs ∈ xss, xs.length ≤ 9223372036854775807) : Ev (fun k => saleroomref14_SameAll.f k xss xss) true := by
  unfold saleroomref14_SameAll.f
  simp only [if_true]
  exact sameAll_l xss hn hm xss.length 0 (by omega)
/-! Clean -/
theorem one_ref_f {xs : List S40} (hu : ∀ x ∈ xs, U64B x) (hn : xs.length ≤ 1000000) : Ev (fun k => saleroomref14_One.f k xs) (oneL xs) := by
  have := refOne_f xs hu hn
  rwa [one_ref hu] at this
theorem rclean_l (xss : List (List S40)) (hn : xss.length ≤ 1000000) (hm : ∀ xs ∈ xss, xs.length ≤ 1000000) (hu : ∀ xs ∈ xss, ∀ x ∈ xs, U64B x) : ∀ (d i : Nat) (acc : List (List S40)), i + d = xss.length → acc.length ≤ i →
    Ev (fun k => saleroomref14_Clean.l0 k xss acc (i : Int)) (acc ++ (xss.drop i).map oneL) := by
  intro d
  induction d with
  | zero =>
    intro i acc h ha
    refine Ev.step (fun k => by simp only [saleroomref14_Clean.l0]; rfl) ?_
    simp only [if_neg (show ¬ ((i : Int) < (xss.length : Int)) from by omega)]
    rw [List.drop_eq_nil_of_le (by omega), List.map_nil, List.append_nil]
    exact Ev.now _
  | succ d ih =>
    intro i acc h ha
    have hi : i < xss.length := by omega
    refine Ev.step (fun k => by simp only [saleroomref14_Clean.l0]; rfl) ?_
    simp only [if_pos (show ((i : Int) < (xss.length : Int)) from by omega), if_pos (show (0 : Int) ≤ (i : Int) from by omega), wrapM i _ hi (by omega), rdL_nat xss i hi]
    refine Ev.bind (a := oneL xss[i]) (one_ref_f (hu _ (List.getElem_mem hi)) (hm _ (List.getElem_mem hi))) ?_
    simp only [if_pos (show acc.length < 5864062014805 from by omega)]
    have := ih (i + 1) (acc ++ [oneL xss[i]]) (by omega) (by simp; omega)
    rwa [List.append_assoc, List.singleton_append, ← List.map_cons, ← List.drop_eq_getElem_cons hi] at this
theorem rclean_f (xss : List (List S40)) (hn : xss.length ≤ 1000000) (hm : ∀ xs ∈ xss, xs.length ≤ 1000000) (hu : ∀ xs ∈ xss, ∀ x ∈ xs, U64B x) : Ev (fun k => saleroomref14_Clean.f k xss) (xss.map oneL) := by
  unfold saleroomref14_Clean.f
  have := rclean_l xss hn hm hu xss.length 0 [] (by omega) (by simp)
  rwa [List.drop_zero, List.nil_append] at this

/-! the law -/
theorem cleans_l1 (x0 : List (List S40)) (n u : Int) (xs : List S40) (y : List (List S40)) (m i : Int) (hu : ∀ x ∈ xs, U64B x) (hn : xs.length ≤ 60)
    (hE : Ev (fun k => saleroomlaw14_PrepCleans.l0 k x0 n u y m (wrap64 (i + 1))) true) : ∀ (d j : Nat), j + d = xs.length →
    Ev (fun k => saleroomlaw14_PrepCleans.l1 k x0 n u xs y m i xs (xs.length : Int) (j : Int)) true := by
  intro d
  induction d with
  | zero =>
    intro j h
    refine Ev.step (fun k => by simp only [saleroomlaw14_PrepCleans.l1]; rfl) ?_
    simp only [if_neg (show ¬ ((j : Int) < (xs.length : Int)) from by omega)]
    have h1 : prep_One.f xs = some (oneL xs) := by unfold prep_One.f; rw [if_pos (okU_iff.2 ⟨by omega, hu⟩)]
    simp only [h1, Option.bind_some]
    refine Ev.bind (a := oneL xs) (one_ref_f hu (by omega)) ?_
    refine Ev.bind (a := true) (same_f _ (by have := one_length xs; omega)) ?_
    simp only [if_true]
    exact hE
  | succ d ih =>
    intro j h
    have hj : j < xs.length := by omega
    refine Ev.step (fun k => by simp only [saleroomlaw14_PrepCleans.l1]; rfl) ?_
    simp only [if_pos (show ((j : Int) < (xs.length : Int)) from by omega), if_pos (show (0 : Int) ≤ (j : Int) from by omega), wrapM j _ hj (by omega), right_f, rright_f, Option.bind_some, bne_self_eq_false, Bool.false_eq_true, if_false]
    exact ih (j + 1) (by omega)
theorem flatten_take (xss : List (List S40)) (i : Nat) (h : i < xss.length) : (xss.take (i + 1)).flatten = (xss.take i).flatten ++ xss[i] := by
  rw [List.take_add_one, List.getElem?_eq_getElem h, List.flatten_append]
  simp
theorem flatten_le (xss : List (List S40)) (b : Nat) (h : ∀ xs ∈ xss, xs.length ≤ b) : xss.flatten.length ≤ xss.length * b := by
  induction xss with
  | nil => simp
  | cons x xs ih =>
    have h1 := h x List.mem_cons_self
    have h2 := ih (fun y hy => h y (List.mem_cons_of_mem _ hy))
    rw [List.flatten_cons, List.length_append, List.length_cons, Nat.add_mul]
    omega
theorem cleans_l0 (xss : List (List S40)) (hn : xss.length ≤ 10) (hm : ∀ xs ∈ xss, xs.length ≤ 60) (hu : ∀ xs ∈ xss, ∀ x ∈ xs, U64B x) : ∀ (d i : Nat), i + d = xss.length →
    Ev (fun k => saleroomlaw14_PrepCleans.l0 k xss (((xss.take i).flatten.length : Nat) : Int) (uniL (xss.take i).flatten) xss (xss.length : Int) (i : Int)) true := by
  have hfl : xss.flatten.length ≤ 600 := by have := flatten_le xss 60 hm; omega
  have huf : ∀ x ∈ xss.flatten, U64B x := fun x hx => by
    obtain ⟨xs, h1, h2⟩ := List.mem_flatten.1 hx
    exact hu xs h1 x h2
  intro d
  induction d with
  | zero =>
    intro i h
    refine Ev.step (fun k => by simp only [saleroomlaw14_PrepCleans.l0]; rfl) ?_
    simp only [if_neg (show ¬ ((i : Int) < (xss.length : Int)) from by omega)]
    rw [List.take_of_length_le (by omega)]
    refine Ev.bind (a := xss.map oneL) ⟨xss.length + 1, fun k hk => clean_f xss (by omega) (fun xs hx => okU_iff.2 ⟨by have := hm xs hx; omega, hu xs hx⟩) k hk⟩ ?_
    refine Ev.bind (a := xss.map oneL) (rclean_f xss (by omega) (fun xs hx => by have := hm xs hx; omega) hu) ?_
    refine Ev.bind (a := true) (sameAll_f _ (by simp; omega) (fun xs hx => by obtain ⟨ys, hy, rfl⟩ := List.mem_map.1 hx; have := hm ys hy; have := one_length ys; omega)) ?_
    have h1 : prep_Count.f xss = some ((xss.flatten.length : Nat) : Int) := by unfold prep_Count.f; rw [if_pos (okB_iff.2 ⟨by omega, by omega⟩)]
    have h2 : prep_Union.f xss = some (uniL xss.flatten) := by unfold prep_Union.f; rw [if_pos (okB_iff.2 ⟨by omega, by omega⟩)]
    simp only [if_true, h1, h2, Option.bind_some, beq_self_eq_true]
    exact Ev.now _
  | succ d ih =>
    intro i h
    have hi : i < xss.length := by omega
    have hml := hm _ (List.getElem_mem hi)
    have hfi : (xss.take (i + 1)).flatten.length ≤ 600 := Nat.le_trans (flat_take_le xss (i + 1)) hfl
    have hft := flatten_take xss i hi
    refine Ev.step (fun k => by simp only [saleroomlaw14_PrepCleans.l0]; rfl) ?_
    simp only [if_pos (show ((i : Int) < (xss.length : Int)) from by omega), if_pos (show (0 : Int) ≤ (i : Int) from by omega), rdL_nat xss i hi]
    refine Ev.bind (a := uniL xss[i]) (runion_f _ (by omega)) ?_
    have hnext := ih (i + 1) (by omega)
    rw [hft] at hnext hfi
    rw [uniL_append _ _ (fun x hx => huf x (by
      obtain ⟨ys, h1, h2⟩ := List.mem_flatten.1 hx
      exact List.mem_flatten.2 ⟨ys, List.mem_of_mem_take h1, h2⟩)) (hu _ (List.getElem_mem hi)), List.length_append] at hnext
    rw [List.length_append] at hfi
    have hw : wrap64 ((((xss.take i).flatten.length : Nat) : Int) + (xss[i].length : Int)) = (((xss.take i).flatten.length + xss[i].length : Nat) : Int) := by unfold wrap64; omega
    rw [hw]
    refine cleans_l1 xss _ _ xss[i] xss _ _ (hu _ (List.getElem_mem hi)) hml ?_ xss[i].length 0 (by omega)
    rw [wrapM i _ hi (by omega)]
    exact hnext
theorem PrepCleans_pure (xss : List (List S40)) (hn : xss.length ≤ 9223372036854775807) (hu : ∀ xs ∈ xss, ∀ x ∈ xs, U64B x) : ∃ k, saleroomlaw14_PrepCleans.f k xss = some true := by
  refine Ev.rounds ?_
  unfold saleroomlaw14_PrepCleans.f
  have ha : saleroomlaw14_alive.f = some true := rfl
  simp only [ha, Option.bind_some, if_true]
  refine Ev.bind (few_f xss 10 60 hn) ?_
  cases hb : (decide (xss.length ≤ 10) && xss.all fun xs => decide (xs.length ≤ 60)) with
  | false => simp only [Bool.false_eq_true, if_false]; exact Ev.now _
  | true =>
    rw [Bool.and_eq_true, decide_eq_true_eq, List.all_eq_true] at hb
    simp only [if_true]
    have := cleans_l0 xss hb.1 (fun xs hx => of_decide_eq_true (hb.2 xs hx)) hu xss.length 0 (by omega)
    exact this
theorem u64_of_wf {n : Int} (h : WfI .u64 n) : 0 ≤ n ∧ n < 18446744073709551616 := by
  have h : (Lit.int .u64 n).wf = true := h
  simp only [Lit.wf, Bool.and_eq_true, decide_eq_true_eq] at h
  have e1 : IntKind.u64.min = 0 := by decide
  have e2 : IntKind.u64.max = 18446744073709551615 := by decide
  omega
theorem cleans_walk (A : Option Addr) (c : Nat) (xss : List (List S40)) (W : World) (hC : Kd.C (Kd.slice 40 k40) W A xss.length xss) (hc : xss.length ≤ c) (hv : ∀ xs ∈ xss, ∀ x ∈ xs, WfI .u64 x.f0 ∧ WfI .i64 x.f1) :
    Calls Try.prog 4 #[.slice A xss.length c] W fun e w' => e = .returned (.bool true) ∧ Below W.heap.size W w' := by
  obtain ⟨k, hk⟩ := PrepCleans_pure xss (Kd.C_max hC) (fun xs hx x hxx => u64_of_wf (hv xs hx x hxx).1)
  exact saleroomlaw14_PrepCleans.calls k A c xss true W hC hc hk
end Go.Proofs.Ytafhdamdkefpkaa

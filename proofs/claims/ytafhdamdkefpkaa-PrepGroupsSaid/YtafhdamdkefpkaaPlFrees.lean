/- Plain: the reference's Best and SameInts as functions on lists; what is wanted of the free ones. -/
import Derived.Test.YtafhdamdkefpkaaPPrepx7
import Derived.Test.YtafhdamdkefpkaaPlCl1
namespace Go.Proofs.Ytafhdamdkefpkaa
open Go.RowKit Go.Proofs.YtafhdamdkefpkaaW.PrintWords Go.Proofs.YtafhdamdkefpkaaW.PrintLast Go.Proofs.YtafhdamdkefpkaaW.PrintMore Go.Proofs.Ytafhdamdkefpkaa.PPrep
set_option linter.unusedVariables false
set_option linter.unusedSimpArgs false

/-- The reference's place of the best one. -/
def rbestTo (xs : List S40) (free : Int) : Nat → Int
  | 0 => -1
  | i + 1 => if withinB (rd_T40 xs (i : Int)).f0 free = true then (if rbestTo xs free i < 0 then (i : Int) else if (rd_T40 xs (i : Int)).f1 > (rd_T40 xs (rbestTo xs free i)).f1 then (i : Int) else rbestTo xs free i) else rbestTo xs free i
theorem rbestTo_spec (xs : List S40) (free : Int) (i : Nat) : (rbestTo xs free i = -1 ∧ bestF (freeTo xs free i) = (z40, false)) ∨ ∃ j : Nat, j < i ∧ rbestTo xs free i = (j : Int) ∧ bestF (freeTo xs free i) = (rd_T40 xs (j : Int), true) := by
  induction i with
  | zero => exact .inl ⟨rfl, rfl⟩
  | succ i ih =>
    have e : freeTo xs free (i + 1) = freeTo xs free i ++ (if withinB (rd_T40 xs (i : Int)).f0 free then [(i, rd_T40 xs (i : Int))] else []) := rfl
    rw [e, rbestTo]
    by_cases hw : withinB (rd_T40 xs (i : Int)).f0 free = true
    · rw [if_pos hw, if_pos hw]
      have eb : bestF (freeTo xs free i ++ [(i, rd_T40 xs (i : Int))]) = bestStep (bestF (freeTo xs free i)) (i, rd_T40 xs (i : Int)) := by unfold bestF; rw [List.foldl_append]; rfl
      rw [eb]
      rcases ih with ⟨h1, h2⟩ | ⟨j, hj, h1, h2⟩
      · rw [if_pos (by omega), h2]
        exact .inr ⟨i, by omega, rfl, by simp [bestStep]⟩
      · rw [if_neg (by omega), h1, h2]
        by_cases c : (rd_T40 xs (i : Int)).f1 > (rd_T40 xs (j : Int)).f1
        · rw [if_pos c]
          exact .inr ⟨i, by omega, rfl, by simp [bestStep, c]⟩
        · rw [if_neg c]
          exact .inr ⟨j, by omega, rfl, by simp [bestStep, c]⟩
    · rw [if_neg hw, if_neg hw, List.append_nil]
      rcases ih with h | ⟨j, hj, h⟩
      · exact .inl h
      · exact .inr ⟨j, by omega, h⟩
theorem rbest_l (xs : List S40) (hu : ∀ x ∈ xs, U64B x) (hn : xs.length ≤ 1000000) (free : Int) (hf : 0 ≤ free ∧ free < 18446744073709551616) : ∀ (d i : Nat), i + d = xs.length →
    Ev (fun k => saleroomref14_Best.l0 k xs free (rbestTo xs free i) (i : Int)) (rbestTo xs free xs.length) := by
  intro d
  induction d with
  | zero =>
    intro i h
    refine Ev.step (fun k => by simp only [saleroomref14_Best.l0]; rfl) ?_
    simp only [if_neg (show ¬ ((i : Int) < (xs.length : Int)) from by omega)]
    rw [show i = xs.length from by omega]
    exact Ev.now _
  | succ d ih =>
    intro i h
    have hi : i < xs.length := by omega
    refine Ev.step (fun k => by simp only [saleroomref14_Best.l0]; rfl) ?_
    simp only [if_pos (show ((i : Int) < (xs.length : Int)) from by omega), if_pos (show (0 : Int) ≤ (i : Int) from by omega), wrapM i _ hi (by omega)]
    refine Ev.bind (a := withinB (rd_T40 xs (i : Int)).f0 free) ⟨140, fun k hk => within_f k _ _ hk (hu _ (rd_mem xs i hi)) hf⟩ ?_
    have hnext := ih (i + 1) (by omega)
    rw [rbestTo] at hnext
    cases hw : withinB (rd_T40 xs (i : Int)).f0 free with
    | false =>
      rw [if_neg (by rw [hw]; decide)] at hnext
      simp only [Bool.false_eq_true, if_false]
      exact hnext
    | true =>
      rw [if_pos hw] at hnext
      simp only [if_true]
      rcases rbestTo_spec xs free i with ⟨h1, -⟩ | ⟨j, hj, h1, -⟩
      · rw [if_pos (by omega)] at hnext
        simp only [if_pos (show rbestTo xs free i < 0 from by omega)]
        exact hnext
      · rw [if_neg (by omega)] at hnext
        simp only [if_neg (show ¬ rbestTo xs free i < 0 from by omega), if_pos (show (0 : Int) ≤ rbestTo xs free i from by omega), if_pos (show rbestTo xs free i < (xs.length : Int) from by omega)]
        by_cases c : (rd_T40 xs (i : Int)).f1 > (rd_T40 xs (rbestTo xs free i)).f1
        · rw [if_pos c] at hnext
          simp only [if_pos c]
          exact hnext
        · rw [if_neg c] at hnext
          simp only [if_neg c]
          exact hnext
theorem rbest_f (xs : List S40) (hu : ∀ x ∈ xs, U64B x) (hn : xs.length ≤ 1000000) (free : Int) (hf : 0 ≤ free ∧ free < 18446744073709551616) : Ev (fun k => saleroomref14_Best.f k xs free) (rbestTo xs free xs.length) := by
  unfold saleroomref14_Best.f
  exact rbest_l xs hu hn free hf xs.length 0 (by omega)
theorem sameInts_l (xs : List Int) (hn : xs.length ≤ 1000000) : ∀ (d i : Nat), i + d = xs.length → Ev (fun k => saleroomref01_SameInts.l0 k xs xs (i : Int)) true := by
  intro d
  induction d with
  | zero =>
    intro i h
    refine Ev.step (fun k => by simp only [saleroomref01_SameInts.l0]; rfl) ?_
    simp only [if_neg (show ¬ ((i : Int) < (xs.length : Int)) from by omega)]
    exact Ev.now _
  | succ d ih =>
    intro i h
    have hi : i < xs.length := by omega
    refine Ev.step (fun k => by simp only [saleroomref01_SameInts.l0]; rfl) ?_
    simp only [if_pos (show ((i : Int) < (xs.length : Int)) from by omega), if_pos (show (0 : Int) ≤ (i : Int) from by omega), wrapM i _ hi (by omega), if_true]
    exact ih (i + 1) (by omega)
theorem sameInts_f (xs : List Int) (hn : xs.length ≤ 1000000) : ∃ k, saleroomref01_SameInts.f k xs xs = some true := by
  refine Ev.rounds ?_
  unfold saleroomref01_SameInts.f
  simp only [if_true]
  exact sameInts_l xs hn xs.length 0 (by omega)
/-- The wanted places among the first i. -/
def wantTo (xs : List S40) (free : Int) (m i : Nat) : List Int := ((freeTo xs free i).map fun p => (p.1 : Int)).take m
theorem wantTo_succ (xs : List S40) (free : Int) (m i : Nat) : wantTo xs free m (i + 1) = if withinB (rd_T40 xs (i : Int)).f0 free = true ∧ (wantTo xs free m i).length < m then wantTo xs free m i ++ [(i : Int)] else wantTo xs free m i := by
  unfold wantTo
  have e : freeTo xs free (i + 1) = freeTo xs free i ++ (if withinB (rd_T40 xs (i : Int)).f0 free then [(i, rd_T40 xs (i : Int))] else []) := rfl
  rw [e, List.map_append]
  by_cases hw : withinB (rd_T40 xs (i : Int)).f0 free = true
  · rw [if_pos hw]
    rw [List.length_take]
    by_cases c : ((freeTo xs free i).map fun p => (p.1 : Int)).length < m
    · rw [if_pos ⟨hw, by omega⟩, List.take_of_length_le (by simp only [List.length_append, List.map_cons, List.map_nil, List.length_cons, List.length_nil]; omega), List.take_of_length_le (by omega)]
      rfl
    · rw [if_neg (fun h => by omega), List.take_append_of_le_length (by omega)]
  · rw [if_neg hw, if_neg (fun h => hw h.1), List.map_nil, List.append_nil]
theorem freeTo_memF (xs : List S40) (free : Int) (n : Nat) (p : Nat × S40) : p ∈ freeTo xs free n ↔ p.1 < n ∧ p.2 = rd_T40 xs (p.1 : Int) ∧ withinB p.2.f0 free = true := by
  induction n with
  | zero => simp [freeTo]
  | succ n ih =>
    unfold freeTo
    rw [List.mem_append, ih]
    constructor
    · rintro (⟨h1, h2⟩ | h)
      · exact ⟨by omega, h2⟩
      · split at h
        · rename_i hw
          have e : p = (n, rd_T40 xs (n : Int)) := by simpa using h
          subst e
          exact ⟨by simp, rfl, hw⟩
        · simp at h
    · rintro ⟨h1, h2, h3⟩
      by_cases e : p.1 = n
      · right
        obtain ⟨q, x⟩ := p
        simp only at e h2 h3
        subst e h2
        rw [if_pos h3]
        simp
      · exact .inl ⟨by omega, h2, h3⟩
theorem freeTo_length (xs : List S40) (free : Int) (i : Nat) : (freeTo xs free i).length ≤ i := by
  induction i with
  | zero => simp [freeTo]
  | succ i ih =>
    unfold freeTo
    rw [List.length_append]
    split <;> simp <;> omega
end Go.Proofs.Ytafhdamdkefpkaa

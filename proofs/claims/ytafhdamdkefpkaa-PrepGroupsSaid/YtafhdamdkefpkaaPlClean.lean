/- Plain: the printed functions prep.Clean, Clean (reference), Few, Union, Same, SameAll as functions on lists. -/
import Derived.Test.YtafhdamdkefpkaaPPrepx2
import Derived.Test.YtafhdamdkefpkaaGiven
namespace Go.Proofs.Ytafhdamdkefpkaa
open Go.RowKit Go.Proofs.YtafhdamdkefpkaaW.PrintWords Go.Proofs.YtafhdamdkefpkaaW.PrintLast Go.Proofs.YtafhdamdkefpkaaW.PrintMore Go.Proofs.Ytafhdamdkefpkaa.PPrep
set_option linter.unusedVariables false
set_option linter.unusedSimpArgs false

theorem wrapN' (i : Nat) (h : i < 1000000000000) : wrap64 ((i : Int) + 1) = ((i + 1 : Nat) : Int) := by unfold wrap64; omega
theorem rdL_nat (xs : List (List S40)) (i : Nat) (h : i < xs.length) : rd_L3 xs (i : Int) = xs[i] := by simp [rd_L3, List.getD, h]
theorem clean_l (xss : List (List S40)) (hn : xss.length ≤ 1000000) (hok : ∀ xs ∈ xss, okU xs = true) : ∀ (d i k : Nat) (acc : List (List S40)), i + d = xss.length → d < k → acc.length ≤ i →
    prep_Clean.l0 k acc xss (xss.length : Int) (i : Int) = some (acc ++ (xss.drop i).map oneL) := by
  intro d
  induction d with
  | zero =>
    intro i k acc h hk ha
    obtain ⟨k, rfl⟩ : ∃ m, k = m + 1 := ⟨k - 1, by omega⟩
    simp only [prep_Clean.l0]
    rw [if_neg (by omega), List.drop_eq_nil_of_le (by omega)]
    simp
  | succ d ih =>
    intro i k acc h hk ha
    obtain ⟨k, rfl⟩ : ∃ m, k = m + 1 := ⟨k - 1, by omega⟩
    have hi : i < xss.length := by omega
    simp only [prep_Clean.l0]
    rw [if_pos (by omega), if_pos (by omega), if_pos (by omega)]
    have h1 : prep_One.f (rd_L3 xss (i : Int)) = some (oneL (rd_L3 xss (i : Int))) := by
      unfold prep_One.f
      rw [if_pos (hok _ (by rw [rdL_nat xss i hi]; exact List.getElem_mem hi))]
    rw [h1]
    simp only [Option.bind_some]
    rw [if_pos (by omega), wrapN' i (by omega), ih (i + 1) k _ (by omega) (by omega) (by simp; omega), rdL_nat xss i hi, List.drop_eq_getElem_cons hi, List.map_cons, List.append_assoc, List.singleton_append]
theorem clean_f (xss : List (List S40)) (hn : xss.length ≤ 1000000) (hok : ∀ xs ∈ xss, okU xs = true) (k : Nat) (hk : xss.length < k) : prep_Clean.f k xss = some (xss.map oneL) := by
  have := clean_l xss hn hok xss.length 0 k [] (by omega) hk (by simp)
  exact this
end Go.Proofs.Ytafhdamdkefpkaa

/- The program's functions as they are given to the print, with the bounds under which they are proved: One, Count, Union, Best. -/
import Derived.Test.YtafhdamdkefpkaaPrepAll
namespace Go.Proofs.Ytafhdamdkefpkaa.PPrep
open Go.RowKit Go.Proofs.YtafhdamdkefpkaaW.PrintWords Go.Proofs.YtafhdamdkefpkaaW.PrintLast Go.Proofs.YtafhdamdkefpkaaW.PrintMore Go.Proofs.Ytafhdamdkefpkaa
set_option linter.unusedVariables false
set_option linter.unusedSimpArgs false

def okU (xs : List S40) : Bool := decide (xs.length ≤ 100000) && xs.all fun x => decide (0 ≤ x.f0 ∧ x.f0 < 18446744073709551616)
theorem okU_iff {xs : List S40} : okU xs = true ↔ xs.length ≤ 100000 ∧ ∀ x ∈ xs, U64B x := by
  unfold okU U64B
  simp
def prep_One.f (xs : List S40) : Option (List S40) := if okU xs = true then some (oneL xs) else none
theorem prep_One.calls (A0 : Option Addr) (c0 : Nat) (l0 : List S40) (r : List S40) (w : World) (hr0 : Kd.C k40 w A0 l0.length l0) (hc0 : l0.length ≤ c0) (h : prep_One.f l0 = some r) :
    Calls Try.prog 18 #[.slice A0 l0.length c0] w fun e w' => ∃ v0_ : Value, e = .returned (v0_) ∧ Kd.R k40 40 w' w.heap.size (fun _ => True) v0_ r ∧ Below w.heap.size w w' := by
  unfold prep_One.f at h
  split at h
  · rename_i hk
    obtain ⟨h1, h2⟩ := okU_iff.1 hk
    cases h
    exact one_calls A0 c0 l0 w hr0 hc0 h1 h2
  · cases h
def okB (xss : List (List S40)) : Bool := decide (xss.flatten.length ≤ 1000000) && decide (xss.length ≤ 1000000)
theorem okB_iff {xss : List (List S40)} : okB xss = true ↔ xss.flatten.length ≤ 1000000 ∧ xss.length ≤ 1000000 := by
  unfold okB
  rw [Bool.and_eq_true, decide_eq_true_eq, decide_eq_true_eq]
def prep_Count.f (xss : List (List S40)) : Option Int := if okB xss = true then some (xss.flatten.length : Nat) else none
theorem prep_Count.calls (A0 : Option Addr) (c0 : Nat) (l0 : List (List S40)) (r : Int) (w : World) (hr0 : Kd.C (Kd.slice 40 k40) w A0 l0.length l0) (hc0 : l0.length ≤ c0) (h : prep_Count.f l0 = some r) :
    Calls Try.prog 23 #[.slice A0 l0.length c0] w fun e w' => e = .returned (.int .i64 r) ∧ Below w.heap.size w w' := by
  unfold prep_Count.f at h
  split at h
  · rename_i hk
    obtain ⟨h1, h2⟩ := okB_iff.1 hk
    cases h
    exact count_any A0 c0 l0 w hr0 hc0 h1 h2
  · cases h
def prep_Union.f (xss : List (List S40)) : Option Int := if okB xss = true then some (uniL xss.flatten) else none
theorem prep_Union.calls (A0 : Option Addr) (c0 : Nat) (l0 : List (List S40)) (r : Int) (w : World) (hr0 : Kd.C (Kd.slice 40 k40) w A0 l0.length l0) (hc0 : l0.length ≤ c0) (h : prep_Union.f l0 = some r) :
    Calls Try.prog 24 #[.slice A0 l0.length c0] w fun e w' => e = .returned (.int .u64 r) ∧ Below w.heap.size w w' := by
  unfold prep_Union.f at h
  split at h
  · rename_i hk
    obtain ⟨h1, h2⟩ := okB_iff.1 hk
    cases h
    exact Union_any A0 c0 l0 w hr0 hc0 h1 h2
  · cases h
def prep_Best.f (xs : List S40) (free : Int) : Option (Int × Int × Bool) := if xs.length ≤ 1000000000 then some ((bestF (freeL xs free)).1.f0, (bestF (freeL xs free)).1.f1, (bestF (freeL xs free)).2) else none
theorem prep_Best.calls (A0 : Option Addr) (c0 : Nat) (l0 : List S40) (a1 : Int) (r0_0 r0_1 : Int) (r1 : Bool) (w : World) (hr0 : Kd.C k40 w A0 l0.length l0) (hc0 : l0.length ≤ c0) (h : prep_Best.f l0 a1 = some (r0_0, r0_1, r1)) :
    Calls Try.prog 25 #[.slice A0 l0.length c0, .int .u64 a1] w fun e w' => e = .returned (.tuple #[.agg #[.int .u64 r0_0, .int .i64 r0_1], .bool r1]) ∧ Below w.heap.size w w' := by
  unfold prep_Best.f at h
  split at h
  · rename_i hk
    cases h
    exact best_any A0 c0 l0 a1 w hr0 hc0 hk
  · cases h
end Go.Proofs.Ytafhdamdkefpkaa.PPrep

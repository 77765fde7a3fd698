/- A region that draws its order, within a round of a loop over an iterator, with calls that make memory: the kit's 'held' walk of such a region outside a round, carried into a round. No operation of it is a defer. -/
import Derived.Test.YtafhdamdkefpkaaQuietR
import Derived.Deep.RegionHeld3
import Derived.Test.YtafhdamdkefpkaaKitAll
namespace Go.Proofs.Ytafhdamdkefpkaa
open Go.RowKit
set_option linter.unusedVariables false
section
variable {P : Program} {ops : Array Oper} {Q : Exit → Act → World → Prop} {md : Region.Mode} {S : World → Prop} {lp : Nat}
theorem op_round {o : Oper} {a : Act} {w : World} {K K' : Act → World → Prop} (hd : ∀ c, o.op ≠ .defer c) (hK : ∀ a w, K a w → K' a w) (h : o.wp P a w K Q) : o.wpIn (Fence.wide.inRound lp) 0 P a w K' Q := by
  unfold Oper.wpIn
  rw [Oper.semAt_plain _ _ _ hd]
  refine ⟨fun _ _ => trivial, ?_⟩
  unfold Oper.wp at h
  generalize (execOp a.eval o).run P w = r at *
  cases r with
  | ok x w' =>
    cases x with
    | value u => exact hK _ _ h
    | skip => exact hK _ _ h
    | defer d => exact hK _ _ h
    | enter f args =>
      refine ⟨fun h => (by cases h), (callsIn_wide (n := 0)).2 (Calls.mono h fun e w'' he => ?_)⟩
      cases e with
      | returned u => exact hK _ _ he
      | panicked c => exact he
      | outgrown => exact he
    | row row args =>
      refine ⟨fun h => (by cases h), fun c cs _ => ?_⟩
      obtain ⟨v, w'', r, s⟩ := (h : Rows P row args w' _) c cs
      exact ⟨v, w'', hK _ _ r, stepsIn_wide.2 s⟩
    | _ => exact h.elim
  | halt x w' => cases x <;> first | exact h | exact h.elim
theorem any_round (hd : ∀ (i : Nat) (o : Oper), ops[i]? = some o → ∀ c, o.op ≠ .defer c) (hQ : ¬ LetsOut Q) : ∀ (fuel : Nat) (listed : Array Bool) (a : Act) (w : World),
    wpAnyH P md ops Q S fuel listed a w → wpAnyIn (Fence.wide.inRound lp) 0 P md ops Q fuel listed a w
  | 0, _, _, _, h => h
  | fuel + 1, listed, a, w, h => by
    refine ⟨h.1, fun i hi => ?_⟩
    have h1 := h.2 i hi
    unfold wpOp at h1
    unfold wpOpIn
    cases ho : ops[i]? with
    | none =>
      rw [ho] at h1
      exact any_round hd hQ fuel _ _ _ h1.2
    | some o =>
      rw [ho] at h1
      by_cases c : Region.wanted o (yielded ops a.tmps) = true
      · simp only [c, if_true] at h1 ⊢
        rcases h1 with h1 | h1
        · exact op_round (hd i o ho) (fun a w hk => any_round hd hQ fuel _ a w hk.2) h1
        · exact absurd h1.2 hQ
      · simp only [c] at h1 ⊢
        exact ⟨fun _ _ => trivial, any_round hd hQ fuel _ _ _ h1.2⟩
/-- THE BEGINNING of a region within a round. -/
theorem region_round (S : World → Prop) {id : Nat} {a : Act} {w : World} {l : List Oper} (hnd : noDefer l = true) (hm : P.follows .mixedOrders = true) (hQ : ¬ LetsOut Q) (hS : S w.drew)
    (h : S w.drew → wpAnyH P .any l.toArray Q S l.toArray.size (Array.replicate l.toArray.size false) a w.drew) : (Code.region id l.toArray true).wpIn (Fence.wide.inRound lp) 0 P Q a w :=
  wpIn_region_any hm (any_round (fun i o hi => noDefer_at hnd hi) hQ _ _ _ _ (h hS))
end
theorem rpost_keeps_in {α : Type} {I : List α → (Nat → Prop) → World → Prop} {Ix : Code → List α → (Nat → Prop) → World → Prop} {pre : List α} {S : Nat → Prop} {W : World} : ¬ LetsOut (rpost I Ix pre S W) := fun ⟨_, _, h⟩ => h
end Go.Proofs.Ytafhdamdkefpkaa

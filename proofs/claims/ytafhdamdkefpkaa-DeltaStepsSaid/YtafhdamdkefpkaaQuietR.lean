/- A region that draws its order, within a round of a loop over an iterator: where it only reads (and its callees only read), it is walked once, in the text's order. No operation of it is a defer. -/
import Derived.Sort.QuietThIn
import Derived.Sort.BigQuietIn
import Derived.OwnWalkIn
import Derived.Test.YtafhdamdkefpkaaProg
namespace Go.Proofs.Ytafhdamdkefpkaa
open Go.RowKit
set_option linter.unusedVariables false

def noDefer (l : List Oper) : Bool := l.all fun o => match o.op with | .defer _ => false | _ => true
theorem noDefer_at {l : List Oper} (h : noDefer l = true) {i : Nat} {o : Oper} (hi : l.toArray[i]? = some o) : ∀ c, o.op ≠ .defer c := by
  intro c e
  have hm : o ∈ l := by
    have : l[i]? = some o := by simpa using hi
    exact List.mem_of_getElem? this
  have := List.all_eq_true.1 h o hm
  rw [e] at this
  cases this
section
variable {F : Fence} {n : Nat} {P : Program} {ops : Array Oper} {C : World → Prop} {md : Region.Mode}
theorem op_quiet {o : Oper} {a : Act} {w : World} {K : Act → Prop} {K' : Act → World → Prop} {Q' : Exit → Act → World → Prop} (hd : ∀ c, o.op ≠ .defer c) (hw : C w) (hK : ∀ a w', C w' → K a → K' a w')
    (ha : o.askedIn F P a C) (hh : o.quietIn F n P a C K) : o.wpIn F n P a w K' Q' := by
  obtain ⟨v, hv, hk⟩ := hh
  have hq : Oper.quietUponIn F n P C w v ((execOp a.eval o).run P w) := hv w hw
  unfold Oper.wpIn
  rw [Oper.semAt_plain F _ _ hd]
  refine ⟨ha w hw, ?_⟩
  generalize (execOp a.eval o).run P w = r at hq
  cases r with
  | halt x w1 => exact hq.elim
  | ok x w1 =>
    cases x with
    | value u =>
      obtain ⟨rfl, rfl⟩ : w1 = w ∧ u = v := hq
      exact hK _ _ hw hk
    | skip =>
      obtain ⟨rfl, e⟩ : w1 = w ∧ v = undef := hq
      rw [e] at hk
      exact hK _ _ hw hk
    | enter f args =>
      obtain ⟨rfl, h1, h2⟩ : w1 = w ∧ (F.depth.isSome = true → 1 ≤ n) ∧ CallsIn F (n - 1) P f args w (fun e w'' => e = .returned v ∧ C w'') := hq
      refine ⟨h1, h2.mono ?_⟩
      rintro e w2 ⟨rfl, h3⟩
      exact hK _ _ h3 hk
    | _ => exact hq.elim
theorem any_quiet {Q : Act → Prop} {Q' : Exit → Act → World → Prop} (hd : ∀ (i : Nat) (o : Oper), ops[i]? = some o → ∀ c, o.op ≠ .defer c) (hQ : ∀ a w, C w → Q a → Q' .normal a w) (fuel : Nat) :
    ∀ (listed : Array Bool) (a : Act) (w : World), C w → wpAnyQIn F n P md ops C Q fuel listed a → wpAnyIn F n P md ops Q' fuel listed a w := by
  induction fuel with
  | zero => exact fun _ _ _ hw h => ⟨h.1, hQ _ _ hw h.2⟩
  | succ fuel ih =>
    intro listed a w hw h
    refine ⟨fun h0 => hQ _ _ hw (h.1 h0), fun i hi => ?_⟩
    have h1 := h.2 i hi
    unfold qOpIn at h1
    unfold wpOpIn
    cases ho : ops[i]? with
    | none => rw [ho] at h1; exact ih _ _ _ hw h1
    | some o =>
      rw [ho] at h1
      obtain ⟨h2, h3⟩ := h1
      show if Region.wanted o (yielded ops a.tmps) = true then _ else _
      by_cases c : Region.wanted o (yielded ops a.tmps) = true
      · rw [if_pos c] at h3 ⊢
        exact op_quiet (hd i o ho) hw (fun a' w' hw' hk => ih _ _ _ hw' hk) h2 h3
      · rw [if_neg c] at h3 ⊢
        exact ⟨h2 w hw, ih _ _ _ hw h3⟩
/-- A QUIET REGION WITHIN A ROUND. -/
theorem quiet_round {id : Nat} {Q : Exit → Act → World → Prop} {a : Act} {w : World} {l : List Oper} (hnd : noDefer l = true) (hm : P.follows .mixedOrders = true) (hB : Region.lexB .any l.toArray = true)
    (h : wpQuietIn F n P l.toArray (fun w' => ∃ n, w' = w.drewN n) (fun a' => ∀ w', (∃ n, w' = w.drewN n) → Q .normal a' w') l a) : (Code.region id l.toArray true).wpIn F n P Q a w := by
  refine wpIn_region_any hm ?_
  refine any_quiet (C := fun w' => ∃ n, w' = w.drewN n) (Q := fun a' => ∀ w', (∃ n, w' = w.drewN n) → Q .normal a' w') (fun i o hi => noDefer_at hnd hi) (fun a w' hw' hk => hk w' hw') _ _ _ _ ⟨1, rfl⟩ ?_
  have hB' := hB
  simp only [Region.lexB, Bool.and_eq_true] at hB'
  have := wpAnyQIn_lex (F := F) (n := n) (C := fun w' => ∃ n, w' = w.drewN n) (md := .any) hB'.1 l.toArray.toList 0 (Array.replicate l.toArray.size false) a (by simp) (by simpa using hB'.2) (by simpa using h)
  simpa using this
end
end Go.Proofs.Ytafhdamdkefpkaa

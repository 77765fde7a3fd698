/- A range over an iterator whose loop is left by 'break' alone: one way on. -/
import Derived.Test.YtafhdamdkefpkaaKitAll
namespace Go.Proofs.Ytafhdamdkefpkaa
open Go.RowKit
section
variable {α β : Type} {P : Program} {g : Operand} {ps : Array Tmp} {assign body : Code} {Q : Exit → Act → World → Prop} {a : Act} {w : World}
/-- As 'range_outerU', where the loop is left by 'break' alone: one way on. -/
theorem range_outerB {id : Nat} {Q0 : Exit → Act → World → Prop} {gf : Nat} {lb : Array Value} (hg : a.eval g = .func (.func gf) #[] lb) (eg : ∀ args w, (callFunc gf args).run P w = .ok (.enter gf args) w)
    {encs : β → Array Value} {Rel : α → β → (Nat → Prop) → World → Prop} (hRel : RelOk Rel) {xs : List α} {D : Nat → Prop} (hit : IterR P gf lb encs Rel xs D w) (hD : ∀ k, D k → k < w.heap.size) (hps : ∀ x, (encs x).size = ps.size)
    (S0 : Nat → Prop) (hS0 : ∀ k, S0 k → k < w.heap.size ∧ ¬ D k)
    (I : List α → (Nat → Prop) → World → Prop) (Ib : List α → (Nat → Prop) → World → Prop) (hI : Abides_ w.heap.size I) (hIb : Abides_ w.heap.size Ib) (h0 : I [] S0 w)
    (ups : β → Nat → List (Nat × Value)) (os : β → List Obj)
    (hassign : ∀ (l : Nat) (x : β) (W : World) (K : Act → World → Prop), K { tmps := slotsSet ((ps.zip (encs x)).foldl (fun t (p, v) => t.setIfInBounds p v) a.tmps) (ups x W.heap.size), defers := [] } (allocs W (os x)) →
      assign.wpIn (Fence.wide.inRound l) 0 P (Exit.then K (fun _ _ _ => False)) { tmps := (ps.zip (encs x)).foldl (fun t (p, v) => t.setIfInBounds p v) a.tmps, defers := [] } W)
    (hbody : ∀ (l : Nat) (pre : List α) (x : α) (post : List α) (b : β) (S : Nat → Prop) (W : World), xs = pre ++ x :: post → Rel x b S W → w.heap.size ≤ l → (∃ r, W.heap[l]? = some (.loop r)) → ¬ S l →
      (∀ k, S k → k < W.heap.size ∧ (S0 k ∨ w.heap.size ≤ k)) → Keeps (fun k => k < w.heap.size ∧ ¬ S0 k) w W → I pre S W →
      body.wpIn (Fence.wide.inRound l) 0 P (rpost I (fun c pre S W => c = .exit id ∧ Ib pre S W) (pre ++ [x]) S W) ({ tmps := slotsSet ((ps.zip (encs b)).foldl (fun t (p, v) => t.setIfInBounds p v) a.tmps) (ups b W.heap.size), defers := [] }) (allocs W (os b)))
    (hend : ∀ (d : Nat) (pre : List α) (S : Nat → Prop) (W : World), w.heap.size ≤ d → ¬ S d → W.heap[d]? = some (.deferred (some [])) → (∀ k, S k → k < W.heap.size ∧ (S0 k ∨ w.heap.size ≤ k)) →
      Keeps (fun k => k < w.heap.size ∧ ¬ S0 k) w W → ((pre = xs ∧ I pre S W) ∨ (pre <+: xs ∧ Ib pre S W)) → Q0 .normal { a with defers := { target := .collected d, args := #[] } :: a.defers } W) :
    (Code.rangeFunc g ps assign body).wpIn Fence.wide 0 P (Exit.inBlock id Q0) a w :=
  range_outerU hg eg hRel hit hD hps S0 hS0 I (fun c pre S W => c = .exit id ∧ Ib pre S W) hI (fun c pre S A B h hk => ⟨h.1, hIb _ _ _ _ h.2 hk⟩) h0 ups os hassign hbody
    (fun d S W h1 h2 h3 h4 h5 h6 => hend d xs S W h1 h2 h3 h4 h5 (.inl ⟨rfl, h6⟩))
    (fun d c pre S W h1 h2 h3 h4 h5 h6 h7 => by
      obtain ⟨rfl, h8⟩ := h7
      refine wpIn_exit ?_
      show (if id = id then Q0 .normal _ _ else _)
      rw [if_pos rfl]
      exact hend d pre S W h1 h2 h3 h4 h5 (.inr ⟨h6, h8⟩))

end
end Go.Proofs.Ytafhdamdkefpkaa

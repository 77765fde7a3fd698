/- A function that ranges over iterators in a loop: the marks among its deferred calls; blocks of an iterator's own that lie as they lie between its yields. -/
import Derived.Test.YtafhdamdkefpkaaKitAll
import Derived.Test.YtafhdamdkefpkaaTreeAll
import Derived.RangeFuncLeaves
namespace Go.Proofs.Ytafhdamdkefpkaa
open Go.RowKit
set_option linter.unusedVariables false

/-- The marks of loops over iterators, each with its block. -/
def Marks (lo : Nat) : List Deferred → World → Prop
  | [], _ => True
  | d :: ds, W => ∃ r, d = { target := .collected r, args := #[] } ∧ lo ≤ r ∧ W.heap[r]? = some (.deferred (some [])) ∧ (∀ d' ∈ ds, d'.target ≠ .collected r) ∧ Marks lo ds W
theorem Marks.step {lo : Nat} : ∀ {ds : List Deferred} {W W' : World}, Marks lo ds W → (∀ d ∈ ds, ∀ r, d.target = .collected r → r < W.heap.size → W'.heap[r]? = W.heap[r]?) → Marks lo ds W'
  | [], _, _, _, _ => trivial
  | d :: ds, W, W', h, hk => by
    obtain ⟨r, rfl, h1, h2, h3, h4⟩ := h
    exact ⟨r, rfl, h1, (hk _ List.mem_cons_self r rfl (lt_of_heap h2)).trans h2, h3, h4.step (fun d' hd r' hr hlt => hk d' (List.mem_cons_of_mem _ hd) r' hr hlt)⟩
theorem Marks.lt {lo : Nat} : ∀ {ds : List Deferred} {W : World}, Marks lo ds W → ∀ d ∈ ds, ∀ r, d.target = .collected r → r < W.heap.size ∧ lo ≤ r
  | d :: ds, W, h, d', hd, r', hr => by
    obtain ⟨r, rfl, h1, h2, h3, h4⟩ := h
    rcases List.mem_cons.1 hd with rfl | hd
    · simp only at hr
      injection hr with hr
      subst hr
      exact ⟨lt_of_heap h2, h1⟩
    · exact h4.lt d' hd r' hr
/-- No mark's block is the caller's. -/
def MarksFree (ds : List Deferred) (S : Nat → Prop) : Prop := ∀ d ∈ ds, ∀ r, d.target = .collected r → ¬ S r
/-- On the way out all marks are taken. -/
theorem leaves_marks {P : Program} {fn : Func} {tmps : Array Value} {R : Ending → World → Prop} {lo : Nat} : ∀ {ds : List Deferred} {W : World}, Marks lo ds W →
    (∀ W', Keeps (fun k => ∀ d ∈ ds, d.target ≠ .collected k) W W' → W'.heap.size = W.heap.size → LeavesInM Fence.wide 0 P fn tmps R [] .returning W') → LeavesInM Fence.wide 0 P fn tmps R ds .returning W
  | [], W, _, h => h W (Keeps.refl _ _) rfl
  | d :: ds, W, hm, h => by
    obtain ⟨r, rfl, h1, h2, h3, h4⟩ := hm
    refine ⟨by simp, .inl ⟨r, _, rfl, run_takeDeferred h2, ?_⟩⟩
    refine leaves_marks (lo := lo) (h4.step (fun d' hd r' hr hlt => World.putObj_heap_other (fun e => h3 d' hd (by rw [hr, e])))) (fun W' hk hs => h W' ?_ (by rw [hs, World.putObj_size]))
    refine ((Keeps.refl _ W).putObj (l := r) (fun hh => absurd rfl (hh _ List.mem_cons_self)) _).trans (hk.mono (fun k hk' _ d' hd => hk' d' (List.mem_cons_of_mem _ hd)))

/-- Blocks of an iterator's own. -/
def Holds (own : List (Nat × Obj)) (S : Nat → Prop) (W : World) : Prop := ∀ k o, (k, o) ∈ own → W.heap[k]? = some o ∧ ¬ S k
theorem Holds.nil (S : Nat → Prop) (W : World) : Holds [] S W := by simp [Holds]
theorem Holds.cons {own : List (Nat × Obj)} {S : Nat → Prop} {W : World} (h : Holds own S W) {k : Nat} {o : Obj} (hk : W.heap[k]? = some o) (hS : ¬ S k) : Holds ((k, o) :: own) S W := by
  intro k' o' hm
  rcases List.mem_cons.1 hm with e | e
  · injection e with e1 e2
    subst e1 e2
    exact ⟨hk, hS⟩
  · exact h k' o' e
theorem Holds.tail {own : List (Nat × Obj)} {S : Nat → Prop} {W : World} {x : Nat × Obj} (h : Holds (x :: own) S W) : Holds own S W := fun k o hm => h k o (List.mem_cons_of_mem _ hm)
theorem Holds.head {own : List (Nat × Obj)} {S : Nat → Prop} {W : World} {k : Nat} {o : Obj} (h : Holds ((k, o) :: own) S W) : W.heap[k]? = some o := (h k o List.mem_cons_self).1
theorem Holds.step {own : List (Nat × Obj)} {S : Nat → Prop} {W W' : World} (h : Holds own S W) (hb : Below W.heap.size W W') : Holds own S W' := fun k o hm => ⟨(hb.block k (lt_of_heap (h k o hm).1)).trans (h k o hm).1, (h k o hm).2⟩
theorem Holds.yield {own : List (Nat × Obj)} {S S' : Nat → Prop} {W W' : World} (h : Holds own S W) (h1 : ∀ k, S' k → S k ∨ (W.heap.size ≤ k ∧ k < W'.heap.size)) (h2 : Keeps (fun k => ¬ S k) W W') : Holds own S' W' :=
  fun k o hm => ⟨h2.at_ (h k o hm).1 (h k o hm).2, fun hS => by rcases h1 k hS with e | e; exact (h k o hm).2 e; have := lt_of_heap (h k o hm).1; omega⟩
theorem Holds.abide {own : List (Nat × Obj)} {S : Nat → Prop} {W W' : World} {B : Nat} (h : Holds own S W) (hB : ∀ k o, (k, o) ∈ own → k < B) (hk : Keeps (fun k => S k ∨ k < B) W W') : Holds own S W' :=
  fun k o hm => ⟨hk.at_ (h k o hm).1 (.inr (hB k o hm)), (h k o hm).2⟩
theorem YCore.abide {S0 S : Nat → Prop} {W0 W W' : World} {B : Nat} (h : YCore S0 W0 S W) (hB : W0.heap.size ≤ B) (hk : Keeps (fun k => S k ∨ k < B) W W') : YCore S0 W0 S W' :=
  ⟨h.keeps.trans (hk.mono (fun k hk _ => .inr (by omega))), fun k hS => ⟨Nat.lt_of_lt_of_le (h.own k hS).1 hk.size, (h.own k hS).2⟩⟩
theorem MarksFree.yield {ds : List Deferred} {lo : Nat} {S S' : Nat → Prop} {W W' : World} (hm : Marks lo ds W) (h : MarksFree ds S) (h1 : ∀ k, S' k → S k ∨ (W.heap.size ≤ k ∧ k < W'.heap.size)) : MarksFree ds S' :=
  fun d hd r hr hS => by rcases h1 r hS with e | e; exact h d hd r hr e; have := (hm.lt d hd r hr).1; omega
theorem Marks.yield {ds : List Deferred} {lo : Nat} {S : Nat → Prop} {W W' : World} (hm : Marks lo ds W) (h : MarksFree ds S) (h2 : Keeps (fun k => ¬ S k) W W') : Marks lo ds W' :=
  hm.step (fun d hd r hr hlt => h2.block r (h d hd r hr) hlt)
end Go.Proofs.Ytafhdamdkefpkaa

/- General laws for this seat's proofs, over any program: what a call keeps ('Keeps'), what a yield does ('Yields'), what an iterator gives ('Iter'), and a range over an iterator, outermost ('range_outer') and within a round ('range_inner'). An append, within a fence, to a row of the call's own, by the kinds of the elements. Iterators that yield rows of memory: what is yielded (b) stands for what is given (x) by a relation; the range over such an iterator, outermost and within a round. -/
import Derived.RangeFuncNested
import Derived.RangeFuncBox
import Derived.RangeFuncCalls
import Derived.RangeFuncLeaves
import Derived.RangeFuncBound
import Derived.Test.YtafhdamdkefpkaaWMore
import Derived.Maps.OwnIn
namespace Go.Proofs.Ytafhdamdkefpkaa
open Go.RowKit

/-- The blocks in S that lay in W lie in W' as they lay; the streams are as they were; no block has gone. -/
structure Keeps (S : Nat → Prop) (W W' : World) : Prop where
  os : W'.os = W.os
  tape : W'.tape = W.tape
  output : W'.output = W.output
  size : W.heap.size ≤ W'.heap.size
  block : ∀ k, S k → k < W.heap.size → W'.heap[k]? = W.heap[k]?

theorem Keeps.refl (S : Nat → Prop) (W : World) : Keeps S W W := ⟨rfl, rfl, rfl, Nat.le_refl _, fun _ _ _ => rfl⟩
theorem Keeps.trans {S : Nat → Prop} {A B C : World} (h : Keeps S A B) (k : Keeps S B C) : Keeps S A C :=
  ⟨k.os.trans h.os, k.tape.trans h.tape, k.output.trans h.output, Nat.le_trans h.size k.size, fun i hi hA => (k.block i hi (Nat.lt_of_lt_of_le hA h.size)).trans (h.block i hi hA)⟩
theorem Keeps.mono {S T : Nat → Prop} {A B : World} (h : Keeps S A B) (hT : ∀ k, T k → k < A.heap.size → S k) : Keeps T A B :=
  ⟨h.os, h.tape, h.output, h.size, fun k hk hA => h.block k (hT k hk hA) hA⟩
theorem Keeps.of_below {S : Nat → Prop} {n : Nat} {A B : World} (h : Below n A B) (hS : ∀ k, S k → k < A.heap.size → k < n) : Keeps S A B :=
  ⟨h.os, h.tape, h.output, h.size, fun k hk hA => h.block k (hS k hk hA)⟩
theorem Keeps.of_all {S : Nat → Prop} {A B : World} (h : Below A.heap.size A B) : Keeps S A B := Keeps.of_below h (fun _ _ h => h)
theorem Keeps.below {S : Nat → Prop} {n : Nat} {A B : World} (h : Keeps S A B) (hn : ∀ k, k < n → S k) (hA : n ≤ A.heap.size) : Below n A B :=
  ⟨h.os, h.tape, h.output, h.size, fun k hk => h.block k (hn k hk) (Nat.lt_of_lt_of_le hk hA)⟩
theorem Keeps.alloc {S : Nat → Prop} {A W : World} (h : Keeps S A W) (o : Obj) : Keeps S A (W.alloc o) :=
  h.trans ⟨rfl, rfl, rfl, by simp, fun k _ hk => Below.heap_alloc _ _ _ hk⟩
theorem Keeps.drew {S : Nat → Prop} {A W : World} (h : Keeps S A W) : Keeps S A W.drew := ⟨h.os, h.tape, h.output, h.size, h.block⟩
theorem Keeps.setCell {S : Nat → Prop} {A W : World} (h : Keeps S A W) {p : Addr} (hp : S p.block → A.heap.size ≤ p.block) (u : Value) : Keeps S A (W.setCell p u) :=
  ⟨h.os, h.tape, h.output, Nat.le_trans h.size (by simp [World.setCell]), fun k hk hA => (Below.heap_setCell _ _ _ _ (fun e => by subst e; have := hp hk; omega)).trans (h.block k hk hA)⟩
theorem Keeps.grown {S : Nat → Prop} {A W W' : World} {row : Option Nat} (h : Keeps S A W) (hg : W.grownBy W' row) (hr : ∀ k, row = some k → S k → A.heap.size ≤ k) : Keeps S A W' :=
  ⟨hg.os.trans h.os, hg.tape.trans h.tape, hg.output.trans h.output, Nat.le_trans h.size hg.size,
   fun k hk hA => (hg.block k (Nat.lt_of_lt_of_le hA h.size) (fun e => by have := hr k e.symm hk; omega)).trans (h.block k hk hA)⟩
theorem Keeps.putObj {S : Nat → Prop} {A W : World} (h : Keeps S A W) {l : Nat} (hl : S l → A.heap.size ≤ l) (o : Obj) : Keeps S A (W.putObj l o) :=
  ⟨h.os, h.tape, h.output, by rw [World.putObj_size]; exact h.size, fun k hk hA => (World.putObj_heap_other (fun e => by subst e; have := hl hk; omega)).trans (h.block k hk hA)⟩
theorem Keeps.at_ {S : Nat → Prop} {A B : World} (h : Keeps S A B) {k : Nat} {o : Obj} (hk : A.heap[k]? = some o) (hS : S k) : B.heap[k]? = some o :=
  (h.block k hS (Array.getElem?_eq_some_iff.1 hk).1).trans hk
theorem Keeps.cell {S : Nat → Prop} {A B : World} (h : Keeps S A B) {p : Addr} {v : Value} (hc : A.cell? p = some v) (hS : S p.block) : B.cell? p = some v := by
  rw [World.cell?_of_block (w := A) (w' := B) (h.block p.block hS (World.block_lt_of_cell? A p hc))]; exact hc
theorem lt_of_heap {W : World} {k : Nat} {o : Obj} (h : W.heap[k]? = some o) : k < W.heap.size := (Array.getElem?_eq_some_iff.1 h).1

/-- One object behind the other. -/
def allocs (W : World) : List Obj → World
  | [] => W
  | o :: os => allocs (W.alloc o) os
theorem allocs_size (W : World) (os : List Obj) : (allocs W os).heap.size = W.heap.size + os.length := by
  induction os generalizing W with
  | nil => rfl
  | cons o os ih => rw [allocs, ih]; simp; omega
theorem allocs_putObj (W : World) (os : List Obj) (l : Nat) (o : Obj) (hl : l < W.heap.size) : (allocs W os).putObj l o = allocs (W.putObj l o) os := by
  induction os generalizing W with
  | nil => rfl
  | cons p os ih =>
    rw [allocs, allocs, ih _ (by simp; omega)]
    congr 1
    unfold World.putObj World.alloc
    simp only [World.mk.injEq, and_true]
    apply Array.ext_getElem?
    intro i
    simp only [Array.getElem?_setIfInBounds, Array.getElem?_push, Array.size_push, Array.size_setIfInBounds]
    by_cases h1 : l = i
    · subst h1; simp [hl, Nat.ne_of_lt hl]; omega
    · simp [h1]
theorem allocs_keeps (S : Nat → Prop) (W : World) (os : List Obj) : Keeps S W (allocs W os) := by
  induction os generalizing W with
  | nil => exact Keeps.refl _ _
  | cons o os ih => exact ⟨(ih _).os, (ih _).tape, (ih _).output, Nat.le_trans (by simp) (ih (W.alloc o)).size, fun k hk hA => ((ih (W.alloc o)).block k hk (by simp; omega)).trans (Below.heap_alloc _ _ _ hA)⟩

/-- A CALL OF yield: a round of its loop. -/
def Yields (P : Program) (l : Nat) (args : Array Value) (W : World) (R : Ending → World → Prop) : Prop :=
  ∃ fn tmps assign body, (Instr.yield l args).run P W = .ok (.round l fn tmps assign body) W ∧ ∀ n, RoundIn Fence.wide n P l fn tmps assign body W R
theorem Yields.mono {P : Program} {l : Nat} {args : Array Value} {W : World} {R R' : Ending → World → Prop} (h : Yields P l args W R) (hr : ∀ e w, R e w → R' e w) : Yields P l args W R' := by
  obtain ⟨fn, tmps, assign, body, hy, hR⟩ := h
  exact ⟨fn, tmps, assign, body, hy, fun n => (hR n).mono hr⟩

/-- What a yield owes: it goes on ('true', J of one more) or it has said 'no more' ('false', Jx). S: the caller's own blocks: it may write these and new ones. -/
def YPost {α : Type} (J Jx : List α → (Nat → Prop) → World → Prop) (pre : List α) (S : Nat → Prop) (W : World) (e : Ending) (W' : World) : Prop :=
  ∃ S' : Nat → Prop, (∀ k, S' k → S k ∨ (W.heap.size ≤ k ∧ k < W'.heap.size)) ∧ Keeps (fun k => ¬ S k) W W' ∧
    ((e = .returned (.bool true) ∧ J pre S' W') ∨ (e = .returned (.bool false) ∧ Jx pre S' W'))

/-- J does not mind what the iterator does: the caller's own blocks, and what lay below B, lie as they lay. -/
def Abides_ {α : Type} (B : Nat) (J : List α → (Nat → Prop) → World → Prop) : Prop :=
  ∀ pre S W W', J pre S W → Keeps (fun k => S k ∨ k < B) W W' → J pre S W'

/-- **THE FUNCTION VALUE (g, lb) GIVES xs, ONE BY ONE, IN WHATEVER WORLD HAS COME OF W BY GROWTH.** D: the blocks (of W's) that it reads: none of them the caller's to write. -/
def Iter {α : Type} (P : Program) (g : Nat) (lb : Array Value) (encs : α → Array Value) (xs : List α) (D : Nat → Prop) (W0 : World) : Prop :=
  ∀ (l : Nat) (S0 : Nat → Prop) (J Jx : List α → (Nat → Prop) → World → Prop) (W : World), Keeps D W0 W → (∀ k, S0 k → k < W.heap.size) → (∀ k, S0 k → ¬ D k) →
    Abides_ W.heap.size J → Abides_ W.heap.size Jx →
    (∀ pre x post S W1, xs = pre ++ x :: post → J pre S W1 → Keeps (fun k => k < W.heap.size ∧ ¬ S0 k) W W1 → (∀ k, S k → k < W1.heap.size ∧ (S0 k ∨ W.heap.size ≤ k)) → Yields P l (encs x) W1 (YPost J Jx (pre ++ [x]) S W1)) →
    J [] S0 W →
    Calls P g (#[.func (.yield l) #[] #[]] ++ lb) W fun e W' => (∃ v, e = .returned v) ∧ Keeps (fun k => k < W.heap.size ∧ ¬ S0 k) W W' ∧
      ∃ S, (∀ k, S k → k < W'.heap.size ∧ (S0 k ∨ W.heap.size ≤ k)) ∧ (J xs S W' ∨ ∃ pre, pre <+: xs ∧ Jx pre S W')
theorem Iter.grow {α : Type} {P : Program} {g : Nat} {lb : Array Value} {encs : α → Array Value} {xs : List α} {D : Nat → Prop} {W0 W1 : World} (h : Iter P g lb encs xs D W0) (hk : Keeps D W0 W1) : Iter P g lb encs xs D W1 :=
  fun l S0 J Jx W hW => h l S0 J Jx W (hk.trans hW)

/-- How the body of a round may be left. -/
def rpost {α : Type} (I : List α → (Nat → Prop) → World → Prop) (Ix : Code → List α → (Nat → Prop) → World → Prop) (pre : List α) (S : Nat → Prop) (W : World) : Exit → Act → World → Prop
  | .normal, _, W' => ∃ S' : Nat → Prop, (∀ k, S' k → S k ∨ (W.heap.size ≤ k ∧ k < W'.heap.size)) ∧ Keeps (fun k => ¬ S k) W W' ∧ I pre S' W'
  | .ret, _, W' => ∃ S' : Nat → Prop, (∀ k, S' k → S k ∨ (W.heap.size ≤ k ∧ k < W'.heap.size)) ∧ Keeps (fun k => ¬ S k) W W' ∧ Ix .ret pre S' W'
  | .exit id, _, W' => ∃ S' : Nat → Prop, (∀ k, S' k → S k ∨ (W.heap.size ≤ k ∧ k < W'.heap.size)) ∧ Keeps (fun k => ¬ S k) W W' ∧ Ix (.exit id) pre S' W'
  | .goto t, _, W' => ∃ S' : Nat → Prop, (∀ k, S' k → S k ∨ (W.heap.size ≤ k ∧ k < W'.heap.size)) ∧ Keeps (fun k => ¬ S k) W W' ∧ Ix (.goto t) pre S' W'
  | .panic _, _, _ => False
  | .outgrown, _, _ => False

section
variable {α : Type} {P : Program} {g : Operand} {ps : Array Tmp} {assign body : Code} {Q : Exit → Act → World → Prop} {a : Act} {w : World}

/-- ONE ROUND, OUT OF THE ASSIGNMENT AND THE BODY: l: the loop's record (ready in W). -/
theorem round_yields {l : Nat} {rec : Loop} (hrs : rec.state = .ready) (hrn : rec.pending = none) (hrp : rec.params = ps) (hra : rec.assign = assign) (hrb : rec.body = body) (htm : rec.tmps = a.tmps)
    {encs : α → Array Value} (hps : ∀ x, (encs x).size = ps.size) (a₁ : α → Nat → Act) (os : α → List Obj) {B : Nat}
    (hassign : ∀ (l : Nat) (x : α) (W : World) (K : Act → World → Prop), K (a₁ x W.heap.size) (allocs W (os x)) →
      assign.wpIn (Fence.wide.inRound l) 0 P (Exit.then K (fun _ _ _ => False)) { tmps := (ps.zip (encs x)).foldl (fun t (p, v) => t.setIfInBounds p v) a.tmps, defers := [] } W)
    (I : List α → (Nat → Prop) → World → Prop) (Ix : Code → List α → (Nat → Prop) → World → Prop) (hI : Abides_ B I) (hIx : ∀ c, Abides_ B (Ix c)) (hl0 : B ≤ l)
    (pre : List α) (x : α) (S : Nat → Prop) (W : World) (hSl : ¬ S l) (hl : W.heap[l]? = some (.loop rec)) (hi : I pre S W)
    (hbody : ∀ (Wb : World), Keeps (fun k => k ≠ l) W Wb → Wb.heap.size = W.heap.size → (∃ r, Wb.heap[l]? = some (.loop r)) → I pre S Wb →
      body.wpIn (Fence.wide.inRound l) 0 P (rpost I Ix (pre ++ [x]) S Wb) (a₁ x Wb.heap.size) (allocs Wb (os x))) :
    Yields P l (encs x) W (YPost (fun pre T W => T l ∧ I pre (fun k => T k ∧ k ≠ l) W ∧ W.heap[l]? = some (.loop rec))
      (fun pre T W => T l ∧ ∃ c, Ix c pre (fun k => T k ∧ k ≠ l) W ∧ W.heap[l]? = some (.loop { rec with state := .done, pending := some c })) (pre ++ [x]) (fun k => S k ∨ k = l) W) := by
  subst hra hrb hrp
  have key : RoundIn Fence.wide 0 P l rec.fn ((rec.params.zip (encs x)).foldl (fun t (p, v) => t.setIfInBounds p v) rec.tmps) rec.assign rec.body W
      (YPost (fun pre T W => T l ∧ I pre (fun k => T k ∧ k ≠ l) W ∧ W.heap[l]? = some (.loop rec))
        (fun pre T W => T l ∧ ∃ c, Ix c pre (fun k => T k ∧ k ≠ l) W ∧ W.heap[l]? = some (.loop { rec with state := .done, pending := some c })) (pre ++ [x]) (fun k => S k ∨ k = l) W) := by
    refine roundIn_of_wpIn trivial ?_
    have ha := hassign l x W
    rw [← htm] at ha
    refine ha _ ?_
    have hl1 : (allocs W (os x)).heap[l]? = some (.loop rec) := (allocs_keeps (fun _ => True) W (os x)).at_ hl trivial
    refine ⟨_, run_beginRound hl1 hrs, ?_⟩
    rw [allocs_putObj _ _ _ _ (lt_of_heap hl)]
    obtain ⟨Wb, hWb⟩ : ∃ Wb, W.putObj l (.loop { rec with state := .busy }) = Wb := ⟨_, rfl⟩
    rw [hWb]
    have hsz : Wb.heap.size = W.heap.size := by rw [← hWb]; exact World.putObj_size
    have hlb : Wb.heap[l]? = some (.loop { rec with state := .busy }) := by rw [← hWb]; exact World.putObj_heap_same (lt_of_heap hl)
    have hkb : Keeps (fun k => k ≠ l) W Wb := by rw [← hWb]; exact (Keeps.refl _ _).putObj (fun h => absurd rfl h) _
    have hib : I pre S Wb := hI _ _ _ _ hi (hkb.mono (fun k hk _ e => by subst e; rcases hk with h | h; exact hSl h; omega))
    have hb := hbody Wb hkb hsz ⟨_, hlb⟩ hib
    rw [hsz] at hb
    refine wpIn_mono hb ?_
    -- what is common to all ways out
    have fin : ∀ (jump : Option Code) (S' : Nat → Prop) (W3 : World), (∀ k, S' k → S k ∨ (Wb.heap.size ≤ k ∧ k < W3.heap.size)) → Keeps (fun k => ¬ S k) Wb W3 →
        ∃ W4, (Instr.endRound l jump).run P W3 = .ok (.bool jump.isNone) W4 ∧ W4.heap[l]? = some (.loop { rec with state := if jump.isNone then .ready else .done, pending := jump }) ∧
          (∀ k, S' k ∨ k = l → (S k ∨ k = l) ∨ (W.heap.size ≤ k ∧ k < W4.heap.size)) ∧ Keeps (fun k => ¬ (S k ∨ k = l)) W W4 ∧ Keeps (fun k => S' k ∨ k < B) W3 W4 ∧ (fun k => (S' k ∨ k = l) ∧ k ≠ l) = S' := by
      intro jump S' W3 hS' hk3
      have hl3 : W3.heap[l]? = some (.loop { rec with state := .busy }) := hk3.at_ hlb hSl
      have hS'l : ¬ S' l := fun h => by rcases hS' l h with h | h; exact hSl h; have := lt_of_heap hlb; omega
      refine ⟨_, run_endRound jump hl3, World.putObj_heap_same (lt_of_heap hl3), ?_, ?_, ?_, ?_⟩
      · rintro k (h | h)
        · rcases hS' k h with h | h
          · exact .inl (.inl h)
          · exact .inr (by rw [World.putObj_size]; omega)
        · exact .inl (.inr h)
      · refine ((hkb.mono (fun k hk _ e => hk (.inr e))).trans (hk3.mono (fun k hk _ e => hk (.inl e)))).putObj (fun h => absurd (.inr rfl) h) _
      · exact (Keeps.refl _ _).putObj (fun h => by rcases h with h | h; exact absurd h hS'l; omega) _
      · funext k
        exact propext ⟨fun ⟨h, hne⟩ => h.resolve_right hne, fun h => ⟨.inl h, fun e => hS'l (e ▸ h)⟩⟩
    rintro e a3 W3 hp
    cases e with
    | normal =>
      obtain ⟨S', hS', hk3, hi3⟩ := hp
      obtain ⟨W4, hr, hl4, h1, h2, h3, h4⟩ := fin none S' W3 hS' hk3
      refine ⟨_, W4, hr, _, h1, h2, .inl ⟨rfl, .inr rfl, ?_, ?_⟩⟩
      · rw [h4]; exact hI _ _ _ _ hi3 h3
      · rw [hl4]; cases rec; simp_all
    | ret =>
      obtain ⟨S', hS', hk3, hi3⟩ := hp
      obtain ⟨W4, hr, hl4, h1, h2, h3, h4⟩ := fin (some .ret) S' W3 hS' hk3
      refine ⟨_, W4, hr, _, h1, h2, .inr ⟨rfl, .inr rfl, .ret, ?_, ?_⟩⟩
      · rw [h4]; exact hIx _ _ _ _ _ hi3 h3
      · rw [hl4]; rfl
    | exit id =>
      obtain ⟨S', hS', hk3, hi3⟩ := hp
      obtain ⟨W4, hr, hl4, h1, h2, h3, h4⟩ := fin (some (.exit id)) S' W3 hS' hk3
      refine ⟨_, W4, hr, _, h1, h2, .inr ⟨rfl, .inr rfl, .exit id, ?_, ?_⟩⟩
      · rw [h4]; exact hIx _ _ _ _ _ hi3 h3
      · rw [hl4]; rfl
    | goto t =>
      obtain ⟨S', hS', hk3, hi3⟩ := hp
      obtain ⟨W4, hr, hl4, h1, h2, h3, h4⟩ := fin (some (.goto t)) S' W3 hS' hk3
      refine ⟨_, W4, hr, _, h1, h2, .inr ⟨rfl, .inr rfl, .goto t, ?_, ?_⟩⟩
      · rw [h4]; exact hIx _ _ _ _ _ hi3 h3
      · rw [hl4]; rfl
    | panic ch => exact hp.elim
    | outgrown => exact hp.elim
  exact ⟨_, _, _, _, run_yield hl (hps x), fun n => ⟨key.1, fun c cs _ => key.2 c cs (room_wide _)⟩⟩

/-- **A RANGE OVER AN ITERATOR, outermost in its function.** -/
theorem range_outer {gf : Nat} {lb : Array Value} (hg : a.eval g = .func (.func gf) #[] lb) (eg : ∀ args w, (callFunc gf args).run P w = .ok (.enter gf args) w)
    {encs : α → Array Value} {xs : List α} {D : Nat → Prop} (hit : Iter P gf lb encs xs D w) (hD : ∀ k, D k → k < w.heap.size) (hps : ∀ x, (encs x).size = ps.size)
    (S0 : Nat → Prop) (hS0 : ∀ k, S0 k → k < w.heap.size ∧ ¬ D k)
    (I : List α → (Nat → Prop) → World → Prop) (Ix : Code → List α → (Nat → Prop) → World → Prop) (hI : Abides_ w.heap.size I) (hIx : ∀ c, Abides_ w.heap.size (Ix c)) (h0 : I [] S0 w)
    (a₁ : α → Nat → Act) (os : α → List Obj)
    (hassign : ∀ (l : Nat) (x : α) (W : World) (K : Act → World → Prop), K (a₁ x W.heap.size) (allocs W (os x)) →
      assign.wpIn (Fence.wide.inRound l) 0 P (Exit.then K (fun _ _ _ => False)) { tmps := (ps.zip (encs x)).foldl (fun t (p, v) => t.setIfInBounds p v) a.tmps, defers := [] } W)
    (hbody : ∀ (l : Nat) (pre : List α) (x : α) (post : List α) (S : Nat → Prop) (W : World), xs = pre ++ x :: post → w.heap.size ≤ l → (∃ r, W.heap[l]? = some (.loop r)) → ¬ S l →
      (∀ k, S k → k < W.heap.size ∧ (S0 k ∨ w.heap.size ≤ k)) → Keeps (fun k => k < w.heap.size ∧ ¬ S0 k) w W → I pre S W →
      body.wpIn (Fence.wide.inRound l) 0 P (rpost I Ix (pre ++ [x]) S W) (a₁ x W.heap.size) (allocs W (os x)))
    (hdone : ∀ (d : Nat) (S : Nat → Prop) (W : World), w.heap.size ≤ d → ¬ S d → W.heap[d]? = some (.deferred (some [])) → (∀ k, S k → k < W.heap.size ∧ (S0 k ∨ w.heap.size ≤ k)) →
      Keeps (fun k => k < w.heap.size ∧ ¬ S0 k) w W → I xs S W → Q .normal { a with defers := { target := .collected d, args := #[] } :: a.defers } W)
    (hstop : ∀ (d : Nat) (c : Code) (pre : List α) (S : Nat → Prop) (W : World), w.heap.size ≤ d → ¬ S d → W.heap[d]? = some (.deferred (some [])) → (∀ k, S k → k < W.heap.size ∧ (S0 k ∨ w.heap.size ≤ k)) →
      Keeps (fun k => k < w.heap.size ∧ ¬ S0 k) w W → pre <+: xs → Ix c pre S W → c.wpIn Fence.wide 0 P Q { a with defers := { target := .collected d, args := #[] } :: a.defers } W) :
    (Code.rangeFunc g ps assign body).wpIn Fence.wide 0 P Q a w := by
  refine wpIn_rangeFunc ?_
  intro fn _
  obtain ⟨rec, hrec⟩ : ∃ rec : Loop, rec = { state := .ready, pending := none, fn, tmps := a.tmps, params := ps, assign, body, defers := w.heap.size } := ⟨_, rfl⟩
  obtain ⟨l, hl⟩ : ∃ l, l = w.heap.size + 1 := ⟨_, rfl⟩
  obtain ⟨W1, hW1⟩ : ∃ W1, (w.alloc (.deferred (some []))).alloc (.loop rec) = W1 := ⟨_, rfl⟩
  have hsz : W1.heap.size = w.heap.size + 2 := by rw [← hW1]; simp
  have hL1 : W1.heap[l]? = some (.loop rec) := by
    rw [← hW1, hl]; have := World.alloc_heap_new (w.alloc (.deferred (some []))) (.loop rec); rwa [World.size_alloc] at this
  have hK1 : W1.heap[w.heap.size]? = some (.deferred (some [])) := by
    rw [← hW1]; exact (Below.heap_alloc _ _ _ (by simp)).trans (World.alloc_heap_new w _)
  have hk1 : ∀ S : Nat → Prop, Keeps S w W1 := fun S => by rw [← hW1]; exact ((Keeps.refl _ _).alloc _).alloc _
  have hset : (fun k => (S0 k ∨ k = l) ∧ k ≠ l) = S0 := by
    funext k
    exact propext ⟨fun ⟨h, hne⟩ => h.resolve_right hne, fun h => ⟨.inl h, fun e => by have := (hS0 k h).1; omega⟩⟩
  refine ⟨l, [{ target := .collected w.heap.size, args := #[] }], W1, { target := .fn (.func gf) lb, args := #[.func (.yield l) #[] #[]] }, W1, gf, #[.func (.yield l) #[] #[]] ++ lb, W1, ?_, ?_, ?_, ?_, (fun h => by cases h), ?_⟩
  · rw [← hW1, hrec, hl]; exact run_enterLoop_outer _ _ _ _ _
  · simp only [resolve, hg]
    simp [go_sem]
  · intro f' _; trivial
  · simp [invoke, go_sem, eg]
  refine callsIn_wide.2 ((hit l (fun k => S0 k ∨ k = l)
    (fun pre T W => T l ∧ I pre (fun k => T k ∧ k ≠ l) W ∧ W.heap[l]? = some (.loop rec))
    (fun pre T W => T l ∧ ∃ c, Ix c pre (fun k => T k ∧ k ≠ l) W ∧ W.heap[l]? = some (.loop { rec with state := .done, pending := some c }))
    W1 (hk1 _) ?_ ?_ ?_ ?_ ?_ ⟨.inr rfl, by rw [hset]; exact hI _ _ _ _ h0 (hk1 _), hL1⟩).mono ?_)
  · rintro k (h | h)
    · have := (hS0 k h).1; omega
    · omega
  · rintro k (h | h) hd
    · exact (hS0 k h).2 hd
    · have := hD k hd; omega
  · rintro pre T A B ⟨h1, h2, h3⟩ hk
    exact ⟨h1, hI _ _ _ _ h2 (hk.mono (fun k h _ => by rcases h with ⟨h, _⟩ | h; exact .inl h; exact .inr (by omega))), hk.at_ h3 (.inl h1)⟩
  · rintro pre T A B ⟨h1, c, h2, h3⟩ hk
    exact ⟨h1, c, hIx _ _ _ _ _ h2 (hk.mono (fun k h _ => by rcases h with ⟨h, _⟩ | h; exact .inl h; exact .inr (by omega))), hk.at_ h3 (.inl h1)⟩
  · rintro pre x post T W hx ⟨h1, h2, h3⟩ hkW hT
    have hT' : (fun k => (T k ∧ k ≠ l) ∨ k = l) = T := by
      funext k
      exact propext ⟨fun h => by rcases h with h | h; exact h.1; exact h ▸ h1, fun h => by by_cases e : k = l; exact .inr e; exact .inl ⟨h, e⟩⟩
    have := round_yields (P := P) (a := a) (rec := rec) (l := l) (by rw [hrec]) (by rw [hrec]) (by rw [hrec]) (by rw [hrec]) (by rw [hrec]) (by rw [hrec]) hps a₁ os (B := w.heap.size) hassign I Ix hI hIx (by omega)
      pre x (fun k => T k ∧ k ≠ l) W (fun h => h.2 rfl) h3 h2 ?_
    · rw [hT'] at this; exact this
    · intro Wb hkb hsb hlb hib
      refine hbody l pre x post _ Wb hx (by omega) hlb (fun h => h.2 rfl) ?_ ?_ hib
      · rintro k ⟨h, hne⟩
        obtain ⟨h4, h5⟩ := hT k h
        refine ⟨by omega, ?_⟩
        rcases h5 with h5 | h5
        · exact .inl (h5.resolve_right hne)
        · exact .inr (by omega)
      · exact ((hk1 _).trans (hkW.mono (fun k h _ => ⟨by omega, fun h' => by rcases h' with h' | h'; exact h.2 h'; omega⟩))).trans (hkb.mono (fun k h _ e => by omega))
  · rintro e W2 ⟨⟨v, rfl⟩, hkW, T, hT, hend⟩
    have hd2 : W2.heap[w.heap.size]? = some (.deferred (some [])) := hkW.at_ hK1 ⟨by omega, fun h => by rcases h with h | h; have := (hS0 _ h).1; omega; omega⟩
    have hk2 : Keeps (fun k => k < w.heap.size ∧ ¬ S0 k) w W2 := (hk1 _).trans (hkW.mono (fun k h _ => ⟨by omega, fun h' => by rcases h' with h' | h'; exact h.2 h'; omega⟩))
    have hTd : ¬ T w.heap.size := fun h => by
      rcases (hT _ h).2 with (h | h) | h
      · have := (hS0 _ h).1; omega
      · omega
      · omega
    have hTb : ∀ (o : Obj) (k : Nat), T k ∧ k ≠ l → k < (W2.putObj l o).heap.size ∧ (S0 k ∨ w.heap.size ≤ k) := fun o k h => by
      obtain ⟨h4, h5⟩ := hT k h.1
      refine ⟨by rw [World.putObj_size]; exact h4, ?_⟩
      rcases h5 with h5 | h5
      · exact .inl (h5.resolve_right h.2)
      · exact .inr (by omega)
    have hkk : ∀ o, Keeps (fun k => k < w.heap.size ∧ ¬ S0 k) w (W2.putObj l o) := fun o => hk2.putObj (fun h => by omega) o
    rcases hend with ⟨h1, h2, h3⟩ | ⟨pre, hpre, h1, c, h2, h3⟩
    · refine ⟨none, _, by have := run_endLoop (P := P) h3 (by rw [hrec]; simp); rw [this, hrec], ?_⟩
      exact hdone w.heap.size _ _ (Nat.le_refl _) (fun h => hTd h.1) ((World.putObj_heap_other (by omega)).trans hd2) (hTb _) (hkk _)
        (hI _ _ _ _ h2 ((Keeps.refl _ _).putObj (fun h => by rcases h with h | h; exact absurd rfl h.2; omega) _))
    · refine ⟨some c, _, by have := run_endLoop (P := P) h3 (by simp); rw [this], ?_⟩
      exact hstop w.heap.size c pre _ _ (Nat.le_refl _) (fun h => hTd h.1) ((World.putObj_heap_other (by omega)).trans hd2) (hTb _) (hkk _) hpre
        (hIx _ _ _ _ _ h2 ((Keeps.refl _ _).putObj (fun h => by rcases h with h | h; exact absurd rfl h.2; omega) _))

/-- **A RANGE OVER AN ITERATOR within a round of loop l₀.** -/
theorem range_inner {l₀ : Nat} {r₀ : Loop} (hl₀ : w.heap[l₀]? = some (.loop r₀)) {gf : Nat} {lb : Array Value} (hg : a.eval g = .func (.func gf) #[] lb) (eg : ∀ args w, (callFunc gf args).run P w = .ok (.enter gf args) w)
    {encs : α → Array Value} {xs : List α} {D : Nat → Prop} (hit : Iter P gf lb encs xs D w) (hD : ∀ k, D k → k < w.heap.size) (hps : ∀ x, (encs x).size = ps.size)
    (S0 : Nat → Prop) (hS0 : ∀ k, S0 k → k < w.heap.size ∧ ¬ D k)
    (I : List α → (Nat → Prop) → World → Prop) (Ix : Code → List α → (Nat → Prop) → World → Prop) (hI : Abides_ w.heap.size I) (hIx : ∀ c, Abides_ w.heap.size (Ix c)) (h0 : I [] S0 w)
    (a₁ : α → Nat → Act) (os : α → List Obj)
    (hassign : ∀ (l : Nat) (x : α) (W : World) (K : Act → World → Prop), K (a₁ x W.heap.size) (allocs W (os x)) →
      assign.wpIn (Fence.wide.inRound l) 0 P (Exit.then K (fun _ _ _ => False)) { tmps := (ps.zip (encs x)).foldl (fun t (p, v) => t.setIfInBounds p v) a.tmps, defers := [] } W)
    (hbody : ∀ (l : Nat) (pre : List α) (x : α) (post : List α) (S : Nat → Prop) (W : World), xs = pre ++ x :: post → w.heap.size ≤ l → (∃ r, W.heap[l]? = some (.loop r)) → ¬ S l →
      (∀ k, S k → k < W.heap.size ∧ (S0 k ∨ w.heap.size ≤ k)) → Keeps (fun k => k < w.heap.size ∧ ¬ S0 k) w W → I pre S W →
      body.wpIn (Fence.wide.inRound l) 0 P (rpost I Ix (pre ++ [x]) S W) (a₁ x W.heap.size) (allocs W (os x)))
    (hdone : ∀ (S : Nat → Prop) (W : World), (∀ k, S k → k < W.heap.size ∧ (S0 k ∨ w.heap.size ≤ k)) →
      Keeps (fun k => k < w.heap.size ∧ ¬ S0 k) w W → I xs S W → Q .normal a W)
    (hstop : ∀ (c : Code) (pre : List α) (S : Nat → Prop) (W : World), (∀ k, S k → k < W.heap.size ∧ (S0 k ∨ w.heap.size ≤ k)) →
      Keeps (fun k => k < w.heap.size ∧ ¬ S0 k) w W → pre <+: xs → Ix c pre S W → c.wpIn (Fence.wide.inRound l₀) 0 P Q a W) :
    (Code.rangeFunc g ps assign body).wpIn (Fence.wide.inRound l₀) 0 P Q a w := by
  refine wpIn_rangeFunc ?_
  intro fn _
  obtain ⟨rec, hrec⟩ : ∃ rec : Loop, rec = { state := .ready, pending := none, fn, tmps := a.tmps, params := ps, assign, body, defers := r₀.defers } := ⟨_, rfl⟩
  obtain ⟨l, hl⟩ : ∃ l, l = w.heap.size := ⟨_, rfl⟩
  obtain ⟨W1, hW1⟩ : ∃ W1, w.alloc (.loop rec) = W1 := ⟨_, rfl⟩
  have hsz : W1.heap.size = w.heap.size + 1 := by rw [← hW1]; simp
  have hL1 : W1.heap[l]? = some (.loop rec) := by rw [← hW1, hl]; exact World.alloc_heap_new w _
  have hk1 : ∀ S : Nat → Prop, Keeps S w W1 := fun S => by rw [← hW1]; exact (Keeps.refl _ _).alloc _
  have hset : (fun k => (S0 k ∨ k = l) ∧ k ≠ l) = S0 := by
    funext k
    exact propext ⟨fun ⟨h, hne⟩ => h.resolve_right hne, fun h => ⟨.inl h, fun e => by have := (hS0 k h).1; omega⟩⟩
  refine ⟨l, [], W1, { target := .fn (.func gf) lb, args := #[.func (.yield l) #[] #[]] }, W1, gf, #[.func (.yield l) #[] #[]] ++ lb, W1, ?_, ?_, ?_, ?_, (fun h => by cases h), ?_⟩
  · rw [← hW1, hrec, hl]; exact run_enterLoop_inner hl₀ _ _ _ _ _
  · simp only [resolve, hg]
    simp [go_sem]
  · intro f' _; trivial
  · simp [invoke, go_sem, eg]
  refine CallsIn.inRound l₀ (callsIn_wide.2 ((hit l (fun k => S0 k ∨ k = l)
    (fun pre T W => T l ∧ I pre (fun k => T k ∧ k ≠ l) W ∧ W.heap[l]? = some (.loop rec))
    (fun pre T W => T l ∧ ∃ c, Ix c pre (fun k => T k ∧ k ≠ l) W ∧ W.heap[l]? = some (.loop { rec with state := .done, pending := some c }))
    W1 (hk1 _) ?_ ?_ ?_ ?_ ?_ ⟨.inr rfl, by rw [hset]; exact hI _ _ _ _ h0 (hk1 _), hL1⟩).mono ?_))
  · rintro k (h | h)
    · have := (hS0 k h).1; omega
    · omega
  · rintro k (h | h) hd
    · exact (hS0 k h).2 hd
    · have := hD k hd; omega
  · rintro pre T A B ⟨h1, h2, h3⟩ hk
    exact ⟨h1, hI _ _ _ _ h2 (hk.mono (fun k h _ => by rcases h with ⟨h, _⟩ | h; exact .inl h; exact .inr (by omega))), hk.at_ h3 (.inl h1)⟩
  · rintro pre T A B ⟨h1, c, h2, h3⟩ hk
    exact ⟨h1, c, hIx _ _ _ _ _ h2 (hk.mono (fun k h _ => by rcases h with ⟨h, _⟩ | h; exact .inl h; exact .inr (by omega))), hk.at_ h3 (.inl h1)⟩
  · rintro pre x post T W hx ⟨h1, h2, h3⟩ hkW hT
    have hT' : (fun k => (T k ∧ k ≠ l) ∨ k = l) = T := by
      funext k
      exact propext ⟨fun h => by rcases h with h | h; exact h.1; exact h ▸ h1, fun h => by by_cases e : k = l; exact .inr e; exact .inl ⟨h, e⟩⟩
    have := round_yields (P := P) (a := a) (rec := rec) (l := l) (by rw [hrec]) (by rw [hrec]) (by rw [hrec]) (by rw [hrec]) (by rw [hrec]) (by rw [hrec]) hps a₁ os (B := w.heap.size) hassign I Ix hI hIx (by omega)
      pre x (fun k => T k ∧ k ≠ l) W (fun h => h.2 rfl) h3 h2 ?_
    · rw [hT'] at this; exact this
    · intro Wb hkb hsb hlb hib
      refine hbody l pre x post _ Wb hx (by omega) hlb (fun h => h.2 rfl) ?_ ?_ hib
      · rintro k ⟨h, hne⟩
        obtain ⟨h4, h5⟩ := hT k h
        refine ⟨by omega, ?_⟩
        rcases h5 with h5 | h5
        · exact .inl (h5.resolve_right hne)
        · exact .inr (by omega)
      · exact ((hk1 _).trans (hkW.mono (fun k h _ => ⟨by omega, fun h' => by rcases h' with h' | h'; exact h.2 h'; omega⟩))).trans (hkb.mono (fun k h _ e => by omega))
  · rintro e W2 ⟨⟨v, rfl⟩, hkW, T, hT, hend⟩
    have hk2 : Keeps (fun k => k < w.heap.size ∧ ¬ S0 k) w W2 := (hk1 _).trans (hkW.mono (fun k h _ => ⟨by omega, fun h' => by rcases h' with h' | h'; exact h.2 h'; omega⟩))
    have hTb : ∀ (o : Obj) (k : Nat), T k ∧ k ≠ l → k < (W2.putObj l o).heap.size ∧ (S0 k ∨ w.heap.size ≤ k) := fun o k h => by
      obtain ⟨h4, h5⟩ := hT k h.1
      refine ⟨by rw [World.putObj_size]; exact h4, ?_⟩
      rcases h5 with h5 | h5
      · exact .inl (h5.resolve_right h.2)
      · exact .inr (by omega)
    have hkk : ∀ o, Keeps (fun k => k < w.heap.size ∧ ¬ S0 k) w (W2.putObj l o) := fun o => hk2.putObj (fun h => by omega) o
    rcases hend with ⟨h1, h2, h3⟩ | ⟨pre, hpre, h1, c, h2, h3⟩
    · refine ⟨none, _, by have := run_endLoop (P := P) h3 (by rw [hrec]; simp); rw [this, hrec], ?_⟩
      exact hdone _ _ (hTb _) (hkk _)
        (hI _ _ _ _ h2 ((Keeps.refl _ _).putObj (fun h => by rcases h with h | h; exact absurd rfl h.2; omega) _))
    · refine ⟨some c, _, by have := run_endLoop (P := P) h3 (by simp); rw [this], ?_⟩
      exact hstop c pre _ _ (hTb _) (hkk _) hpre
        (hIx _ _ _ _ _ h2 ((Keeps.refl _ _).putObj (fun h => by rcases h with h | h; exact absurd rfl h.2; omega) _))
end
end Go.Proofs.Ytafhdamdkefpkaa

namespace Go.Proofs.Ytafhdamdkefpkaa
open Go.RowKit Go.Proofs.YtafhdamdkefpkaaW.PrintWords Go.Proofs.YtafhdamdkefpkaaW.PrintLast Go.Proofs.YtafhdamdkefpkaaW.PrintMore

section
variable {F : Fence} {n : Nat} {P : Program} {ops : Array Oper} {rest : List Oper} {o : Oper} {a : Act} {Q : Exit → Act → World → Prop} {α : Type}
theorem R_append_in (d : Kd α) {W : World} (base : Nat) (hgd : o.guard = none) (s x : Operand) (t e : TypeId) (z : Value) (bytes : Nat)
    (ho : o.op = .call { callee := .builtin .append, args := #[s, x], argTypes := #[t, t] })
    (ht : P.underlying t = some (.slice e)) (hinfo : (P.info? e).map (fun i => (i.zero, i.size, i.bytes)) = some (some z, d.sz, bytes)) (hz : z.cells.size = d.sz) (hs0 : 0 < d.sz) (hb0 : 0 < bytes)
    (v : Value) (xs : List α) (p : α) (cs : List Value) (ok okp : Nat → Prop) (hs : a.eval s = v) (hx : a.eval x = .slice (some ⟨W.heap.size, 0, none⟩) 1 1) (hp : d.M W base okp p cs) (hokp : ∀ k, okp k → ok k ∧ some k ≠ v.ownBlock) (hfresh : ∀ k, W.heap.size ≤ k → ok k)
    (HO : d.R e W base ok v xs) (hbase : base ≤ W.heap.size) (hl : (xs.length + 1) * bytes ≤ 140737488355328)
    (h : ∀ v1 w1, d.R e w1 base ok v1 (xs ++ [p]) → W.grownBy w1 v.ownBlock → (v1.ownBlock = v.ownBlock ∨ ∃ b, v1.ownBlock = some b ∧ W.heap.size ≤ b) → wpListIn F n P ops Q rest (a.put o.dst v1) w1) :
    wpListIn F n P ops Q (o :: rest) a (W.alloc (.cells cs.toArray e)) := by
  obtain ⟨h0, inner, hown, hr⟩ := HO
  obtain ⟨i0, hi, hzz⟩ := Option.map_eq_some_iff.1 hinfo
  simp only [Prod.mk.injEq] at hzz
  obtain ⟨hz0, hz1, hz2⟩ := hzz
  have hys : cs.length = d.sz := d.K_len (d.K_of_M hp)
  have hlen : xs.length + 1 ≤ 140737488355328 := Nat.le_trans (Nat.le_mul_of_pos_right _ hb0) hl
  refine wpListIn_append_own_at (W.alloc (.cells cs.toArray e)) hgd s x t ho base e i0 z d.sz bytes ht hi hz0 hz1 hz2 hz hs0 v xs.length inner hs (hown.alloc _) ⟨W.heap.size, 0, none⟩ 1 1 cs hx (by rw [hys]; simp)
    (by simpa using World.news_of_block (cs := cs.toArray) (t := e) (fr := (0, 0)) (heap_alloc_new W (.cells cs.toArray e))) (d.K_one (d.K_of_M hp)) (by simp only [maxLen]; omega) hl (by simp; omega) ?_
  intro v1 w1 hown1 hg _ hat
  have hg1 : W.grownBy w1 v.ownBlock := World.grownBy.trans (World.grownBy_alloc W _ _) hg
  have hat1 : v1.ownBlock = v.ownBlock ∨ ∃ b, v1.ownBlock = some b ∧ W.heap.size ≤ b := by
    rcases hat with hat | hat
    · exact .inl hat
    · refine .inr ⟨_, hat, by simp⟩
  exact h v1 w1 (Kd.R_appended h0 hr hp hokp hfresh hown1 hg1 hat1) hg1 hat1
end
end Go.Proofs.Ytafhdamdkefpkaa

namespace Go.Proofs.Ytafhdamdkefpkaa
open Go.RowKit

/-- The relation minds no block of the caller's. -/
def RelOk {α β : Type} (Rel : α → β → (Nat → Prop) → World → Prop) : Prop :=
  ∀ x b S S' W W', Rel x b S W → (∀ k, S' k → S k) → Keeps (fun k => ¬ S k) W W' → Rel x b S' W'

/-- As 'Iter': what is yielded stands for what is given by Rel. -/
def IterR {α β : Type} (P : Program) (g : Nat) (lb : Array Value) (encs : β → Array Value) (Rel : α → β → (Nat → Prop) → World → Prop) (xs : List α) (D : Nat → Prop) (W0 : World) : Prop :=
  ∀ (l : Nat) (S0 : Nat → Prop) (J Jx : List α → (Nat → Prop) → World → Prop) (W : World), Keeps D W0 W → (∀ k, S0 k → k < W.heap.size) → (∀ k, S0 k → ¬ D k) →
    Abides_ W.heap.size J → Abides_ W.heap.size Jx →
    (∀ pre x post b S W1, xs = pre ++ x :: post → Rel x b S W1 → J pre S W1 → Keeps (fun k => k < W.heap.size ∧ ¬ S0 k) W W1 → (∀ k, S k → k < W1.heap.size ∧ (S0 k ∨ W.heap.size ≤ k)) → Yields P l (encs b) W1 (YPost J Jx (pre ++ [x]) S W1)) →
    J [] S0 W →
    Calls P g (#[.func (.yield l) #[] #[]] ++ lb) W fun e W' => (∃ v, e = .returned v) ∧ Keeps (fun k => k < W.heap.size ∧ ¬ S0 k) W W' ∧
      ∃ S, (∀ k, S k → k < W'.heap.size ∧ (S0 k ∨ W.heap.size ≤ k)) ∧ (J xs S W' ∨ ∃ pre, pre <+: xs ∧ Jx pre S W')
theorem map_pair {α β : Type} (l : List α) (b : β) : (l.map fun y => (y, b)).map Prod.fst = l := by
  rw [List.map_map]
  exact List.map_id' l
theorem rpost_map {α γ : Type} (f : γ → α) (I : List α → (Nat → Prop) → World → Prop) (Ix : Code → List α → (Nat → Prop) → World → Prop) (pre : List γ) (S : Nat → Prop) (W : World) :
    rpost (fun p => I (p.map f)) (fun c p => Ix c (p.map f)) pre S W = rpost I Ix (pre.map f) S W := by
  funext e a W'
  cases e <;> rfl

theorem Iter.toR {α : Type} {P : Program} {g : Nat} {lb : Array Value} {encs : α → Array Value} {xs : List α} {D : Nat → Prop} {W0 : World} (h : Iter P g lb encs xs D W0) : IterR P g lb encs (fun x b _ _ => x = b) xs D W0 :=
  fun l S0 J Jx W h1 h2 h3 h4 h5 hY h6 => h l S0 J Jx W h1 h2 h3 h4 h5 (fun pre x post S W1 hx hj hk hs => hY pre x post x S W1 hx rfl hj hk hs) h6
theorem IterR.grow {α β : Type} {P : Program} {g : Nat} {lb : Array Value} {encs : β → Array Value} {Rel : α → β → (Nat → Prop) → World → Prop} {xs : List α} {D : Nat → Prop} {W0 W1 : World} (h : IterR P g lb encs Rel xs D W0) (hk : Keeps D W0 W1) : IterR P g lb encs Rel xs D W1 :=
  fun l S0 J Jx W hW => h l S0 J Jx W (hk.trans hW)
theorem eqRel_ok {α : Type} : RelOk (fun (x b : α) (_ : Nat → Prop) (_ : World) => x = b) := fun _ _ _ _ _ _ h _ _ => h
def slotsSet (t : Array Value) (l : List (Nat × Value)) : Array Value := l.foldl (fun t p => t.setIfInBounds p.1 p.2) t

section
variable {α β : Type} {P : Program} {g : Operand} {ps : Array Tmp} {assign body : Code} {Q : Exit → Act → World → Prop} {a : Act} {w : World}

/-- **A RANGE OVER AN ITERATOR, outermost in its function.** -/
theorem range_outerR {gf : Nat} {lb : Array Value} (hg : a.eval g = .func (.func gf) #[] lb) (eg : ∀ args w, (callFunc gf args).run P w = .ok (.enter gf args) w)
    {encs : β → Array Value} {Rel : α → β → (Nat → Prop) → World → Prop} (hRel : RelOk Rel) {xs : List α} {D : Nat → Prop} (hit : IterR P gf lb encs Rel xs D w) (hD : ∀ k, D k → k < w.heap.size) (hps : ∀ x, (encs x).size = ps.size)
    (S0 : Nat → Prop) (hS0 : ∀ k, S0 k → k < w.heap.size ∧ ¬ D k)
    (I : List α → (Nat → Prop) → World → Prop) (Ix : Code → List α → (Nat → Prop) → World → Prop) (hI : Abides_ w.heap.size I) (hIx : ∀ c, Abides_ w.heap.size (Ix c)) (h0 : I [] S0 w)
    (a₁ : β → Nat → Act) (os : β → List Obj)
    (hassign : ∀ (l : Nat) (x : β) (W : World) (K : Act → World → Prop), K (a₁ x W.heap.size) (allocs W (os x)) →
      assign.wpIn (Fence.wide.inRound l) 0 P (Exit.then K (fun _ _ _ => False)) { tmps := (ps.zip (encs x)).foldl (fun t (p, v) => t.setIfInBounds p v) a.tmps, defers := [] } W)
    (hbody : ∀ (l : Nat) (pre : List α) (x : α) (post : List α) (b : β) (S : Nat → Prop) (W : World), xs = pre ++ x :: post → Rel x b S W → w.heap.size ≤ l → (∃ r, W.heap[l]? = some (.loop r)) → ¬ S l →
      (∀ k, S k → k < W.heap.size ∧ (S0 k ∨ w.heap.size ≤ k)) → Keeps (fun k => k < w.heap.size ∧ ¬ S0 k) w W → I pre S W →
      body.wpIn (Fence.wide.inRound l) 0 P (rpost I Ix (pre ++ [x]) S W) (a₁ b W.heap.size) (allocs W (os b)))
    (hdone : ∀ (d : Nat) (S : Nat → Prop) (W : World), w.heap.size ≤ d → ¬ S d → W.heap[d]? = some (.deferred (some [])) → (∀ k, S k → k < W.heap.size ∧ (S0 k ∨ w.heap.size ≤ k)) →
      Keeps (fun k => k < w.heap.size ∧ ¬ S0 k) w W → I xs S W → Q .normal { a with defers := { target := .collected d, args := #[] } :: a.defers } W)
    (hstop : ∀ (d : Nat) (c : Code) (pre : List α) (S : Nat → Prop) (W : World), w.heap.size ≤ d → ¬ S d → W.heap[d]? = some (.deferred (some [])) → (∀ k, S k → k < W.heap.size ∧ (S0 k ∨ w.heap.size ≤ k)) →
      Keeps (fun k => k < w.heap.size ∧ ¬ S0 k) w W → pre <+: xs → Ix c pre S W → c.wpIn Fence.wide 0 P Q { a with defers := { target := .collected d, args := #[] } :: a.defers } W) :
    (Code.rangeFunc g ps assign body).wpIn Fence.wide 0 P Q a w := by
  refine wpIn_rangeFunc ?_
  intro fn _
  obtain ⟨rec, hrec⟩ : ∃ rec : Loop, rec = { state := .ready, pending := none, fn, tmps := a.tmps, params := ps, assign, body, defers := w.heap.size } := ⟨_, rfl⟩
  obtain ⟨l, hl⟩ : ∃ l, l = w.heap.size + 1 := ⟨_, rfl⟩
  obtain ⟨W1, hW1⟩ : ∃ W1, (w.alloc (.deferred (some []))).alloc (.loop rec) = W1 := ⟨_, rfl⟩
  have hsz : W1.heap.size = w.heap.size + 2 := by rw [← hW1]; simp
  have hL1 : W1.heap[l]? = some (.loop rec) := by
    rw [← hW1, hl]; have := World.alloc_heap_new (w.alloc (.deferred (some []))) (.loop rec); rwa [World.size_alloc] at this
  have hK1 : W1.heap[w.heap.size]? = some (.deferred (some [])) := by
    rw [← hW1]; exact (Below.heap_alloc _ _ _ (by simp)).trans (World.alloc_heap_new w _)
  have hk1 : ∀ S : Nat → Prop, Keeps S w W1 := fun S => by rw [← hW1]; exact ((Keeps.refl _ _).alloc _).alloc _
  have hset : (fun k => (S0 k ∨ k = l) ∧ k ≠ l) = S0 := by
    funext k
    exact propext ⟨fun ⟨h, hne⟩ => h.resolve_right hne, fun h => ⟨.inl h, fun e => by have := (hS0 k h).1; omega⟩⟩
  refine ⟨l, [{ target := .collected w.heap.size, args := #[] }], W1, { target := .fn (.func gf) lb, args := #[.func (.yield l) #[] #[]] }, W1, gf, #[.func (.yield l) #[] #[]] ++ lb, W1, ?_, ?_, ?_, ?_, (fun h => by cases h), ?_⟩
  · rw [← hW1, hrec, hl]; exact run_enterLoop_outer _ _ _ _ _
  · simp only [resolve, hg]
    simp [go_sem]
  · intro f' _; trivial
  · simp [invoke, go_sem, eg]
  refine callsIn_wide.2 ((hit l (fun k => S0 k ∨ k = l)
    (fun pre T W => T l ∧ I pre (fun k => T k ∧ k ≠ l) W ∧ W.heap[l]? = some (.loop rec))
    (fun pre T W => T l ∧ ∃ c, Ix c pre (fun k => T k ∧ k ≠ l) W ∧ W.heap[l]? = some (.loop { rec with state := .done, pending := some c }))
    W1 (hk1 _) ?_ ?_ ?_ ?_ ?_ ⟨.inr rfl, by rw [hset]; exact hI _ _ _ _ h0 (hk1 _), hL1⟩).mono ?_)
  · rintro k (h | h)
    · have := (hS0 k h).1; omega
    · omega
  · rintro k (h | h) hd
    · exact (hS0 k h).2 hd
    · have := hD k hd; omega
  · rintro pre T A B ⟨h1, h2, h3⟩ hk
    exact ⟨h1, hI _ _ _ _ h2 (hk.mono (fun k h _ => by rcases h with ⟨h, _⟩ | h; exact .inl h; exact .inr (by omega))), hk.at_ h3 (.inl h1)⟩
  · rintro pre T A B ⟨h1, c, h2, h3⟩ hk
    exact ⟨h1, c, hIx _ _ _ _ _ h2 (hk.mono (fun k h _ => by rcases h with ⟨h, _⟩ | h; exact .inl h; exact .inr (by omega))), hk.at_ h3 (.inl h1)⟩
  · rintro pre x post b T W hx hRl ⟨h1, h2, h3⟩ hkW hT
    have hT' : (fun k => (T k ∧ k ≠ l) ∨ k = l) = T := by
      funext k
      exact propext ⟨fun h => by rcases h with h | h; exact h.1; exact h ▸ h1, fun h => by by_cases e : k = l; exact .inr e; exact .inl ⟨h, e⟩⟩
    have := round_yields (α := α × β) (P := P) (a := a) (rec := rec) (l := l) (by rw [hrec]) (by rw [hrec]) (by rw [hrec]) (by rw [hrec]) (by rw [hrec]) (by rw [hrec]) (encs := fun y => encs y.2) (fun y => hps y.2) (fun y => a₁ y.2) (fun y => os y.2) (B := w.heap.size) (fun l y => hassign l y.2)
      (fun p => I (p.map Prod.fst)) (fun c p => Ix c (p.map Prod.fst)) (fun p => hI _) (fun c p => hIx c _) (by omega)
      (pre.map fun y => (y, b)) (x, b) (fun k => T k ∧ k ≠ l) W (fun h => h.2 rfl) h3 (by rw [map_pair]; exact h2) ?_
    · rw [hT'] at this
      refine this.mono (fun e W' h => ?_)
      obtain ⟨S', hs1, hs2, hs3⟩ := h
      refine ⟨S', hs1, hs2, ?_⟩
      simpa only [List.map_append, map_pair, List.map_cons, List.map_nil] using hs3
    · intro Wb hkb hsb hlb hib
      rw [map_pair] at hib
      rw [rpost_map, List.map_append, map_pair]
      refine hbody l pre x post b _ Wb hx (hRel x b T _ W Wb hRl (fun k h => h.1) (hkb.mono (fun k h _ e => h (e ▸ h1)))) (by omega) hlb (fun h => h.2 rfl) ?_ ?_ hib
      · rintro k ⟨h, hne⟩
        obtain ⟨h4, h5⟩ := hT k h
        refine ⟨by omega, ?_⟩
        rcases h5 with h5 | h5
        · exact .inl (h5.resolve_right hne)
        · exact .inr (by omega)
      · exact ((hk1 _).trans (hkW.mono (fun k h _ => ⟨by omega, fun h' => by rcases h' with h' | h'; exact h.2 h'; omega⟩))).trans (hkb.mono (fun k h _ e => by omega))
  · rintro e W2 ⟨⟨v, rfl⟩, hkW, T, hT, hend⟩
    have hd2 : W2.heap[w.heap.size]? = some (.deferred (some [])) := hkW.at_ hK1 ⟨by omega, fun h => by rcases h with h | h; have := (hS0 _ h).1; omega; omega⟩
    have hk2 : Keeps (fun k => k < w.heap.size ∧ ¬ S0 k) w W2 := (hk1 _).trans (hkW.mono (fun k h _ => ⟨by omega, fun h' => by rcases h' with h' | h'; exact h.2 h'; omega⟩))
    have hTd : ¬ T w.heap.size := fun h => by
      rcases (hT _ h).2 with (h | h) | h
      · have := (hS0 _ h).1; omega
      · omega
      · omega
    have hTb : ∀ (o : Obj) (k : Nat), T k ∧ k ≠ l → k < (W2.putObj l o).heap.size ∧ (S0 k ∨ w.heap.size ≤ k) := fun o k h => by
      obtain ⟨h4, h5⟩ := hT k h.1
      refine ⟨by rw [World.putObj_size]; exact h4, ?_⟩
      rcases h5 with h5 | h5
      · exact .inl (h5.resolve_right h.2)
      · exact .inr (by omega)
    have hkk : ∀ o, Keeps (fun k => k < w.heap.size ∧ ¬ S0 k) w (W2.putObj l o) := fun o => hk2.putObj (fun h => by omega) o
    rcases hend with ⟨h1, h2, h3⟩ | ⟨pre, hpre, h1, c, h2, h3⟩
    · refine ⟨none, _, by have := run_endLoop (P := P) h3 (by rw [hrec]; simp); rw [this, hrec], ?_⟩
      exact hdone w.heap.size _ _ (Nat.le_refl _) (fun h => hTd h.1) ((World.putObj_heap_other (by omega)).trans hd2) (hTb _) (hkk _)
        (hI _ _ _ _ h2 ((Keeps.refl _ _).putObj (fun h => by rcases h with h | h; exact absurd rfl h.2; omega) _))
    · refine ⟨some c, _, by have := run_endLoop (P := P) h3 (by simp); rw [this], ?_⟩
      exact hstop w.heap.size c pre _ _ (Nat.le_refl _) (fun h => hTd h.1) ((World.putObj_heap_other (by omega)).trans hd2) (hTb _) (hkk _) hpre
        (hIx _ _ _ _ _ h2 ((Keeps.refl _ _).putObj (fun h => by rcases h with h | h; exact absurd rfl h.2; omega) _))

/-- **A RANGE OVER AN ITERATOR within a round of loop l₀.** -/
theorem range_innerR {l₀ : Nat} {r₀ : Loop} (hl₀ : w.heap[l₀]? = some (.loop r₀)) {gf : Nat} {lb : Array Value} (hg : a.eval g = .func (.func gf) #[] lb) (eg : ∀ args w, (callFunc gf args).run P w = .ok (.enter gf args) w)
    {encs : β → Array Value} {Rel : α → β → (Nat → Prop) → World → Prop} (hRel : RelOk Rel) {xs : List α} {D : Nat → Prop} (hit : IterR P gf lb encs Rel xs D w) (hD : ∀ k, D k → k < w.heap.size) (hps : ∀ x, (encs x).size = ps.size)
    (S0 : Nat → Prop) (hS0 : ∀ k, S0 k → k < w.heap.size ∧ ¬ D k)
    (I : List α → (Nat → Prop) → World → Prop) (Ix : Code → List α → (Nat → Prop) → World → Prop) (hI : Abides_ w.heap.size I) (hIx : ∀ c, Abides_ w.heap.size (Ix c)) (h0 : I [] S0 w)
    (a₁ : β → Nat → Act) (os : β → List Obj)
    (hassign : ∀ (l : Nat) (x : β) (W : World) (K : Act → World → Prop), K (a₁ x W.heap.size) (allocs W (os x)) →
      assign.wpIn (Fence.wide.inRound l) 0 P (Exit.then K (fun _ _ _ => False)) { tmps := (ps.zip (encs x)).foldl (fun t (p, v) => t.setIfInBounds p v) a.tmps, defers := [] } W)
    (hbody : ∀ (l : Nat) (pre : List α) (x : α) (post : List α) (b : β) (S : Nat → Prop) (W : World), xs = pre ++ x :: post → Rel x b S W → w.heap.size ≤ l → (∃ r, W.heap[l]? = some (.loop r)) → ¬ S l →
      (∀ k, S k → k < W.heap.size ∧ (S0 k ∨ w.heap.size ≤ k)) → Keeps (fun k => k < w.heap.size ∧ ¬ S0 k) w W → I pre S W →
      body.wpIn (Fence.wide.inRound l) 0 P (rpost I Ix (pre ++ [x]) S W) (a₁ b W.heap.size) (allocs W (os b)))
    (hdone : ∀ (S : Nat → Prop) (W : World), (∀ k, S k → k < W.heap.size ∧ (S0 k ∨ w.heap.size ≤ k)) →
      Keeps (fun k => k < w.heap.size ∧ ¬ S0 k) w W → I xs S W → Q .normal a W)
    (hstop : ∀ (c : Code) (pre : List α) (S : Nat → Prop) (W : World), (∀ k, S k → k < W.heap.size ∧ (S0 k ∨ w.heap.size ≤ k)) →
      Keeps (fun k => k < w.heap.size ∧ ¬ S0 k) w W → pre <+: xs → Ix c pre S W → c.wpIn (Fence.wide.inRound l₀) 0 P Q a W) :
    (Code.rangeFunc g ps assign body).wpIn (Fence.wide.inRound l₀) 0 P Q a w := by
  refine wpIn_rangeFunc ?_
  intro fn _
  obtain ⟨rec, hrec⟩ : ∃ rec : Loop, rec = { state := .ready, pending := none, fn, tmps := a.tmps, params := ps, assign, body, defers := r₀.defers } := ⟨_, rfl⟩
  obtain ⟨l, hl⟩ : ∃ l, l = w.heap.size := ⟨_, rfl⟩
  obtain ⟨W1, hW1⟩ : ∃ W1, w.alloc (.loop rec) = W1 := ⟨_, rfl⟩
  have hsz : W1.heap.size = w.heap.size + 1 := by rw [← hW1]; simp
  have hL1 : W1.heap[l]? = some (.loop rec) := by rw [← hW1, hl]; exact World.alloc_heap_new w _
  have hk1 : ∀ S : Nat → Prop, Keeps S w W1 := fun S => by rw [← hW1]; exact (Keeps.refl _ _).alloc _
  have hset : (fun k => (S0 k ∨ k = l) ∧ k ≠ l) = S0 := by
    funext k
    exact propext ⟨fun ⟨h, hne⟩ => h.resolve_right hne, fun h => ⟨.inl h, fun e => by have := (hS0 k h).1; omega⟩⟩
  refine ⟨l, [], W1, { target := .fn (.func gf) lb, args := #[.func (.yield l) #[] #[]] }, W1, gf, #[.func (.yield l) #[] #[]] ++ lb, W1, ?_, ?_, ?_, ?_, (fun h => by cases h), ?_⟩
  · rw [← hW1, hrec, hl]; exact run_enterLoop_inner hl₀ _ _ _ _ _
  · simp only [resolve, hg]
    simp [go_sem]
  · intro f' _; trivial
  · simp [invoke, go_sem, eg]
  refine CallsIn.inRound l₀ (callsIn_wide.2 ((hit l (fun k => S0 k ∨ k = l)
    (fun pre T W => T l ∧ I pre (fun k => T k ∧ k ≠ l) W ∧ W.heap[l]? = some (.loop rec))
    (fun pre T W => T l ∧ ∃ c, Ix c pre (fun k => T k ∧ k ≠ l) W ∧ W.heap[l]? = some (.loop { rec with state := .done, pending := some c }))
    W1 (hk1 _) ?_ ?_ ?_ ?_ ?_ ⟨.inr rfl, by rw [hset]; exact hI _ _ _ _ h0 (hk1 _), hL1⟩).mono ?_))
  · rintro k (h | h)
    · have := (hS0 k h).1; omega
    · omega
  · rintro k (h | h) hd
    · exact (hS0 k h).2 hd
    · have := hD k hd; omega
  · rintro pre T A B ⟨h1, h2, h3⟩ hk
    exact ⟨h1, hI _ _ _ _ h2 (hk.mono (fun k h _ => by rcases h with ⟨h, _⟩ | h; exact .inl h; exact .inr (by omega))), hk.at_ h3 (.inl h1)⟩
  · rintro pre T A B ⟨h1, c, h2, h3⟩ hk
    exact ⟨h1, c, hIx _ _ _ _ _ h2 (hk.mono (fun k h _ => by rcases h with ⟨h, _⟩ | h; exact .inl h; exact .inr (by omega))), hk.at_ h3 (.inl h1)⟩
  · rintro pre x post b T W hx hRl ⟨h1, h2, h3⟩ hkW hT
    have hT' : (fun k => (T k ∧ k ≠ l) ∨ k = l) = T := by
      funext k
      exact propext ⟨fun h => by rcases h with h | h; exact h.1; exact h ▸ h1, fun h => by by_cases e : k = l; exact .inr e; exact .inl ⟨h, e⟩⟩
    have := round_yields (α := α × β) (P := P) (a := a) (rec := rec) (l := l) (by rw [hrec]) (by rw [hrec]) (by rw [hrec]) (by rw [hrec]) (by rw [hrec]) (by rw [hrec]) (encs := fun y => encs y.2) (fun y => hps y.2) (fun y => a₁ y.2) (fun y => os y.2) (B := w.heap.size) (fun l y => hassign l y.2)
      (fun p => I (p.map Prod.fst)) (fun c p => Ix c (p.map Prod.fst)) (fun p => hI _) (fun c p => hIx c _) (by omega)
      (pre.map fun y => (y, b)) (x, b) (fun k => T k ∧ k ≠ l) W (fun h => h.2 rfl) h3 (by rw [map_pair]; exact h2) ?_
    · rw [hT'] at this
      refine this.mono (fun e W' h => ?_)
      obtain ⟨S', hs1, hs2, hs3⟩ := h
      refine ⟨S', hs1, hs2, ?_⟩
      simpa only [List.map_append, map_pair, List.map_cons, List.map_nil] using hs3
    · intro Wb hkb hsb hlb hib
      rw [map_pair] at hib
      rw [rpost_map, List.map_append, map_pair]
      refine hbody l pre x post b _ Wb hx (hRel x b T _ W Wb hRl (fun k h => h.1) (hkb.mono (fun k h _ e => h (e ▸ h1)))) (by omega) hlb (fun h => h.2 rfl) ?_ ?_ hib
      · rintro k ⟨h, hne⟩
        obtain ⟨h4, h5⟩ := hT k h
        refine ⟨by omega, ?_⟩
        rcases h5 with h5 | h5
        · exact .inl (h5.resolve_right hne)
        · exact .inr (by omega)
      · exact ((hk1 _).trans (hkW.mono (fun k h _ => ⟨by omega, fun h' => by rcases h' with h' | h'; exact h.2 h'; omega⟩))).trans (hkb.mono (fun k h _ e => by omega))
  · rintro e W2 ⟨⟨v, rfl⟩, hkW, T, hT, hend⟩
    have hk2 : Keeps (fun k => k < w.heap.size ∧ ¬ S0 k) w W2 := (hk1 _).trans (hkW.mono (fun k h _ => ⟨by omega, fun h' => by rcases h' with h' | h'; exact h.2 h'; omega⟩))
    have hTb : ∀ (o : Obj) (k : Nat), T k ∧ k ≠ l → k < (W2.putObj l o).heap.size ∧ (S0 k ∨ w.heap.size ≤ k) := fun o k h => by
      obtain ⟨h4, h5⟩ := hT k h.1
      refine ⟨by rw [World.putObj_size]; exact h4, ?_⟩
      rcases h5 with h5 | h5
      · exact .inl (h5.resolve_right h.2)
      · exact .inr (by omega)
    have hkk : ∀ o, Keeps (fun k => k < w.heap.size ∧ ¬ S0 k) w (W2.putObj l o) := fun o => hk2.putObj (fun h => by omega) o
    rcases hend with ⟨h1, h2, h3⟩ | ⟨pre, hpre, h1, c, h2, h3⟩
    · refine ⟨none, _, by have := run_endLoop (P := P) h3 (by rw [hrec]; simp); rw [this, hrec], ?_⟩
      exact hdone _ _ (hTb _) (hkk _)
        (hI _ _ _ _ h2 ((Keeps.refl _ _).putObj (fun h => by rcases h with h | h; exact absurd rfl h.2; omega) _))
    · refine ⟨some c, _, by have := run_endLoop (P := P) h3 (by simp); rw [this], ?_⟩
      exact hstop c pre _ _ (hTb _) (hkk _) hpre
        (hIx _ _ _ _ _ h2 ((Keeps.refl _ _).putObj (fun h => by rcases h with h | h; exact absurd rfl h.2; omega) _))
/-- As 'range_outerR': the slots that the assignment writes. -/
theorem range_outerU {gf : Nat} {lb : Array Value} (hg : a.eval g = .func (.func gf) #[] lb) (eg : ∀ args w, (callFunc gf args).run P w = .ok (.enter gf args) w)
    {encs : β → Array Value} {Rel : α → β → (Nat → Prop) → World → Prop} (hRel : RelOk Rel) {xs : List α} {D : Nat → Prop} (hit : IterR P gf lb encs Rel xs D w) (hD : ∀ k, D k → k < w.heap.size) (hps : ∀ x, (encs x).size = ps.size)
    (S0 : Nat → Prop) (hS0 : ∀ k, S0 k → k < w.heap.size ∧ ¬ D k)
    (I : List α → (Nat → Prop) → World → Prop) (Ix : Code → List α → (Nat → Prop) → World → Prop) (hI : Abides_ w.heap.size I) (hIx : ∀ c, Abides_ w.heap.size (Ix c)) (h0 : I [] S0 w)
    (ups : β → Nat → List (Nat × Value)) (os : β → List Obj)
    (hassign : ∀ (l : Nat) (x : β) (W : World) (K : Act → World → Prop), K { tmps := slotsSet ((ps.zip (encs x)).foldl (fun t (p, v) => t.setIfInBounds p v) a.tmps) (ups x W.heap.size), defers := [] } (allocs W (os x)) →
      assign.wpIn (Fence.wide.inRound l) 0 P (Exit.then K (fun _ _ _ => False)) { tmps := (ps.zip (encs x)).foldl (fun t (p, v) => t.setIfInBounds p v) a.tmps, defers := [] } W)
    (hbody : ∀ (l : Nat) (pre : List α) (x : α) (post : List α) (b : β) (S : Nat → Prop) (W : World), xs = pre ++ x :: post → Rel x b S W → w.heap.size ≤ l → (∃ r, W.heap[l]? = some (.loop r)) → ¬ S l →
      (∀ k, S k → k < W.heap.size ∧ (S0 k ∨ w.heap.size ≤ k)) → Keeps (fun k => k < w.heap.size ∧ ¬ S0 k) w W → I pre S W →
      body.wpIn (Fence.wide.inRound l) 0 P (rpost I Ix (pre ++ [x]) S W) ({ tmps := slotsSet ((ps.zip (encs b)).foldl (fun t (p, v) => t.setIfInBounds p v) a.tmps) (ups b W.heap.size), defers := [] }) (allocs W (os b)))
    (hdone : ∀ (d : Nat) (S : Nat → Prop) (W : World), w.heap.size ≤ d → ¬ S d → W.heap[d]? = some (.deferred (some [])) → (∀ k, S k → k < W.heap.size ∧ (S0 k ∨ w.heap.size ≤ k)) →
      Keeps (fun k => k < w.heap.size ∧ ¬ S0 k) w W → I xs S W → Q .normal { a with defers := { target := .collected d, args := #[] } :: a.defers } W)
    (hstop : ∀ (d : Nat) (c : Code) (pre : List α) (S : Nat → Prop) (W : World), w.heap.size ≤ d → ¬ S d → W.heap[d]? = some (.deferred (some [])) → (∀ k, S k → k < W.heap.size ∧ (S0 k ∨ w.heap.size ≤ k)) →
      Keeps (fun k => k < w.heap.size ∧ ¬ S0 k) w W → pre <+: xs → Ix c pre S W → c.wpIn Fence.wide 0 P Q { a with defers := { target := .collected d, args := #[] } :: a.defers } W) :
    (Code.rangeFunc g ps assign body).wpIn Fence.wide 0 P Q a w :=
  range_outerR hg eg hRel hit hD hps S0 hS0 I Ix hI hIx h0 (fun b n => { tmps := slotsSet ((ps.zip (encs b)).foldl (fun t (p, v) => t.setIfInBounds p v) a.tmps) (ups b n), defers := [] }) os hassign hbody hdone hstop

/-- As 'range_innerR': the slots that the assignment writes. -/
theorem range_innerU {l₀ : Nat} {r₀ : Loop} (hl₀ : w.heap[l₀]? = some (.loop r₀)) {gf : Nat} {lb : Array Value} (hg : a.eval g = .func (.func gf) #[] lb) (eg : ∀ args w, (callFunc gf args).run P w = .ok (.enter gf args) w)
    {encs : β → Array Value} {Rel : α → β → (Nat → Prop) → World → Prop} (hRel : RelOk Rel) {xs : List α} {D : Nat → Prop} (hit : IterR P gf lb encs Rel xs D w) (hD : ∀ k, D k → k < w.heap.size) (hps : ∀ x, (encs x).size = ps.size)
    (S0 : Nat → Prop) (hS0 : ∀ k, S0 k → k < w.heap.size ∧ ¬ D k)
    (I : List α → (Nat → Prop) → World → Prop) (Ix : Code → List α → (Nat → Prop) → World → Prop) (hI : Abides_ w.heap.size I) (hIx : ∀ c, Abides_ w.heap.size (Ix c)) (h0 : I [] S0 w)
    (ups : β → Nat → List (Nat × Value)) (os : β → List Obj)
    (hassign : ∀ (l : Nat) (x : β) (W : World) (K : Act → World → Prop), K { tmps := slotsSet ((ps.zip (encs x)).foldl (fun t (p, v) => t.setIfInBounds p v) a.tmps) (ups x W.heap.size), defers := [] } (allocs W (os x)) →
      assign.wpIn (Fence.wide.inRound l) 0 P (Exit.then K (fun _ _ _ => False)) { tmps := (ps.zip (encs x)).foldl (fun t (p, v) => t.setIfInBounds p v) a.tmps, defers := [] } W)
    (hbody : ∀ (l : Nat) (pre : List α) (x : α) (post : List α) (b : β) (S : Nat → Prop) (W : World), xs = pre ++ x :: post → Rel x b S W → w.heap.size ≤ l → (∃ r, W.heap[l]? = some (.loop r)) → ¬ S l →
      (∀ k, S k → k < W.heap.size ∧ (S0 k ∨ w.heap.size ≤ k)) → Keeps (fun k => k < w.heap.size ∧ ¬ S0 k) w W → I pre S W →
      body.wpIn (Fence.wide.inRound l) 0 P (rpost I Ix (pre ++ [x]) S W) ({ tmps := slotsSet ((ps.zip (encs b)).foldl (fun t (p, v) => t.setIfInBounds p v) a.tmps) (ups b W.heap.size), defers := [] }) (allocs W (os b)))
    (hdone : ∀ (S : Nat → Prop) (W : World), (∀ k, S k → k < W.heap.size ∧ (S0 k ∨ w.heap.size ≤ k)) →
      Keeps (fun k => k < w.heap.size ∧ ¬ S0 k) w W → I xs S W → Q .normal a W)
    (hstop : ∀ (c : Code) (pre : List α) (S : Nat → Prop) (W : World), (∀ k, S k → k < W.heap.size ∧ (S0 k ∨ w.heap.size ≤ k)) →
      Keeps (fun k => k < w.heap.size ∧ ¬ S0 k) w W → pre <+: xs → Ix c pre S W → c.wpIn (Fence.wide.inRound l₀) 0 P Q a W) :
    (Code.rangeFunc g ps assign body).wpIn (Fence.wide.inRound l₀) 0 P Q a w :=
  range_innerR hl₀ hg eg hRel hit hD hps S0 hS0 I Ix hI hIx h0 (fun b n => { tmps := slotsSet ((ps.zip (encs b)).foldl (fun t (p, v) => t.setIfInBounds p v) a.tmps) (ups b n), defers := [] }) os hassign hbody hdone hstop

end
end Go.Proofs.Ytafhdamdkefpkaa

/- Rows that are read out of a block that is known whole. -/
import Derived.Test.YtafhdamdkefpkaaGiven
namespace Go.Proofs.Ytafhdamdkefpkaa
open Go.RowKit Go.Proofs.YtafhdamdkefpkaaW.PrintWords Go.Proofs.YtafhdamdkefpkaaW.PrintLast Go.Proofs.YtafhdamdkefpkaaW.PrintMore Go.Proofs.Ytafhdamdkefpkaa.PPrep
set_option linter.unusedVariables false
set_option linter.unusedSimpArgs false

theorem Reps_cons {α : Type} {R : α → List Value → Prop} {size : Nat} {ps : List α} {cs c : List Value} {p : α} (hp : R p c) (hc : c.length = size) (h : Reps R size ps cs) : Reps R size (p :: ps) (c ++ cs) := by
  refine ⟨by rw [List.length_append, h.1, hc, List.length_cons, Nat.add_mul, Nat.one_mul, Nat.add_comm], fun j q hq => ?_⟩
  cases j with
  | zero =>
    simp only [List.getElem?_cons_zero, Option.some.injEq] at hq
    subst hq
    rw [Nat.zero_mul, List.drop_zero, ← hc, List.take_left]
    exact hp
  | succ j =>
    rw [List.getElem?_cons_succ] at hq
    have := h.2 j q hq
    rw [Nat.add_mul, Nat.one_mul, Nat.add_comm, ← hc, List.drop_length_add_append]
    rw [← hc] at this
    exact this
theorem C_of_block {α : Type} (d : Kd α) {W : World} {b : Nat} {cs : Array Value} {e : TypeId} (hb : W.heap[b]? = some (.cells cs e (0, 0))) (xs : List α) (hr : Reps (d.K W) d.sz xs cs.toList) (hn : xs.length ≤ 1000000000) : d.C W (some ⟨b, 0, none⟩) xs.length xs := by
  refine ⟨rfl, by omega, fun _ => ⟨_, rfl, fun j p hj => ?_⟩⟩
  have hjl : j < xs.length := (List.getElem?_eq_some_iff.1 hj).1
  have hk := hr.2 j p hj
  refine ⟨_, d.K_len hk, hk, fun i u hu => ?_⟩
  have hi : i < d.sz := by
    have := (List.getElem?_eq_some_iff.1 hu).1
    rw [d.K_len hk] at this
    exact this
  rw [List.getElem?_take_of_lt hi, List.getElem?_drop] at hu
  have := blk_cell_ hb (j * d.sz + i)
  rw [show (⟨b, 0, none⟩ : Addr).add (j * d.sz + i) = ⟨b, j * d.sz + i, none⟩ from by simp [Addr.add] <;> omega]
  rw [this]
  simpa using hu
theorem C_bid1 {W : World} {b : Nat} {a p : Int} (hb : W.heap[b]? = some (.cells #[.int .u64 a, .int .i64 p] 40 (0, 0))) : k40.C W (some ⟨b, 0, none⟩) 1 [(⟨a, p⟩ : S40)] :=
  C_of_block k40 hb [⟨a, p⟩] (Reps_cons (c := [.int .u64 a, .int .i64 p]) (k40_mk W ⟨a, p⟩) rfl (Reps.none _ _)) (by simp)
theorem C_bid3 {W : World} {b : Nat} {a p a' p' a'' p'' : Int} (hb : W.heap[b]? = some (.cells #[.int .u64 a, .int .i64 p, .int .u64 a', .int .i64 p', .int .u64 a'', .int .i64 p''] 40 (0, 0))) : k40.C W (some ⟨b, 0, none⟩) 3 [(⟨a, p⟩ : S40), ⟨a', p'⟩, ⟨a'', p''⟩] :=
  C_of_block k40 hb [⟨a, p⟩, ⟨a', p'⟩, ⟨a'', p''⟩] (Reps_cons (c := [.int .u64 a, .int .i64 p]) (k40_mk W ⟨a, p⟩) rfl (Reps_cons (c := [.int .u64 a', .int .i64 p']) (k40_mk W ⟨a', p'⟩) rfl (Reps_cons (c := [.int .u64 a'', .int .i64 p'']) (k40_mk W ⟨a'', p''⟩) rfl (Reps.none _ _)))) (by simp)
theorem K_slice {α : Type} {d : Kd α} {W : World} {A : Option Addr} {xs : List α} {c : Nat} (e : Nat) (hc : xs.length ≤ c) (h : d.C W A xs.length xs) : (Kd.slice e d).K W xs [.slice A xs.length c] := ⟨A, c, rfl, hc, h⟩
end Go.Proofs.Ytafhdamdkefpkaa

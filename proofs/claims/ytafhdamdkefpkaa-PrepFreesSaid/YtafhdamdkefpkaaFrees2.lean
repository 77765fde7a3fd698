/- The law PrepFrees returns true, for every input. -/
import Derived.Test.YtafhdamdkefpkaaFrees
import Derived.Test.YtafhdamdkefpkaaRow
namespace Go.Proofs.Ytafhdamdkefpkaa
open Go.RowKit Go.Proofs.YtafhdamdkefpkaaW.PrintWords Go.Proofs.YtafhdamdkefpkaaW.PrintLast Go.Proofs.YtafhdamdkefpkaaW.PrintMore Go.Proofs.Ytafhdamdkefpkaa.PPrep
attribute [local go_sem] max2_int min2_int max_two min_two Oper.semAt_some
set_option linter.unusedVariables false
set_option linter.unusedSimpArgs false

set_option maxRecDepth 100000 in
set_option maxHeartbeats 4000000 in
theorem frees_big (A0 : Option Addr) (c0 : Nat) (xs : List S40) (free most : Int) (w : World) (hl : 60 < xs.length) :
    Calls Try.prog 5 #[.slice A0 xs.length c0, .int .u64 free, .int .i64 most] w fun e w' => e = .returned (.bool true) ∧ Below w.heap.size w w' := by
  have clen : decide ((xs.length : Int) > 60) = true := decide_eq_true (by omega)
  clear hl
  refine (callsIn_wide (n := 0)).1 ?_
  refine callsIn_of_wp_marks Try.func5 rfl trivial ?_ rfl
  simp only [Try.ntmps5, List.size_toArray, List.length_cons, List.length_nil, Nat.reduceAdd, Nat.reduceSub, Array.replicate_succ, Array.replicate_zero, List.push_toArray, List.append_toArray, List.nil_append, List.cons_append]
  refine wpIn_wide.2 ?_
  go_wp2_with fail
  obtain ⟨W1, hW1⟩ : ∃ W1, W1 = allocs w [.cells #[.slice A0 xs.length c0] 37, .cells #[.int .i64 most] 3, .cells #[.bool false] 4] := ⟨_, rfl⟩
  have hG : FrG w A0 xs.length c0 w.heap.size most W1 := by
    rw [hW1]
    exact ⟨(allocs_keeps (fun _ => True) w _).below (fun _ _ => trivial) (Nat.le_refl _), allocs_at _ w 0 _ rfl, allocs_at _ w 1 _ rfl, allocs_at _ w 2 _ rfl⟩
  change Calls _ _ _ (allocs w [_, _, _]) _
  rw [← hW1]
  clear hW1
  obtain ⟨b, hb⟩ : ∃ b, b = w.heap.size := ⟨_, rfl⟩
  rw [← hb] at hG ⊢
  rw [show b + 1 + 1 = b + 2 from rfl]
  have HBW := Aside0.mk hb
  clear hb
  refine (saleroomlaw14_alive.calls true W1 rfl).mono ?_
  rintro e W2 ⟨rfl, hb2⟩
  have HG := Aside0.mk (hG.step hb2)
  clear hG hb2
  have c3 := blk_cell_ HG.out.e3 0
  have c6 := blk_cell_ HG.out.e6 0
  have f6 := blk_frozen HG.out.e6 0
  go_wp2_with fail
  have hcell : (W2.setCell ⟨b + 2, 0, none⟩ (.bool true)).cell? ⟨b + 2, 0, none⟩ = some (.bool true) := blk_cell_ (set_at HG.out.e6 0 (.bool true)) 0
  have hbel : Below w.heap.size w (W2.setCell ⟨b + 2, 0, none⟩ (.bool true)) := HG.out.below.trans ((((Keeps.refl (fun k => k ≠ b + 2) _).setCell (fun h => absurd rfl h) _)).below (fun k hk => by have := HBW.out; omega) HG.out.below.size)
  generalize W2.setCell ⟨b + 2, 0, none⟩ (.bool true) = Ws at hcell hbel ⊢
  refine ⟨.bool true, by simp [results, Try.results5, go_sem, hcell], rfl, hbel⟩
theorem frees_walk (A0 : Option Addr) (c0 : Nat) (xs : List S40) (free most : Int) (w : World) (hC : Kd.C k40 w A0 xs.length xs) (hc0 : xs.length ≤ c0) (hv : ∀ x ∈ xs, WfI .u64 x.f0 ∧ WfI .i64 x.f1) (hf : (Lit.int .u64 free).wf = true) :
    Calls Try.prog 5 #[.slice A0 xs.length c0, .int .u64 free, .int .i64 most] w fun e w' => e = .returned (.bool true) ∧ Below w.heap.size w w' := by
  by_cases hl : xs.length ≤ 60
  · exact frees_any A0 c0 xs free most w hC hc0 hl (fun x hx => u64_of_wf (hv x hx).1) (u64_of_wf hf)
  · exact frees_big A0 c0 xs free most w (by omega)
end Go.Proofs.Ytafhdamdkefpkaa

/- The law PrepGroups returns true, for every input. -/
import Derived.Test.YtafhdamdkefpkaaGroupsL
import Derived.Test.YtafhdamdkefpkaaRow
namespace Go.Proofs.Ytafhdamdkefpkaa
open Go.RowKit Go.Proofs.YtafhdamdkefpkaaW.PrintWords Go.Proofs.YtafhdamdkefpkaaW.PrintLast Go.Proofs.YtafhdamdkefpkaaW.PrintMore Go.Proofs.Ytafhdamdkefpkaa.PPrep
attribute [local go_sem] max2_int min2_int max_two min_two Oper.semAt_some
set_option linter.unusedVariables false
set_option linter.unusedSimpArgs false

set_option maxRecDepth 100000 in
set_option maxHeartbeats 4000000 in
theorem groupsL_big (A0 : Option Addr) (c0 : Nat) (xss : List (List S40)) (most : Int) (w : World) (hC : Kd.C (Kd.slice 40 k40) w A0 xss.length xss) (hc0 : xss.length ≤ c0) (hn : ¬ (xss.length ≤ 12 ∧ ∀ xs ∈ xss, xs.length ≤ 20)) :
    Calls Try.prog 6 #[.slice A0 xss.length c0, .int .i64 most] w fun e w' => e = .returned (.bool true) ∧ Below w.heap.size w w' := by
  have HC := Aside0.mk hC
  obtain ⟨kf, hkf⟩ : ∃ k, saleroomref14_Few.f k xss 12 20 = some false := by
    by_cases c : xss.length ≤ 12
    · obtain ⟨k, h⟩ := (few_f xss 12 20 (by omega)).rounds
      have hf : (decide (xss.length ≤ 12) && xss.all fun xs => decide (xs.length ≤ 20)) = false := by
        rw [Bool.eq_false_iff]
        intro h
        rw [Bool.and_eq_true] at h
        exact hn ⟨c, fun xs hx => of_decide_eq_true (List.all_eq_true.1 h.2 xs hx)⟩
      rw [hf] at h
      exact ⟨k, h⟩
    · exact ⟨0, by unfold saleroomref14_Few.f; rw [if_pos (by omega)]⟩
  have CFW := Aside0.mk (fun W h => saleroomref14_Few.calls kf A0 c0 xss 12 20 false W h hc0 hkf)
  clear hC hkf hn
  refine (callsIn_wide (n := 0)).1 ?_
  refine callsIn_of_wp_marks Try.func6 rfl trivial ?_ rfl
  simp only [Try.ntmps6, List.size_toArray, List.length_cons, List.length_nil, Nat.reduceAdd, Nat.reduceSub, Array.replicate_succ, Array.replicate_zero, List.push_toArray, List.append_toArray, List.nil_append, List.cons_append]
  refine wpIn_wide.2 ?_
  go_wp2_with fail
  obtain ⟨W1, hW1⟩ : ∃ W1, W1 = allocs w [.cells #[.slice A0 xss.length c0] 34, .cells #[.int .i64 most] 3, .cells #[.bool false] 4] := ⟨_, rfl⟩
  have hG : GrG w A0 xss.length c0 w.heap.size most W1 := by
    rw [hW1]
    exact ⟨(allocs_keeps (fun _ => True) w _).below (fun _ _ => trivial) (Nat.le_refl _), allocs_at _ w 0 _ rfl, allocs_at _ w 1 _ rfl, allocs_at _ w 2 _ rfl⟩
  change Calls _ _ _ (allocs w [_, _, _]) _
  rw [← hW1]
  clear hW1
  obtain ⟨b, hb⟩ : ∃ b, b = w.heap.size := ⟨_, rfl⟩
  rw [← hb] at hG ⊢
  rw [show b + 1 + 1 = b + 2 from rfl]
  have HBW := Aside0.mk hb
  clear hb
  refine (saleroomlaw14_alive.calls true W1 rfl).mono ?_
  rintro e W2 ⟨rfl, hb2⟩
  have HG := Aside0.mk (hG.step hb2)
  clear hG hb2
  have c3 := blk_cell_ HG.out.e2 0
  have HCW := Aside0.mk (Kd.C_below HC.out HG.out.below)
  go_wp2_with fail
  refine (CFW.out _ HCW.out).mono ?_
  rintro e W3 ⟨rfl, hd3⟩
  have hb3 := hd3.below
  have HG3 := Aside0.mk (HG.out.step hb3)
  clear HG HCW hb3 hd3 CFW c3
  have c6 := blk_cell_ HG3.out.e4 0
  have f6 := blk_frozen HG3.out.e4 0
  go_wp2_with fail
  have hcell : (W3.setCell ⟨b + 2, 0, none⟩ (.bool true)).cell? ⟨b + 2, 0, none⟩ = some (.bool true) := blk_cell_ (set_at HG3.out.e4 0 (.bool true)) 0
  have hbel : Below w.heap.size w (W3.setCell ⟨b + 2, 0, none⟩ (.bool true)) := HG3.out.below.trans ((((Keeps.refl (fun k => k ≠ b + 2) _).setCell (fun h => absurd rfl h) _)).below (fun k hk => by have := HBW.out; omega) HG3.out.below.size)
  generalize W3.setCell ⟨b + 2, 0, none⟩ (.bool true) = Ws at hcell hbel ⊢
  refine ⟨.bool true, by simp [results, Try.results6, go_sem, hcell], rfl, hbel⟩
theorem groupsL_walk (A0 : Option Addr) (c0 : Nat) (xss : List (List S40)) (most : Int) (w : World) (hC : Kd.C (Kd.slice 40 k40) w A0 xss.length xss) (hc0 : xss.length ≤ c0) (hv : ∀ xs ∈ xss, ∀ x ∈ xs, WfI .u64 x.f0 ∧ WfI .i64 x.f1) :
    Calls Try.prog 6 #[.slice A0 xss.length c0, .int .i64 most] w fun e w' => e = .returned (.bool true) ∧ Below w.heap.size w w' := by
  by_cases hn : xss.length ≤ 12 ∧ ∀ xs ∈ xss, xs.length ≤ 20
  · exact groupsL_any A0 c0 xss most w hC hc0 hn.1 hn.2 (fun xs h x hx => u64_of_wf (hv xs h x hx).1)
  · exact groupsL_big A0 c0 xss most w hC hc0 hn
end Go.Proofs.Ytafhdamdkefpkaa

/- The law's examples (alive) hold. -/
import Derived.Test.YtafhdamdkefpkaaLit
import Derived.Test.YtafhdamdkefpkaaPrepAll
import Derived.Test.YtafhdamdkefpkaaPlClean
namespace Go.Proofs.Ytafhdamdkefpkaa.PPrep
open Go.RowKit Go.Proofs.YtafhdamdkefpkaaW.PrintWords Go.Proofs.YtafhdamdkefpkaaW.PrintLast Go.Proofs.YtafhdamdkefpkaaW.PrintMore Go.Proofs.Ytafhdamdkefpkaa
attribute [local go_sem] max2_int min2_int max_two min_two Oper.semAt_some
set_option linter.unusedVariables false
set_option linter.unusedSimpArgs false
def exA : List S40 := [⟨1, 5⟩, ⟨3, 5⟩, ⟨2, 3⟩]

theorem exA_u : ∀ x ∈ exA, U64B x := by
  intro x hx
  simp only [exA, List.mem_cons, List.not_mem_nil, or_false] at hx
  rcases hx with rfl | rfl | rfl <;> exact ⟨by decide, by decide⟩
theorem exA_one : oneL exA = [⟨1, 5⟩, ⟨2, 3⟩] := by
  unfold oneL grL
  rw [show (exA.foldl gstep []).map toS = [⟨1, 5⟩, ⟨2, 3⟩, ⟨3, 5⟩] from by rfl]
  rw [List.mergeSort_of_pairwise (by decide +kernel)]
  rfl
theorem exA_best2 : freeL exA 2 = [(2, ⟨2, 3⟩)] := by rfl
theorem exA_free2 : bestF [(2, ⟨2, 3⟩)] = (⟨2, 3⟩, true) := by rfl
theorem exA_best4 : freeL exA 4 = [] := by rfl
theorem exA_free4 : bestF [] = (z40, false) := by rfl

theorem nil_seq (f : Fn) (caps : Array Value) (W : World) : (binOp .eql 62 (.func f #[] caps) .nilFunc).run Try.prog W = .ok (.bool false) W := by kernel_rfl
theorem nil_seq2 (f : Fn) (caps : Array Value) (W : World) : (binOp .eql 54 (.func f #[] caps) .nilFunc).run Try.prog W = .ok (.bool false) W := by kernel_rfl

def exG : List (List S40) := [[⟨3, 0⟩], [⟨6, 0⟩], [⟨16, 0⟩]]
theorem exG_groups : groupsL exG = [[0, 1], [2]] := by decide +kernel

theorem exA_free3 : freeL exA 3 = [(0, ⟨1, 5⟩), (1, ⟨3, 5⟩), (2, ⟨2, 3⟩)] := by rfl

/-- What lies in memory when the law's examples are asked. -/
structure GoodA (w : World) (wb g3 nb kb d d2 gA : Nat) (W : World) : Prop where
  below : Below w.heap.size w W
  e : W.heap[wb]? = some (.cells #[.int .u64 1, .int .i64 5, .int .u64 3, .int .i64 5, .int .u64 2, .int .i64 3] 40 (0, 0))
  f : W.heap[g3]? = some (.cells #[.int .u64 2, .int .i64 3] 40 (0, 0))
  n : W.heap[nb]? = some (.cells #[.int .i64 2] 3 (0, 0))
  k : W.heap[kb]? = some (.cells #[.int .i64 3] 3 (0, 0))
  d1 : W.heap[d]? = some (.deferred (some []))
  d2 : W.heap[d2]? = some (.deferred (some []))
  a0 : W.cell? ⟨gA, 2, none⟩ = some (.int .u64 2)
  a1 : W.cell? ⟨gA, 3, none⟩ = some (.int .i64 3)
theorem GoodA.step {w : World} {wb g3 nb kb d d2 gA : Nat} {W W' : World} (h : GoodA w wb g3 nb kb d d2 gA W) (hb : Below W.heap.size W W') : GoodA w wb g3 nb kb d d2 gA W' :=
  ⟨below_step h.below hb, (hb.block _ (lt_of_heap h.e)).trans h.e, (hb.block _ (lt_of_heap h.f)).trans h.f, (hb.block _ (lt_of_heap h.n)).trans h.n, (hb.block _ (lt_of_heap h.k)).trans h.k,
   (hb.block _ (lt_of_heap h.d1)).trans h.d1, (hb.block _ (lt_of_heap h.d2)).trans h.d2, pw_cell_below hb h.a0, pw_cell_below hb h.a1⟩
theorem GoodA.cells {w : World} {wb g3 nb kb d d2 gA : Nat} {W : World} (h : Aside0 (GoodA w wb g3 nb kb d d2 gA W)) : Aside0 (GoodA w wb g3 nb kb d d2 gA W) ∧ W.cell? ⟨wb, 0, none⟩ = some (.int .u64 1) ∧ W.cell? ⟨wb, 1, none⟩ = some (.int .i64 5) ∧ W.cell? ⟨wb, 4, none⟩ = some (.int .u64 2) ∧ W.cell? ⟨wb, 5, none⟩ = some (.int .i64 3) ∧
    W.cell? ⟨g3, 0, none⟩ = some (.int .u64 2) ∧ W.cell? ⟨g3, 1, none⟩ = some (.int .i64 3) ∧ W.cell? ⟨nb, 0, none⟩ = some (.int .i64 2) ∧ W.cell? ⟨kb, 0, none⟩ = some (.int .i64 3) ∧ W.cell? ⟨gA, 2, none⟩ = some (.int .u64 2) ∧ W.cell? ⟨gA, 3, none⟩ = some (.int .i64 3) :=
  ⟨h, blk_cell_ h.out.e 0, blk_cell_ h.out.e 1, blk_cell_ h.out.e 4, blk_cell_ h.out.e 5, blk_cell_ h.out.f 0, blk_cell_ h.out.f 1, blk_cell_ h.out.n 0, blk_cell_ h.out.k 0, h.out.a0, h.out.a1⟩
theorem alloc_heap_drew (W : World) (o : Obj) : (W.alloc o).drew.heap[W.heap.size]? = some o := World.alloc_heap_new W o
theorem alive_clean (W : World) (wb hh : Nat) (he : W.heap[wb]? = some (.cells #[.int .u64 1, .int .i64 5, .int .u64 3, .int .i64 5, .int .u64 2, .int .i64 3] 40 (0, 0))) (h : W.heap[hh]? = some (.cells #[.slice (some ⟨wb, 0, none⟩) 3 3, .slice none 0 0] 37 (0, 0))) :
    Calls Try.prog 21 #[.slice (some ⟨hh, 0, none⟩) 2 2] W fun e W' => ∃ A c, e = .returned (.slice A 2 c) ∧ Below W.heap.size W W' := by
  have hC : Kd.C (Kd.slice 40 k40) W (some ⟨hh, 0, none⟩) [exA, []].length [exA, []] := C_of_block _ h [exA, []] (Reps_cons (K_slice 40 (by decide) (C_bid3 he)) rfl (Reps_cons (K_slice 40 (Nat.zero_le _) (Kd.C_nil _ _)) rfl (Reps.none _ _))) (by decide)
  refine (prep_Clean.calls 3 _ 2 [exA, []] _ W hC (by decide) (clean_f [exA, []] (by decide) (by decide) 3 (by decide))).mono ?_
  rintro e W' ⟨v, rfl, hR, hb⟩
  obtain ⟨A, c, e1⟩ := Kd.S_slice hR
  exact ⟨A, c, by rw [e1]; rfl, hb⟩
theorem alive_union (W : World) (wb hh : Nat) (he : W.heap[wb]? = some (.cells #[.int .u64 1, .int .i64 5, .int .u64 3, .int .i64 5, .int .u64 2, .int .i64 3] 40 (0, 0))) (h : W.heap[hh]? = some (.cells #[.slice (some ⟨wb, 0, none⟩) 3 3] 37 (0, 0))) :
    Calls Try.prog 24 #[.slice (some ⟨hh, 0, none⟩) 1 1] W fun e W' => e = .returned (.int .u64 3) ∧ Below W.heap.size W W' := by
  have hC : Kd.C (Kd.slice 40 k40) W (some ⟨hh, 0, none⟩) [exA].length [exA] := C_of_block _ h [exA] (Reps_cons (K_slice 40 (by decide) (C_bid3 he)) rfl (Reps.none _ _)) (by decide)
  exact prep_Union.calls _ 1 [exA] 3 W hC (by decide) (by rfl)
theorem alive_count (W : World) (wb hh : Nat) (he : W.heap[wb]? = some (.cells #[.int .u64 1, .int .i64 5, .int .u64 3, .int .i64 5, .int .u64 2, .int .i64 3] 40 (0, 0))) (h : W.heap[hh]? = some (.cells #[.slice (some ⟨wb, 0, none⟩) 3 3, .slice (some ⟨wb, 0, none⟩) 3 3] 37 (0, 0))) :
    Calls Try.prog 23 #[.slice (some ⟨hh, 0, none⟩) 2 2] W fun e W' => e = .returned (.int .i64 6) ∧ Below W.heap.size W W' := by
  have hC : Kd.C (Kd.slice 40 k40) W (some ⟨hh, 0, none⟩) [exA, exA].length [exA, exA] := C_of_block _ h [exA, exA] (Reps_cons (K_slice 40 (by decide) (C_bid3 he)) rfl (Reps_cons (K_slice 40 (by decide) (C_bid3 he)) rfl (Reps.none _ _))) (by decide)
  exact prep_Count.calls _ 2 [exA, exA] 6 W hC (by decide) (by rfl)

def saleroomlaw14_alive.f : Option Bool := some true
set_option maxRecDepth 100000 in
set_option maxHeartbeats 4000000 in
theorem alive_true (w : World) : Calls Try.prog 12 #[] w fun e w' => e = .returned (.bool true) ∧ Below w.heap.size w w' := by
  have hu40 := Try.underlying40
  have nq1 := fun (f : Fn) (caps : Array Value) (W : World) => nil_seq f caps W
  have nq2 := fun (f : Fn) (caps : Array Value) (W : World) => nil_seq2 f caps W
  refine (callsIn_wide (n := 0)).1 ?_
  refine callsIn_of_wp_marks Try.func12 rfl trivial ?_ rfl
  simp only [Try.ntmps12, List.size_toArray, List.length_cons, List.length_nil, Nat.reduceAdd, Nat.reduceSub, Array.replicate_succ, Array.replicate_zero, List.push_toArray, List.append_toArray, List.nil_append, List.cons_append]
  refine wpIn_wide.2 ?_
  go_wp2_with fail
  have e1 := World.alloc_heap_new w (.cells #[.int .u64 1, .int .i64 5, .int .u64 3, .int .i64 5, .int .u64 2, .int .i64 3] 40)
  have hb1 : Below w.heap.size w (w.alloc (.cells #[.int .u64 1, .int .i64 5, .int .u64 3, .int .i64 5, .int .u64 2, .int .i64 3] 40)) := below_alloc (Below.refl _ _) _
  generalize w.alloc (.cells #[.int .u64 1, .int .i64 5, .int .u64 3, .int .i64 5, .int .u64 2, .int .i64 3] 40) = w1 at e1 hb1 ⊢
  have l1 := lt_of_heap e1
  refine (one_calls (some ⟨w.heap.size, 0, none⟩) 3 exA w1 (C_bid3 e1) (by decide) (by decide) exA_u).mono ?_
  rintro e w2 ⟨v, rfl, hR2, hb2⟩
  rw [exA_one] at hR2
  obtain ⟨A2, c2, e2, -⟩ := Kd.R_reads hR2
  subst e2
  have HR2 := Aside0.mk hR2
  have e2 := (hb2.block _ l1).trans e1
  have HB2 := Aside0.mk (below_step hb1 hb2)
  clear hR2 hb2 hb1 l1 e1
  have BA := Aside0.mk (fun W h => best_any (some ⟨w.heap.size, 0, none⟩) 3 exA 2 W (C_bid3 h) (by decide) (by decide))
  have BB := Aside0.mk (fun W h => best_any (some ⟨w.heap.size, 0, none⟩) 3 exA 4 W (C_bid3 h) (by decide) (by decide))
  rw [exA_best2, exA_free2] at BA
  rw [exA_best4, exA_free4] at BB
  have E2 := Aside0.mk e2
  clear e2
  go_wp2_with fail
  refine (BA.out _ E2.out).mono ?_
  rintro e w3 ⟨rfl, hb3⟩
  have E3 := Aside0.mk ((hb3.block _ (lt_of_heap E2.out)).trans E2.out)
  have HB3 := Aside0.mk (below_step HB2.out hb3)
  have HR3 := Aside0.mk (Kd.R_below HR2.out hb3)
  clear hb3 HB2 E2 HR2 BA
  go_wp2_with fail
  have f4 := World.alloc_heap_new w3 (.cells #[.int .u64 2, .int .i64 3] 40)
  have hb4 : Below w3.heap.size w3 (w3.alloc (.cells #[.int .u64 2, .int .i64 3] 40)) := below_alloc (Below.refl _ _) _
  generalize w3.alloc (.cells #[.int .u64 2, .int .i64 3] 40) = w4 at f4 hb4 ⊢
  have e4 := (hb4.block _ (lt_of_heap E3.out)).trans E3.out
  refine (BB.out _ e4).mono ?_
  rintro e w5 ⟨rfl, hb5⟩
  have E5 := Aside0.mk ((hb5.block _ (lt_of_heap e4)).trans e4)
  have F5 := Aside0.mk ((hb5.block _ (lt_of_heap f4)).trans f4)
  have HB5 := Aside0.mk (below_step (below_step HB3.out hb4) hb5)
  have HR5 := Aside0.mk (Kd.R_below (Kd.R_below HR3.out hb4) hb5)
  clear hb4 hb5 f4 e4 E3 HB3 HR3 BB
  have CG := Aside0.mk (fun W n => pgroups_any (.slice (some ⟨n, 0, none⟩) 3 3) ⟨_, _, _, rfl⟩ W)
  have CF := Aside0.mk (fun W => pfree_any (.slice (some ⟨w.heap.size, 0, none⟩) 3 3) ⟨_, _, _, rfl⟩ 3 W)
  obtain ⟨g3, hg3⟩ : ∃ g, g = w3.heap.size := ⟨_, rfl⟩
  rw [← hg3] at F5 ⊢
  clear hg3
  go_wp2_with (first
    | (go_at_call 31; refine (CG.out _ _).mono ?_; rintro e w' ⟨rfl, rfl⟩)
    | (go_at_call 27; refine (CF.out _).mono ?_; rintro e w' ⟨rfl, rfl⟩))
  obtain ⟨wG, hwG⟩ : ∃ wG, wG = allocs w5 [.cells #[.int .u64 z40.f0, .int .i64 z40.f1] 40, .cells #[.int .u64 3, .int .i64 0] 40, .cells #[.int .u64 6, .int .i64 0] 40, .cells #[.int .u64 16, .int .i64 0] 40,
    .cells #[.slice (some ⟨w5.heap.size + 1, 0, none⟩) 1 1, .slice (some ⟨w5.heap.size + 1 + 1, 0, none⟩) 1 1, .slice (some ⟨w5.heap.size + 1 + 1 + 1, 0, none⟩) 1 1] 37] := ⟨_, rfl⟩
  have g1 : wG.heap[w5.heap.size + 1]? = some (.cells #[.int .u64 3, .int .i64 0] 40 (0, 0)) := by rw [hwG]; exact allocs_at _ w5 1 _ rfl
  have g2 : wG.heap[w5.heap.size + 1 + 1]? = some (.cells #[.int .u64 6, .int .i64 0] 40 (0, 0)) := by rw [hwG]; exact allocs_at _ w5 2 _ rfl
  have g3 : wG.heap[w5.heap.size + 1 + 1 + 1]? = some (.cells #[.int .u64 16, .int .i64 0] 40 (0, 0)) := by rw [hwG]; exact allocs_at _ w5 3 _ rfl
  have g4 : wG.heap[w5.heap.size + 1 + 1 + 1 + 1]? = some (.cells #[.slice (some ⟨w5.heap.size + 1, 0, none⟩) 1 1, .slice (some ⟨w5.heap.size + 1 + 1, 0, none⟩) 1 1, .slice (some ⟨w5.heap.size + 1 + 1 + 1, 0, none⟩) 1 1] 37 (0, 0)) := by rw [hwG]; exact allocs_at _ w5 4 _ rfl
  have hszG : wG.heap.size = w5.heap.size + 5 := by rw [hwG, allocs_size]; rfl
  have hkG : Below w5.heap.size w5 wG := by rw [hwG]; exact (allocs_keeps (fun _ => True) w5 _).below (fun _ _ => trivial) (Nat.le_refl _)
  obtain ⟨W9, hW9⟩ : ∃ W9, W9 = allocs wG [.cells #[.slice (some ⟨w5.heap.size + 1 + 1 + 1 + 1, 0, none⟩) 3 3] 34, .cells #[.slice (some ⟨w.heap.size, 0, none⟩) 3 3] 37, .cells #[.int .u64 3] 36, .cells #[.int .i64 0] 3] := ⟨_, rfl⟩
  have g5 : W9.heap[wG.heap.size]? = some (.cells #[.slice (some ⟨w5.heap.size + 1 + 1 + 1 + 1, 0, none⟩) 3 3] 34 (0, 0)) := by rw [hW9]; exact allocs_at _ wG 0 _ rfl
  have g6 : W9.heap[wG.heap.size + 1]? = some (.cells #[.slice (some ⟨w.heap.size, 0, none⟩) 3 3] 37 (0, 0)) := by rw [hW9]; exact allocs_at _ wG 1 _ rfl
  have g7 : W9.heap[wG.heap.size + 2]? = some (.cells #[.int .u64 3] 36 (0, 0)) := by rw [hW9]; exact allocs_at _ wG 2 _ rfl
  have g8 : W9.heap[wG.heap.size + 3]? = some (.cells #[.int .i64 0] 3 (0, 0)) := by rw [hW9]; exact allocs_at _ wG 3 _ rfl
  have hsz : W9.heap.size = wG.heap.size + 4 := by rw [hW9, allocs_size]; rfl
  have hk9 : Below wG.heap.size wG W9 := by rw [hW9]; exact (allocs_keeps (fun _ => True) wG _).below (fun _ _ => trivial) (Nat.le_refl _)
  change Code.wp _ _ _ _ (allocs (allocs w5 [_, _, _, _, _]) [_, _, _, _])
  rw [← hwG, ← hW9]
  clear hW9 hwG
  have EG := Aside0.mk ((hkG.block _ (lt_of_heap E5.out)).trans E5.out)
  have E9 := Aside0.mk ((hk9.block _ (lt_of_heap EG.out)).trans EG.out)
  have FG := Aside0.mk ((hkG.block _ (lt_of_heap F5.out)).trans F5.out)
  have F9 := Aside0.mk ((hk9.block _ (lt_of_heap FG.out)).trans FG.out)
  have HB9 := Aside0.mk (below_step (below_step HB5.out hkG) hk9)
  have E9' := E5
  have F9' := F5
  have HR5' := HR5
  have hkG' := hkG
  have hk9' := hk9
  have hCg : Kd.C (Kd.slice 40 k40) wG (some ⟨w5.heap.size + 1 + 1 + 1 + 1, 0, none⟩) exG.length exG := C_of_block _ g4 exG (Reps_cons (K_slice 40 (by decide) (C_bid1 g1)) rfl (Reps_cons (K_slice 40 (by decide) (C_bid1 g2)) rfl (Reps_cons (K_slice 40 (by decide) (C_bid1 g3)) rfl (Reps.none _ _)))) (by decide)
  rw [show (w5.heap.size + 1 + 1 + 1 + 1) = wG.heap.size - 1 from by omega] at hCg g5
  have hitG := pgroups1_iter wG W9 (some ⟨wG.heap.size - 1, 0, none⟩) 3 exG wG.heap.size (fun k => k < W9.heap.size ∧ k ≠ wG.heap.size + 3) hCg (by decide) (by decide) (by decide) hk9 g5 (fun k hk => ⟨by omega, by omega⟩) ⟨by omega, by omega⟩
  have hitF := pfree1_iter wG W9 (some ⟨w.heap.size, 0, none⟩) 3 exA 3 (wG.heap.size + 1) (wG.heap.size + 2) (fun k => k < W9.heap.size ∧ k ≠ wG.heap.size + 3) (C_bid3 EG.out) (by decide) (by decide) hk9 g6 g7 (fun k hk => ⟨by omega, by omega⟩) ⟨by omega, by omega⟩ ⟨by omega, by omega⟩
  rw [exG_groups] at hitG
  rw [exA_free3] at hitF
  rw [show (w5.heap.size + 1 + 1 + 1 + 1 + 1) = wG.heap.size from by omega]
  have HITF := Aside0.mk hitF
  clear hkG hk9 g1 g2 g3 g4 g5 g6 g7 EG FG E5 F5 HB5 HR5 hCg CG CF hitF
  obtain ⟨nb, hnb⟩ : ∃ nb, nb = wG.heap.size + 3 := ⟨_, rfl⟩
  obtain ⟨f1, hf1⟩ : ∃ nb, nb = wG.heap.size + 1 := ⟨_, rfl⟩
  obtain ⟨f2, hf2⟩ : ∃ nb, nb = wG.heap.size + 2 := ⟨_, rfl⟩
  rw [show wG.heap.size + 1 + 1 + 1 = nb from hnb.symm, show wG.heap.size + 1 + 1 = f2 from hf2.symm, show wG.heap.size + 1 = f1 from hf1.symm]
  rw [← hnb] at g8 hitG HITF
  rw [← hf1, ← hf2] at HITF
  have hnbl : nb < W9.heap.size := by omega
  have hE5 := lt_of_heap E9'.out
  have hF5 := lt_of_heap F9'.out
  have HBL := Aside0.mk (show w.heap.size ≤ nb ∧ g3 ≠ nb ∧ w.heap.size ≠ nb from ⟨by omega, by omega, by omega⟩)
  have HR9 : Aside0 (Kd.R k40 40 W9 w1.heap.size (fun k => k ≠ nb) (.slice A2 2 c2) [⟨1, 5⟩, ⟨2, 3⟩]) := ⟨Kd.R_mono (Kd.R_below (Kd.R_below (Kd.R_bound HR5'.out) hkG') hk9') (fun k hk => by have := hk.2.2.1; omega)⟩
  clear hE5 hF5 E9' F9' HR5' hkG' hk9'
  clear hszG hsz hnb hf1 hf2
  generalize wG.heap.size = gb at *
  refine (wpIn_wide (n := 0)).1 ?_
  refine range_outerU rfl (enters_of Try.func52 (by kernel_rfl) rfl) rowRel_ok hitG (fun k h => h.1) (fun _ => rfl) (fun k => k = nb) (fun k h => ⟨by omega, fun h' => h'.2 h⟩)
    (fun pre S W => S nb ∧ W.heap[nb]? = some (.cells #[.int .i64 (pre.length : Nat)] 3 (0, 0))) (fun _ _ _ _ => False) ?hI ?hIx ?h0 (fun _ _ => []) (fun _ => []) ?assign ?body ?done ?stop
  case hI =>
    rintro pre S A B ⟨h1, h2⟩ hk
    exact ⟨h1, hk.at_ h2 (.inl h1)⟩
  case hIx => rintro c pre S A B h; exact h.elim
  case h0 => exact ⟨rfl, g8⟩
  case assign =>
    intro l x W K hK
    simp only [encV, allocs, slotsSet, List.zip_toArray, List.zip_cons_cons, List.zip_nil_left, List.zip_nil_right, List.foldl_toArray, List.foldl_cons, List.foldl_nil, List.setIfInBounds_toArray, List.set_cons_succ, List.set_cons_zero, List.size_toArray, List.length_cons, List.length_nil] at hK ⊢
    gi_wp2
    exact hK
  case body =>
    rintro l pre x post b S W hx hrel hl0 hlr hSl hS hkW ⟨h1, h2⟩
    have hpl : pre.length ≤ 1 := by have := congrArg List.length hx; simp at this; omega
    have hsW : W9.heap.size ≤ W.heap.size := hkW.size
    have HS := Aside0.mk hS
    have HX := Aside0.mk hx
    have H2 := Aside0.mk h2
    have c0 := blk_cell_ h2 0
    have f0 := blk_frozen h2 0
    have hw : wrap64 ((pre.length : Int) + 1) = ((pre.length + 1 : Nat) : Int) := by unfold wrap64; omega
    have HP : Aside0 ((pre ++ [x]).length = pre.length + 1) := ⟨by simp⟩
    clear hS hx h2 hkW hrel hlr
    generalize pre.length = m at H2 c0 hw HP hpl
    simp only [encV, allocs, slotsSet, List.zip_toArray, List.zip_cons_cons, List.zip_nil_left, List.zip_nil_right, List.foldl_toArray, List.foldl_cons, List.foldl_nil, List.setIfInBounds_toArray, List.set_cons_succ, List.set_cons_zero, List.size_toArray, List.length_cons, List.length_nil]
    gi_wp2_with fail
    refine ⟨S, fun k h => .inl h, (Keeps.refl _ _).setCell (fun h => absurd h1 h) _, h1, ?_⟩
    rw [HP.out]
    exact set_at H2.out 0 _
  case done =>
    rintro d S W hd hSd hK hS hkW ⟨h1, h2⟩
    simp only [List.length_cons, List.length_nil] at h2
    have e0 := hkW.at_ E9.out ⟨lt_of_heap E9.out, HBL.out.2.2⟩
    have f0 := hkW.at_ F9.out ⟨lt_of_heap F9.out, HBL.out.2.1⟩
    have HRW := Aside0.mk (Kd.R_step HR9.out (fun k hk hlt => hkW.block k ⟨hlt, hk⟩ hlt))
    have hitW := (HITF.out.grow hkW).toR
    have HWS := Aside0.mk hkW.size
    have HBW := Aside0.mk (HB9.out.trans (hkW.below (fun k hk => ⟨by have := HB9.out.size; omega, by have := HBL.out.1; omega⟩) HB9.out.size))
    have HK := Aside0.mk hK
    have HITW := Aside0.mk hitW
    have HN := Aside0.mk h2
    have HE := Aside0.mk e0
    have HF := Aside0.mk f0
    have HD := Aside0.mk hd
    clear hK hitW h2 e0 f0 hkW hS HITF hitG hd
    go_wp2_with fail
    have hk10 : Below W.heap.size W (W.alloc (.cells #[.int .i64 0] 3)) := below_alloc (Below.refl _ _) _
    have h10 := World.alloc_heap_new W (.cells #[.int .i64 0] 3)
    have hsz10 : (W.alloc (.cells #[.int .i64 0] 3)).heap.size = W.heap.size + 1 := by simp
    generalize W.alloc (.cells #[.int .i64 0] 3) = W10 at hk10 h10 hsz10 ⊢
    obtain ⟨kb, hkb⟩ : ∃ kb, kb = W.heap.size := ⟨_, rfl⟩
    have hkb9 : W9.heap.size ≤ kb := by rw [hkb]; exact HWS.out
    have HKB := Aside0.mk hkb9
    have HZ := Aside0.mk hsz10
    have H10 := Aside0.mk hk10
    have HKE := Aside0.mk hkb
    rw [← hkb] at h10 ⊢
    clear hsz10 hk10 hkb hkb9
    refine (wpIn_wide (n := 0)).1 ?_
    refine range_outerU rfl (enters_of Try.func49 (by kernel_rfl) rfl) eqRel_ok (IterR.grow HITW.out (Keeps.of_below H10.out (fun k hk _ => by have := HKB.out; have := HKE.out; have := hk.1; omega))) (fun k h => by have := HKB.out; have := HKE.out; have := HZ.out; have := h.1; omega) (fun _ => rfl) (fun k => k = kb) (fun k h => ⟨by have := HKE.out; have := HZ.out; omega, fun h' => by have := HKB.out; have := h'.1; omega⟩)
      (fun pre S W => S kb ∧ W.heap[kb]? = some (.cells #[.int .i64 ((pre.map Prod.fst).sum : Nat)] 3 (0, 0))) (fun _ _ _ _ => False) ?iI ?iIx ?i0 (fun b _ => [(11, .int .i64 (b.1 : Nat))]) (fun _ => []) ?iassign ?ibody ?idone ?istop
    case iI =>
      rintro pre S A B ⟨h1, h2⟩ hk
      exact ⟨h1, hk.at_ h2 (.inl h1)⟩
    case iIx => rintro c pre S A B h; exact h.elim
    case i0 => exact ⟨rfl, h10⟩
    case iassign =>
      intro l x W K hK
      simp only [encIB, allocs, slotsSet, List.zip_toArray, List.zip_cons_cons, List.zip_nil_left, List.zip_nil_right, List.foldl_toArray, List.foldl_cons, List.foldl_nil, List.setIfInBounds_toArray, List.set_cons_succ, List.set_cons_zero, List.size_toArray, List.length_cons, List.length_nil] at hK ⊢
      gi_wp2
      exact hK
    case ibody =>
      rintro l pre x post b S W hx hrel hl0 hlr hSl hS hkW ⟨h1, h2⟩
      subst hrel
      have hpl : (pre.map Prod.fst).sum + x.1 ≤ 3 := by
        have := congrArg (fun l => (l.map Prod.fst).sum) hx
        simp at this
        omega
      have HS := Aside0.mk hS
      have HX := Aside0.mk hx
      have H2 := Aside0.mk h2
      have c0 := blk_cell_ h2 0
      have f0 := blk_frozen h2 0
      have hw : wrap64 (((pre.map Prod.fst).sum : Nat) + (x.1 : Nat) : Int) = (((pre.map Prod.fst).sum + x.1 : Nat) : Int) := by unfold wrap64; omega
      have HP : Aside0 (((pre ++ [x]).map Prod.fst).sum = (pre.map Prod.fst).sum + x.1) := ⟨by simp⟩
      clear hS hx h2 hkW hlr
      generalize (pre.map Prod.fst).sum = m at H2 c0 hw HP hpl
      simp only [encIB, allocs, slotsSet, List.zip_toArray, List.zip_cons_cons, List.zip_nil_left, List.zip_nil_right, List.foldl_toArray, List.foldl_cons, List.foldl_nil, List.setIfInBounds_toArray, List.set_cons_succ, List.set_cons_zero, List.size_toArray, List.length_cons, List.length_nil]
      gi_wp2_with fail
      refine ⟨S, fun k h => .inl h, (Keeps.refl _ _).setCell (fun h => absurd h1 h) _, h1, ?_⟩
      rw [HP.out]
      exact set_at H2.out 0 _
    case idone =>
      rintro d2 S2 W2 hd2 hSd2 hK2 hS2 hkW2 ⟨h1, h2⟩
      replace h2 : W2.heap[kb]? = some (.cells #[.int .i64 3] 3 (0, 0)) := h2
      have hlt : ∀ k o, W.heap[k]? = some o → W2.heap[k]? = some o := fun k o h => hkW2.at_ ((H10.out.block _ (lt_of_heap h)).trans h) ⟨by have := lt_of_heap h; have := HZ.out; omega, by have := lt_of_heap h; have := HKE.out; omega⟩
      have hRc : Kd.R k40 40 W2 w1.heap.size (fun k => k ≠ nb) (.slice A2 2 c2) [⟨1, 5⟩, ⟨2, 3⟩] := Kd.R_step HRW.out (fun k _ h => by
        obtain ⟨o, ho⟩ : ∃ o, W.heap[k]? = some o := ⟨_, Array.getElem?_eq_getElem h⟩
        rw [ho]; exact hlt k o ho)
      obtain ⟨gA, cap, eA, -, -, -⟩ := Kd.R_form hRc (by decide)
      injection eA with eA1 eA2 eA3
      subst eA1
      obtain ⟨ad, ea, hx0, hx1⟩ := at_T40 (Kd.R_reads' hRc).2.2 1 (by decide) (by decide)
      cases ea
      have hG : GoodA w w.heap.size g3 nb kb d d2 gA W2 := ⟨HBW.out.trans ((H10.out.mono (by have := HBW.out.size; omega)).trans (hkW2.below (fun k hk => ⟨by have := HZ.out; have := HBW.out.size; omega, by have := HKE.out; have := HBW.out.size; omega⟩) (by have := HZ.out; have := HBW.out.size; omega))),
        hlt _ _ HE.out, hlt _ _ HF.out, hlt _ _ HN.out, h2, hlt _ _ HK.out, hK2, by simpa [Addr.add, rd_T40, List.getD] using hx0, by simpa [Addr.add, rd_T40, List.getD] using hx1⟩
      obtain ⟨HG, q0, q1, q2, q3, q4, q5, q6, q7, q8, q9⟩ := GoodA.cells (Aside0.mk hG)
      have HDD := Aside0.mk (show d ≠ d2 from fun e => by have := HKB.out; have := lt_of_heap HK.out; have := HZ.out; omega)
      have HDB := Aside0.mk hd2
      clear hx0 hx1 hRc hlt hkW2 hS2 hK2 h2 hG h10 hd2
      have CR1 := Aside0.mk (fun W => prep_Right.calls 1 5 true W (by decide))
      have CR0 := Aside0.mk (fun W => prep_Right.calls 0 0 false W (by decide))
      obtain ⟨wb, hwb⟩ : ∃ wb, wb = w.heap.size := ⟨_, rfl⟩
      rw [← hwb] at HG q0 q1 q2 q3 ⊢
      have HWB := Aside0.mk hwb
      clear hwb
      go_wp2_with fail
      simp only [List.append_eq, List.cons_append, List.nil_append]
      go_region_held3 (fun w' => Aside0 (GoodA w wb g3 nb kb d d2 gA w') ∧ w'.cell? ⟨wb, 0, none⟩ = some (.int .u64 1) ∧ w'.cell? ⟨wb, 1, none⟩ = some (.int .i64 5) ∧ w'.cell? ⟨wb, 4, none⟩ = some (.int .u64 2) ∧ w'.cell? ⟨wb, 5, none⟩ = some (.int .i64 3) ∧
        w'.cell? ⟨g3, 0, none⟩ = some (.int .u64 2) ∧ w'.cell? ⟨g3, 1, none⟩ = some (.int .i64 3) ∧ w'.cell? ⟨nb, 0, none⟩ = some (.int .i64 2) ∧ w'.cell? ⟨kb, 0, none⟩ = some (.int .i64 3) ∧ w'.cell? ⟨gA, 2, none⟩ = some (.int .u64 2) ∧ w'.cell? ⟨gA, 3, none⟩ = some (.int .i64 3))
        ((refine GoodA.cells ⟨GoodA.step HG.out ?_⟩; (repeat (first | (with_reducible exact Below.refl _ _) | (with_reducible refine below_alloc ?_ _) | (with_reducible refine below_drew ?_)))))
        (first
          | (go_at_call 15; (with_reducible refine (CR1.out _).mono ?_); rintro e w3 ⟨rfl, hb⟩; have HG1 := Aside0.mk (GoodA.step (show GoodA w wb g3 nb kb d d2 gA _ from GoodA.step HG.out (by (repeat (first | (with_reducible exact Below.refl _ _) | (with_reducible refine below_alloc ?_ _) | (with_reducible refine below_drew ?_))))) hb); clear HG hb; have HG := HG1; clear HG1; obtain ⟨-, q0, q1, q2, q3, q4, q5, q6, q7, q8, q9⟩ := GoodA.cells HG)
          | (go_at_call 15; (with_reducible refine (CR0.out _).mono ?_); rintro e w3 ⟨rfl, hb⟩; have HG1 := Aside0.mk (GoodA.step (show GoodA w wb g3 nb kb d d2 gA _ from GoodA.step HG.out (by (repeat (first | (with_reducible exact Below.refl _ _) | (with_reducible refine below_alloc ?_ _) | (with_reducible refine below_drew ?_))))) hb); clear HG hb; have HG := HG1; clear HG1; obtain ⟨-, q0, q1, q2, q3, q4, q5, q6, q7, q8, q9⟩ := GoodA.cells HG)
          | (go_at_call 21; (with_reducible refine (alive_clean _ wb _ (show GoodA w wb g3 nb kb d d2 gA _ from GoodA.step HG.out (by (repeat (first | (with_reducible exact Below.refl _ _) | (with_reducible refine below_alloc ?_ _) | (with_reducible refine below_drew ?_))))).e (by first | exact World.alloc_heap_new _ _ | exact alloc_heap_drew _ _)).mono ?_); rintro e w3 ⟨A, c, rfl, hb⟩; have HG1 := Aside0.mk (GoodA.step (show GoodA w wb g3 nb kb d d2 gA _ from GoodA.step HG.out (by (repeat (first | (with_reducible exact Below.refl _ _) | (with_reducible refine below_alloc ?_ _) | (with_reducible refine below_drew ?_))))) hb); clear HG hb; have HG := HG1; clear HG1; obtain ⟨-, q0, q1, q2, q3, q4, q5, q6, q7, q8, q9⟩ := GoodA.cells HG)
          | (go_at_call 24; (with_reducible refine (alive_union _ wb _ (show GoodA w wb g3 nb kb d d2 gA _ from GoodA.step HG.out (by (repeat (first | (with_reducible exact Below.refl _ _) | (with_reducible refine below_alloc ?_ _) | (with_reducible refine below_drew ?_))))).e (by first | exact World.alloc_heap_new _ _ | exact alloc_heap_drew _ _)).mono ?_); rintro e w3 ⟨rfl, hb⟩; have HG1 := Aside0.mk (GoodA.step (show GoodA w wb g3 nb kb d d2 gA _ from GoodA.step HG.out (by (repeat (first | (with_reducible exact Below.refl _ _) | (with_reducible refine below_alloc ?_ _) | (with_reducible refine below_drew ?_))))) hb); clear HG hb; have HG := HG1; clear HG1; obtain ⟨-, q0, q1, q2, q3, q4, q5, q6, q7, q8, q9⟩ := GoodA.cells HG)
          | (go_at_call 23; (with_reducible refine (alive_count _ wb _ (show GoodA w wb g3 nb kb d d2 gA _ from GoodA.step HG.out (by (repeat (first | (with_reducible exact Below.refl _ _) | (with_reducible refine below_alloc ?_ _) | (with_reducible refine below_drew ?_))))).e (by first | exact World.alloc_heap_new _ _ | exact alloc_heap_drew _ _)).mono ?_); rintro e w3 ⟨rfl, hb⟩; have HG1 := Aside0.mk (GoodA.step (show GoodA w wb g3 nb kb d d2 gA _ from GoodA.step HG.out (by (repeat (first | (with_reducible exact Below.refl _ _) | (with_reducible refine below_alloc ?_ _) | (with_reducible refine below_drew ?_))))) hb); clear HG hb; have HG := HG1; clear HG1; obtain ⟨-, q0, q1, q2, q3, q4, q5, q6, q7, q8, q9⟩ := GoodA.cells HG))
      go_wp2_with fail
      have hne : d2 ≠ d := HDD.out.symm
      have hgg := HG.out
      refine ⟨by simp, .inl ⟨_, _, rfl, run_takeDeferred hgg.d2, by simp, .inl ⟨_, _, rfl, run_takeDeferred ((World.putObj_heap_other hne.symm).trans hgg.d1), ?_⟩⟩⟩
      refine ⟨.bool true, by simp [results, Try.results12, go_sem], rfl, ?_⟩
      have hdw : w.heap.size ≤ d := by have := HB9.out.size; have := HD.out; omega
      have hdw2 : w.heap.size ≤ d2 := by have := HDB.out; have := HB9.out.size; have := HKB.out; have := HKE.out; have := HZ.out; omega
      exact hgg.below.trans ((((Keeps.refl (fun k => k < w.heap.size) _).putObj (fun h => by omega) _).putObj (fun h => by omega) _).below (fun k h => h) hgg.below.size)
    case istop => rintro d c pre S W _ _ _ _ _ _ h; exact h.elim
  case stop => rintro d c pre S W _ _ _ _ _ _ h; exact h.elim
theorem saleroomlaw14_alive.calls (r : Bool) (w : World) (h : saleroomlaw14_alive.f = some r) : Calls Try.prog 12 #[] w fun e w' => e = .returned (.bool r) ∧ Below w.heap.size w w' := by
  cases h
  exact alive_true w
end Go.Proofs.Ytafhdamdkefpkaa.PPrep

/- Law 12's example (alive) holds. -/
import Derived.Test.YtafhdamdkefpkaaDeltaH
import Derived.Test.YtafhdamdkefpkaaPDeltax3
namespace Go.Proofs.Ytafhdamdkefpkaa
open Go.RowKit Go.Proofs.YtafhdamdkefpkaaW.PrintWords Go.Proofs.YtafhdamdkefpkaaW.PrintLast Go.Proofs.YtafhdamdkefpkaaW.PrintMore
attribute [local go_sem] max2_int min2_int max_two min_two Oper.semAt_some
set_option linter.unusedVariables false
set_option linter.unusedSimpArgs false

theorem Reps_cons2 {α : Type} {R : α → List Value → Prop} {size : Nat} {ps : List α} {cs c : List Value} {p : α} (hp : R p c) (hc : c.length = size) (h : Reps R size ps cs) : Reps R size (p :: ps) (c ++ cs) := by
  refine ⟨by rw [List.length_append, h.1, hc, List.length_cons, Nat.add_mul, Nat.one_mul, Nat.add_comm], fun j q hq => ?_⟩
  cases j with
  | zero =>
    simp only [List.getElem?_cons_zero, Option.some.injEq] at hq
    subst hq
    rw [Nat.zero_mul, List.drop_zero, ← hc, List.take_left]
    exact hp
  | succ j =>
    rw [List.getElem?_cons_succ] at hq
    have := h.2 j q hq
    rw [Nat.add_mul, Nat.one_mul, Nat.add_comm, ← hc, List.drop_length_add_append]
    rw [← hc] at this
    exact this
theorem C_of_block2 {α : Type} (d : Kd α) {W : World} {b : Nat} {cs : Array Value} {e : TypeId} (hb : W.heap[b]? = some (.cells cs e (0, 0))) (xs : List α) (hr : Reps (d.K W) d.sz xs cs.toList) (hn : xs.length ≤ 1000000000) : d.C W (some ⟨b, 0, none⟩) xs.length xs := by
  refine ⟨rfl, by omega, fun _ => ⟨_, rfl, fun j p hj => ?_⟩⟩
  have hjl : j < xs.length := (List.getElem?_eq_some_iff.1 hj).1
  have hk := hr.2 j p hj
  refine ⟨_, d.K_len hk, hk, fun i u hu => ?_⟩
  have hi : i < d.sz := by
    have := (List.getElem?_eq_some_iff.1 hu).1
    rw [d.K_len hk] at this
    exact this
  rw [List.getElem?_take_of_lt hi, List.getElem?_drop] at hu
  have := blk_cell_ hb (j * d.sz + i)
  rw [show (⟨b, 0, none⟩ : Addr).add (j * d.sz + i) = ⟨b, j * d.sz + i, none⟩ from by simp [Addr.add] <;> omega]
  rw [this]
  simpa using hu
theorem K_slice2 {α : Type} {d : Kd α} {W : World} {A : Option Addr} {xs : List α} {c : Nat} (e : Nat) (hc : xs.length ≤ c) (h : d.C W A xs.length xs) : (Kd.slice e d).K W xs [.slice A xs.length c] := ⟨A, c, rfl, hc, h⟩
def flatC (x : PDelta.S76) : List Value := [.int .i64 x.f0, .int .u64 x.f1.f0, .int .i64 x.f1.f1]
theorem flat_C : Flat PDelta.k76 flatC := ⟨fun w base ok x => PDelta.k76_mkM w base ok x, fun h => PDelta.k76_openM h⟩
def exO : List (List PDelta.S68) := [[⟨1, 3⟩]]
def exN : List (List PDelta.S68) := [[⟨1, 3⟩, ⟨2, 2⟩]]
def exC : List PDelta.S76 := [⟨0, ⟨2, 2⟩⟩]
theorem exO_ok : BookOk exO := ⟨by decide, by decide, by unfold U64; decide, by decide +kernel⟩
theorem exN_ok : BookOk exN := ⟨by decide, by decide, by unfold U64; decide, by decide +kernel⟩
theorem exDiff : diffL exO exN = exC := by rfl
theorem exDiff0 : diffL exN exO = [] := by rfl
theorem exApply : applyL exO exC = exN := by rfl
theorem exSum : sumC (allL (exN.map ofL)) = 5 := by rfl
theorem exPos : ∀ c ∈ allL (exN.map ofL), 0 ≤ c.f1.f1 := by decide +kernel
/-- What lies in memory when the law's example is asked. -/
structure GoodX (w : World) (b gc gg : Nat) (W : World) : Prop where
  below : Below w.heap.size w W
  o0 : W.heap[b]? = some (.cells #[.int .u64 1, .int .i64 3] 68 (0, 0))
  o1 : W.heap[b + 1]? = some (.cells #[.slice (some ⟨b, 0, none⟩) 1 1] 31 (0, 0))
  n0 : W.heap[b + 1 + 1]? = some (.cells #[.int .u64 1, .int .i64 3, .int .u64 2, .int .i64 2] 68 (0, 0))
  n1 : W.heap[b + 1 + 1 + 1]? = some (.cells #[.slice (some ⟨b + 1 + 1, 0, none⟩) 2 2] 31 (0, 0))
  cs : Kd.C PDelta.k76 W (some ⟨gc, 0, none⟩) 1 exC
  gt : Kd.C PDelta.k76 W (some ⟨gg, 0, none⟩) 1 exC
theorem GoodX.step {w : World} {b gc gg : Nat} {W W' : World} (h : GoodX w b gc gg W) (hb : Below W.heap.size W W') : GoodX w b gc gg W' :=
  ⟨below_step h.below hb, (hb.block _ (lt_of_heap h.o0)).trans h.o0, (hb.block _ (lt_of_heap h.o1)).trans h.o1, (hb.block _ (lt_of_heap h.n0)).trans h.n0, (hb.block _ (lt_of_heap h.n1)).trans h.n1, Kd.C_below h.cs hb, Kd.C_below h.gt hb⟩
theorem GoodX.c0 {w : World} {b gc gg : Nat} {W : World} (h : GoodX w b gc gg W) : W.cell? ⟨gc, 0, none⟩ = some (.int .i64 0) ∧ W.cell? ⟨gc, 1, none⟩ = some (.int .u64 2) ∧ W.cell? ⟨gc, 2, none⟩ = some (.int .i64 2) := by
  obtain ⟨ad, e, h0, h1, h2⟩ := PDelta.at_T76 h.cs 0 (by decide) (by decide)
  injection e with e
  subst e
  simp only [Addr.add_lit] at h0 h1 h2
  exact ⟨h0, h1, h2⟩
theorem GoodX.cells {w : World} {b gc gg : Nat} {W : World} (h : Aside0 (GoodX w b gc gg W)) : Aside0 (GoodX w b gc gg W) ∧ W.cell? ⟨gc, 0, none⟩ = some (.int .i64 0) ∧ W.cell? ⟨gc, 1, none⟩ = some (.int .u64 2) ∧ W.cell? ⟨gc, 2, none⟩ = some (.int .i64 2) ∧
    W.cell? ⟨b + 1 + 1 + 1, 0, none⟩ = some (.slice (some ⟨b + 1 + 1, 0, none⟩) 2 2) ∧ W.cell? ⟨b + 1 + 1, 2, none⟩ = some (.int .u64 2) ∧ W.cell? ⟨b + 1 + 1, 3, none⟩ = some (.int .i64 2) :=
  ⟨h, h.out.c0.1, h.out.c0.2.1, h.out.c0.2.2, blk_cell_ h.out.n1 0, blk_cell_ h.out.n0 2, blk_cell_ h.out.n0 3⟩
theorem exO_C {W : World} {b : Nat} (h0 : W.heap[b]? = some (.cells #[.int .u64 1, .int .i64 3] 68 (0, 0))) (h1 : W.heap[b + 1]? = some (.cells #[.slice (some ⟨b, 0, none⟩) 1 1] 31 (0, 0))) : Kd.C (Kd.slice 68 PDelta.k68) W (some ⟨b + 1, 0, none⟩) exO.length exO :=
  C_of_block2 (Kd.slice 68 PDelta.k68) h1 exO (Reps_cons2 (c := [.slice (some ⟨b, 0, none⟩) 1 1]) (K_slice2 (d := PDelta.k68) (xs := [⟨1, 3⟩]) 68 (by decide) (flat_E.reads (o := 0) (cur := [.int .u64 1, .int .i64 3]) h0 (by rfl) (by decide))) rfl (Reps.none _ _)) (by decide)
theorem exN_C {W : World} {b : Nat} (h0 : W.heap[b]? = some (.cells #[.int .u64 1, .int .i64 3, .int .u64 2, .int .i64 2] 68 (0, 0))) (h1 : W.heap[b + 1]? = some (.cells #[.slice (some ⟨b, 0, none⟩) 2 2] 31 (0, 0))) : Kd.C (Kd.slice 68 PDelta.k68) W (some ⟨b + 1, 0, none⟩) exN.length exN :=
  C_of_block2 (Kd.slice 68 PDelta.k68) h1 exN (Reps_cons2 (c := [.slice (some ⟨b, 0, none⟩) 2 2]) (K_slice2 (d := PDelta.k68) (xs := [⟨1, 3⟩, ⟨2, 2⟩]) 68 (by decide) (flat_E.reads (o := 0) (cur := [.int .u64 1, .int .i64 3, .int .u64 2, .int .i64 2]) h0 (by rfl) (by decide))) rfl (Reps.none _ _)) (by decide)
section
variable {w : World} {b gc gg : Nat} {W : World}
theorem ex_apply (cc : Nat) (hcc : 1 ≤ cc) (h : GoodX w b gc gg W) : Calls Try.prog 9 #[.slice (some ⟨b + 1, 0, none⟩) 1 1, .slice (some ⟨gc, 0, none⟩) 1 cc] W fun e W' => ∃ A c, e = .returned (.slice A 1 c) ∧ Kd.C (Kd.slice 68 PDelta.k68) W' A exN.length exN ∧ 1 ≤ c ∧ Below W.heap.size W W' := by
  refine (dapply_any _ _ 1 cc exO exC W (exO_C h.o0 h.o1) (by decide) h.cs hcc (by decide) (by decide) (by decide) (by unfold U64; decide) (by unfold U64; decide)).mono ?_
  rintro e W' ⟨v, rfl, hR, hb⟩
  rw [exApply] at hR
  obtain ⟨A, c, e2, e3, hC⟩ := Kd.R_reads hR
  subst e2
  exact ⟨A, c, rfl, hC, e3, hb⟩
theorem ex_same {A : Option Addr} {c : Nat} (hA : Kd.C (Kd.slice 68 PDelta.k68) W A exN.length exN) (hc : 1 ≤ c) (h : GoodX w b gc gg W) : Calls Try.prog 35 #[.slice A 1 c, .slice (some ⟨b + 1 + 1 + 1, 0, none⟩) 1 1] W fun e W' => e = .returned (.bool true) ∧ Below W.heap.size W W' :=
  (PDelta.saleroomref12_SameBooks.calls 6 A c exN _ 1 exN true W hA hc (exN_C h.n0 h.n1) (by decide) (by kernel_rfl)).mono (by rintro e W' ⟨rfl, hd⟩; exact ⟨rfl, hd.below⟩)
theorem ex_rose (h : GoodX w b gc gg W) : Calls Try.prog 36 #[.slice (some ⟨b + 1, 0, none⟩) 1 1, .slice (some ⟨b + 1 + 1 + 1, 0, none⟩) 1 1] W fun e W' => e = .returned (.bool true) ∧ Below W.heap.size W W' := by
  have := drose_any _ _ 1 1 exO exN W (exO_C h.o0 h.o1) (by decide) (exN_C h.n0 h.n1) (by decide) exO_ok exN_ok
  rw [exDiff0] at this
  exact this
theorem ex_rose2 (h : GoodX w b gc gg W) : Calls Try.prog 36 #[.slice (some ⟨b + 1 + 1 + 1, 0, none⟩) 1 1, .slice (some ⟨b + 1, 0, none⟩) 1 1] W fun e W' => e = .returned (.bool false) ∧ Below W.heap.size W W' := by
  have := drose_any _ _ 1 1 exN exO W (exN_C h.n0 h.n1) (by decide) (exO_C h.o0 h.o1) (by decide) exN_ok exO_ok
  rw [exDiff] at this
  exact this
theorem ex_sum (h : GoodX w b gc gg W) : Calls Try.prog 39 #[.slice (some ⟨b + 1 + 1 + 1, 0, none⟩) 1 1] W fun e W' => e = .returned (.int .i64 5) ∧ Below W.heap.size W W' := by
  have := dsum_any _ 1 exN W (exN_C h.n0 h.n1) (by decide) exN_ok exPos
  rw [exSum] at this
  exact this
def exR : List PDelta.S114 := [⟨0, ⟨2, 2⟩⟩]
theorem ex_as (g : Nat) (cc : Nat) (hcc : 1 ≤ cc) (h : Kd.C PDelta.k76 W (some ⟨g, 0, none⟩) 1 exC) : Calls Try.prog 38 #[.slice (some ⟨g, 0, none⟩) 1 cc] W fun e W' => ∃ A c, e = .returned (.slice A 1 c) ∧ Kd.C PDelta.k114 W' A exR.length exR ∧ 1 ≤ c ∧ Below W.heap.size W W' := by
  refine (PDelta.saleroomlaw12_as.calls 6 _ cc exC exR W h hcc (by kernel_rfl)).mono ?_
  rintro e W' ⟨v, rfl, hR, hb⟩
  obtain ⟨A, c, e2, e3, hC⟩ := Kd.R_reads hR
  subst e2
  exact ⟨A, c, rfl, hC, e3, hb⟩
theorem ex_same2 {A A' : Option Addr} {c c' : Nat} (hA : Kd.C PDelta.k114 W A exR.length exR) (hc : 1 ≤ c) (hA' : Kd.C PDelta.k114 W A' exR.length exR) (hc' : 1 ≤ c') : Calls Try.prog 37 #[.slice A 1 c, .slice A' 1 c'] W fun e W' => e = .returned (.bool true) ∧ Below W.heap.size W W' :=
  (PDelta.saleroomref12_Same.calls 6 A c exR A' c' exR true W hA hc hA' hc' (by kernel_rfl)).mono (by rintro e W' ⟨rfl, hd⟩; exact ⟨rfl, hd.below⟩)
end

set_option maxRecDepth 100000 in
set_option maxHeartbeats 4000000 in
theorem dalive_true (w : World) : Calls Try.prog 8 #[] w fun e w' => e = .returned (.bool true) ∧ Below w.heap.size w w' := by
  go_enter Try.func8, Try.ntmps8
  go_wp2_with fail
  obtain ⟨b, hb⟩ : ∃ b, b = w.heap.size := ⟨_, rfl⟩
  rw [← hb]
  obtain ⟨W1, hW1⟩ : ∃ W1, W1 = ((((w.alloc (.cells #[.int .u64 1, .int .i64 3] 68)).alloc (.cells #[.slice (some ⟨b, 0, none⟩) 1 1] 31)).alloc
      (.cells #[.int .u64 1, .int .i64 3, .int .u64 2, .int .i64 2] 68)).alloc (.cells #[.slice (some ⟨b + 1 + 1, 0, none⟩) 2 2] 31)) := ⟨_, rfl⟩
  rw [← hW1]
  have hall : W1 = allocs w [.cells #[.int .u64 1, .int .i64 3] 68, .cells #[.slice (some ⟨b, 0, none⟩) 1 1] 31, .cells #[.int .u64 1, .int .i64 3, .int .u64 2, .int .i64 2] 68, .cells #[.slice (some ⟨b + 1 + 1, 0, none⟩) 2 2] 31] := hW1
  have o0 : W1.heap[b]? = some (.cells #[.int .u64 1, .int .i64 3] 68 (0, 0)) := by rw [hall, hb]; exact allocs_at _ w 0 _ rfl
  have o1 : W1.heap[b + 1]? = some (.cells #[.slice (some ⟨b, 0, none⟩) 1 1] 31 (0, 0)) := by rw [hall, hb]; exact allocs_at _ w 1 _ rfl
  have n0 : W1.heap[b + 1 + 1]? = some (.cells #[.int .u64 1, .int .i64 3, .int .u64 2, .int .i64 2] 68 (0, 0)) := by rw [hall, hb]; exact allocs_at _ w 2 _ rfl
  have n1 : W1.heap[b + 1 + 1 + 1]? = some (.cells #[.slice (some ⟨b + 1 + 1, 0, none⟩) 2 2] 31 (0, 0)) := by rw [hall, hb]; exact allocs_at _ w 3 _ rfl
  have hB1 : Below w.heap.size w W1 := by rw [hW1]; exact below_alloc (below_alloc (below_alloc (below_alloc (Below.refl _ _) _) _) _) _
  clear hall hW1 hb
  refine (ddiff_any (some ⟨b + 1, 0, none⟩) (some ⟨b + 1 + 1 + 1, 0, none⟩) 1 1 exO exN W1 (exO_C o0 o1) (by decide) (exN_C n0 n1) (by decide) (by decide) (by decide) (by decide) (by decide) (by unfold U64; decide) (by unfold U64; decide) (by decide +kernel)).mono ?_
  rintro e w2 ⟨v, rfl, hR, hb2⟩
  rw [exDiff] at hR
  obtain ⟨gc, cc, cur, e2, -, -, -, hcc, -⟩ := flat_C.open_ hR (by decide)
  subst e2
  obtain ⟨A, c, e3, -, hC⟩ := Kd.R_reads hR
  injection e3 with e3 e4 e5
  subst e3
  have O0 := Aside0.mk ((hb2.block _ (lt_of_heap o0)).trans o0)
  have O1 := Aside0.mk ((hb2.block _ (lt_of_heap o1)).trans o1)
  have N0 := Aside0.mk ((hb2.block _ (lt_of_heap n0)).trans n0)
  have N1 := Aside0.mk ((hb2.block _ (lt_of_heap n1)).trans n1)
  have HC := Aside0.mk hC
  have HCC := Aside0.mk hcc
  have HB := Aside0.mk (below_step hB1 hb2)
  clear hR hb2 o0 o1 n0 n1 hC hB1 e4 e5 hcc W1
  clear c
  simp only [show exC.length = 1 from rfl] at HCC HC ⊢
  go_wp2_with fail
  refine (dwrite_ex _ cc w2 HC.out HCC.out).mono ?_
  rintro e w3 ⟨v, rfl, hR3, hb3⟩
  obtain ⟨A3, c3, e2, hc3, hC3⟩ := Kd.R_reads hR3
  subst e2
  have CR := Aside0.mk (dread_ex A3 c3 w3 hC3 hc3)
  have HB3 := Aside0.mk hb3
  clear hR3 hb3 hC3
  go_wp2_with fail
  refine (CR.out).mono ?_
  rintro e w4 ⟨v, rfl, hR4, hb4⟩
  obtain ⟨gg, cg, cur4, e2, -, -, -, hcg, -⟩ := flat_C.open_ hR4 (by decide)
  subst e2
  obtain ⟨A, c, e3, -, hC4⟩ := Kd.R_reads hR4
  injection e3 with e3 e4 e5
  subst e3
  have hB23 : Below w2.heap.size w2 w4 := below_step HB3.out hb4
  have HG := Aside0.mk (GoodX.mk (w := w) (b := b) (gc := gc) (gg := gg) (below_step HB.out hB23) ((hB23.block _ (lt_of_heap O0.out)).trans O0.out) ((hB23.block _ (lt_of_heap O1.out)).trans O1.out)
    ((hB23.block _ (lt_of_heap N0.out)).trans N0.out) ((hB23.block _ (lt_of_heap N1.out)).trans N1.out) (Kd.C_below HC.out hB23) hC4)
  have HCG : Aside0 (1 ≤ cg) := Aside0.mk hcg
  clear hR4 hb4 hC4 hB23 HB3 HB O0 O1 N0 N1 HC CR e4 e5 hcg hc3 c
  obtain ⟨-, q0, q1, q2, q3, q4, q5⟩ := GoodX.cells HG
  go_wp2_with fail
  go_region_held3 (fun w' => Aside0 (GoodX w b gc gg w') ∧ w'.cell? ⟨gc, 0, none⟩ = some (.int .i64 0) ∧ w'.cell? ⟨gc, 1, none⟩ = some (.int .u64 2) ∧ w'.cell? ⟨gc, 2, none⟩ = some (.int .i64 2) ∧
    w'.cell? ⟨b + 1 + 1 + 1, 0, none⟩ = some (.slice (some ⟨b + 1 + 1, 0, none⟩) 2 2) ∧ w'.cell? ⟨b + 1 + 1, 2, none⟩ = some (.int .u64 2) ∧ w'.cell? ⟨b + 1 + 1, 3, none⟩ = some (.int .i64 2))
    (refine GoodX.cells ⟨GoodX.step HG.out (by (repeat (first | (with_reducible exact Below.refl _ _) | (with_reducible refine below_alloc ?_ _) | (with_reducible refine below_drew ?_))))⟩)
    (first
      | (go_at_call 9; (with_reducible refine (ex_apply cc HCC.out (show GoodX w b gc gg _ from GoodX.step HG.out (by (repeat (first | (with_reducible exact Below.refl _ _) | (with_reducible refine below_alloc ?_ _) | (with_reducible refine below_drew ?_)))))).mono ?_); rintro e w3 ⟨A7, c7, rfl, hC7, hc7, hb⟩; have HC7 := Aside0.mk hC7; have HC7c := Aside0.mk hc7; clear hC7 hc7; have HG1 := Aside0.mk (GoodX.step (show GoodX w b gc gg _ from GoodX.step HG.out (by (repeat (first | (with_reducible exact Below.refl _ _) | (with_reducible refine below_alloc ?_ _) | (with_reducible refine below_drew ?_))))) hb); clear HG hb; have HG := HG1; clear HG1; obtain ⟨-, q0, q1, q2, q3, q4, q5⟩ := GoodX.cells HG)
      | (go_at_call 35; (with_reducible refine (ex_same (Kd.C_below HC7.out (by (repeat (first | (with_reducible exact Below.refl _ _) | (with_reducible refine below_alloc ?_ _) | (with_reducible refine below_drew ?_))))) HC7c.out (show GoodX w b gc gg _ from GoodX.step HG.out (by (repeat (first | (with_reducible exact Below.refl _ _) | (with_reducible refine below_alloc ?_ _) | (with_reducible refine below_drew ?_)))))).mono ?_); rintro e w3 ⟨rfl, hb⟩; have HG1 := Aside0.mk (GoodX.step (show GoodX w b gc gg _ from GoodX.step HG.out (by (repeat (first | (with_reducible exact Below.refl _ _) | (with_reducible refine below_alloc ?_ _) | (with_reducible refine below_drew ?_))))) hb); clear HG hb; have HG := HG1; clear HG1; obtain ⟨-, q0, q1, q2, q3, q4, q5⟩ := GoodX.cells HG)
      | (go_at_call 36; (with_reducible refine (ex_rose (show GoodX w b gc gg _ from GoodX.step HG.out (by (repeat (first | (with_reducible exact Below.refl _ _) | (with_reducible refine below_alloc ?_ _) | (with_reducible refine below_drew ?_)))))).mono ?_); rintro e w3 ⟨rfl, hb⟩; have HG1 := Aside0.mk (GoodX.step (show GoodX w b gc gg _ from GoodX.step HG.out (by (repeat (first | (with_reducible exact Below.refl _ _) | (with_reducible refine below_alloc ?_ _) | (with_reducible refine below_drew ?_))))) hb); clear HG hb; have HG := HG1; clear HG1; obtain ⟨-, q0, q1, q2, q3, q4, q5⟩ := GoodX.cells HG)
      | (go_at_call 36; (with_reducible refine (ex_rose2 (show GoodX w b gc gg _ from GoodX.step HG.out (by (repeat (first | (with_reducible exact Below.refl _ _) | (with_reducible refine below_alloc ?_ _) | (with_reducible refine below_drew ?_)))))).mono ?_); rintro e w3 ⟨rfl, hb⟩; have HG1 := Aside0.mk (GoodX.step (show GoodX w b gc gg _ from GoodX.step HG.out (by (repeat (first | (with_reducible exact Below.refl _ _) | (with_reducible refine below_alloc ?_ _) | (with_reducible refine below_drew ?_))))) hb); clear HG hb; have HG := HG1; clear HG1; obtain ⟨-, q0, q1, q2, q3, q4, q5⟩ := GoodX.cells HG)
      | (go_at_call 39; (with_reducible refine (ex_sum (show GoodX w b gc gg _ from GoodX.step HG.out (by (repeat (first | (with_reducible exact Below.refl _ _) | (with_reducible refine below_alloc ?_ _) | (with_reducible refine below_drew ?_)))))).mono ?_); rintro e w3 ⟨rfl, hb⟩; have HG1 := Aside0.mk (GoodX.step (show GoodX w b gc gg _ from GoodX.step HG.out (by (repeat (first | (with_reducible exact Below.refl _ _) | (with_reducible refine below_alloc ?_ _) | (with_reducible refine below_drew ?_))))) hb); clear HG hb; have HG := HG1; clear HG1; obtain ⟨-, q0, q1, q2, q3, q4, q5⟩ := GoodX.cells HG)
      | (go_at_call 38; (with_reducible refine (ex_as gg cg HCG.out (GoodX.step HG.out (by (repeat (first | (with_reducible exact Below.refl _ _) | (with_reducible refine below_alloc ?_ _) | (with_reducible refine below_drew ?_))))).gt).mono ?_); rintro e w3 ⟨A8, c8, rfl, hC8, hc8, hb⟩; have HC8 := Aside0.mk hC8; have HC8c := Aside0.mk hc8; clear hC8 hc8; have HG1 := Aside0.mk (GoodX.step (show GoodX w b gc gg _ from GoodX.step HG.out (by (repeat (first | (with_reducible exact Below.refl _ _) | (with_reducible refine below_alloc ?_ _) | (with_reducible refine below_drew ?_))))) hb); clear HG hb; have HG := HG1; clear HG1; obtain ⟨-, q0, q1, q2, q3, q4, q5⟩ := GoodX.cells HG)
      | (go_at_call 38; (with_reducible refine (ex_as gc cc HCC.out (GoodX.step HG.out (by (repeat (first | (with_reducible exact Below.refl _ _) | (with_reducible refine below_alloc ?_ _) | (with_reducible refine below_drew ?_))))).cs).mono ?_); rintro e w3 ⟨A9, c9, rfl, hC9, hc9, hb⟩; have HC9 := Aside0.mk hC9; have HC9c := Aside0.mk hc9; have HC81 := Aside0.mk (Kd.C_below (Kd.C_below HC8.out (by (repeat (first | (with_reducible exact Below.refl _ _) | (with_reducible refine below_alloc ?_ _) | (with_reducible refine below_drew ?_))))) hb); clear hC9 hc9 HC8; have HG1 := Aside0.mk (GoodX.step (show GoodX w b gc gg _ from GoodX.step HG.out (by (repeat (first | (with_reducible exact Below.refl _ _) | (with_reducible refine below_alloc ?_ _) | (with_reducible refine below_drew ?_))))) hb); clear HG hb; have HG := HG1; clear HG1; obtain ⟨-, q0, q1, q2, q3, q4, q5⟩ := GoodX.cells HG)
      | (go_at_call 37; (with_reducible refine (ex_same2 (Kd.C_below HC81.out (by (repeat (first | (with_reducible exact Below.refl _ _) | (with_reducible refine below_alloc ?_ _) | (with_reducible refine below_drew ?_))))) HC8c.out (Kd.C_below HC9.out (by (repeat (first | (with_reducible exact Below.refl _ _) | (with_reducible refine below_alloc ?_ _) | (with_reducible refine below_drew ?_))))) HC9c.out).mono ?_); rintro e w3 ⟨rfl, hb⟩; have HG1 := Aside0.mk (GoodX.step (show GoodX w b gc gg _ from GoodX.step HG.out (by (repeat (first | (with_reducible exact Below.refl _ _) | (with_reducible refine below_alloc ?_ _) | (with_reducible refine below_drew ?_))))) hb); clear HG hb; have HG := HG1; clear HG1; obtain ⟨-, q0, q1, q2, q3, q4, q5⟩ := GoodX.cells HG))
  go_wp2_with fail
  all_goals
    go_ret
    exact ⟨rfl, (GoodX.step HG.out (by (repeat (first | (with_reducible exact Below.refl _ _) | (with_reducible refine below_alloc ?_ _) | (with_reducible refine below_drew ?_))))).below⟩
end Go.Proofs.Ytafhdamdkefpkaa

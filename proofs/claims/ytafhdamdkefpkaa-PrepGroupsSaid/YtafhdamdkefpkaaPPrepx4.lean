/- Printed by a program of this session (the kit's print, with contracts proved by hand as given): functions as plain Lean functions with a number of rounds, and their contracts. -/
import Derived.Test.YtafhdamdkefpkaaPPrepx0
import Derived.Test.YtafhdamdkefpkaaPPrepx1
import Derived.Test.YtafhdamdkefpkaaPPrepx2
import Derived.Test.YtafhdamdkefpkaaPPrepx3
namespace Go.Proofs.Ytafhdamdkefpkaa.PPrep
open Go.RowKit Go.Proofs.YtafhdamdkefpkaaW.PrintWords Go.Proofs.YtafhdamdkefpkaaW.PrintLast Go.Proofs.YtafhdamdkefpkaaW.PrintMore
attribute [local go_sem] max2_int min2_int max_two min_two max_three min_three max_four min_four   -- for this text's walks alone
set_option linter.unusedVariables false
set_option linter.unusedSimpArgs false

attribute [local go_sem high] eqA40
/-! ### saleroomref14_One: function 19 -/
mutual
def saleroomref14_One.l0 : Nat → List (S40) → List (S40) → Int → Option ((List (S40)))
  | 0, _, _, _ => none
  | k + 1, x0, x3, x4 => if x4 < (x0.length : Int) then (if 0 ≤ x4 then ((saleroomref14_Right.f ((rd_T40 x0 x4).f0) ((rd_T40 x0 x4).f1)).bind fun t134 => (saleroomref14_One.l1 k x0 x3 x4 t134 0 ((rd_T40 x0 x4).f0) ((rd_T40 x0 x4).f1))) else (none)) else (some x3)
def saleroomref14_One.l1 : Nat → List (S40) → List (S40) → Int → Bool → Int → Int → Int → Option ((List (S40)))
  | 0, _, _, _, _, _, _, _ => none
  | k + 1, x0, x3, x4, x6, x7, x134000, x134001 => if x7 < (x0.length : Int) then (saleroomref14_One.j2 k x0 x3 x4 x6 x7 x6 x134000 x134001) else (saleroomref14_One.j2 k x0 x3 x4 x6 x7 false x134000 x134001)
def saleroomref14_One.j2 : Nat → List (S40) → List (S40) → Int → Bool → Int → Bool → Int → Int → Option ((List (S40)))
  | 0, _, _, _, _, _, _, _, _ => none
  | k + 1, x0, x3, x4, x6, x7, x31, x134000, x134001 => if x31 = true then (if 0 ≤ x7 then (if x7 < (x0.length : Int) then (if x7 = x4 then (saleroomref14_One.l1 k x0 x3 x4 x6 (wrap64 (x7 + 1)) x134000 x134001) else ((saleroomref14_Right.f ((rd_T40 x0 x7).f0) ((rd_T40 x0 x7).f1)).bind fun t137 => (if t137 = true then ((saleroomref02_Within.f k ((rd_T40 x0 x7).f0) x134000).bind fun t138 => (if t138 = true then (if ((rd_T40 x0 x7).f1) < x134001 then (saleroomref14_One.l1 k x0 x3 x4 x6 (wrap64 (x7 + 1)) x134000 x134001) else (if (((rd_T40 x0 x7).f0) == x134000 && (((rd_T40 x0 x7).f1) == x134001)) = true then (saleroomref14_One.l1 k x0 x3 x4 (decide (x7 > x4)) (wrap64 (x7 + 1)) x134000 x134001) else (saleroomref14_One.l1 k x0 x3 x4 false (wrap64 (x7 + 1)) x134000 x134001))) else (saleroomref14_One.l1 k x0 x3 x4 x6 (wrap64 (x7 + 1)) x134000 x134001))) else (saleroomref14_One.l1 k x0 x3 x4 x6 (wrap64 (x7 + 1)) x134000 x134001)))) else (none)) else (none)) else (if x6 = true then (saleroomref14_One.l2 k x0 x3 x4 (([] : List (S40))) false 0 x134000 x134001) else (saleroomref14_One.l0 k x0 x3 (wrap64 (x4 + 1))))
def saleroomref14_One.l2 : Nat → List (S40) → List (S40) → Int → List (S40) → Bool → Int → Int → Int → Option ((List (S40)))
  | 0, _, _, _, _, _, _, _, _ => none
  | k + 1, x0, x3, x4, x9, x10, x11, x134000, x134001 => if x11 < (x3.length : Int) then (if x10 = true then (if 0 ≤ x11 then (if x9.length < 8796093022208 then (saleroomref14_One.l2 k x0 x3 x4 (x9 ++ [(⟨(rd_T40 x3 x11).f0, (rd_T40 x3 x11).f1⟩ : S40)]) x10 (wrap64 (x11 + 1)) x134000 x134001) else (none)) else (none)) else (if 0 ≤ x11 then ((saleroomref02_Cmp.f k x134000 ((rd_T40 x3 x11).f0)).bind fun t147 => (if t147 < 0 then (if x9.length < 8796093022208 then ((some (x9 ++ [(⟨x134000, x134001⟩ : S40)] : List (S40))).bind fun y148 => (if y148.length < 8796093022208 then (saleroomref14_One.l2 k x0 x3 x4 (y148 ++ [(⟨(rd_T40 x3 x11).f0, (rd_T40 x3 x11).f1⟩ : S40)]) true (wrap64 (x11 + 1)) x134000 x134001) else (none))) else (none)) else (if x9.length < 8796093022208 then (saleroomref14_One.l2 k x0 x3 x4 (x9 ++ [(⟨(rd_T40 x3 x11).f0, (rd_T40 x3 x11).f1⟩ : S40)]) x10 (wrap64 (x11 + 1)) x134000 x134001) else (none)))) else (none))) else (if x10 = true then (saleroomref14_One.l0 k x0 x9 (wrap64 (x4 + 1))) else (if x9.length < 8796093022208 then (saleroomref14_One.l0 k x0 (x9 ++ [(⟨x134000, x134001⟩ : S40)]) (wrap64 (x4 + 1))) else (none)))
end
def saleroomref14_One.f (k : Nat) (l0 : List (S40)) : Option ((List (S40))) := saleroomref14_One.l0 k l0 (([] : List (S40))) 0
theorem saleroomref14_One.mono_l : ∀ k, (∀ y0 y1 y2, LeO (saleroomref14_One.l0 k y0 y1 y2) (saleroomref14_One.l0 (k + 1) y0 y1 y2)) ∧ (∀ y0 y1 y2 y3 y4 y5 y6, LeO (saleroomref14_One.l1 k y0 y1 y2 y3 y4 y5 y6) (saleroomref14_One.l1 (k + 1) y0 y1 y2 y3 y4 y5 y6)) ∧ (∀ y0 y1 y2 y3 y4 y5 y6 y7, LeO (saleroomref14_One.j2 k y0 y1 y2 y3 y4 y5 y6 y7) (saleroomref14_One.j2 (k + 1) y0 y1 y2 y3 y4 y5 y6 y7)) ∧ (∀ y0 y1 y2 y3 y4 y5 y6 y7, LeO (saleroomref14_One.l2 k y0 y1 y2 y3 y4 y5 y6 y7) (saleroomref14_One.l2 (k + 1) y0 y1 y2 y3 y4 y5 y6 y7))
  | 0 => ⟨fun _ _ _ r h => by simp [saleroomref14_One.l0] at h, fun _ _ _ _ _ _ _ r h => by simp [saleroomref14_One.l1] at h, fun _ _ _ _ _ _ _ _ r h => by simp [saleroomref14_One.j2] at h, fun _ _ _ _ _ _ _ _ r h => by simp [saleroomref14_One.l2] at h⟩
  | k + 1 => by
    obtain ⟨ih0, ih1, ih2, ih3⟩ := saleroomref14_One.mono_l k
    refine ⟨?_, ?_, ?_, ?_⟩
    · intro y0 y1 y2
      unfold saleroomref14_One.l0
      repeat' first
      | (with_reducible exact ih0 _ _ _)
      | (with_reducible exact ih1 _ _ _ _ _ _ _)
      | (with_reducible exact ih2 _ _ _ _ _ _ _ _)
      | (with_reducible exact ih3 _ _ _ _ _ _ _ _)
      | (with_reducible exact saleroomref02_Cmp.mono _ _ _)
      | (with_reducible exact saleroomref02_Within.mono _ _ _)
      | (with_reducible exact LeO.refl _)
      | (with_reducible exact LeO.none _)
      | (with_reducible refine LeO.ite ?_ ?_)
      | (with_reducible refine LeO.bind ?_ (fun _ => ?_))
      | exact ih0 _ _ _
      | exact ih1 _ _ _ _ _ _ _
      | exact ih2 _ _ _ _ _ _ _ _
      | exact ih3 _ _ _ _ _ _ _ _
      | exact saleroomref02_Cmp.mono _ _ _
      | exact saleroomref02_Within.mono _ _ _
      | exact LeO.none _
      | refine LeO.ite ?_ ?_
      | refine LeO.bind ?_ (fun _ => ?_)
    · intro y0 y1 y2 y3 y4 y5 y6
      unfold saleroomref14_One.l1
      repeat' first
      | (with_reducible exact ih0 _ _ _)
      | (with_reducible exact ih1 _ _ _ _ _ _ _)
      | (with_reducible exact ih2 _ _ _ _ _ _ _ _)
      | (with_reducible exact ih3 _ _ _ _ _ _ _ _)
      | (with_reducible exact saleroomref02_Cmp.mono _ _ _)
      | (with_reducible exact saleroomref02_Within.mono _ _ _)
      | (with_reducible exact LeO.refl _)
      | (with_reducible exact LeO.none _)
      | (with_reducible refine LeO.ite ?_ ?_)
      | (with_reducible refine LeO.bind ?_ (fun _ => ?_))
      | exact ih0 _ _ _
      | exact ih1 _ _ _ _ _ _ _
      | exact ih2 _ _ _ _ _ _ _ _
      | exact ih3 _ _ _ _ _ _ _ _
      | exact saleroomref02_Cmp.mono _ _ _
      | exact saleroomref02_Within.mono _ _ _
      | exact LeO.none _
      | refine LeO.ite ?_ ?_
      | refine LeO.bind ?_ (fun _ => ?_)
    · intro y0 y1 y2 y3 y4 y5 y6 y7
      unfold saleroomref14_One.j2
      repeat' first
      | (with_reducible exact ih0 _ _ _)
      | (with_reducible exact ih1 _ _ _ _ _ _ _)
      | (with_reducible exact ih2 _ _ _ _ _ _ _ _)
      | (with_reducible exact ih3 _ _ _ _ _ _ _ _)
      | (with_reducible exact saleroomref02_Cmp.mono _ _ _)
      | (with_reducible exact saleroomref02_Within.mono _ _ _)
      | (with_reducible exact LeO.refl _)
      | (with_reducible exact LeO.none _)
      | (with_reducible refine LeO.ite ?_ ?_)
      | (with_reducible refine LeO.bind ?_ (fun _ => ?_))
      | exact ih0 _ _ _
      | exact ih1 _ _ _ _ _ _ _
      | exact ih2 _ _ _ _ _ _ _ _
      | exact ih3 _ _ _ _ _ _ _ _
      | exact saleroomref02_Cmp.mono _ _ _
      | exact saleroomref02_Within.mono _ _ _
      | exact LeO.none _
      | refine LeO.ite ?_ ?_
      | refine LeO.bind ?_ (fun _ => ?_)
    · intro y0 y1 y2 y3 y4 y5 y6 y7
      unfold saleroomref14_One.l2
      repeat' first
      | (with_reducible exact ih0 _ _ _)
      | (with_reducible exact ih1 _ _ _ _ _ _ _)
      | (with_reducible exact ih2 _ _ _ _ _ _ _ _)
      | (with_reducible exact ih3 _ _ _ _ _ _ _ _)
      | (with_reducible exact saleroomref02_Cmp.mono _ _ _)
      | (with_reducible exact saleroomref02_Within.mono _ _ _)
      | (with_reducible exact LeO.refl _)
      | (with_reducible exact LeO.none _)
      | (with_reducible refine LeO.ite ?_ ?_)
      | (with_reducible refine LeO.bind ?_ (fun _ => ?_))
      | exact ih0 _ _ _
      | exact ih1 _ _ _ _ _ _ _
      | exact ih2 _ _ _ _ _ _ _ _
      | exact ih3 _ _ _ _ _ _ _ _
      | exact saleroomref02_Cmp.mono _ _ _
      | exact saleroomref02_Within.mono _ _ _
      | exact LeO.none _
      | refine LeO.ite ?_ ?_
      | refine LeO.bind ?_ (fun _ => ?_)
theorem saleroomref14_One.mono : ∀ a0 k, LeO (saleroomref14_One.f k a0) (saleroomref14_One.f (k + 1) a0) := by
  intro a0 k
  obtain ⟨ih0, ih1, ih2, ih3⟩ := saleroomref14_One.mono_l k
  unfold saleroomref14_One.f
  repeat' first
      | (with_reducible exact ih0 _ _ _)
      | (with_reducible exact ih1 _ _ _ _ _ _ _)
      | (with_reducible exact ih2 _ _ _ _ _ _ _ _)
      | (with_reducible exact ih3 _ _ _ _ _ _ _ _)
      | (with_reducible exact saleroomref02_Cmp.mono _ _ _)
      | (with_reducible exact saleroomref02_Within.mono _ _ _)
      | (with_reducible exact LeO.refl _)
      | (with_reducible exact LeO.none _)
      | (with_reducible refine LeO.ite ?_ ?_)
      | (with_reducible refine LeO.bind ?_ (fun _ => ?_))
      | exact ih0 _ _ _
      | exact ih1 _ _ _ _ _ _ _
      | exact ih2 _ _ _ _ _ _ _ _
      | exact ih3 _ _ _ _ _ _ _ _
      | exact saleroomref02_Cmp.mono _ _ _
      | exact saleroomref02_Within.mono _ _ _
      | exact LeO.none _
      | refine LeO.ite ?_ ?_
      | refine LeO.bind ?_ (fun _ => ?_)
def saleroomref14_One.T19 : Bool × List (List Nat × List Nat) := (true, [([], []), ([0], [0]), ([1], [1]), ([2], [2]), ([3, 2], [2, 3]), ([2], [2]), ([2], [2]), ([5, 6, 2], [2, 5, 6]), ([7, 2], [2, 7]), ([8, 2], [2, 8]), ([4, 9, 2, 2], [2, 4, 9]), ([10, 2], [2, 10]), ([2, 11], [2, 11])])
def saleroomref14_One.B19 : List Nat := [0, 1, 3, 7, 15, 7, 7, 103, 231, 487, 1023, 2047, 4095]
theorem saleroomref14_One.tab19 : rtab .any (opsOf Try.f19 19) = saleroomref14_One.T19 := by kernel_rfl
theorem saleroomref14_One.bits19 : waitsOk saleroomref14_One.T19.2 saleroomref14_One.B19 = true := by kernel_rfl
set_option maxHeartbeats 8000000 in
set_option maxRecDepth 100000 in
theorem saleroomref14_One.calls (k : Nat) (A0 : Option Addr) (c0 : Nat) (l0 : List (S40)) (r : List (S40)) (w : World) (hr0 : Kd.C k40 w A0 l0.length l0) (hc0 : l0.length ≤ c0) (h : saleroomref14_One.f k l0 = some r) :
    Calls Try.prog 19 #[.slice A0 l0.length c0] w fun e w' => ∃ v0_ : Value, e = .returned (v0_) ∧ Kd.R k40 40 w' w.heap.size (fun _ => True) v0_ r ∧ Below w.heap.size w w' := by
  have hu40 := Try.underlying40
  have HR0 := Aside0.mk hr0
  have HC0 := Aside0.mk hc0
  clear hr0 hc0
  have HB := Aside0.mk (Below.refl w.heap.size w)
  have H : (saleroomref14_One.l0 k l0 (([] : List (S40))) 0) = some r := h
  clear h
  obtain ⟨y129, hy129⟩ : ∃ y_ : List (S40), y_ = (([] : List (S40))) := ⟨_, rfl⟩
  replace H : (saleroomref14_One.l0 k l0 y129 0) = some r := by first | (rw [hy129]; with_reducible exact H) | (have H2_ := (Option.bind_some _ _).symm.trans H; rw [hy129]; with_reducible exact H2_) | (have H2_ := (Option.bind_some _ _).symm.trans H; with_reducible exact H2_) | with_reducible exact H | (rw [hy129]; exact H) | exact H
  have Ny129 := Aside0.mk hy129
  clear hy129
  have H' := Aside0.mk H
  clear H
  go_enter Try.func19, Try.ntmps19
  go_wp2_with (first | ((with_reducible refine gate_dst (N := 12) rfl ?_); refine Kd.R_lit k40 _ 40 ?hg (N := 12) ?hd (xs := ([] : List (S40))) (inner := []) (ok := fun _ => True) (okp := fun _ => True) ?hr ?hp (fun _ hk => hk) trivial (Below.refl _ _) (Nat.le_refl _) (by simp) ?_; (case hd => rfl); (case hg => rfl); (case hr => first | (go_simp; done) | (go_simp; rfl)); (case hp => exact (Reps.none _ _)); intro v130 w2 ho3 hb hg_ hnew_; clear hg_ hnew_; (first | rw [← Ny129.out] at ho3 | (simp only [Int.reduceToNat] at ho3; rw [← Ny129.out] at ho3)); have n0_ := Aside0.mk (Kd.R_lower ho3 (below_size (by repeat (first | (with_reducible first | exact HB.out | apply below_alloc | apply pw_below_drewN | apply below_drew1) | exact HB.out)))); have n1_ := Aside0.mk (below_step (by repeat (first | (with_reducible first | exact HB.out | apply below_alloc | apply pw_below_drewN | apply below_drew1) | exact HB.out)) hb); clear HB; have HO131 := n0_; have HB := n1_; clear n0_ n1_; clear hb ho3))
  go_loopg [3, 4] k (fun kq v3 v4 w' => ∃ (x3_1 : List (S40)) (x4_1 : Int), v4 = .int .i64 x4_1 ∧ Aside0 (saleroomref14_One.l0 kq l0 x3_1 x4_1 = some r) ∧ Aside0 (kq ≤ k) ∧ Aside0 (Kd.R k40 40 w' w.heap.size (fun _ => True) v3 x3_1) ∧ Aside0 (Below w.heap.size w w'))
  case atStart => exact ⟨(y129), (0), (by first | rfl | (simp; done) | (simp [*]; done)), H', ⟨Nat.le_refl _⟩, ⟨by (with_reducible repeat (first | apply Kd.R_alloc | apply Kd.R_drewN | apply Kd.R_drew)); exact HO131.out⟩, ⟨by repeat (first | (with_reducible first | exact HB.out | apply below_alloc | apply pw_below_drewN | apply below_drew1) | exact HB.out)⟩⟩
  case round =>
    clear H'
    try clear c1
    try clear p2
    obtain ⟨x3_1, x4_1, rfl, HA, HK1, HO_3, HB⟩ := hrel
    cases gk with
    | zero => exact absurd HA.out (by simp [saleroomref14_One.l0])
    | succ k1 =>
      have H := HA.out
      clear HA
      simp only [saleroomref14_One.l0] at H
      by_cases c4 : x4_1 < (l0.length : Int)
      · rw [if_pos c4] at H
        have c4b0 : decide (x4_1 < (l0.length : Int)) = true := decide_eq_true c4
        clear c4
        by_cases c5 : 0 ≤ x4_1
        · rw [if_pos c5] at H
          have c5b0 : decide (0 ≤ x4_1) = true := decide_eq_true c5
          clear c5
          replace H := Option.bind_eq_some_iff.mp H
          obtain ⟨t134, A60, H⟩ := H
          replace H : (saleroomref14_One.l1 k1 l0 x3_1 x4_1 t134 0 ((rd_T40 l0 x4_1).f0) ((rd_T40 l0 x4_1).f1)) = some r := H
          have A6 := Aside0.mk A60
          clear A60
          have H' := Aside0.mk H
          clear H
          have p132 : 0 ≤ (x4_1 : Int) := of_decide_eq_true (by first | (with_reducible assumption) | assumption)
          have q132 : x4_1 < (l0.length : Int) := of_decide_eq_true (by first | (with_reducible assumption) | assumption)
          obtain ⟨ad132, e132, hx132_0, hx132_1⟩ := at_T40 HR0.out x4_1 p132 q132
          cases e132
          replace hx132_0 := (HB.out.cell (World.block_lt_of_cell? w _ hx132_0)).trans hx132_0
          replace hx132_1 := (HB.out.cell (World.block_lt_of_cell? w _ hx132_1)).trans hx132_1
          replace p132 := eq_true p132
          replace q132 := eq_true q132
          go_wp2_with (first | ((with_reducible refine gate_dst (N := 5) rfl ?_); refine box_event ?hg (N := 5) ?hd (cs := #[.int .u64 0, .int .i64 0]) (t := 40) ?hr ?_; (case hd => rfl); (case hg => rfl); (case hr => first | (go_simp; done) | (go_simp; rfl)); intro gb133 hg w7 hbox hb; have n0_ := Aside0.mk (Kd.R_below (Kd.R_elderB (by (with_reducible repeat (first | apply Kd.R_alloc | apply Kd.R_drewN | apply Kd.R_drew)); exact HO_3.out) gb133 (Nat.le_of_eq hg.symm)) hb); have n1_ := Aside0.mk (below_step (by repeat (first | (with_reducible first | exact HB.out | apply below_alloc | apply pw_below_drewN | apply below_drew1) | exact HB.out)) hb); have n2_ := Aside0.mk (hbox); have n3_ := Aside0.mk ((by rw [hg]; exact (below_size (by repeat (first | (with_reducible first | exact HB.out | apply below_alloc | apply pw_below_drewN | apply below_drew1) | exact HB.out))) : w.heap.size ≤ gb133)); have n4_ := Aside0.mk ((by rw [hg]; exact (below_size (by repeat (first | (with_reducible first | exact HB.out | apply below_alloc | apply pw_below_drewN | apply below_drew1) | exact HB.out))) : w.heap.size ≤ gb133)); clear HO_3; clear HB; have HO_3 := n0_; have HB := n1_; have BK133 := n2_; have GW133 := n3_; have GE133 := n4_; clear n0_ n1_ n2_ n3_ n4_; clear hb hbox hg; have hcz8_0 : w7.cell? ⟨gb133, 0, none⟩ = some (.int .u64 0) := (blk_cell BK133.out 0).trans rfl; have hcz8_1 : w7.cell? ⟨gb133, 1, none⟩ = some (.int .i64 0) := (blk_cell BK133.out 1).trans rfl; have hfz8_0 := blk_frozen BK133.out 0; have hfz8_1 := blk_frozen BK133.out 1) | ((with_reducible refine gate_callee (f := 16) rfl ?_); refine goesL_ (some 24) rfl rfl Try.func16 (by kernel_rfl) rfl #[.agg #[.int .u64 ((rd_T40 l0 x4_1).f0), .int .i64 ((rd_T40 l0 x4_1).f1)]] rfl (by (try simp only [List.map_toArray, List.map_cons, List.map_nil]); first | done | rfl | (simp only [List.length_drop, List.length_take]; rfl)) ?_; (with_reducible refine (saleroomref14_Right.calls ((rd_T40 l0 x4_1).f0) ((rd_T40 l0 x4_1).f1) t134 _ A6.out).mono ?_); rintro e w9 ⟨rfl, hb⟩; refine ⟨_, rfl, ?_⟩; have n0_ := Aside0.mk (Kd.R_below (by (with_reducible repeat (first | apply Kd.R_alloc | apply Kd.R_drewN | apply Kd.R_drew)); exact (Kd.R_mono (Kd.R_far (p := ⟨gb133, 1, none⟩) (Kd.R_far (p := ⟨gb133, 0, none⟩) (Kd.R_mono HO_3.out (fun k_ hk => (⟨hk, hk.2⟩ : _ ∧ k_ ≠ gb133))) (fun _ hk => hk.2) (.int .u64 ((rd_T40 l0 x4_1).f0))) (fun _ hk => hk.2) (.int .i64 ((rd_T40 l0 x4_1).f1))) (fun _ h_ => h_.1))) hb); have n1_ := Aside0.mk (blk_below (g := gb133) (o := .cells #[.int .u64 ((rd_T40 l0 x4_1).f0), .int .i64 ((rd_T40 l0 x4_1).f1)] 40 (0, 0)) (by (with_reducible repeat (first | refine blk_drewN ?_ _ | refine blk_drew ?_ | refine blk_alloc ?_ _)); refine blk_put (cs := #[.int .u64 ((rd_T40 l0 x4_1).f0), .int .i64 0]) ?_ 1 _ rfl; (with_reducible repeat (first | refine blk_drewN ?_ _ | refine blk_drew ?_ | refine blk_alloc ?_ _)); refine blk_put (cs := #[.int .u64 0, .int .i64 0]) ?_ 0 _ rfl; (with_reducible repeat (first | refine blk_drewN ?_ _ | refine blk_drew ?_ | refine blk_alloc ?_ _)); exact BK133.out) hb); have n2_ := Aside0.mk (below_step (by repeat (first | (with_reducible first | exact HB.out | apply below_alloc | apply pw_below_drewN | apply below_drew1 | refine below_set ?_ GE133.out) | exact HB.out)) hb); clear HO_3; clear BK133; clear HB; have HO_3 := n0_; have BK133 := n1_; have HB := n2_; clear n0_ n1_ n2_; (try clear hb); (try clear hb2); (try clear hk); (try clear hi)))
          go_loopg [6, 7] k1 (fun kq v6 v7 w' => ∃ (x6_2 : Bool) (x7_2 : Int), v6 = .bool x6_2 ∧ v7 = .int .i64 x7_2 ∧ Aside0 (saleroomref14_One.l1 kq l0 x3_1 x4_1 x6_2 x7_2 ((rd_T40 l0 x4_1).f0) ((rd_T40 l0 x4_1).f1) = some r) ∧ Aside0 (kq ≤ k1) ∧ Aside0 (Kd.R k40 40 w' w.heap.size (fun k_ => k_ ≠ gb133) u3 x3_1) ∧ Aside0 (w'.heap[gb133]? = some (.cells #[.int .u64 ((rd_T40 l0 x4_1).f0), .int .i64 ((rd_T40 l0 x4_1).f1)] 40 (0, 0))) ∧ Aside0 (Below w.heap.size w w'))
          case atStart => exact ⟨(t134), (0), (by first | rfl | (simp; done) | (simp [*]; done)), (by first | rfl | (simp; done) | (simp [*]; done)), H', ⟨Nat.le_refl _⟩, ⟨by (with_reducible repeat (first | apply Kd.R_alloc | apply Kd.R_drewN | apply Kd.R_drew)); exact Kd.R_mono HO_3.out (fun _ hk => hk.2)⟩, ⟨by (with_reducible repeat (first | refine blk_drewN ?_ _ | refine blk_drew ?_ | refine blk_alloc ?_ _)); exact BK133.out⟩, ⟨by repeat (first | (with_reducible first | exact HB.out | apply below_alloc | apply pw_below_drewN | apply below_drew1 | refine below_set ?_ GE133.out) | exact HB.out)⟩⟩
          case round =>
            clear H'
            try clear c1
            try clear p1
            try clear q1
            try clear hx1
            try clear p2
            try clear c4
            try clear c4b0
            try clear c5
            try clear c5b0
            try clear hcz8_0
            try clear hcz8_1
            try clear hfz8_0
            try clear hfz8_1
            try clear hx132_0
            try clear hx132_1
            try clear p132
            try clear p2
            try clear q132
            obtain ⟨x6_2, x7_2, rfl, rfl, HA, HK2, HO_3, BK133, HB⟩ := hrel
            cases gk with
            | zero => exact absurd HA.out (by simp [saleroomref14_One.l1])
            | succ k2 =>
              have H := HA.out
              clear HA
              simp only [saleroomref14_One.l1] at H
              have HC10 := Aside0.mk H
              clear H
              go_upto_region 8 with (fail)
              go_cut [31] (fun v31 wc => ∃ (kq : Nat) (x31_9 : Bool), v31 = .bool x31_9 ∧ Aside0 (saleroomref14_One.j2 kq l0 x3_1 x4_1 x6_2 x7_2 x31_9 ((rd_T40 l0 x4_1).f0) ((rd_T40 l0 x4_1).f1) = some r) ∧ Aside0 (kq ≤ k2) ∧ Aside0 (Kd.R k40 40 wc w.heap.size (fun k_ => k_ ≠ gb133) u3 x3_1) ∧ Aside0 (wc.heap[gb133]? = some (.cells #[.int .u64 ((rd_T40 l0 x4_1).f0), .int .i64 ((rd_T40 l0 x4_1).f1)] 40 (0, 0))) ∧ Aside0 (Below w.heap.size w wc))
              case first =>
                have H := HC10.out
                clear HC10
                by_cases c11 : x7_2 < (l0.length : Int)
                · rw [if_pos c11] at H
                  have c11b0 : decide (x7_2 < (l0.length : Int)) = true := decide_eq_true c11
                  clear c11
                  (first | rw [c11b0] | (simp only [i64_w, i32_w]; rw [c11b0]) | skip)
                  have H' := Aside0.mk H
                  clear H
                  go_wp2
                  go_meet
                  case rel => exact ⟨_, (x6_2), (by first | rfl | (simp; done) | (simp [*]; done)), H', ⟨by have := HK1.out; have := HK2.out; first | omega | exact Nat.le_refl _⟩, ⟨by (with_reducible repeat (first | apply Kd.R_alloc | apply Kd.R_drewN | apply Kd.R_drew)); exact HO_3.out⟩, ⟨by (with_reducible repeat (first | refine blk_drewN ?_ _ | refine blk_drew ?_ | refine blk_alloc ?_ _)); exact BK133.out⟩, ⟨by repeat (first | (with_reducible first | exact HB.out | apply below_alloc | apply pw_below_drewN | apply below_drew1 | refine below_set ?_ GE133.out) | exact HB.out)⟩⟩
                · rw [if_neg c11] at H
                  have c11b0 : decide (x7_2 < (l0.length : Int)) = false := decide_eq_false c11
                  clear c11
                  (first | rw [c11b0] | (simp only [i64_w, i32_w]; rw [c11b0]) | skip)
                  have H' := Aside0.mk H
                  clear H
                  go_wp2
                  go_meet
                  case rel => exact ⟨_, (false), (by first | rfl | (simp; done) | (simp [*]; done)), H', ⟨by have := HK1.out; have := HK2.out; first | omega | exact Nat.le_refl _⟩, ⟨by (with_reducible repeat (first | apply Kd.R_alloc | apply Kd.R_drewN | apply Kd.R_drew)); exact HO_3.out⟩, ⟨by (with_reducible repeat (first | refine blk_drewN ?_ _ | refine blk_drew ?_ | refine blk_alloc ?_ _)); exact BK133.out⟩, ⟨by repeat (first | (with_reducible first | exact HB.out | apply below_alloc | apply pw_below_drewN | apply below_drew1 | refine below_set ?_ GE133.out) | exact HB.out)⟩⟩
              case rest =>
                clear HC10
                try clear c1
                try clear p1
                try clear q1
                try clear hx1
                try clear p2
                try clear c4
                try clear c4b0
                try clear c5
                try clear c5b0
                try clear c11
                try clear c11b0
                try clear hcz8_0
                try clear hcz8_1
                try clear hfz8_0
                try clear hfz8_1
                try clear hx132_0
                try clear hx132_1
                try clear p1
                try clear p132
                try clear p2
                try clear q1
                try clear q132
                obtain ⟨kq, x31_9, rfl, HA, HJ9, HO_3, BK133, HB⟩ := hcut
                cases kq with
                | zero => exact absurd HA.out (by simp [saleroomref14_One.j2])
                | succ kj9 =>
                  have H := HA.out
                  clear HA
                  simp only [saleroomref14_One.j2] at H
                  by_cases c12 : x31_9 = true
                  · subst c12
                    have H1 : (if 0 ≤ x7_2 then (if x7_2 < (l0.length : Int) then (if x7_2 = x4_1 then (saleroomref14_One.l1 kj9 l0 x3_1 x4_1 x6_2 (wrap64 (x7_2 + 1)) ((rd_T40 l0 x4_1).f0) ((rd_T40 l0 x4_1).f1)) else ((saleroomref14_Right.f ((rd_T40 l0 x7_2).f0) ((rd_T40 l0 x7_2).f1)).bind fun t137 => (if t137 = true then ((saleroomref02_Within.f kj9 ((rd_T40 l0 x7_2).f0) ((rd_T40 l0 x4_1).f0)).bind fun t138 => (if t138 = true then (if ((rd_T40 l0 x7_2).f1) < ((rd_T40 l0 x4_1).f1) then (saleroomref14_One.l1 kj9 l0 x3_1 x4_1 x6_2 (wrap64 (x7_2 + 1)) ((rd_T40 l0 x4_1).f0) ((rd_T40 l0 x4_1).f1)) else (if (((rd_T40 l0 x7_2).f0) == ((rd_T40 l0 x4_1).f0) && (((rd_T40 l0 x7_2).f1) == ((rd_T40 l0 x4_1).f1))) = true then (saleroomref14_One.l1 kj9 l0 x3_1 x4_1 (decide (x7_2 > x4_1)) (wrap64 (x7_2 + 1)) ((rd_T40 l0 x4_1).f0) ((rd_T40 l0 x4_1).f1)) else (saleroomref14_One.l1 kj9 l0 x3_1 x4_1 false (wrap64 (x7_2 + 1)) ((rd_T40 l0 x4_1).f0) ((rd_T40 l0 x4_1).f1)))) else (saleroomref14_One.l1 kj9 l0 x3_1 x4_1 x6_2 (wrap64 (x7_2 + 1)) ((rd_T40 l0 x4_1).f0) ((rd_T40 l0 x4_1).f1)))) else (saleroomref14_One.l1 kj9 l0 x3_1 x4_1 x6_2 (wrap64 (x7_2 + 1)) ((rd_T40 l0 x4_1).f0) ((rd_T40 l0 x4_1).f1))))) else (none)) else (none)) = some r := by rw [if_pos rfl] at H; exact H
                    clear H
                    have H := H1
                    clear H1
                    by_cases c13 : 0 ≤ x7_2
                    · rw [if_pos c13] at H
                      have c13b0 : decide (0 ≤ x7_2) = true := decide_eq_true c13
                      clear c13
                      by_cases c14 : x7_2 < (l0.length : Int)
                      · rw [if_pos c14] at H
                        have c14b0 : decide (x7_2 < (l0.length : Int)) = true := decide_eq_true c14
                        clear c14
                        by_cases c15 : x7_2 = x4_1
                        · rw [if_pos c15] at H
                          have c15b0 : (x7_2 == x4_1) = true := beq_iff_eq.mpr c15
                          have c15b1 : (x7_2 != x4_1) = false := bne_eq_false_iff_eq.mpr c15
                          clear c15
                          have H' := Aside0.mk H
                          clear H
                          have p135 : 0 ≤ (x7_2 : Int) := of_decide_eq_true (by first | (with_reducible assumption) | assumption)
                          have q135 : x7_2 < (l0.length : Int) := of_decide_eq_true (by first | (with_reducible assumption) | assumption)
                          obtain ⟨ad135, e135, hx135_0, hx135_1⟩ := at_T40 HR0.out x7_2 p135 q135
                          obtain rfl : ad132 = ad135 := (by injection e135)
                          replace hx135_0 := (HB.out.cell (World.block_lt_of_cell? w _ hx135_0)).trans hx135_0
                          replace hx135_1 := (HB.out.cell (World.block_lt_of_cell? w _ hx135_1)).trans hx135_1
                          replace p135 := eq_true p135
                          replace q135 := eq_true q135
                          go_wp2_with (first | ((with_reducible refine gate_dst (N := 8) rfl ?_); refine box_event ?hg (N := 8) ?hd (cs := #[.int .u64 0, .int .i64 0]) (t := 40) ?hr ?_; (case hd => rfl); (case hg => rfl); (case hr => first | (go_simp; done) | (go_simp; rfl)); intro gb136 hg w16 hbox hb; have n0_ := Aside0.mk (Kd.R_below (Kd.R_elderB (by (with_reducible repeat (first | apply Kd.R_alloc | apply Kd.R_drewN | apply Kd.R_drew)); exact HO_3.out) gb136 (Nat.le_of_eq hg.symm)) hb); have n1_ := Aside0.mk (blk_below (g := gb133) (o := .cells #[.int .u64 ((rd_T40 l0 x4_1).f0), .int .i64 ((rd_T40 l0 x4_1).f1)] 40 (0, 0)) (by (with_reducible repeat (first | refine blk_drewN ?_ _ | refine blk_drew ?_ | refine blk_alloc ?_ _)); exact BK133.out) hb); have n2_ := Aside0.mk (below_step (by repeat (first | (with_reducible first | exact HB.out | apply below_alloc | apply pw_below_drewN | apply below_drew1 | refine below_set ?_ GE133.out) | exact HB.out)) hb); have n3_ := Aside0.mk (hbox); have n4_ := Aside0.mk ((by rw [hg]; exact (below_size (by repeat (first | (with_reducible first | exact HB.out | apply below_alloc | apply pw_below_drewN | apply below_drew1 | refine below_set ?_ GE133.out) | exact HB.out))) : w.heap.size ≤ gb136)); have n5_ := Aside0.mk ((by rw [hg]; exact (below_size (by repeat (first | (with_reducible first | exact HB.out | apply below_alloc | apply pw_below_drewN | apply below_drew1 | refine below_set ?_ GE133.out) | exact HB.out))) : w.heap.size ≤ gb136)); have n6_ := Aside0.mk ((by rw [hg]; exact Nat.ne_of_lt (blk_lt (g := gb133) (o := .cells #[.int .u64 ((rd_T40 l0 x4_1).f0), .int .i64 ((rd_T40 l0 x4_1).f1)] 40 (0, 0)) (by (with_reducible repeat (first | refine blk_drewN ?_ _ | refine blk_drew ?_ | refine blk_alloc ?_ _)); exact BK133.out)) : gb133 ≠ gb136)); have n7_ := Aside0.mk ((by rw [hg]; exact Nat.ne_of_gt (blk_lt (g := gb133) (o := .cells #[.int .u64 ((rd_T40 l0 x4_1).f0), .int .i64 ((rd_T40 l0 x4_1).f1)] 40 (0, 0)) (by (with_reducible repeat (first | refine blk_drewN ?_ _ | refine blk_drew ?_ | refine blk_alloc ?_ _)); exact BK133.out)) : gb136 ≠ gb133)); clear HO_3; clear BK133; clear HB; have HO_3 := n0_; have BK133 := n1_; have HB := n2_; have BK136 := n3_; have GW136 := n4_; have GE136 := n5_; have NB133_136 := n6_; have NB136_133 := n7_; clear n0_ n1_ n2_ n3_ n4_ n5_ n6_ n7_; clear hb hbox hg; have hnb17 := NB136_133.out; have hnc17 := NB133_136.out; have hcz18_0 : w16.cell? ⟨gb136, 0, none⟩ = some (.int .u64 0) := (blk_cell BK136.out 0).trans rfl; have hcz18_1 : w16.cell? ⟨gb136, 1, none⟩ = some (.int .i64 0) := (blk_cell BK136.out 1).trans rfl; have hfz18_0 := blk_frozen BK136.out 0; have hfz18_1 := blk_frozen BK136.out 1))
                          go_roundg kj9
                          case measure => have := HK1.out; have := HK2.out; have := HJ9.out; omega
                          case rel => exact ⟨(x6_2), (wrap64 (x7_2 + 1)), (by first | rfl | (simp; done) | (simp [*]; done)), (by first | rfl | (simp; done) | (simp [*]; done)), H', ⟨by have := HK1.out; have := HK2.out; have := HJ9.out; omega⟩, ⟨by (with_reducible repeat (first | apply Kd.R_alloc | apply Kd.R_drewN | apply Kd.R_drew)); exact Kd.R_mono (Kd.R_far (p := ⟨gb136, 1, none⟩) (Kd.R_far (p := ⟨gb136, 0, none⟩) (Kd.R_mono HO_3.out (fun k_ hk => (⟨hk, hk.2⟩ : _ ∧ k_ ≠ gb136))) (fun _ hk => hk.2) (.int .u64 ((rd_T40 l0 x7_2).f0))) (fun _ hk => hk.2) (.int .i64 ((rd_T40 l0 x7_2).f1))) (fun _ hk => hk.1.1)⟩, ⟨by (with_reducible repeat (first | refine blk_drewN ?_ _ | refine blk_drew ?_ | refine blk_alloc ?_ _)); refine blk_far ?_ NB133_136.out _; (with_reducible repeat (first | refine blk_drewN ?_ _ | refine blk_drew ?_ | refine blk_alloc ?_ _)); refine blk_far ?_ NB133_136.out _; (with_reducible repeat (first | refine blk_drewN ?_ _ | refine blk_drew ?_ | refine blk_alloc ?_ _)); exact BK133.out⟩, ⟨by repeat (first | (with_reducible first | exact HB.out | apply below_alloc | apply pw_below_drewN | apply below_drew1 | refine below_set ?_ GE133.out | refine below_set ?_ GE136.out) | exact HB.out)⟩⟩
                        · rw [if_neg c15] at H
                          have c15b0 : (x7_2 == x4_1) = false := beq_eq_false_iff_ne.mpr c15
                          have c15b1 : (x7_2 != x4_1) = true := bne_iff_ne.mpr c15
                          replace H := Option.bind_eq_some_iff.mp H
                          obtain ⟨t137, A190, H⟩ := H
                          replace H : (if t137 = true then ((saleroomref02_Within.f kj9 ((rd_T40 l0 x7_2).f0) ((rd_T40 l0 x4_1).f0)).bind fun t138 => (if t138 = true then (if ((rd_T40 l0 x7_2).f1) < ((rd_T40 l0 x4_1).f1) then (saleroomref14_One.l1 kj9 l0 x3_1 x4_1 x6_2 (wrap64 (x7_2 + 1)) ((rd_T40 l0 x4_1).f0) ((rd_T40 l0 x4_1).f1)) else (if (((rd_T40 l0 x7_2).f0) == ((rd_T40 l0 x4_1).f0) && (((rd_T40 l0 x7_2).f1) == ((rd_T40 l0 x4_1).f1))) = true then (saleroomref14_One.l1 kj9 l0 x3_1 x4_1 (decide (x7_2 > x4_1)) (wrap64 (x7_2 + 1)) ((rd_T40 l0 x4_1).f0) ((rd_T40 l0 x4_1).f1)) else (saleroomref14_One.l1 kj9 l0 x3_1 x4_1 false (wrap64 (x7_2 + 1)) ((rd_T40 l0 x4_1).f0) ((rd_T40 l0 x4_1).f1)))) else (saleroomref14_One.l1 kj9 l0 x3_1 x4_1 x6_2 (wrap64 (x7_2 + 1)) ((rd_T40 l0 x4_1).f0) ((rd_T40 l0 x4_1).f1)))) else (saleroomref14_One.l1 kj9 l0 x3_1 x4_1 x6_2 (wrap64 (x7_2 + 1)) ((rd_T40 l0 x4_1).f0) ((rd_T40 l0 x4_1).f1))) = some r := H
                          have A19 := Aside0.mk A190
                          clear A190
                          by_cases c20 : t137 = true
                          · subst c20
                            have H1 : ((saleroomref02_Within.f kj9 ((rd_T40 l0 x7_2).f0) ((rd_T40 l0 x4_1).f0)).bind fun t138 => (if t138 = true then (if ((rd_T40 l0 x7_2).f1) < ((rd_T40 l0 x4_1).f1) then (saleroomref14_One.l1 kj9 l0 x3_1 x4_1 x6_2 (wrap64 (x7_2 + 1)) ((rd_T40 l0 x4_1).f0) ((rd_T40 l0 x4_1).f1)) else (if (((rd_T40 l0 x7_2).f0) == ((rd_T40 l0 x4_1).f0) && (((rd_T40 l0 x7_2).f1) == ((rd_T40 l0 x4_1).f1))) = true then (saleroomref14_One.l1 kj9 l0 x3_1 x4_1 (decide (x7_2 > x4_1)) (wrap64 (x7_2 + 1)) ((rd_T40 l0 x4_1).f0) ((rd_T40 l0 x4_1).f1)) else (saleroomref14_One.l1 kj9 l0 x3_1 x4_1 false (wrap64 (x7_2 + 1)) ((rd_T40 l0 x4_1).f0) ((rd_T40 l0 x4_1).f1)))) else (saleroomref14_One.l1 kj9 l0 x3_1 x4_1 x6_2 (wrap64 (x7_2 + 1)) ((rd_T40 l0 x4_1).f0) ((rd_T40 l0 x4_1).f1)))) = some r := by rw [if_pos rfl] at H; exact H
                            clear H
                            have H := H1
                            clear H1
                            replace H := Option.bind_eq_some_iff.mp H
                            obtain ⟨t138, A210, H⟩ := H
                            replace H : (if t138 = true then (if ((rd_T40 l0 x7_2).f1) < ((rd_T40 l0 x4_1).f1) then (saleroomref14_One.l1 kj9 l0 x3_1 x4_1 x6_2 (wrap64 (x7_2 + 1)) ((rd_T40 l0 x4_1).f0) ((rd_T40 l0 x4_1).f1)) else (if (((rd_T40 l0 x7_2).f0) == ((rd_T40 l0 x4_1).f0) && (((rd_T40 l0 x7_2).f1) == ((rd_T40 l0 x4_1).f1))) = true then (saleroomref14_One.l1 kj9 l0 x3_1 x4_1 (decide (x7_2 > x4_1)) (wrap64 (x7_2 + 1)) ((rd_T40 l0 x4_1).f0) ((rd_T40 l0 x4_1).f1)) else (saleroomref14_One.l1 kj9 l0 x3_1 x4_1 false (wrap64 (x7_2 + 1)) ((rd_T40 l0 x4_1).f0) ((rd_T40 l0 x4_1).f1)))) else (saleroomref14_One.l1 kj9 l0 x3_1 x4_1 x6_2 (wrap64 (x7_2 + 1)) ((rd_T40 l0 x4_1).f0) ((rd_T40 l0 x4_1).f1))) = some r := H
                            have A21 := Aside0.mk A210
                            clear A210
                            by_cases c22 : t138 = true
                            · subst c22
                              have H1 : (if ((rd_T40 l0 x7_2).f1) < ((rd_T40 l0 x4_1).f1) then (saleroomref14_One.l1 kj9 l0 x3_1 x4_1 x6_2 (wrap64 (x7_2 + 1)) ((rd_T40 l0 x4_1).f0) ((rd_T40 l0 x4_1).f1)) else (if (((rd_T40 l0 x7_2).f0) == ((rd_T40 l0 x4_1).f0) && (((rd_T40 l0 x7_2).f1) == ((rd_T40 l0 x4_1).f1))) = true then (saleroomref14_One.l1 kj9 l0 x3_1 x4_1 (decide (x7_2 > x4_1)) (wrap64 (x7_2 + 1)) ((rd_T40 l0 x4_1).f0) ((rd_T40 l0 x4_1).f1)) else (saleroomref14_One.l1 kj9 l0 x3_1 x4_1 false (wrap64 (x7_2 + 1)) ((rd_T40 l0 x4_1).f0) ((rd_T40 l0 x4_1).f1)))) = some r := by rw [if_pos rfl] at H; exact H
                              clear H
                              have H := H1
                              clear H1
                              by_cases c23 : ((rd_T40 l0 x7_2).f1) < ((rd_T40 l0 x4_1).f1)
                              · rw [if_pos c23] at H
                                have c23b0 : decide (((rd_T40 l0 x7_2).f1) < ((rd_T40 l0 x4_1).f1)) = true := decide_eq_true c23
                                clear c23
                                have H' := Aside0.mk H
                                clear H
                                have p135 : 0 ≤ (x7_2 : Int) := of_decide_eq_true (by first | (with_reducible assumption) | assumption)
                                have q135 : x7_2 < (l0.length : Int) := of_decide_eq_true (by first | (with_reducible assumption) | assumption)
                                obtain ⟨ad135, e135, hx135_0, hx135_1⟩ := at_T40 HR0.out x7_2 p135 q135
                                obtain rfl : ad132 = ad135 := (by injection e135)
                                replace hx135_0 := (HB.out.cell (World.block_lt_of_cell? w _ hx135_0)).trans hx135_0
                                replace hx135_1 := (HB.out.cell (World.block_lt_of_cell? w _ hx135_1)).trans hx135_1
                                replace p135 := eq_true p135
                                replace q135 := eq_true q135
                                go_wp2_with (first | ((with_reducible refine gate_dst (N := 8) rfl ?_); refine box_event ?hg (N := 8) ?hd (cs := #[.int .u64 0, .int .i64 0]) (t := 40) ?hr ?_; (case hd => rfl); (case hg => rfl); (case hr => first | (go_simp; done) | (go_simp; rfl)); intro gb136 hg w24 hbox hb; have n0_ := Aside0.mk (Kd.R_below (Kd.R_elderB (by (with_reducible repeat (first | apply Kd.R_alloc | apply Kd.R_drewN | apply Kd.R_drew)); exact HO_3.out) gb136 (Nat.le_of_eq hg.symm)) hb); have n1_ := Aside0.mk (blk_below (g := gb133) (o := .cells #[.int .u64 ((rd_T40 l0 x4_1).f0), .int .i64 ((rd_T40 l0 x4_1).f1)] 40 (0, 0)) (by (with_reducible repeat (first | refine blk_drewN ?_ _ | refine blk_drew ?_ | refine blk_alloc ?_ _)); exact BK133.out) hb); have n2_ := Aside0.mk (below_step (by repeat (first | (with_reducible first | exact HB.out | apply below_alloc | apply pw_below_drewN | apply below_drew1 | refine below_set ?_ GE133.out) | exact HB.out)) hb); have n3_ := Aside0.mk (hbox); have n4_ := Aside0.mk ((by rw [hg]; exact (below_size (by repeat (first | (with_reducible first | exact HB.out | apply below_alloc | apply pw_below_drewN | apply below_drew1 | refine below_set ?_ GE133.out) | exact HB.out))) : w.heap.size ≤ gb136)); have n5_ := Aside0.mk ((by rw [hg]; exact (below_size (by repeat (first | (with_reducible first | exact HB.out | apply below_alloc | apply pw_below_drewN | apply below_drew1 | refine below_set ?_ GE133.out) | exact HB.out))) : w.heap.size ≤ gb136)); have n6_ := Aside0.mk ((by rw [hg]; exact Nat.ne_of_lt (blk_lt (g := gb133) (o := .cells #[.int .u64 ((rd_T40 l0 x4_1).f0), .int .i64 ((rd_T40 l0 x4_1).f1)] 40 (0, 0)) (by (with_reducible repeat (first | refine blk_drewN ?_ _ | refine blk_drew ?_ | refine blk_alloc ?_ _)); exact BK133.out)) : gb133 ≠ gb136)); have n7_ := Aside0.mk ((by rw [hg]; exact Nat.ne_of_gt (blk_lt (g := gb133) (o := .cells #[.int .u64 ((rd_T40 l0 x4_1).f0), .int .i64 ((rd_T40 l0 x4_1).f1)] 40 (0, 0)) (by (with_reducible repeat (first | refine blk_drewN ?_ _ | refine blk_drew ?_ | refine blk_alloc ?_ _)); exact BK133.out)) : gb136 ≠ gb133)); clear HO_3; clear BK133; clear HB; have HO_3 := n0_; have BK133 := n1_; have HB := n2_; have BK136 := n3_; have GW136 := n4_; have GE136 := n5_; have NB133_136 := n6_; have NB136_133 := n7_; clear n0_ n1_ n2_ n3_ n4_ n5_ n6_ n7_; clear hb hbox hg; have hnb25 := NB136_133.out; have hnc25 := NB133_136.out; have hcz26_0 : w24.cell? ⟨gb136, 0, none⟩ = some (.int .u64 0) := (blk_cell BK136.out 0).trans rfl; have hcz26_1 : w24.cell? ⟨gb136, 1, none⟩ = some (.int .i64 0) := (blk_cell BK136.out 1).trans rfl; have hfz26_0 := blk_frozen BK136.out 0; have hfz26_1 := blk_frozen BK136.out 1) | (go_at_call 16; (with_reducible refine (saleroomref14_Right.calls ((rd_T40 l0 x7_2).f0) ((rd_T40 l0 x7_2).f1) true _ A19.out).mono ?_); rintro e w27 ⟨rfl, hb⟩; have n0_ := Aside0.mk (Kd.R_below (by (with_reducible repeat (first | apply Kd.R_alloc | apply Kd.R_drewN | apply Kd.R_drew)); exact (Kd.R_mono (Kd.R_far (p := ⟨gb136, 1, none⟩) (Kd.R_far (p := ⟨gb136, 0, none⟩) (Kd.R_mono HO_3.out (fun k_ hk => (⟨hk, hk.2⟩ : _ ∧ k_ ≠ gb136))) (fun _ hk => hk.2) (.int .u64 ((rd_T40 l0 x7_2).f0))) (fun _ hk => hk.2) (.int .i64 ((rd_T40 l0 x7_2).f1))) (fun _ h_ => h_.1))) hb); have n1_ := Aside0.mk (blk_below (g := gb133) (o := .cells #[.int .u64 ((rd_T40 l0 x4_1).f0), .int .i64 ((rd_T40 l0 x4_1).f1)] 40 (0, 0)) (by (with_reducible repeat (first | refine blk_drewN ?_ _ | refine blk_drew ?_ | refine blk_alloc ?_ _)); refine blk_far ?_ NB133_136.out _; (with_reducible repeat (first | refine blk_drewN ?_ _ | refine blk_drew ?_ | refine blk_alloc ?_ _)); refine blk_far ?_ NB133_136.out _; (with_reducible repeat (first | refine blk_drewN ?_ _ | refine blk_drew ?_ | refine blk_alloc ?_ _)); exact BK133.out) hb); have n2_ := Aside0.mk (blk_below (g := gb136) (o := .cells #[.int .u64 ((rd_T40 l0 x7_2).f0), .int .i64 ((rd_T40 l0 x7_2).f1)] 40 (0, 0)) (by (with_reducible repeat (first | refine blk_drewN ?_ _ | refine blk_drew ?_ | refine blk_alloc ?_ _)); refine blk_put (cs := #[.int .u64 ((rd_T40 l0 x7_2).f0), .int .i64 0]) ?_ 1 _ rfl; (with_reducible repeat (first | refine blk_drewN ?_ _ | refine blk_drew ?_ | refine blk_alloc ?_ _)); refine blk_put (cs := #[.int .u64 0, .int .i64 0]) ?_ 0 _ rfl; (with_reducible repeat (first | refine blk_drewN ?_ _ | refine blk_drew ?_ | refine blk_alloc ?_ _)); exact BK136.out) hb); have n3_ := Aside0.mk (below_step (by repeat (first | (with_reducible first | exact HB.out | apply below_alloc | apply pw_below_drewN | apply below_drew1 | refine below_set ?_ GE133.out | refine below_set ?_ GE136.out) | exact HB.out)) hb); clear HO_3; clear BK133; clear BK136; clear HB; have HO_3 := n0_; have BK133 := n1_; have BK136 := n2_; have HB := n3_; clear n0_ n1_ n2_ n3_; (try clear hb); (try clear hb2); (try clear hk); (try clear hi); have hcz28_0 : w27.cell? ⟨gb136, 0, none⟩ = some (.int .u64 ((rd_T40 l0 x7_2).f0)) := (blk_cell BK136.out 0).trans rfl; have hcz28_1 : w27.cell? ⟨gb136, 1, none⟩ = some (.int .i64 ((rd_T40 l0 x7_2).f1)) := (blk_cell BK136.out 1).trans rfl; have hfz28_0 := blk_frozen BK136.out 0; have hfz28_1 := blk_frozen BK136.out 1; have hcz29_0 : w27.cell? ⟨gb133, 0, none⟩ = some (.int .u64 ((rd_T40 l0 x4_1).f0)) := (blk_cell BK133.out 0).trans rfl; have hcz29_1 : w27.cell? ⟨gb133, 1, none⟩ = some (.int .i64 ((rd_T40 l0 x4_1).f1)) := (blk_cell BK133.out 1).trans rfl; have hfz29_0 := blk_frozen BK133.out 0; have hfz29_1 := blk_frozen BK133.out 1) | (go_at_call 28; (with_reducible refine (saleroomref02_Within.calls kj9 ((rd_T40 l0 x7_2).f0) ((rd_T40 l0 x4_1).f0) true _ A21.out).mono ?_); rintro e w' ⟨rfl, ⟨nd, rfl⟩⟩))
                                go_roundg kj9
                                case measure => have := HK1.out; have := HK2.out; have := HJ9.out; omega
                                case rel => exact ⟨(x6_2), (wrap64 (x7_2 + 1)), (by first | rfl | (simp; done) | (simp [*]; done)), (by first | rfl | (simp; done) | (simp [*]; done)), H', ⟨by have := HK1.out; have := HK2.out; have := HJ9.out; omega⟩, ⟨by (with_reducible repeat (first | apply Kd.R_alloc | apply Kd.R_drewN | apply Kd.R_drew)); exact Kd.R_mono HO_3.out (fun _ hk => hk.1)⟩, ⟨by (with_reducible repeat (first | refine blk_drewN ?_ _ | refine blk_drew ?_ | refine blk_alloc ?_ _)); exact BK133.out⟩, ⟨by repeat (first | (with_reducible first | exact HB.out | apply below_alloc | apply pw_below_drewN | apply below_drew1 | refine below_set ?_ GE133.out | refine below_set ?_ GE136.out) | exact HB.out)⟩⟩
                              · rw [if_neg c23] at H
                                have c23b0 : decide (((rd_T40 l0 x7_2).f1) < ((rd_T40 l0 x4_1).f1)) = false := decide_eq_false c23
                                clear c23
                                by_cases c30 : (((rd_T40 l0 x7_2).f0) == ((rd_T40 l0 x4_1).f0) && (((rd_T40 l0 x7_2).f1) == ((rd_T40 l0 x4_1).f1))) = true
                                · rw [if_pos c30] at H
                                  have c30b0 : (((rd_T40 l0 x7_2).f0) == ((rd_T40 l0 x4_1).f0) && (((rd_T40 l0 x7_2).f1) == ((rd_T40 l0 x4_1).f1))) = true := c30
                                  (try (have c30b1 : decide (((rd_T40 l0 x7_2).f0) = ((rd_T40 l0 x4_1).f0) && (((rd_T40 l0 x7_2).f1) == ((rd_T40 l0 x4_1).f1))) = true := by simpa using c30))
                                  (try (have c30b2 : (((rd_T40 l0 x7_2).f0) == ((rd_T40 l0 x4_1).f0) && (((rd_T40 l0 x7_2).f1) == ((rd_T40 l0 x4_1).f1))) = true := by simpa using c30))
                                  clear c30
                                  have H' := Aside0.mk H
                                  clear H
                                  have p135 : 0 ≤ (x7_2 : Int) := of_decide_eq_true (by first | (with_reducible assumption) | assumption)
                                  have q135 : x7_2 < (l0.length : Int) := of_decide_eq_true (by first | (with_reducible assumption) | assumption)
                                  obtain ⟨ad135, e135, hx135_0, hx135_1⟩ := at_T40 HR0.out x7_2 p135 q135
                                  obtain rfl : ad132 = ad135 := (by injection e135)
                                  replace hx135_0 := (HB.out.cell (World.block_lt_of_cell? w _ hx135_0)).trans hx135_0
                                  replace hx135_1 := (HB.out.cell (World.block_lt_of_cell? w _ hx135_1)).trans hx135_1
                                  replace p135 := eq_true p135
                                  replace q135 := eq_true q135
                                  go_wp2_with (first | ((with_reducible refine gate_dst (N := 8) rfl ?_); refine box_event ?hg (N := 8) ?hd (cs := #[.int .u64 0, .int .i64 0]) (t := 40) ?hr ?_; (case hd => rfl); (case hg => rfl); (case hr => first | (go_simp; done) | (go_simp; rfl)); intro gb136 hg w31 hbox hb; have n0_ := Aside0.mk (Kd.R_below (Kd.R_elderB (by (with_reducible repeat (first | apply Kd.R_alloc | apply Kd.R_drewN | apply Kd.R_drew)); exact HO_3.out) gb136 (Nat.le_of_eq hg.symm)) hb); have n1_ := Aside0.mk (blk_below (g := gb133) (o := .cells #[.int .u64 ((rd_T40 l0 x4_1).f0), .int .i64 ((rd_T40 l0 x4_1).f1)] 40 (0, 0)) (by (with_reducible repeat (first | refine blk_drewN ?_ _ | refine blk_drew ?_ | refine blk_alloc ?_ _)); exact BK133.out) hb); have n2_ := Aside0.mk (below_step (by repeat (first | (with_reducible first | exact HB.out | apply below_alloc | apply pw_below_drewN | apply below_drew1 | refine below_set ?_ GE133.out) | exact HB.out)) hb); have n3_ := Aside0.mk (hbox); have n4_ := Aside0.mk ((by rw [hg]; exact (below_size (by repeat (first | (with_reducible first | exact HB.out | apply below_alloc | apply pw_below_drewN | apply below_drew1 | refine below_set ?_ GE133.out) | exact HB.out))) : w.heap.size ≤ gb136)); have n5_ := Aside0.mk ((by rw [hg]; exact (below_size (by repeat (first | (with_reducible first | exact HB.out | apply below_alloc | apply pw_below_drewN | apply below_drew1 | refine below_set ?_ GE133.out) | exact HB.out))) : w.heap.size ≤ gb136)); have n6_ := Aside0.mk ((by rw [hg]; exact Nat.ne_of_lt (blk_lt (g := gb133) (o := .cells #[.int .u64 ((rd_T40 l0 x4_1).f0), .int .i64 ((rd_T40 l0 x4_1).f1)] 40 (0, 0)) (by (with_reducible repeat (first | refine blk_drewN ?_ _ | refine blk_drew ?_ | refine blk_alloc ?_ _)); exact BK133.out)) : gb133 ≠ gb136)); have n7_ := Aside0.mk ((by rw [hg]; exact Nat.ne_of_gt (blk_lt (g := gb133) (o := .cells #[.int .u64 ((rd_T40 l0 x4_1).f0), .int .i64 ((rd_T40 l0 x4_1).f1)] 40 (0, 0)) (by (with_reducible repeat (first | refine blk_drewN ?_ _ | refine blk_drew ?_ | refine blk_alloc ?_ _)); exact BK133.out)) : gb136 ≠ gb133)); clear HO_3; clear BK133; clear HB; have HO_3 := n0_; have BK133 := n1_; have HB := n2_; have BK136 := n3_; have GW136 := n4_; have GE136 := n5_; have NB133_136 := n6_; have NB136_133 := n7_; clear n0_ n1_ n2_ n3_ n4_ n5_ n6_ n7_; clear hb hbox hg; have hnb32 := NB136_133.out; have hnc32 := NB133_136.out; have hcz33_0 : w31.cell? ⟨gb136, 0, none⟩ = some (.int .u64 0) := (blk_cell BK136.out 0).trans rfl; have hcz33_1 : w31.cell? ⟨gb136, 1, none⟩ = some (.int .i64 0) := (blk_cell BK136.out 1).trans rfl; have hfz33_0 := blk_frozen BK136.out 0; have hfz33_1 := blk_frozen BK136.out 1) | (go_at_call 16; (with_reducible refine (saleroomref14_Right.calls ((rd_T40 l0 x7_2).f0) ((rd_T40 l0 x7_2).f1) true _ A19.out).mono ?_); rintro e w34 ⟨rfl, hb⟩; have n0_ := Aside0.mk (Kd.R_below (by (with_reducible repeat (first | apply Kd.R_alloc | apply Kd.R_drewN | apply Kd.R_drew)); exact (Kd.R_mono (Kd.R_far (p := ⟨gb136, 1, none⟩) (Kd.R_far (p := ⟨gb136, 0, none⟩) (Kd.R_mono HO_3.out (fun k_ hk => (⟨hk, hk.2⟩ : _ ∧ k_ ≠ gb136))) (fun _ hk => hk.2) (.int .u64 ((rd_T40 l0 x7_2).f0))) (fun _ hk => hk.2) (.int .i64 ((rd_T40 l0 x7_2).f1))) (fun _ h_ => h_.1))) hb); have n1_ := Aside0.mk (blk_below (g := gb133) (o := .cells #[.int .u64 ((rd_T40 l0 x4_1).f0), .int .i64 ((rd_T40 l0 x4_1).f1)] 40 (0, 0)) (by (with_reducible repeat (first | refine blk_drewN ?_ _ | refine blk_drew ?_ | refine blk_alloc ?_ _)); refine blk_far ?_ NB133_136.out _; (with_reducible repeat (first | refine blk_drewN ?_ _ | refine blk_drew ?_ | refine blk_alloc ?_ _)); refine blk_far ?_ NB133_136.out _; (with_reducible repeat (first | refine blk_drewN ?_ _ | refine blk_drew ?_ | refine blk_alloc ?_ _)); exact BK133.out) hb); have n2_ := Aside0.mk (blk_below (g := gb136) (o := .cells #[.int .u64 ((rd_T40 l0 x7_2).f0), .int .i64 ((rd_T40 l0 x7_2).f1)] 40 (0, 0)) (by (with_reducible repeat (first | refine blk_drewN ?_ _ | refine blk_drew ?_ | refine blk_alloc ?_ _)); refine blk_put (cs := #[.int .u64 ((rd_T40 l0 x7_2).f0), .int .i64 0]) ?_ 1 _ rfl; (with_reducible repeat (first | refine blk_drewN ?_ _ | refine blk_drew ?_ | refine blk_alloc ?_ _)); refine blk_put (cs := #[.int .u64 0, .int .i64 0]) ?_ 0 _ rfl; (with_reducible repeat (first | refine blk_drewN ?_ _ | refine blk_drew ?_ | refine blk_alloc ?_ _)); exact BK136.out) hb); have n3_ := Aside0.mk (below_step (by repeat (first | (with_reducible first | exact HB.out | apply below_alloc | apply pw_below_drewN | apply below_drew1 | refine below_set ?_ GE133.out | refine below_set ?_ GE136.out) | exact HB.out)) hb); clear HO_3; clear BK133; clear BK136; clear HB; have HO_3 := n0_; have BK133 := n1_; have BK136 := n2_; have HB := n3_; clear n0_ n1_ n2_ n3_; (try clear hb); (try clear hb2); (try clear hk); (try clear hi); have hcz35_0 : w34.cell? ⟨gb136, 0, none⟩ = some (.int .u64 ((rd_T40 l0 x7_2).f0)) := (blk_cell BK136.out 0).trans rfl; have hcz35_1 : w34.cell? ⟨gb136, 1, none⟩ = some (.int .i64 ((rd_T40 l0 x7_2).f1)) := (blk_cell BK136.out 1).trans rfl; have hfz35_0 := blk_frozen BK136.out 0; have hfz35_1 := blk_frozen BK136.out 1; have hcz36_0 : w34.cell? ⟨gb133, 0, none⟩ = some (.int .u64 ((rd_T40 l0 x4_1).f0)) := (blk_cell BK133.out 0).trans rfl; have hcz36_1 : w34.cell? ⟨gb133, 1, none⟩ = some (.int .i64 ((rd_T40 l0 x4_1).f1)) := (blk_cell BK133.out 1).trans rfl; have hfz36_0 := blk_frozen BK133.out 0; have hfz36_1 := blk_frozen BK133.out 1) | (go_at_call 28; (with_reducible refine (saleroomref02_Within.calls kj9 ((rd_T40 l0 x7_2).f0) ((rd_T40 l0 x4_1).f0) true _ A21.out).mono ?_); rintro e w' ⟨rfl, ⟨nd, rfl⟩⟩))
                                  go_roundg kj9
                                  case measure => have := HK1.out; have := HK2.out; have := HJ9.out; omega
                                  case rel => exact ⟨(decide (x7_2 > x4_1)), (wrap64 (x7_2 + 1)), (by first | rfl | (simp; done) | (simp [*]; done)), (by first | rfl | (simp; done) | (simp [*]; done)), H', ⟨by have := HK1.out; have := HK2.out; have := HJ9.out; omega⟩, ⟨by (with_reducible repeat (first | apply Kd.R_alloc | apply Kd.R_drewN | apply Kd.R_drew)); exact Kd.R_mono HO_3.out (fun _ hk => hk.1)⟩, ⟨by (with_reducible repeat (first | refine blk_drewN ?_ _ | refine blk_drew ?_ | refine blk_alloc ?_ _)); exact BK133.out⟩, ⟨by repeat (first | (with_reducible first | exact HB.out | apply below_alloc | apply pw_below_drewN | apply below_drew1 | refine below_set ?_ GE133.out | refine below_set ?_ GE136.out) | exact HB.out)⟩⟩
                                · rw [if_neg c30] at H
                                  have c30b0 : (((rd_T40 l0 x7_2).f0) == ((rd_T40 l0 x4_1).f0) && (((rd_T40 l0 x7_2).f1) == ((rd_T40 l0 x4_1).f1))) = false := by simpa using c30
                                  (try (have c30b1 : decide (((rd_T40 l0 x7_2).f0) = ((rd_T40 l0 x4_1).f0) && (((rd_T40 l0 x7_2).f1) == ((rd_T40 l0 x4_1).f1))) = false := by simpa using c30))
                                  (try (have c30b2 : (((rd_T40 l0 x7_2).f0) == ((rd_T40 l0 x4_1).f0) && (((rd_T40 l0 x7_2).f1) == ((rd_T40 l0 x4_1).f1))) = false := by simpa using c30))
                                  (try (have c30b3 : ¬ (((rd_T40 l0 x7_2).f0) = ((rd_T40 l0 x4_1).f0) && (((rd_T40 l0 x7_2).f1) == ((rd_T40 l0 x4_1).f1))) := by simpa using c30))
                                  clear c30
                                  have H' := Aside0.mk H
                                  clear H
                                  have p135 : 0 ≤ (x7_2 : Int) := of_decide_eq_true (by first | (with_reducible assumption) | assumption)
                                  have q135 : x7_2 < (l0.length : Int) := of_decide_eq_true (by first | (with_reducible assumption) | assumption)
                                  obtain ⟨ad135, e135, hx135_0, hx135_1⟩ := at_T40 HR0.out x7_2 p135 q135
                                  obtain rfl : ad132 = ad135 := (by injection e135)
                                  replace hx135_0 := (HB.out.cell (World.block_lt_of_cell? w _ hx135_0)).trans hx135_0
                                  replace hx135_1 := (HB.out.cell (World.block_lt_of_cell? w _ hx135_1)).trans hx135_1
                                  replace p135 := eq_true p135
                                  replace q135 := eq_true q135
                                  go_wp2_with (first | ((with_reducible refine gate_dst (N := 8) rfl ?_); refine box_event ?hg (N := 8) ?hd (cs := #[.int .u64 0, .int .i64 0]) (t := 40) ?hr ?_; (case hd => rfl); (case hg => rfl); (case hr => first | (go_simp; done) | (go_simp; rfl)); intro gb136 hg w37 hbox hb; have n0_ := Aside0.mk (Kd.R_below (Kd.R_elderB (by (with_reducible repeat (first | apply Kd.R_alloc | apply Kd.R_drewN | apply Kd.R_drew)); exact HO_3.out) gb136 (Nat.le_of_eq hg.symm)) hb); have n1_ := Aside0.mk (blk_below (g := gb133) (o := .cells #[.int .u64 ((rd_T40 l0 x4_1).f0), .int .i64 ((rd_T40 l0 x4_1).f1)] 40 (0, 0)) (by (with_reducible repeat (first | refine blk_drewN ?_ _ | refine blk_drew ?_ | refine blk_alloc ?_ _)); exact BK133.out) hb); have n2_ := Aside0.mk (below_step (by repeat (first | (with_reducible first | exact HB.out | apply below_alloc | apply pw_below_drewN | apply below_drew1 | refine below_set ?_ GE133.out) | exact HB.out)) hb); have n3_ := Aside0.mk (hbox); have n4_ := Aside0.mk ((by rw [hg]; exact (below_size (by repeat (first | (with_reducible first | exact HB.out | apply below_alloc | apply pw_below_drewN | apply below_drew1 | refine below_set ?_ GE133.out) | exact HB.out))) : w.heap.size ≤ gb136)); have n5_ := Aside0.mk ((by rw [hg]; exact (below_size (by repeat (first | (with_reducible first | exact HB.out | apply below_alloc | apply pw_below_drewN | apply below_drew1 | refine below_set ?_ GE133.out) | exact HB.out))) : w.heap.size ≤ gb136)); have n6_ := Aside0.mk ((by rw [hg]; exact Nat.ne_of_lt (blk_lt (g := gb133) (o := .cells #[.int .u64 ((rd_T40 l0 x4_1).f0), .int .i64 ((rd_T40 l0 x4_1).f1)] 40 (0, 0)) (by (with_reducible repeat (first | refine blk_drewN ?_ _ | refine blk_drew ?_ | refine blk_alloc ?_ _)); exact BK133.out)) : gb133 ≠ gb136)); have n7_ := Aside0.mk ((by rw [hg]; exact Nat.ne_of_gt (blk_lt (g := gb133) (o := .cells #[.int .u64 ((rd_T40 l0 x4_1).f0), .int .i64 ((rd_T40 l0 x4_1).f1)] 40 (0, 0)) (by (with_reducible repeat (first | refine blk_drewN ?_ _ | refine blk_drew ?_ | refine blk_alloc ?_ _)); exact BK133.out)) : gb136 ≠ gb133)); clear HO_3; clear BK133; clear HB; have HO_3 := n0_; have BK133 := n1_; have HB := n2_; have BK136 := n3_; have GW136 := n4_; have GE136 := n5_; have NB133_136 := n6_; have NB136_133 := n7_; clear n0_ n1_ n2_ n3_ n4_ n5_ n6_ n7_; clear hb hbox hg; have hnb38 := NB136_133.out; have hnc38 := NB133_136.out; have hcz39_0 : w37.cell? ⟨gb136, 0, none⟩ = some (.int .u64 0) := (blk_cell BK136.out 0).trans rfl; have hcz39_1 : w37.cell? ⟨gb136, 1, none⟩ = some (.int .i64 0) := (blk_cell BK136.out 1).trans rfl; have hfz39_0 := blk_frozen BK136.out 0; have hfz39_1 := blk_frozen BK136.out 1) | (go_at_call 16; (with_reducible refine (saleroomref14_Right.calls ((rd_T40 l0 x7_2).f0) ((rd_T40 l0 x7_2).f1) true _ A19.out).mono ?_); rintro e w40 ⟨rfl, hb⟩; have n0_ := Aside0.mk (Kd.R_below (by (with_reducible repeat (first | apply Kd.R_alloc | apply Kd.R_drewN | apply Kd.R_drew)); exact (Kd.R_mono (Kd.R_far (p := ⟨gb136, 1, none⟩) (Kd.R_far (p := ⟨gb136, 0, none⟩) (Kd.R_mono HO_3.out (fun k_ hk => (⟨hk, hk.2⟩ : _ ∧ k_ ≠ gb136))) (fun _ hk => hk.2) (.int .u64 ((rd_T40 l0 x7_2).f0))) (fun _ hk => hk.2) (.int .i64 ((rd_T40 l0 x7_2).f1))) (fun _ h_ => h_.1))) hb); have n1_ := Aside0.mk (blk_below (g := gb133) (o := .cells #[.int .u64 ((rd_T40 l0 x4_1).f0), .int .i64 ((rd_T40 l0 x4_1).f1)] 40 (0, 0)) (by (with_reducible repeat (first | refine blk_drewN ?_ _ | refine blk_drew ?_ | refine blk_alloc ?_ _)); refine blk_far ?_ NB133_136.out _; (with_reducible repeat (first | refine blk_drewN ?_ _ | refine blk_drew ?_ | refine blk_alloc ?_ _)); refine blk_far ?_ NB133_136.out _; (with_reducible repeat (first | refine blk_drewN ?_ _ | refine blk_drew ?_ | refine blk_alloc ?_ _)); exact BK133.out) hb); have n2_ := Aside0.mk (blk_below (g := gb136) (o := .cells #[.int .u64 ((rd_T40 l0 x7_2).f0), .int .i64 ((rd_T40 l0 x7_2).f1)] 40 (0, 0)) (by (with_reducible repeat (first | refine blk_drewN ?_ _ | refine blk_drew ?_ | refine blk_alloc ?_ _)); refine blk_put (cs := #[.int .u64 ((rd_T40 l0 x7_2).f0), .int .i64 0]) ?_ 1 _ rfl; (with_reducible repeat (first | refine blk_drewN ?_ _ | refine blk_drew ?_ | refine blk_alloc ?_ _)); refine blk_put (cs := #[.int .u64 0, .int .i64 0]) ?_ 0 _ rfl; (with_reducible repeat (first | refine blk_drewN ?_ _ | refine blk_drew ?_ | refine blk_alloc ?_ _)); exact BK136.out) hb); have n3_ := Aside0.mk (below_step (by repeat (first | (with_reducible first | exact HB.out | apply below_alloc | apply pw_below_drewN | apply below_drew1 | refine below_set ?_ GE133.out | refine below_set ?_ GE136.out) | exact HB.out)) hb); clear HO_3; clear BK133; clear BK136; clear HB; have HO_3 := n0_; have BK133 := n1_; have BK136 := n2_; have HB := n3_; clear n0_ n1_ n2_ n3_; (try clear hb); (try clear hb2); (try clear hk); (try clear hi); have hcz41_0 : w40.cell? ⟨gb136, 0, none⟩ = some (.int .u64 ((rd_T40 l0 x7_2).f0)) := (blk_cell BK136.out 0).trans rfl; have hcz41_1 : w40.cell? ⟨gb136, 1, none⟩ = some (.int .i64 ((rd_T40 l0 x7_2).f1)) := (blk_cell BK136.out 1).trans rfl; have hfz41_0 := blk_frozen BK136.out 0; have hfz41_1 := blk_frozen BK136.out 1; have hcz42_0 : w40.cell? ⟨gb133, 0, none⟩ = some (.int .u64 ((rd_T40 l0 x4_1).f0)) := (blk_cell BK133.out 0).trans rfl; have hcz42_1 : w40.cell? ⟨gb133, 1, none⟩ = some (.int .i64 ((rd_T40 l0 x4_1).f1)) := (blk_cell BK133.out 1).trans rfl; have hfz42_0 := blk_frozen BK133.out 0; have hfz42_1 := blk_frozen BK133.out 1) | (go_at_call 28; (with_reducible refine (saleroomref02_Within.calls kj9 ((rd_T40 l0 x7_2).f0) ((rd_T40 l0 x4_1).f0) true _ A21.out).mono ?_); rintro e w' ⟨rfl, ⟨nd, rfl⟩⟩))
                                  go_roundg kj9
                                  case measure => have := HK1.out; have := HK2.out; have := HJ9.out; omega
                                  case rel => exact ⟨(false), (wrap64 (x7_2 + 1)), (by first | rfl | (simp; done) | (simp [*]; done)), (by first | rfl | (simp; done) | (simp [*]; done)), H', ⟨by have := HK1.out; have := HK2.out; have := HJ9.out; omega⟩, ⟨by (with_reducible repeat (first | apply Kd.R_alloc | apply Kd.R_drewN | apply Kd.R_drew)); exact Kd.R_mono HO_3.out (fun _ hk => hk.1)⟩, ⟨by (with_reducible repeat (first | refine blk_drewN ?_ _ | refine blk_drew ?_ | refine blk_alloc ?_ _)); exact BK133.out⟩, ⟨by repeat (first | (with_reducible first | exact HB.out | apply below_alloc | apply pw_below_drewN | apply below_drew1 | refine below_set ?_ GE133.out | refine below_set ?_ GE136.out) | exact HB.out)⟩⟩
                            · replace c22 := Bool.eq_false_iff.mpr c22
                              subst c22
                              have H1 : (saleroomref14_One.l1 kj9 l0 x3_1 x4_1 x6_2 (wrap64 (x7_2 + 1)) ((rd_T40 l0 x4_1).f0) ((rd_T40 l0 x4_1).f1)) = some r := by rw [if_neg (show ¬ (false = true) by decide)] at H; exact H
                              clear H
                              have H := H1
                              clear H1
                              have H' := Aside0.mk H
                              clear H
                              have p135 : 0 ≤ (x7_2 : Int) := of_decide_eq_true (by first | (with_reducible assumption) | assumption)
                              have q135 : x7_2 < (l0.length : Int) := of_decide_eq_true (by first | (with_reducible assumption) | assumption)
                              obtain ⟨ad135, e135, hx135_0, hx135_1⟩ := at_T40 HR0.out x7_2 p135 q135
                              obtain rfl : ad132 = ad135 := (by injection e135)
                              replace hx135_0 := (HB.out.cell (World.block_lt_of_cell? w _ hx135_0)).trans hx135_0
                              replace hx135_1 := (HB.out.cell (World.block_lt_of_cell? w _ hx135_1)).trans hx135_1
                              replace p135 := eq_true p135
                              replace q135 := eq_true q135
                              go_wp2_with (first | ((with_reducible refine gate_dst (N := 8) rfl ?_); refine box_event ?hg (N := 8) ?hd (cs := #[.int .u64 0, .int .i64 0]) (t := 40) ?hr ?_; (case hd => rfl); (case hg => rfl); (case hr => first | (go_simp; done) | (go_simp; rfl)); intro gb136 hg w43 hbox hb; have n0_ := Aside0.mk (Kd.R_below (Kd.R_elderB (by (with_reducible repeat (first | apply Kd.R_alloc | apply Kd.R_drewN | apply Kd.R_drew)); exact HO_3.out) gb136 (Nat.le_of_eq hg.symm)) hb); have n1_ := Aside0.mk (blk_below (g := gb133) (o := .cells #[.int .u64 ((rd_T40 l0 x4_1).f0), .int .i64 ((rd_T40 l0 x4_1).f1)] 40 (0, 0)) (by (with_reducible repeat (first | refine blk_drewN ?_ _ | refine blk_drew ?_ | refine blk_alloc ?_ _)); exact BK133.out) hb); have n2_ := Aside0.mk (below_step (by repeat (first | (with_reducible first | exact HB.out | apply below_alloc | apply pw_below_drewN | apply below_drew1 | refine below_set ?_ GE133.out) | exact HB.out)) hb); have n3_ := Aside0.mk (hbox); have n4_ := Aside0.mk ((by rw [hg]; exact (below_size (by repeat (first | (with_reducible first | exact HB.out | apply below_alloc | apply pw_below_drewN | apply below_drew1 | refine below_set ?_ GE133.out) | exact HB.out))) : w.heap.size ≤ gb136)); have n5_ := Aside0.mk ((by rw [hg]; exact (below_size (by repeat (first | (with_reducible first | exact HB.out | apply below_alloc | apply pw_below_drewN | apply below_drew1 | refine below_set ?_ GE133.out) | exact HB.out))) : w.heap.size ≤ gb136)); have n6_ := Aside0.mk ((by rw [hg]; exact Nat.ne_of_lt (blk_lt (g := gb133) (o := .cells #[.int .u64 ((rd_T40 l0 x4_1).f0), .int .i64 ((rd_T40 l0 x4_1).f1)] 40 (0, 0)) (by (with_reducible repeat (first | refine blk_drewN ?_ _ | refine blk_drew ?_ | refine blk_alloc ?_ _)); exact BK133.out)) : gb133 ≠ gb136)); have n7_ := Aside0.mk ((by rw [hg]; exact Nat.ne_of_gt (blk_lt (g := gb133) (o := .cells #[.int .u64 ((rd_T40 l0 x4_1).f0), .int .i64 ((rd_T40 l0 x4_1).f1)] 40 (0, 0)) (by (with_reducible repeat (first | refine blk_drewN ?_ _ | refine blk_drew ?_ | refine blk_alloc ?_ _)); exact BK133.out)) : gb136 ≠ gb133)); clear HO_3; clear BK133; clear HB; have HO_3 := n0_; have BK133 := n1_; have HB := n2_; have BK136 := n3_; have GW136 := n4_; have GE136 := n5_; have NB133_136 := n6_; have NB136_133 := n7_; clear n0_ n1_ n2_ n3_ n4_ n5_ n6_ n7_; clear hb hbox hg; have hnb44 := NB136_133.out; have hnc44 := NB133_136.out; have hcz45_0 : w43.cell? ⟨gb136, 0, none⟩ = some (.int .u64 0) := (blk_cell BK136.out 0).trans rfl; have hcz45_1 : w43.cell? ⟨gb136, 1, none⟩ = some (.int .i64 0) := (blk_cell BK136.out 1).trans rfl; have hfz45_0 := blk_frozen BK136.out 0; have hfz45_1 := blk_frozen BK136.out 1) | (go_at_call 16; (with_reducible refine (saleroomref14_Right.calls ((rd_T40 l0 x7_2).f0) ((rd_T40 l0 x7_2).f1) true _ A19.out).mono ?_); rintro e w46 ⟨rfl, hb⟩; have n0_ := Aside0.mk (Kd.R_below (by (with_reducible repeat (first | apply Kd.R_alloc | apply Kd.R_drewN | apply Kd.R_drew)); exact (Kd.R_mono (Kd.R_far (p := ⟨gb136, 1, none⟩) (Kd.R_far (p := ⟨gb136, 0, none⟩) (Kd.R_mono HO_3.out (fun k_ hk => (⟨hk, hk.2⟩ : _ ∧ k_ ≠ gb136))) (fun _ hk => hk.2) (.int .u64 ((rd_T40 l0 x7_2).f0))) (fun _ hk => hk.2) (.int .i64 ((rd_T40 l0 x7_2).f1))) (fun _ h_ => h_.1))) hb); have n1_ := Aside0.mk (blk_below (g := gb133) (o := .cells #[.int .u64 ((rd_T40 l0 x4_1).f0), .int .i64 ((rd_T40 l0 x4_1).f1)] 40 (0, 0)) (by (with_reducible repeat (first | refine blk_drewN ?_ _ | refine blk_drew ?_ | refine blk_alloc ?_ _)); refine blk_far ?_ NB133_136.out _; (with_reducible repeat (first | refine blk_drewN ?_ _ | refine blk_drew ?_ | refine blk_alloc ?_ _)); refine blk_far ?_ NB133_136.out _; (with_reducible repeat (first | refine blk_drewN ?_ _ | refine blk_drew ?_ | refine blk_alloc ?_ _)); exact BK133.out) hb); have n2_ := Aside0.mk (blk_below (g := gb136) (o := .cells #[.int .u64 ((rd_T40 l0 x7_2).f0), .int .i64 ((rd_T40 l0 x7_2).f1)] 40 (0, 0)) (by (with_reducible repeat (first | refine blk_drewN ?_ _ | refine blk_drew ?_ | refine blk_alloc ?_ _)); refine blk_put (cs := #[.int .u64 ((rd_T40 l0 x7_2).f0), .int .i64 0]) ?_ 1 _ rfl; (with_reducible repeat (first | refine blk_drewN ?_ _ | refine blk_drew ?_ | refine blk_alloc ?_ _)); refine blk_put (cs := #[.int .u64 0, .int .i64 0]) ?_ 0 _ rfl; (with_reducible repeat (first | refine blk_drewN ?_ _ | refine blk_drew ?_ | refine blk_alloc ?_ _)); exact BK136.out) hb); have n3_ := Aside0.mk (below_step (by repeat (first | (with_reducible first | exact HB.out | apply below_alloc | apply pw_below_drewN | apply below_drew1 | refine below_set ?_ GE133.out | refine below_set ?_ GE136.out) | exact HB.out)) hb); clear HO_3; clear BK133; clear BK136; clear HB; have HO_3 := n0_; have BK133 := n1_; have BK136 := n2_; have HB := n3_; clear n0_ n1_ n2_ n3_; (try clear hb); (try clear hb2); (try clear hk); (try clear hi); have hcz47_0 : w46.cell? ⟨gb136, 0, none⟩ = some (.int .u64 ((rd_T40 l0 x7_2).f0)) := (blk_cell BK136.out 0).trans rfl; have hcz47_1 : w46.cell? ⟨gb136, 1, none⟩ = some (.int .i64 ((rd_T40 l0 x7_2).f1)) := (blk_cell BK136.out 1).trans rfl; have hfz47_0 := blk_frozen BK136.out 0; have hfz47_1 := blk_frozen BK136.out 1; have hcz48_0 : w46.cell? ⟨gb133, 0, none⟩ = some (.int .u64 ((rd_T40 l0 x4_1).f0)) := (blk_cell BK133.out 0).trans rfl; have hcz48_1 : w46.cell? ⟨gb133, 1, none⟩ = some (.int .i64 ((rd_T40 l0 x4_1).f1)) := (blk_cell BK133.out 1).trans rfl; have hfz48_0 := blk_frozen BK133.out 0; have hfz48_1 := blk_frozen BK133.out 1) | (go_at_call 28; (with_reducible refine (saleroomref02_Within.calls kj9 ((rd_T40 l0 x7_2).f0) ((rd_T40 l0 x4_1).f0) false _ A21.out).mono ?_); rintro e w' ⟨rfl, ⟨nd, rfl⟩⟩))
                              go_roundg kj9
                              case measure => have := HK1.out; have := HK2.out; have := HJ9.out; omega
                              case rel => exact ⟨(x6_2), (wrap64 (x7_2 + 1)), (by first | rfl | (simp; done) | (simp [*]; done)), (by first | rfl | (simp; done) | (simp [*]; done)), H', ⟨by have := HK1.out; have := HK2.out; have := HJ9.out; omega⟩, ⟨by (with_reducible repeat (first | apply Kd.R_alloc | apply Kd.R_drewN | apply Kd.R_drew)); exact Kd.R_mono HO_3.out (fun _ hk => hk.1)⟩, ⟨by (with_reducible repeat (first | refine blk_drewN ?_ _ | refine blk_drew ?_ | refine blk_alloc ?_ _)); exact BK133.out⟩, ⟨by repeat (first | (with_reducible first | exact HB.out | apply below_alloc | apply pw_below_drewN | apply below_drew1 | refine below_set ?_ GE133.out | refine below_set ?_ GE136.out) | exact HB.out)⟩⟩
                          · replace c20 := Bool.eq_false_iff.mpr c20
                            subst c20
                            have H1 : (saleroomref14_One.l1 kj9 l0 x3_1 x4_1 x6_2 (wrap64 (x7_2 + 1)) ((rd_T40 l0 x4_1).f0) ((rd_T40 l0 x4_1).f1)) = some r := by rw [if_neg (show ¬ (false = true) by decide)] at H; exact H
                            clear H
                            have H := H1
                            clear H1
                            have H' := Aside0.mk H
                            clear H
                            have p135 : 0 ≤ (x7_2 : Int) := of_decide_eq_true (by first | (with_reducible assumption) | assumption)
                            have q135 : x7_2 < (l0.length : Int) := of_decide_eq_true (by first | (with_reducible assumption) | assumption)
                            obtain ⟨ad135, e135, hx135_0, hx135_1⟩ := at_T40 HR0.out x7_2 p135 q135
                            obtain rfl : ad132 = ad135 := (by injection e135)
                            replace hx135_0 := (HB.out.cell (World.block_lt_of_cell? w _ hx135_0)).trans hx135_0
                            replace hx135_1 := (HB.out.cell (World.block_lt_of_cell? w _ hx135_1)).trans hx135_1
                            replace p135 := eq_true p135
                            replace q135 := eq_true q135
                            go_wp2_with (first | ((with_reducible refine gate_dst (N := 8) rfl ?_); refine box_event ?hg (N := 8) ?hd (cs := #[.int .u64 0, .int .i64 0]) (t := 40) ?hr ?_; (case hd => rfl); (case hg => rfl); (case hr => first | (go_simp; done) | (go_simp; rfl)); intro gb136 hg w49 hbox hb; have n0_ := Aside0.mk (Kd.R_below (Kd.R_elderB (by (with_reducible repeat (first | apply Kd.R_alloc | apply Kd.R_drewN | apply Kd.R_drew)); exact HO_3.out) gb136 (Nat.le_of_eq hg.symm)) hb); have n1_ := Aside0.mk (blk_below (g := gb133) (o := .cells #[.int .u64 ((rd_T40 l0 x4_1).f0), .int .i64 ((rd_T40 l0 x4_1).f1)] 40 (0, 0)) (by (with_reducible repeat (first | refine blk_drewN ?_ _ | refine blk_drew ?_ | refine blk_alloc ?_ _)); exact BK133.out) hb); have n2_ := Aside0.mk (below_step (by repeat (first | (with_reducible first | exact HB.out | apply below_alloc | apply pw_below_drewN | apply below_drew1 | refine below_set ?_ GE133.out) | exact HB.out)) hb); have n3_ := Aside0.mk (hbox); have n4_ := Aside0.mk ((by rw [hg]; exact (below_size (by repeat (first | (with_reducible first | exact HB.out | apply below_alloc | apply pw_below_drewN | apply below_drew1 | refine below_set ?_ GE133.out) | exact HB.out))) : w.heap.size ≤ gb136)); have n5_ := Aside0.mk ((by rw [hg]; exact (below_size (by repeat (first | (with_reducible first | exact HB.out | apply below_alloc | apply pw_below_drewN | apply below_drew1 | refine below_set ?_ GE133.out) | exact HB.out))) : w.heap.size ≤ gb136)); have n6_ := Aside0.mk ((by rw [hg]; exact Nat.ne_of_lt (blk_lt (g := gb133) (o := .cells #[.int .u64 ((rd_T40 l0 x4_1).f0), .int .i64 ((rd_T40 l0 x4_1).f1)] 40 (0, 0)) (by (with_reducible repeat (first | refine blk_drewN ?_ _ | refine blk_drew ?_ | refine blk_alloc ?_ _)); exact BK133.out)) : gb133 ≠ gb136)); have n7_ := Aside0.mk ((by rw [hg]; exact Nat.ne_of_gt (blk_lt (g := gb133) (o := .cells #[.int .u64 ((rd_T40 l0 x4_1).f0), .int .i64 ((rd_T40 l0 x4_1).f1)] 40 (0, 0)) (by (with_reducible repeat (first | refine blk_drewN ?_ _ | refine blk_drew ?_ | refine blk_alloc ?_ _)); exact BK133.out)) : gb136 ≠ gb133)); clear HO_3; clear BK133; clear HB; have HO_3 := n0_; have BK133 := n1_; have HB := n2_; have BK136 := n3_; have GW136 := n4_; have GE136 := n5_; have NB133_136 := n6_; have NB136_133 := n7_; clear n0_ n1_ n2_ n3_ n4_ n5_ n6_ n7_; clear hb hbox hg; have hnb50 := NB136_133.out; have hnc50 := NB133_136.out; have hcz51_0 : w49.cell? ⟨gb136, 0, none⟩ = some (.int .u64 0) := (blk_cell BK136.out 0).trans rfl; have hcz51_1 : w49.cell? ⟨gb136, 1, none⟩ = some (.int .i64 0) := (blk_cell BK136.out 1).trans rfl; have hfz51_0 := blk_frozen BK136.out 0; have hfz51_1 := blk_frozen BK136.out 1) | (go_at_call 16; (with_reducible refine (saleroomref14_Right.calls ((rd_T40 l0 x7_2).f0) ((rd_T40 l0 x7_2).f1) false _ A19.out).mono ?_); rintro e w52 ⟨rfl, hb⟩; have n0_ := Aside0.mk (Kd.R_below (by (with_reducible repeat (first | apply Kd.R_alloc | apply Kd.R_drewN | apply Kd.R_drew)); exact (Kd.R_mono (Kd.R_far (p := ⟨gb136, 1, none⟩) (Kd.R_far (p := ⟨gb136, 0, none⟩) (Kd.R_mono HO_3.out (fun k_ hk => (⟨hk, hk.2⟩ : _ ∧ k_ ≠ gb136))) (fun _ hk => hk.2) (.int .u64 ((rd_T40 l0 x7_2).f0))) (fun _ hk => hk.2) (.int .i64 ((rd_T40 l0 x7_2).f1))) (fun _ h_ => h_.1))) hb); have n1_ := Aside0.mk (blk_below (g := gb133) (o := .cells #[.int .u64 ((rd_T40 l0 x4_1).f0), .int .i64 ((rd_T40 l0 x4_1).f1)] 40 (0, 0)) (by (with_reducible repeat (first | refine blk_drewN ?_ _ | refine blk_drew ?_ | refine blk_alloc ?_ _)); refine blk_far ?_ NB133_136.out _; (with_reducible repeat (first | refine blk_drewN ?_ _ | refine blk_drew ?_ | refine blk_alloc ?_ _)); refine blk_far ?_ NB133_136.out _; (with_reducible repeat (first | refine blk_drewN ?_ _ | refine blk_drew ?_ | refine blk_alloc ?_ _)); exact BK133.out) hb); have n2_ := Aside0.mk (blk_below (g := gb136) (o := .cells #[.int .u64 ((rd_T40 l0 x7_2).f0), .int .i64 ((rd_T40 l0 x7_2).f1)] 40 (0, 0)) (by (with_reducible repeat (first | refine blk_drewN ?_ _ | refine blk_drew ?_ | refine blk_alloc ?_ _)); refine blk_put (cs := #[.int .u64 ((rd_T40 l0 x7_2).f0), .int .i64 0]) ?_ 1 _ rfl; (with_reducible repeat (first | refine blk_drewN ?_ _ | refine blk_drew ?_ | refine blk_alloc ?_ _)); refine blk_put (cs := #[.int .u64 0, .int .i64 0]) ?_ 0 _ rfl; (with_reducible repeat (first | refine blk_drewN ?_ _ | refine blk_drew ?_ | refine blk_alloc ?_ _)); exact BK136.out) hb); have n3_ := Aside0.mk (below_step (by repeat (first | (with_reducible first | exact HB.out | apply below_alloc | apply pw_below_drewN | apply below_drew1 | refine below_set ?_ GE133.out | refine below_set ?_ GE136.out) | exact HB.out)) hb); clear HO_3; clear BK133; clear BK136; clear HB; have HO_3 := n0_; have BK133 := n1_; have BK136 := n2_; have HB := n3_; clear n0_ n1_ n2_ n3_; (try clear hb); (try clear hb2); (try clear hk); (try clear hi)))
                            go_roundg kj9
                            case measure => have := HK1.out; have := HK2.out; have := HJ9.out; omega
                            case rel => exact ⟨(x6_2), (wrap64 (x7_2 + 1)), (by first | rfl | (simp; done) | (simp [*]; done)), (by first | rfl | (simp; done) | (simp [*]; done)), H', ⟨by have := HK1.out; have := HK2.out; have := HJ9.out; omega⟩, ⟨by (with_reducible repeat (first | apply Kd.R_alloc | apply Kd.R_drewN | apply Kd.R_drew)); exact Kd.R_mono HO_3.out (fun _ hk => hk.1)⟩, ⟨by (with_reducible repeat (first | refine blk_drewN ?_ _ | refine blk_drew ?_ | refine blk_alloc ?_ _)); exact BK133.out⟩, ⟨by repeat (first | (with_reducible first | exact HB.out | apply below_alloc | apply pw_below_drewN | apply below_drew1 | refine below_set ?_ GE133.out | refine below_set ?_ GE136.out) | exact HB.out)⟩⟩
                      · rw [if_neg c14] at H
                        exact absurd H (by simp)
                    · rw [if_neg c13] at H
                      exact absurd H (by simp)
                  · replace c12 := Bool.eq_false_iff.mpr c12
                    subst c12
                    have H1 : (if x6_2 = true then (saleroomref14_One.l2 kj9 l0 x3_1 x4_1 (([] : List (S40))) false 0 ((rd_T40 l0 x4_1).f0) ((rd_T40 l0 x4_1).f1)) else (saleroomref14_One.l0 kj9 l0 x3_1 (wrap64 (x4_1 + 1)))) = some r := by rw [if_neg (show ¬ (false = true) by decide)] at H; exact H
                    clear H
                    have H := H1
                    clear H1
                    by_cases c53 : x6_2 = true
                    · subst c53
                      have H1 : (saleroomref14_One.l2 kj9 l0 x3_1 x4_1 (([] : List (S40))) false 0 ((rd_T40 l0 x4_1).f0) ((rd_T40 l0 x4_1).f1)) = some r := by rw [if_pos rfl] at H; exact H
                      clear H
                      have H := H1
                      clear H1
                      obtain ⟨y139, hy139⟩ : ∃ y_ : List (S40), y_ = (([] : List (S40))) := ⟨_, rfl⟩
                      replace H : (saleroomref14_One.l2 kj9 l0 x3_1 x4_1 y139 false 0 ((rd_T40 l0 x4_1).f0) ((rd_T40 l0 x4_1).f1)) = some r := by first | (rw [hy139]; with_reducible exact H) | (have H2_ := (Option.bind_some _ _).symm.trans H; rw [hy139]; with_reducible exact H2_) | (have H2_ := (Option.bind_some _ _).symm.trans H; with_reducible exact H2_) | with_reducible exact H | (rw [hy139]; exact H) | exact H
                      have Ny139 := Aside0.mk hy139
                      clear hy139
                      have H' := Aside0.mk H
                      clear H
                      go_wp2_with (first | ((with_reducible refine gate_dst (N := 71) rfl ?_); refine Kd.R_lit k40 _ 40 ?hg (N := 71) ?hd (xs := ([] : List (S40))) (inner := []) (ok := fun _ => True) (okp := fun _ => True) ?hr ?hp (fun _ hk => hk) trivial (Below.refl _ _) (Nat.le_refl _) (by simp) ?_; (case hd => rfl); (case hg => rfl); (case hr => first | (go_simp; done) | (go_simp; rfl)); (case hp => exact (Reps.none _ _)); intro v140 w54 ho55 hb hg_ hnew_; clear hg_ hnew_; (first | rw [← Ny139.out] at ho55 | (simp only [Int.reduceToNat] at ho55; rw [← Ny139.out] at ho55)); have n0_ := Aside0.mk (Kd.R_elder' (by (with_reducible repeat (first | apply Kd.R_alloc | apply Kd.R_drewN | apply Kd.R_drew)); exact HO_3.out) (Kd.R_base ho55) hb); have n1_ := Aside0.mk (Kd.R_lower (Kd.R_newB (Kd.R_new' ho55 (Kd.R_lt (by (with_reducible repeat (first | apply Kd.R_alloc | apply Kd.R_drewN | apply Kd.R_drew)); exact HO_3.out))) (g := gb133) (o := .cells #[.int .u64 ((rd_T40 l0 x4_1).f0), .int .i64 ((rd_T40 l0 x4_1).f1)] 40 (0, 0)) (by (with_reducible repeat (first | refine blk_drewN ?_ _ | refine blk_drew ?_ | refine blk_alloc ?_ _)); exact BK133.out)) (below_size (by repeat (first | (with_reducible first | exact HB.out | apply below_alloc | apply pw_below_drewN | apply below_drew1 | refine below_set ?_ GE133.out) | exact HB.out)))); have n2_ := Aside0.mk (blk_below (g := gb133) (o := .cells #[.int .u64 ((rd_T40 l0 x4_1).f0), .int .i64 ((rd_T40 l0 x4_1).f1)] 40 (0, 0)) (by (with_reducible repeat (first | refine blk_drewN ?_ _ | refine blk_drew ?_ | refine blk_alloc ?_ _)); exact BK133.out) hb); have n3_ := Aside0.mk (below_step (by repeat (first | (with_reducible first | exact HB.out | apply below_alloc | apply pw_below_drewN | apply below_drew1 | refine below_set ?_ GE133.out) | exact HB.out)) hb); clear HO_3; clear BK133; clear HB; have HO_3 := n0_; have HO141 := n1_; have BK133 := n2_; have HB := n3_; clear n0_ n1_ n2_ n3_; clear hb ho55))
                      go_loopg [9, 10, 11] kj9 (fun kq v9 v10 v11 w' => ∃ (x9_4 : List (S40)) (x10_4 : Bool) (x11_4 : Int), v10 = .bool x10_4 ∧ v11 = .int .i64 x11_4 ∧ Aside0 (saleroomref14_One.l2 kq l0 x3_1 x4_1 x9_4 x10_4 x11_4 ((rd_T40 l0 x4_1).f0) ((rd_T40 l0 x4_1).f1) = some r) ∧ Aside0 (kq ≤ kj9) ∧ Aside0 (Kd.R k40 40 w' w.heap.size (fun k_ => some k_ ≠ (v9 : Value).ownBlock ∧ k_ ≠ gb133) u3 x3_1) ∧ Aside0 (Kd.R k40 40 w' w.heap.size (fun k_ => some k_ ≠ (u3 : Value).ownBlock ∧ k_ ≠ gb133) v9 x9_4) ∧ Aside0 (w'.heap[gb133]? = some (.cells #[.int .u64 ((rd_T40 l0 x4_1).f0), .int .i64 ((rd_T40 l0 x4_1).f1)] 40 (0, 0))) ∧ Aside0 (Below w.heap.size w w'))
                      case atStart => exact ⟨(y139), (false), (0), (by first | rfl | (simp; done) | (simp [*]; done)), (by first | rfl | (simp; done) | (simp [*]; done)), H', ⟨Nat.le_refl _⟩, ⟨by (with_reducible repeat (first | apply Kd.R_alloc | apply Kd.R_drewN | apply Kd.R_drew)); exact Kd.R_mono HO_3.out (fun _ hk => ⟨hk.2, hk.1⟩)⟩, ⟨by (with_reducible repeat (first | apply Kd.R_alloc | apply Kd.R_drewN | apply Kd.R_drew)); exact Kd.R_mono HO141.out (fun _ hk => ⟨hk.1.2, hk.2⟩)⟩, ⟨by (with_reducible repeat (first | refine blk_drewN ?_ _ | refine blk_drew ?_ | refine blk_alloc ?_ _)); exact BK133.out⟩, ⟨by repeat (first | (with_reducible first | exact HB.out | apply below_alloc | apply pw_below_drewN | apply below_drew1 | refine below_set ?_ GE133.out) | exact HB.out)⟩⟩
                      case round =>
                        clear H'
                        try clear c1
                        try clear p1
                        try clear q1
                        try clear hx1
                        try clear c2
                        try clear p2
                        try clear c3
                        try clear c4
                        try clear c4b0
                        try clear c5
                        try clear c5b0
                        try clear p6
                        try clear c11
                        try clear c11b0
                        try clear c12
                        try clear c13
                        try clear c13b0
                        try clear p13
                        try clear q13
                        try clear hx13
                        try clear c14
                        try clear c14b0
                        try clear c15
                        try clear c15b0
                        try clear c15b1
                        try clear c16
                        try clear c17
                        try clear c19
                        try clear c20
                        try clear c22
                        try clear c23
                        try clear c23b0
                        try clear c25
                        try clear c30
                        try clear c30b0
                        try clear c30b1
                        try clear c30b2
                        try clear c32
                        try clear c38
                        try clear c44
                        try clear c50
                        try clear c53
                        try clear hcz18_0
                        try clear hcz18_1
                        try clear hcz26_0
                        try clear hcz26_1
                        try clear hcz28_0
                        try clear hcz28_1
                        try clear hcz29_0
                        try clear hcz29_1
                        try clear hcz33_0
                        try clear hcz33_1
                        try clear hcz35_0
                        try clear hcz35_1
                        try clear hcz36_0
                        try clear hcz36_1
                        try clear hcz39_0
                        try clear hcz39_1
                        try clear hcz41_0
                        try clear hcz41_1
                        try clear hcz42_0
                        try clear hcz42_1
                        try clear hcz45_0
                        try clear hcz45_1
                        try clear hcz47_0
                        try clear hcz47_1
                        try clear hcz48_0
                        try clear hcz48_1
                        try clear hcz51_0
                        try clear hcz51_1
                        try clear hcz8_0
                        try clear hcz8_1
                        try clear hfz18_0
                        try clear hfz18_1
                        try clear hfz26_0
                        try clear hfz26_1
                        try clear hfz28_0
                        try clear hfz28_1
                        try clear hfz29_0
                        try clear hfz29_1
                        try clear hfz33_0
                        try clear hfz33_1
                        try clear hfz35_0
                        try clear hfz35_1
                        try clear hfz36_0
                        try clear hfz36_1
                        try clear hfz39_0
                        try clear hfz39_1
                        try clear hfz41_0
                        try clear hfz41_1
                        try clear hfz42_0
                        try clear hfz42_1
                        try clear hfz45_0
                        try clear hfz45_1
                        try clear hfz47_0
                        try clear hfz47_1
                        try clear hfz48_0
                        try clear hfz48_1
                        try clear hfz51_0
                        try clear hfz51_1
                        try clear hfz8_0
                        try clear hfz8_1
                        try clear hx132_0
                        try clear hx132_1
                        try clear hx135_0
                        try clear hx135_1
                        try clear p1
                        try clear p132
                        try clear p135
                        try clear p2
                        try clear q1
                        try clear q132
                        try clear q135
                        obtain ⟨x9_4, x10_4, x11_4, rfl, rfl, HA, HK4, HO_3, HO_9, BK133, HB⟩ := hrel
                        cases gk with
                        | zero => exact absurd HA.out (by simp [saleroomref14_One.l2])
                        | succ k4 =>
                          have H := HA.out
                          clear HA
                          simp only [saleroomref14_One.l2] at H
                          by_cases c56 : x11_4 < (x3_1.length : Int)
                          · rw [if_pos c56] at H
                            have c56b0 : decide (x11_4 < (x3_1.length : Int)) = true := decide_eq_true c56
                            clear c56
                            by_cases c57 : x10_4 = true
                            · subst c57
                              have H1 : (if 0 ≤ x11_4 then (if x9_4.length < 8796093022208 then (saleroomref14_One.l2 k4 l0 x3_1 x4_1 (x9_4 ++ [(⟨(rd_T40 x3_1 x11_4).f0, (rd_T40 x3_1 x11_4).f1⟩ : S40)]) true (wrap64 (x11_4 + 1)) ((rd_T40 l0 x4_1).f0) ((rd_T40 l0 x4_1).f1)) else (none)) else (none)) = some r := by rw [if_pos rfl] at H; exact H
                              clear H
                              have H := H1
                              clear H1
                              by_cases c58 : 0 ≤ x11_4
                              · rw [if_pos c58] at H
                                have c58b0 : decide (0 ≤ x11_4) = true := decide_eq_true c58
                                clear c58
                                by_cases c59 : x9_4.length < 8796093022208
                                · rw [if_pos c59] at H
                                  have LMc59 := Aside0.mk c59
                                  clear c59
                                  obtain ⟨y143, hy143⟩ : ∃ y_ : List (S40), y_ = (x9_4 ++ [(⟨(rd_T40 x3_1 x11_4).f0, (rd_T40 x3_1 x11_4).f1⟩ : S40)]) := ⟨_, rfl⟩
                                  replace H : (saleroomref14_One.l2 k4 l0 x3_1 x4_1 y143 true (wrap64 (x11_4 + 1)) ((rd_T40 l0 x4_1).f0) ((rd_T40 l0 x4_1).f1)) = some r := by first | (rw [hy143]; with_reducible exact H) | (have H2_ := (Option.bind_some _ _).symm.trans H; rw [hy143]; with_reducible exact H2_) | (have H2_ := (Option.bind_some _ _).symm.trans H; with_reducible exact H2_) | with_reducible exact H | (rw [hy143]; exact H) | exact H
                                  have Ny143 := Aside0.mk hy143
                                  clear hy143
                                  have H' := Aside0.mk H
                                  clear H
                                  obtain ⟨Ao60, co60, eo60⟩ := Kd.R_slice HO_3.out
                                  subst eo60
                                  try go_wp2
                                  have n0_ := Aside0.mk (Kd.R_drew HO_3.out)
                                  have n1_ := Aside0.mk (Kd.R_drew HO_9.out)
                                  have n2_ := Aside0.mk (blk_drew BK133.out)
                                  have n3_ := Aside0.mk (below_drew1 HB.out)
                                  clear HO_3
                                  clear HO_9
                                  clear BK133
                                  clear HB
                                  have HO_3 := n0_
                                  have HO_9 := n1_
                                  have BK133 := n2_
                                  have HB := n3_
                                  clear n0_ n1_ n2_ n3_
                                  refine start_ (n := 13) (S := fun w' => True) (ds := []) #[false, false, false, false, false, false, false, false, false, false, false, false, false] (by kernel_rfl) rfl rfl trivial (fun hHeld => ?_); refine with_tabW saleroomref14_One.tab19 saleroomref14_One.bits19 (fun HT_ HW_ => ?_)
                                  generalize wr.drew = w61 at HO_3 HO_9 BK133 HB hHeld ⊢
                                  refine pure_ (i := 0) (N := some 78) (v := ?_) (a' := ?_) #[true, false, false, false, false, false, false, false, false, false, false, false, false] rfl rfl (any_of HT_.out (by kernel_rfl)) (fun _ _ _ h => h) (Or.inl ⟨by rfl, ?_⟩) ?_ ?_
                                  rotate_left
                                  · intro w'
                                    go_simp
                                    with_reducible rfl
                                  rotate_left
                                  · simp only [Act.put, List.setIfInBounds_toArray, List.set_cons_zero, List.set_cons_succ, i64_w, i32_w]
                                    rfl
                                  refine pure_ (i := 1) (N := some 79) (v := ?_) (a' := ?_) #[true, true, false, false, false, false, false, false, false, false, false, false, false] rfl rfl (any_of HT_.out (by kernel_rfl)) (fun _ _ _ h => h) (Or.inl ⟨by rfl, ?_⟩) ?_ ?_
                                  rotate_left
                                  · intro w'
                                    go_simp
                                    with_reducible rfl
                                  rotate_left
                                  · simp only [Act.put, List.setIfInBounds_toArray, List.set_cons_zero, List.set_cons_succ, i64_w, i32_w]
                                    rfl
                                  refine pure_ (i := 2) (N := some 80) (v := ?_) (a' := ?_) #[true, true, true, false, false, false, false, false, false, false, false, false, false] rfl rfl (any_of HT_.out (by kernel_rfl)) (fun _ _ _ h => h) (Or.inl ⟨by rfl, ?_⟩) ?_ ?_
                                  rotate_left
                                  · intro w'
                                    go_simp
                                    with_reducible rfl
                                  rotate_left
                                  · simp only [Act.put, List.setIfInBounds_toArray, List.set_cons_zero, List.set_cons_succ, i64_w, i32_w]
                                    rfl
                                  refine pure_ (i := 3) (N := some 81) (v := undef) (a' := ?_) #[true, true, true, true, false, false, false, false, false, false, false, false, false] rfl rfl (any_of HT_.out (by kernel_rfl)) (fun _ _ _ h => h) (Or.inr ⟨by rfl, rfl⟩) ?_ ?_
                                  rotate_left
                                  · simp only [Act.put, List.setIfInBounds_toArray, List.set_cons_zero, List.set_cons_succ, i64_w, i32_w]
                                    rfl
                                  refine pure_ (i := 4) (N := some 82) (v := undef) (a' := ?_) #[true, true, true, true, true, false, false, false, false, false, false, false, false] rfl rfl (any_of HT_.out (by kernel_rfl)) (fun _ _ _ h => h) (Or.inr ⟨by rfl, rfl⟩) ?_ ?_
                                  rotate_left
                                  · simp only [Act.put, List.setIfInBounds_toArray, List.set_cons_zero, List.set_cons_succ, i64_w, i32_w]
                                    rfl
                                  refine pure_ (i := 5) (N := some 83) (v := undef) (a' := ?_) #[true, true, true, true, true, true, false, false, false, false, false, false, false] rfl rfl (any_of HT_.out (by kernel_rfl)) (fun _ _ _ h => h) (Or.inr ⟨by rfl, rfl⟩) ?_ ?_
                                  rotate_left
                                  · simp only [Act.put, List.setIfInBounds_toArray, List.set_cons_zero, List.set_cons_succ, i64_w, i32_w]
                                    rfl
                                  refine pure_ (i := 6) (N := some 84) (v := undef) (a' := ?_) #[true, true, true, true, true, true, true, false, false, false, false, false, false] rfl rfl (any_of HT_.out (by kernel_rfl)) (fun _ _ _ h => h) (Or.inr ⟨by rfl, rfl⟩) ?_ ?_
                                  rotate_left
                                  · simp only [Act.put, List.setIfInBounds_toArray, List.set_cons_zero, List.set_cons_succ, i64_w, i32_w]
                                    rfl
                                  refine pure_ (i := 7) (N := some 85) (v := undef) (a' := ?_) #[true, true, true, true, true, true, true, true, false, false, false, false, false] rfl rfl (any_of HT_.out (by kernel_rfl)) (fun _ _ _ h => h) (Or.inr ⟨by rfl, rfl⟩) ?_ ?_
                                  rotate_left
                                  · simp only [Act.put, List.setIfInBounds_toArray, List.set_cons_zero, List.set_cons_succ, i64_w, i32_w]
                                    rfl
                                  refine pure_ (i := 8) (N := some 86) (v := undef) (a' := ?_) #[true, true, true, true, true, true, true, true, true, false, false, false, false] rfl rfl (any_of HT_.out (by kernel_rfl)) (fun _ _ _ h => h) (Or.inr ⟨by rfl, rfl⟩) ?_ ?_
                                  rotate_left
                                  · simp only [Act.put, List.setIfInBounds_toArray, List.set_cons_zero, List.set_cons_succ, i64_w, i32_w]
                                    rfl
                                  refine pure_ (i := 9) (N := some 87) (v := undef) (a' := ?_) #[true, true, true, true, true, true, true, true, true, true, false, false, false] rfl rfl (any_of HT_.out (by kernel_rfl)) (fun _ _ _ h => h) (Or.inr ⟨by rfl, rfl⟩) ?_ ?_
                                  rotate_left
                                  · simp only [Act.put, List.setIfInBounds_toArray, List.set_cons_zero, List.set_cons_succ, i64_w, i32_w]
                                    rfl
                                  refine pure_ (i := 10) (N := some 88) (v := undef) (a' := ?_) #[true, true, true, true, true, true, true, true, true, true, true, false, false] rfl rfl (any_of HT_.out (by kernel_rfl)) (fun _ _ _ h => h) (Or.inr ⟨by rfl, rfl⟩) ?_ ?_
                                  rotate_left
                                  · simp only [Act.put, List.setIfInBounds_toArray, List.set_cons_zero, List.set_cons_succ, i64_w, i32_w]
                                    rfl
                                  refine pure_ (i := 11) (N := some 89) (v := undef) (a' := ?_) #[true, true, true, true, true, true, true, true, true, true, true, true, false] rfl rfl (any_of HT_.out (by kernel_rfl)) (fun _ _ _ h => h) (Or.inr ⟨by rfl, rfl⟩) ?_ ?_
                                  rotate_left
                                  · simp only [Act.put, List.setIfInBounds_toArray, List.set_cons_zero, List.set_cons_succ, i64_w, i32_w]
                                    rfl
                                  refine pure_ (i := 12) (N := some 90) (v := ?_) (a' := ?_) #[true, true, true, true, true, true, true, true, true, true, true, true, true] rfl rfl (any_of HT_.out (by kernel_rfl)) (fun _ _ _ h => h) (Or.inl ⟨by rfl, ?_⟩) ?_ ?_
                                  rotate_left
                                  · intro w'
                                    go_simp
                                    with_reducible rfl
                                  rotate_left
                                  · simp only [Act.put, List.setIfInBounds_toArray, List.set_cons_zero, List.set_cons_succ, i64_w, i32_w]
                                    rfl
                                  refine done_ (done_of HT_.out (by kernel_rfl)) ?_
                                  have p142 : 0 ≤ (x11_4 : Int) := of_decide_eq_true (by first | (with_reducible assumption) | assumption)
                                  have q142 : x11_4 < (x3_1.length : Int) := of_decide_eq_true (by first | (with_reducible assumption) | assumption)
                                  obtain ⟨ad142, e142, hx142_0, hx142_1⟩ := at_T40 (Kd.R_reads' HO_3.out).2.2 x11_4 p142 q142
                                  cases e142
                                  replace p142 := eq_true p142
                                  replace q142 := eq_true q142
                                  try go_wp2_with (first | ((with_reducible refine gate_builtin (b := .append) (xs := #[.tmp 95, .tmp 100]) rfl ?_); at_builtin; refine Kd.R_append k40 (w0 := w) w.heap.size rfl (.tmp 95) (.tmp 100) 37 40 (.agg #[(.int .u64 0), (.int .i64 0)]) 16 rfl Try.underlying37 info40 rfl (by decide) (by omega) u9 x9_4 (⟨(rd_T40 x3_1 x11_4).f0, (rd_T40 x3_1 x11_4).f1⟩ : S40) [.int .u64 ((rd_T40 x3_1 x11_4).f0), .int .i64 ((rd_T40 x3_1 x11_4).f1)] (fun k_ => some k_ ≠ (.slice (some ad142) x3_1.length co60 : Value).ownBlock ∧ k_ ≠ gb133) (fun _ => False) rfl rfl ?aP (fun _ hk => hk.elim) ?aF ?aO ?aB ?aS ?aL ?_; (case aP => exact k40_mkM _ _ _ (⟨(rd_T40 x3_1 x11_4).f0, (rd_T40 x3_1 x11_4).f1⟩ : S40)); (case aB => exact (by repeat (first | (with_reducible first | exact HB.out | apply below_alloc | apply pw_below_drewN | apply below_drew1 | refine below_set ?_ GE133.out) | exact HB.out))); (case aF => exact (fun k_ hk => ⟨Kd.fresh' (Kd.R_lt (by (with_reducible repeat (first | apply Kd.R_alloc | apply Kd.R_drewN | apply Kd.R_drew)); exact HO_3.out)) k_ hk, Kd.freshB (g := gb133) (o := .cells #[.int .u64 ((rd_T40 l0 x4_1).f0), .int .i64 ((rd_T40 l0 x4_1).f1)] 40 (0, 0)) (by (with_reducible repeat (first | refine blk_drewN ?_ _ | refine blk_drew ?_ | refine blk_alloc ?_ _)); exact BK133.out) k_ hk⟩)); (case aO => exact (by (with_reducible repeat (first | apply Kd.R_alloc | apply Kd.R_drewN | apply Kd.R_drew)); exact HO_9.out)); (case aS => exact (below_size (by repeat (first | (with_reducible first | exact HB.out | apply below_alloc | apply pw_below_drewN | apply below_drew1 | refine below_set ?_ GE133.out) | exact HB.out)))); (case aL => have := LMc59.out; omega); intro v144 w62 ho hb hg hat; rw [← Ny143.out] at ho; have n0_ := Aside0.mk (Kd.R_after (ok := (fun k_ => k_ ≠ gb133)) (by (with_reducible repeat (first | apply Kd.R_alloc | apply Kd.R_drewN | apply Kd.R_drew)); exact Kd.R_mono HO_3.out (fun _ hk => ⟨hk.2, hk.1⟩)) hg hat); have n1_ := Aside0.mk (blk_grown (g := gb133) (o := .cells #[.int .u64 ((rd_T40 l0 x4_1).f0), .int .i64 ((rd_T40 l0 x4_1).f1)] 40 (0, 0)) (by (with_reducible repeat (first | refine blk_drewN ?_ _ | refine blk_drew ?_ | refine blk_alloc ?_ _)); exact BK133.out) hg (Kd.R_away HO_9.out (fun _ hk => hk.2))); have n2_ := Aside0.mk (hb); have n3_ := Aside0.mk (ho); clear HO_3; clear BK133; clear HB; clear HO_9; have HO_3 := n0_; have BK133 := n1_; have HB := n2_; have HO145 := n3_; clear n0_ n1_ n2_ n3_; clear ho hb hg hat))
                                  go_roundg k4
                                  case measure => have := HK1.out; have := HK2.out; have := HJ9.out; have := HK4.out; omega
                                  case rel => exact ⟨(y143), (true), (wrap64 (x11_4 + 1)), (by first | rfl | (simp; done) | (simp [*]; done)), (by first | rfl | (simp; done) | (simp [*]; done)), H', ⟨by have := HK1.out; have := HK2.out; have := HJ9.out; have := HK4.out; omega⟩, ⟨by (with_reducible repeat (first | apply Kd.R_alloc | apply Kd.R_drewN | apply Kd.R_drew)); exact Kd.R_mono HO_3.out (fun _ hk => ⟨hk.2, hk.1⟩)⟩, ⟨by (with_reducible repeat (first | apply Kd.R_alloc | apply Kd.R_drewN | apply Kd.R_drew)); exact HO145.out⟩, ⟨by (with_reducible repeat (first | refine blk_drewN ?_ _ | refine blk_drew ?_ | refine blk_alloc ?_ _)); exact BK133.out⟩, ⟨by repeat (first | (with_reducible first | exact HB.out | apply below_alloc | apply pw_below_drewN | apply below_drew1 | refine below_set ?_ GE133.out) | exact HB.out)⟩⟩
                                · rw [if_neg c59] at H
                                  exact absurd H (by simp)
                              · rw [if_neg c58] at H
                                exact absurd H (by simp)
                            · replace c57 := Bool.eq_false_iff.mpr c57
                              subst c57
                              have H1 : (if 0 ≤ x11_4 then ((saleroomref02_Cmp.f k4 ((rd_T40 l0 x4_1).f0) ((rd_T40 x3_1 x11_4).f0)).bind fun t147 => (if t147 < 0 then (if x9_4.length < 8796093022208 then ((some (x9_4 ++ [(⟨((rd_T40 l0 x4_1).f0), ((rd_T40 l0 x4_1).f1)⟩ : S40)] : List (S40))).bind fun y148 => (if y148.length < 8796093022208 then (saleroomref14_One.l2 k4 l0 x3_1 x4_1 (y148 ++ [(⟨(rd_T40 x3_1 x11_4).f0, (rd_T40 x3_1 x11_4).f1⟩ : S40)]) true (wrap64 (x11_4 + 1)) ((rd_T40 l0 x4_1).f0) ((rd_T40 l0 x4_1).f1)) else (none))) else (none)) else (if x9_4.length < 8796093022208 then (saleroomref14_One.l2 k4 l0 x3_1 x4_1 (x9_4 ++ [(⟨(rd_T40 x3_1 x11_4).f0, (rd_T40 x3_1 x11_4).f1⟩ : S40)]) false (wrap64 (x11_4 + 1)) ((rd_T40 l0 x4_1).f0) ((rd_T40 l0 x4_1).f1)) else (none)))) else (none)) = some r := by rw [if_neg (show ¬ (false = true) by decide)] at H; exact H
                              clear H
                              have H := H1
                              clear H1
                              by_cases c63 : 0 ≤ x11_4
                              · rw [if_pos c63] at H
                                have c63b0 : decide (0 ≤ x11_4) = true := decide_eq_true c63
                                clear c63
                                replace H := Option.bind_eq_some_iff.mp H
                                obtain ⟨t147, A640, H⟩ := H
                                replace H : (if t147 < 0 then (if x9_4.length < 8796093022208 then ((some (x9_4 ++ [(⟨((rd_T40 l0 x4_1).f0), ((rd_T40 l0 x4_1).f1)⟩ : S40)] : List (S40))).bind fun y148 => (if y148.length < 8796093022208 then (saleroomref14_One.l2 k4 l0 x3_1 x4_1 (y148 ++ [(⟨(rd_T40 x3_1 x11_4).f0, (rd_T40 x3_1 x11_4).f1⟩ : S40)]) true (wrap64 (x11_4 + 1)) ((rd_T40 l0 x4_1).f0) ((rd_T40 l0 x4_1).f1)) else (none))) else (none)) else (if x9_4.length < 8796093022208 then (saleroomref14_One.l2 k4 l0 x3_1 x4_1 (x9_4 ++ [(⟨(rd_T40 x3_1 x11_4).f0, (rd_T40 x3_1 x11_4).f1⟩ : S40)]) false (wrap64 (x11_4 + 1)) ((rd_T40 l0 x4_1).f0) ((rd_T40 l0 x4_1).f1)) else (none))) = some r := H
                                have A64 := Aside0.mk A640
                                clear A640
                                by_cases c65 : t147 < 0
                                · rw [if_pos c65] at H
                                  have c65b0 : decide (t147 < 0) = true := decide_eq_true c65
                                  clear c65
                                  by_cases c66 : x9_4.length < 8796093022208
                                  · rw [if_pos c66] at H
                                    have LMc66 := Aside0.mk c66
                                    clear c66
                                    obtain ⟨y148, hy148⟩ : ∃ y_ : List (S40), y_ = (x9_4 ++ [(⟨((rd_T40 l0 x4_1).f0), ((rd_T40 l0 x4_1).f1)⟩ : S40)]) := ⟨_, rfl⟩
                                    replace H : (if y148.length < 8796093022208 then (saleroomref14_One.l2 k4 l0 x3_1 x4_1 (y148 ++ [(⟨(rd_T40 x3_1 x11_4).f0, (rd_T40 x3_1 x11_4).f1⟩ : S40)]) true (wrap64 (x11_4 + 1)) ((rd_T40 l0 x4_1).f0) ((rd_T40 l0 x4_1).f1)) else (none)) = some r := by first | (rw [hy148]; with_reducible exact H) | (have H2_ := (Option.bind_some _ _).symm.trans H; rw [hy148]; with_reducible exact H2_) | (have H2_ := (Option.bind_some _ _).symm.trans H; with_reducible exact H2_) | with_reducible exact H | (rw [hy148]; exact H) | exact H
                                    have Ny148 := Aside0.mk hy148
                                    clear hy148
                                    by_cases c67 : y148.length < 8796093022208
                                    · rw [if_pos c67] at H
                                      have LMc67 := Aside0.mk c67
                                      clear c67
                                      obtain ⟨y152, hy152⟩ : ∃ y_ : List (S40), y_ = (y148 ++ [(⟨(rd_T40 x3_1 x11_4).f0, (rd_T40 x3_1 x11_4).f1⟩ : S40)]) := ⟨_, rfl⟩
                                      replace H : (saleroomref14_One.l2 k4 l0 x3_1 x4_1 y152 true (wrap64 (x11_4 + 1)) ((rd_T40 l0 x4_1).f0) ((rd_T40 l0 x4_1).f1)) = some r := by first | (rw [hy152]; with_reducible exact H) | (have H2_ := (Option.bind_some _ _).symm.trans H; rw [hy152]; with_reducible exact H2_) | (have H2_ := (Option.bind_some _ _).symm.trans H; with_reducible exact H2_) | with_reducible exact H | (rw [hy152]; exact H) | exact H
                                      have Ny152 := Aside0.mk hy152
                                      clear hy152
                                      have H' := Aside0.mk H
                                      clear H
                                      obtain ⟨Ao68, co68, eo68⟩ := Kd.R_slice HO_3.out
                                      subst eo68
                                      try go_wp2
                                      have n0_ := Aside0.mk (Kd.R_drew HO_3.out)
                                      have n1_ := Aside0.mk (Kd.R_drew HO_9.out)
                                      have n2_ := Aside0.mk (blk_drew BK133.out)
                                      have n3_ := Aside0.mk (below_drew1 HB.out)
                                      clear HO_3
                                      clear HO_9
                                      clear BK133
                                      clear HB
                                      have HO_3 := n0_
                                      have HO_9 := n1_
                                      have BK133 := n2_
                                      have HB := n3_
                                      clear n0_ n1_ n2_ n3_
                                      have p146 : 0 ≤ (x11_4 : Int) := of_decide_eq_true (by first | (with_reducible assumption) | assumption)
                                      have q146 : x11_4 < (x3_1.length : Int) := of_decide_eq_true (by first | (with_reducible assumption) | assumption)
                                      obtain ⟨ad146, e146, hx146_0, hx146_1⟩ := at_T40 (Kd.R_reads' HO_3.out).2.2 x11_4 p146 q146
                                      cases e146
                                      replace p146 := eq_true p146
                                      replace q146 := eq_true q146
                                      refine start_ (n := 13) (S := fun w' => w'.cell? ⟨gb133, 0, none⟩ = some (.int .u64 ((rd_T40 l0 x4_1).f0)) ∧ w'.cell? ⟨gb133, 1, none⟩ = some (.int .i64 ((rd_T40 l0 x4_1).f1)) ∧ w'.cell? (ad146.add ((x11_4).toNat * 2)) = some (.int .u64 ((rd_T40 x3_1 x11_4).f0)) ∧ w'.cell? ⟨(ad146.add ((x11_4).toNat * 2)).block, (ad146.add ((x11_4).toNat * 2)).off + 1, none⟩ = some (.int .i64 ((rd_T40 x3_1 x11_4).f1))) (ds := []) #[false, false, false, false, false, false, false, false, false, false, false, false, false] (by kernel_rfl) rfl rfl ⟨(blk_cell BK133.out 0).trans rfl, (blk_cell BK133.out 1).trans rfl, hx146_0, hx146_1⟩ (fun hHeld => ?_); refine with_tabW saleroomref14_One.tab19 saleroomref14_One.bits19 (fun HT_ HW_ => ?_)
                                      generalize wr.drew = w69 at HO_3 HO_9 BK133 HB hx146_0 hx146_1 hHeld ⊢
                                      refine pure_ (i := 0) (N := some 78) (v := ?_) (a' := ?_) #[true, false, false, false, false, false, false, false, false, false, false, false, false] rfl rfl (any_of HT_.out (by kernel_rfl)) (fun _ _ _ h => h) (Or.inl ⟨by rfl, ?_⟩) ?_ ?_
                                      rotate_left
                                      · intro w'
                                        go_simp
                                        with_reducible rfl
                                      rotate_left
                                      · simp only [Act.put, List.setIfInBounds_toArray, List.set_cons_zero, List.set_cons_succ, i64_w, i32_w]
                                        rfl
                                      refine pure_ (i := 1) (N := some 79) (v := ?_) (a' := ?_) #[true, true, false, false, false, false, false, false, false, false, false, false, false] rfl rfl (any_of HT_.out (by kernel_rfl)) (fun _ _ _ h => h) (Or.inl ⟨by rfl, ?_⟩) ?_ ?_
                                      rotate_left
                                      · intro w'
                                        go_simp
                                        with_reducible rfl
                                      rotate_left
                                      · simp only [Act.put, List.setIfInBounds_toArray, List.set_cons_zero, List.set_cons_succ, i64_w, i32_w]
                                        rfl
                                      refine pure_ (i := 2) (N := some 80) (v := ?_) (a' := ?_) #[true, true, true, false, false, false, false, false, false, false, false, false, false] rfl rfl (any_of HT_.out (by kernel_rfl)) (fun _ _ _ h => h) (Or.inl ⟨by rfl, ?_⟩) ?_ ?_
                                      rotate_left
                                      · intro w'
                                        go_simp
                                        with_reducible rfl
                                      rotate_left
                                      · simp only [Act.put, List.setIfInBounds_toArray, List.set_cons_zero, List.set_cons_succ, i64_w, i32_w]
                                        rfl
                                      refine pure_ (i := 3) (N := some 81) (v := ?_) (a' := ?_) #[true, true, true, true, false, false, false, false, false, false, false, false, false] rfl rfl (any_of HT_.out (by kernel_rfl)) (fun _ _ _ h => h) (Or.inl ⟨by rfl, ?_⟩) ?_ ?_
                                      rotate_left
                                      · intro w'
                                        go_simp
                                        with_reducible rfl
                                      rotate_left
                                      · simp only [Act.put, List.setIfInBounds_toArray, List.set_cons_zero, List.set_cons_succ, i64_w, i32_w]
                                        rfl
                                      refine pure_ (i := 5) (N := some 83) (v := ?_) (a' := ?_) #[true, true, true, true, false, true, false, false, false, false, false, false, false] rfl rfl (any_of HT_.out (by kernel_rfl)) (fun _ _ _ h => h) (Or.inl ⟨by rfl, ?_⟩) ?_ ?_
                                      rotate_left
                                      · intro w'
                                        go_simp
                                        with_reducible rfl
                                      rotate_left
                                      · simp only [Act.put, List.setIfInBounds_toArray, List.set_cons_zero, List.set_cons_succ, i64_w, i32_w]
                                        rfl
                                      refine pure_ (i := 6) (N := some 84) (v := ?_) (a' := ?_) #[true, true, true, true, false, true, true, false, false, false, false, false, false] rfl rfl (any_of HT_.out (by kernel_rfl)) (fun _ _ _ h => h) (Or.inl ⟨by rfl, ?_⟩) ?_ ?_
                                      rotate_left
                                      · intro w'
                                        go_simp
                                        with_reducible rfl
                                      rotate_left
                                      · simp only [Act.put, List.setIfInBounds_toArray, List.set_cons_zero, List.set_cons_succ, i64_w, i32_w]
                                        rfl
                                      refine pure_ (i := 7) (N := some 85) (v := ?_) (a' := ?_) #[true, true, true, true, false, true, true, true, false, false, false, false, false] rfl rfl (any_of HT_.out (by kernel_rfl)) (fun _ _ _ h => h) (Or.inl ⟨by rfl, ?_⟩) ?_ ?_
                                      rotate_left
                                      · intro w'
                                        go_simp
                                        with_reducible rfl
                                      rotate_left
                                      · simp only [Act.put, List.setIfInBounds_toArray, List.set_cons_zero, List.set_cons_succ, i64_w, i32_w]
                                        rfl
                                      refine pure_ (i := 8) (N := some 86) (v := ?_) (a' := ?_) #[true, true, true, true, false, true, true, true, true, false, false, false, false] rfl rfl (any_of HT_.out (by kernel_rfl)) (fun _ _ _ h => h) (Or.inl ⟨by rfl, ?_⟩) ?_ ?_
                                      rotate_left
                                      · intro w'
                                        go_simp
                                        with_reducible rfl
                                      rotate_left
                                      · simp only [Act.put, List.setIfInBounds_toArray, List.set_cons_zero, List.set_cons_succ, i64_w, i32_w]
                                        rfl
                                      refine take_ (i := 4) (N := some 82) (v := ?_) (a' := ?_) #[true, true, true, true, true, true, true, true, true, false, false, false, false] rfl rfl (take_ofW HT_.out HW_.out (by kernel_rfl)) (fun _ _ _ h => h) (Or.inl ⟨by rfl, ?_⟩) hHeld ?_ ?_
                                      rotate_left
                                      · rintro w' ⟨s0, s1, s2, s3⟩
                                        go_simp
                                        with_reducible rfl
                                      rotate_left
                                      · simp only [Act.put, List.setIfInBounds_toArray, List.set_cons_zero, List.set_cons_succ, i64_w, i32_w]
                                        rfl
                                      refine take_ (i := 9) (N := some 87) (v := ?_) (a' := ?_) #[true, true, true, true, true, true, true, true, true, true, false, false, false] rfl rfl (take_ofW HT_.out HW_.out (by kernel_rfl)) (fun _ _ _ h => h) (Or.inl ⟨by rfl, ?_⟩) hHeld ?_ ?_
                                      rotate_left
                                      · rintro w' ⟨s0, s1, s2, s3⟩
                                        go_simp
                                        with_reducible rfl
                                      rotate_left
                                      · simp only [Act.put, List.setIfInBounds_toArray, List.set_cons_zero, List.set_cons_succ, i64_w, i32_w]
                                        rfl
                                      refine one_ (i := 10) (N := some 88) #[true, true, true, true, true, true, true, true, true, true, true, false, false] rfl rfl (one_of HT_.out (by kernel_rfl)) (by decide) (fun K hK => ?_)
                                      refine goes_ Try.func46 (by kernel_rfl) rfl #[.int .u64 ((rd_T40 l0 x4_1).f0), .int .u64 ((rd_T40 x3_1 x11_4).f0)] (by rfl) rfl rfl (by (try simp only [List.map_toArray, List.map_cons, List.map_nil]); first | done | rfl | (simp only [List.length_drop, List.length_take]; rfl)) ?_
                                      with_reducible refine (saleroomref02_Cmp.calls k4 ((rd_T40 l0 x4_1).f0) ((rd_T40 x3_1 x11_4).f0) t147 _ A64.out).mono ?_
                                      rintro e w70 ⟨rfl, hb⟩
                                      have HS2_ := (hb.cell (World.block_lt_of_cell? _ _ (hHeld.2.2.1))).trans (hHeld.2.2.1)
                                      have HS3_ := (hb.cell (World.block_lt_of_cell? _ _ (hHeld.2.2.2))).trans (hHeld.2.2.2)
                                      refine ⟨_, rfl, ?_⟩
                                      have n0_ := Aside0.mk (Kd.R_below (by (with_reducible repeat (first | apply Kd.R_alloc | apply Kd.R_drewN | apply Kd.R_drew)); exact HO_3.out) hb)
                                      have n1_ := Aside0.mk (Kd.R_below (by (with_reducible repeat (first | apply Kd.R_alloc | apply Kd.R_drewN | apply Kd.R_drew)); exact HO_9.out) hb)
                                      have n2_ := Aside0.mk (blk_below (g := gb133) (o := .cells #[.int .u64 ((rd_T40 l0 x4_1).f0), .int .i64 ((rd_T40 l0 x4_1).f1)] 40 (0, 0)) (by (with_reducible repeat (first | refine blk_drewN ?_ _ | refine blk_drew ?_ | refine blk_alloc ?_ _)); exact BK133.out) hb)
                                      have n3_ := Aside0.mk (below_step (by repeat (first | (with_reducible first | exact HB.out | apply below_alloc | apply pw_below_drewN | apply below_drew1 | refine below_set ?_ GE133.out) | exact HB.out)) hb)
                                      clear HO_3
                                      clear HO_9
                                      clear BK133
                                      clear HB
                                      have HO_3 := n0_
                                      have HO_9 := n1_
                                      have BK133 := n2_
                                      have HB := n3_
                                      clear n0_ n1_ n2_ n3_
                                      (try clear hb)
                                      (try clear hb2)
                                      (try clear hk)
                                      (try clear hi)
                                      refine hK.out _ _ ⟨(blk_cell BK133.out 0).trans rfl, (blk_cell BK133.out 1).trans rfl, HS2_, HS3_⟩ (fun hHeld => ?_)
                                      clear hK K
                                      refine norm_ (a' := ?_) ?_ ?_
                                      rotate_left
                                      · show Act.put _ (some 88) _ = _
                                        simp only [Act.put, List.setIfInBounds_toArray, List.set_cons_zero, List.set_cons_succ, i64_w, i32_w]
                                        rfl
                                      refine pure_ (i := 11) (N := some 89) (v := ?_) (a' := ?_) #[true, true, true, true, true, true, true, true, true, true, true, true, false] rfl rfl (any_of HT_.out (by kernel_rfl)) (fun _ _ _ h => h) (Or.inl ⟨by rfl, ?_⟩) ?_ ?_
                                      rotate_left
                                      · intro w'
                                        go_simp
                                        with_reducible rfl
                                      rotate_left
                                      · simp only [Act.put, List.setIfInBounds_toArray, List.set_cons_zero, List.set_cons_succ, i64_w, i32_w]
                                        rfl
                                      refine pure_ (i := 12) (N := some 90) (v := ?_) (a' := ?_) #[true, true, true, true, true, true, true, true, true, true, true, true, true] rfl rfl (any_of HT_.out (by kernel_rfl)) (fun _ _ _ h => h) (Or.inl ⟨by rfl, ?_⟩) ?_ ?_
                                      rotate_left
                                      · intro w'
                                        go_simp
                                        with_reducible rfl
                                      rotate_left
                                      · simp only [Act.put, List.setIfInBounds_toArray, List.set_cons_zero, List.set_cons_succ, i64_w, i32_w]
                                        rfl
                                      refine done_ (done_of HT_.out (by kernel_rfl)) ?_
                                      have hcz71_0 : w70.cell? ⟨gb133, 0, none⟩ = some (.int .u64 ((rd_T40 l0 x4_1).f0)) := (blk_cell BK133.out 0).trans rfl
                                      have hcz71_1 : w70.cell? ⟨gb133, 1, none⟩ = some (.int .i64 ((rd_T40 l0 x4_1).f1)) := (blk_cell BK133.out 1).trans rfl
                                      have hfz71_0 := blk_frozen BK133.out 0
                                      have hfz71_1 := blk_frozen BK133.out 1
                                      try go_wp2_with (first | ((with_reducible refine gate_builtin (b := .append) (xs := #[.tmp 91, .tmp 93]) rfl ?_); at_builtin; refine Kd.R_append k40 (w0 := w) w.heap.size rfl (.tmp 91) (.tmp 93) 37 40 (.agg #[(.int .u64 0), (.int .i64 0)]) 16 rfl Try.underlying37 info40 rfl (by decide) (by omega) u9 x9_4 (⟨((rd_T40 l0 x4_1).f0), ((rd_T40 l0 x4_1).f1)⟩ : S40) [.int .u64 ((rd_T40 l0 x4_1).f0), .int .i64 ((rd_T40 l0 x4_1).f1)] (fun k_ => some k_ ≠ (.slice (some ad146) x3_1.length co68 : Value).ownBlock ∧ k_ ≠ gb133) (fun _ => False) rfl rfl ?aP (fun _ hk => hk.elim) ?aF ?aO ?aB ?aS ?aL ?_; (case aP => exact k40_mkM _ _ _ (⟨((rd_T40 l0 x4_1).f0), ((rd_T40 l0 x4_1).f1)⟩ : S40)); (case aB => exact (by repeat (first | (with_reducible first | exact HB.out | apply below_alloc | apply pw_below_drewN | apply below_drew1 | refine below_set ?_ GE133.out) | exact HB.out))); (case aF => exact (fun k_ hk => ⟨Kd.fresh' (Kd.R_lt (by (with_reducible repeat (first | apply Kd.R_alloc | apply Kd.R_drewN | apply Kd.R_drew)); exact HO_3.out)) k_ hk, Kd.freshB (g := gb133) (o := .cells #[.int .u64 ((rd_T40 l0 x4_1).f0), .int .i64 ((rd_T40 l0 x4_1).f1)] 40 (0, 0)) (by (with_reducible repeat (first | refine blk_drewN ?_ _ | refine blk_drew ?_ | refine blk_alloc ?_ _)); exact BK133.out) k_ hk⟩)); (case aO => exact (by (with_reducible repeat (first | apply Kd.R_alloc | apply Kd.R_drewN | apply Kd.R_drew)); exact HO_9.out)); (case aS => exact (below_size (by repeat (first | (with_reducible first | exact HB.out | apply below_alloc | apply pw_below_drewN | apply below_drew1 | refine below_set ?_ GE133.out) | exact HB.out)))); (case aL => have := LMc66.out; omega); intro v149 w72 ho hb hg hat; rw [← Ny148.out] at ho; have n0_ := Aside0.mk (Kd.R_after (ok := (fun k_ => k_ ≠ gb133)) (by (with_reducible repeat (first | apply Kd.R_alloc | apply Kd.R_drewN | apply Kd.R_drew)); exact Kd.R_mono HO_3.out (fun _ hk => ⟨hk.2, hk.1⟩)) hg hat); have n1_ := Aside0.mk (blk_grown (g := gb133) (o := .cells #[.int .u64 ((rd_T40 l0 x4_1).f0), .int .i64 ((rd_T40 l0 x4_1).f1)] 40 (0, 0)) (by (with_reducible repeat (first | refine blk_drewN ?_ _ | refine blk_drew ?_ | refine blk_alloc ?_ _)); exact BK133.out) hg (Kd.R_away HO_9.out (fun _ hk => hk.2))); have n2_ := Aside0.mk (hb); have n3_ := Aside0.mk (ho); clear HO_3; clear BK133; clear HB; clear HO_9; have HO_3 := n0_; have BK133 := n1_; have HB := n2_; have HO150 := n3_; clear n0_ n1_ n2_ n3_; clear ho hb hg hat; have p151 : 0 ≤ (x11_4 : Int) := of_decide_eq_true (by first | (with_reducible assumption) | assumption); have q151 : x11_4 < (x3_1.length : Int) := of_decide_eq_true (by first | (with_reducible assumption) | assumption); obtain ⟨ad151, e151, hx151_0, hx151_1⟩ := at_T40 (Kd.R_reads' HO_3.out).2.2 x11_4 p151 q151; obtain rfl : ad146 = ad151 := (by injection e151); replace p151 := eq_true p151; replace q151 := eq_true q151) | ((with_reducible refine gate_builtin (b := .append) (xs := #[.tmp 95, .tmp 100]) rfl ?_); at_builtin; refine Kd.R_append k40 (w0 := w) w.heap.size rfl (.tmp 95) (.tmp 100) 37 40 (.agg #[(.int .u64 0), (.int .i64 0)]) 16 rfl Try.underlying37 info40 rfl (by decide) (by omega) v149 y148 (⟨(rd_T40 x3_1 x11_4).f0, (rd_T40 x3_1 x11_4).f1⟩ : S40) [.int .u64 ((rd_T40 x3_1 x11_4).f0), .int .i64 ((rd_T40 x3_1 x11_4).f1)] (fun k_ => some k_ ≠ (.slice (some ad146) x3_1.length co68 : Value).ownBlock ∧ k_ ≠ gb133) (fun _ => False) rfl rfl ?aP (fun _ hk => hk.elim) ?aF ?aO ?aB ?aS ?aL ?_; (case aP => exact k40_mkM _ _ _ (⟨(rd_T40 x3_1 x11_4).f0, (rd_T40 x3_1 x11_4).f1⟩ : S40)); (case aB => exact (by repeat (first | (with_reducible first | exact HB.out | apply below_alloc | apply pw_below_drewN | apply below_drew1 | refine below_set ?_ GE133.out) | exact HB.out))); (case aF => exact (fun k_ hk => ⟨Kd.fresh' (Kd.R_lt (by (with_reducible repeat (first | apply Kd.R_alloc | apply Kd.R_drewN | apply Kd.R_drew)); exact HO_3.out)) k_ hk, Kd.freshB (g := gb133) (o := .cells #[.int .u64 ((rd_T40 l0 x4_1).f0), .int .i64 ((rd_T40 l0 x4_1).f1)] 40 (0, 0)) (by (with_reducible repeat (first | refine blk_drewN ?_ _ | refine blk_drew ?_ | refine blk_alloc ?_ _)); exact BK133.out) k_ hk⟩)); (case aO => exact (by (with_reducible repeat (first | apply Kd.R_alloc | apply Kd.R_drewN | apply Kd.R_drew)); exact HO150.out)); (case aS => exact (below_size (by repeat (first | (with_reducible first | exact HB.out | apply below_alloc | apply pw_below_drewN | apply below_drew1 | refine below_set ?_ GE133.out) | exact HB.out)))); (case aL => have := LMc67.out; omega); intro v153 w73 ho hb hg hat; rw [← Ny152.out] at ho; have n0_ := Aside0.mk (Kd.R_after (ok := (fun k_ => k_ ≠ gb133)) (by (with_reducible repeat (first | apply Kd.R_alloc | apply Kd.R_drewN | apply Kd.R_drew)); exact HO_3.out) hg hat); have n1_ := Aside0.mk (blk_grown (g := gb133) (o := .cells #[.int .u64 ((rd_T40 l0 x4_1).f0), .int .i64 ((rd_T40 l0 x4_1).f1)] 40 (0, 0)) (by (with_reducible repeat (first | refine blk_drewN ?_ _ | refine blk_drew ?_ | refine blk_alloc ?_ _)); exact BK133.out) hg (Kd.R_away HO150.out (fun _ hk => hk.2))); have n2_ := Aside0.mk (hb); have n3_ := Aside0.mk (ho); clear HO_3; clear BK133; clear HB; clear HO150; have HO_3 := n0_; have BK133 := n1_; have HB := n2_; have HO154 := n3_; clear n0_ n1_ n2_ n3_; clear ho hb hg hat))
                                      go_roundg k4
                                      case measure => have := HK1.out; have := HK2.out; have := HJ9.out; have := HK4.out; omega
                                      case rel => exact ⟨(y152), (true), (wrap64 (x11_4 + 1)), (by first | rfl | (simp; done) | (simp [*]; done)), (by first | rfl | (simp; done) | (simp [*]; done)), H', ⟨by have := HK1.out; have := HK2.out; have := HJ9.out; have := HK4.out; omega⟩, ⟨by (with_reducible repeat (first | apply Kd.R_alloc | apply Kd.R_drewN | apply Kd.R_drew)); exact Kd.R_mono HO_3.out (fun _ hk => ⟨hk.2, hk.1⟩)⟩, ⟨by (with_reducible repeat (first | apply Kd.R_alloc | apply Kd.R_drewN | apply Kd.R_drew)); exact HO154.out⟩, ⟨by (with_reducible repeat (first | refine blk_drewN ?_ _ | refine blk_drew ?_ | refine blk_alloc ?_ _)); exact BK133.out⟩, ⟨by repeat (first | (with_reducible first | exact HB.out | apply below_alloc | apply pw_below_drewN | apply below_drew1 | refine below_set ?_ GE133.out) | exact HB.out)⟩⟩
                                    · rw [if_neg c67] at H
                                      exact absurd H (by simp)
                                  · rw [if_neg c66] at H
                                    exact absurd H (by simp)
                                · rw [if_neg c65] at H
                                  have c65b0 : decide (t147 < 0) = false := decide_eq_false c65
                                  clear c65
                                  by_cases c74 : x9_4.length < 8796093022208
                                  · rw [if_pos c74] at H
                                    have LMc74 := Aside0.mk c74
                                    clear c74
                                    obtain ⟨y156, hy156⟩ : ∃ y_ : List (S40), y_ = (x9_4 ++ [(⟨(rd_T40 x3_1 x11_4).f0, (rd_T40 x3_1 x11_4).f1⟩ : S40)]) := ⟨_, rfl⟩
                                    replace H : (saleroomref14_One.l2 k4 l0 x3_1 x4_1 y156 false (wrap64 (x11_4 + 1)) ((rd_T40 l0 x4_1).f0) ((rd_T40 l0 x4_1).f1)) = some r := by first | (rw [hy156]; with_reducible exact H) | (have H2_ := (Option.bind_some _ _).symm.trans H; rw [hy156]; with_reducible exact H2_) | (have H2_ := (Option.bind_some _ _).symm.trans H; with_reducible exact H2_) | with_reducible exact H | (rw [hy156]; exact H) | exact H
                                    have Ny156 := Aside0.mk hy156
                                    clear hy156
                                    have H' := Aside0.mk H
                                    clear H
                                    obtain ⟨Ao75, co75, eo75⟩ := Kd.R_slice HO_3.out
                                    subst eo75
                                    try go_wp2
                                    have n0_ := Aside0.mk (Kd.R_drew HO_3.out)
                                    have n1_ := Aside0.mk (Kd.R_drew HO_9.out)
                                    have n2_ := Aside0.mk (blk_drew BK133.out)
                                    have n3_ := Aside0.mk (below_drew1 HB.out)
                                    clear HO_3
                                    clear HO_9
                                    clear BK133
                                    clear HB
                                    have HO_3 := n0_
                                    have HO_9 := n1_
                                    have BK133 := n2_
                                    have HB := n3_
                                    clear n0_ n1_ n2_ n3_
                                    have p146 : 0 ≤ (x11_4 : Int) := of_decide_eq_true (by first | (with_reducible assumption) | assumption)
                                    have q146 : x11_4 < (x3_1.length : Int) := of_decide_eq_true (by first | (with_reducible assumption) | assumption)
                                    obtain ⟨ad146, e146, hx146_0, hx146_1⟩ := at_T40 (Kd.R_reads' HO_3.out).2.2 x11_4 p146 q146
                                    cases e146
                                    replace p146 := eq_true p146
                                    replace q146 := eq_true q146
                                    refine start_ (n := 13) (S := fun w' => w'.cell? ⟨gb133, 0, none⟩ = some (.int .u64 ((rd_T40 l0 x4_1).f0)) ∧ w'.cell? ⟨gb133, 1, none⟩ = some (.int .i64 ((rd_T40 l0 x4_1).f1)) ∧ w'.cell? (ad146.add ((x11_4).toNat * 2)) = some (.int .u64 ((rd_T40 x3_1 x11_4).f0)) ∧ w'.cell? ⟨(ad146.add ((x11_4).toNat * 2)).block, (ad146.add ((x11_4).toNat * 2)).off + 1, none⟩ = some (.int .i64 ((rd_T40 x3_1 x11_4).f1))) (ds := []) #[false, false, false, false, false, false, false, false, false, false, false, false, false] (by kernel_rfl) rfl rfl ⟨(blk_cell BK133.out 0).trans rfl, (blk_cell BK133.out 1).trans rfl, hx146_0, hx146_1⟩ (fun hHeld => ?_); refine with_tabW saleroomref14_One.tab19 saleroomref14_One.bits19 (fun HT_ HW_ => ?_)
                                    generalize wr.drew = w76 at HO_3 HO_9 BK133 HB hx146_0 hx146_1 hHeld ⊢
                                    refine pure_ (i := 0) (N := some 78) (v := ?_) (a' := ?_) #[true, false, false, false, false, false, false, false, false, false, false, false, false] rfl rfl (any_of HT_.out (by kernel_rfl)) (fun _ _ _ h => h) (Or.inl ⟨by rfl, ?_⟩) ?_ ?_
                                    rotate_left
                                    · intro w'
                                      go_simp
                                      with_reducible rfl
                                    rotate_left
                                    · simp only [Act.put, List.setIfInBounds_toArray, List.set_cons_zero, List.set_cons_succ, i64_w, i32_w]
                                      rfl
                                    refine pure_ (i := 1) (N := some 79) (v := ?_) (a' := ?_) #[true, true, false, false, false, false, false, false, false, false, false, false, false] rfl rfl (any_of HT_.out (by kernel_rfl)) (fun _ _ _ h => h) (Or.inl ⟨by rfl, ?_⟩) ?_ ?_
                                    rotate_left
                                    · intro w'
                                      go_simp
                                      with_reducible rfl
                                    rotate_left
                                    · simp only [Act.put, List.setIfInBounds_toArray, List.set_cons_zero, List.set_cons_succ, i64_w, i32_w]
                                      rfl
                                    refine pure_ (i := 2) (N := some 80) (v := ?_) (a' := ?_) #[true, true, true, false, false, false, false, false, false, false, false, false, false] rfl rfl (any_of HT_.out (by kernel_rfl)) (fun _ _ _ h => h) (Or.inl ⟨by rfl, ?_⟩) ?_ ?_
                                    rotate_left
                                    · intro w'
                                      go_simp
                                      with_reducible rfl
                                    rotate_left
                                    · simp only [Act.put, List.setIfInBounds_toArray, List.set_cons_zero, List.set_cons_succ, i64_w, i32_w]
                                      rfl
                                    refine pure_ (i := 3) (N := some 81) (v := ?_) (a' := ?_) #[true, true, true, true, false, false, false, false, false, false, false, false, false] rfl rfl (any_of HT_.out (by kernel_rfl)) (fun _ _ _ h => h) (Or.inl ⟨by rfl, ?_⟩) ?_ ?_
                                    rotate_left
                                    · intro w'
                                      go_simp
                                      with_reducible rfl
                                    rotate_left
                                    · simp only [Act.put, List.setIfInBounds_toArray, List.set_cons_zero, List.set_cons_succ, i64_w, i32_w]
                                      rfl
                                    refine pure_ (i := 5) (N := some 83) (v := ?_) (a' := ?_) #[true, true, true, true, false, true, false, false, false, false, false, false, false] rfl rfl (any_of HT_.out (by kernel_rfl)) (fun _ _ _ h => h) (Or.inl ⟨by rfl, ?_⟩) ?_ ?_
                                    rotate_left
                                    · intro w'
                                      go_simp
                                      with_reducible rfl
                                    rotate_left
                                    · simp only [Act.put, List.setIfInBounds_toArray, List.set_cons_zero, List.set_cons_succ, i64_w, i32_w]
                                      rfl
                                    refine pure_ (i := 6) (N := some 84) (v := ?_) (a' := ?_) #[true, true, true, true, false, true, true, false, false, false, false, false, false] rfl rfl (any_of HT_.out (by kernel_rfl)) (fun _ _ _ h => h) (Or.inl ⟨by rfl, ?_⟩) ?_ ?_
                                    rotate_left
                                    · intro w'
                                      go_simp
                                      with_reducible rfl
                                    rotate_left
                                    · simp only [Act.put, List.setIfInBounds_toArray, List.set_cons_zero, List.set_cons_succ, i64_w, i32_w]
                                      rfl
                                    refine pure_ (i := 7) (N := some 85) (v := ?_) (a' := ?_) #[true, true, true, true, false, true, true, true, false, false, false, false, false] rfl rfl (any_of HT_.out (by kernel_rfl)) (fun _ _ _ h => h) (Or.inl ⟨by rfl, ?_⟩) ?_ ?_
                                    rotate_left
                                    · intro w'
                                      go_simp
                                      with_reducible rfl
                                    rotate_left
                                    · simp only [Act.put, List.setIfInBounds_toArray, List.set_cons_zero, List.set_cons_succ, i64_w, i32_w]
                                      rfl
                                    refine pure_ (i := 8) (N := some 86) (v := ?_) (a' := ?_) #[true, true, true, true, false, true, true, true, true, false, false, false, false] rfl rfl (any_of HT_.out (by kernel_rfl)) (fun _ _ _ h => h) (Or.inl ⟨by rfl, ?_⟩) ?_ ?_
                                    rotate_left
                                    · intro w'
                                      go_simp
                                      with_reducible rfl
                                    rotate_left
                                    · simp only [Act.put, List.setIfInBounds_toArray, List.set_cons_zero, List.set_cons_succ, i64_w, i32_w]
                                      rfl
                                    refine take_ (i := 4) (N := some 82) (v := ?_) (a' := ?_) #[true, true, true, true, true, true, true, true, true, false, false, false, false] rfl rfl (take_ofW HT_.out HW_.out (by kernel_rfl)) (fun _ _ _ h => h) (Or.inl ⟨by rfl, ?_⟩) hHeld ?_ ?_
                                    rotate_left
                                    · rintro w' ⟨s0, s1, s2, s3⟩
                                      go_simp
                                      with_reducible rfl
                                    rotate_left
                                    · simp only [Act.put, List.setIfInBounds_toArray, List.set_cons_zero, List.set_cons_succ, i64_w, i32_w]
                                      rfl
                                    refine take_ (i := 9) (N := some 87) (v := ?_) (a' := ?_) #[true, true, true, true, true, true, true, true, true, true, false, false, false] rfl rfl (take_ofW HT_.out HW_.out (by kernel_rfl)) (fun _ _ _ h => h) (Or.inl ⟨by rfl, ?_⟩) hHeld ?_ ?_
                                    rotate_left
                                    · rintro w' ⟨s0, s1, s2, s3⟩
                                      go_simp
                                      with_reducible rfl
                                    rotate_left
                                    · simp only [Act.put, List.setIfInBounds_toArray, List.set_cons_zero, List.set_cons_succ, i64_w, i32_w]
                                      rfl
                                    refine one_ (i := 10) (N := some 88) #[true, true, true, true, true, true, true, true, true, true, true, false, false] rfl rfl (one_of HT_.out (by kernel_rfl)) (by decide) (fun K hK => ?_)
                                    refine goes_ Try.func46 (by kernel_rfl) rfl #[.int .u64 ((rd_T40 l0 x4_1).f0), .int .u64 ((rd_T40 x3_1 x11_4).f0)] (by rfl) rfl rfl (by (try simp only [List.map_toArray, List.map_cons, List.map_nil]); first | done | rfl | (simp only [List.length_drop, List.length_take]; rfl)) ?_
                                    with_reducible refine (saleroomref02_Cmp.calls k4 ((rd_T40 l0 x4_1).f0) ((rd_T40 x3_1 x11_4).f0) t147 _ A64.out).mono ?_
                                    rintro e w77 ⟨rfl, hb⟩
                                    have HS2_ := (hb.cell (World.block_lt_of_cell? _ _ (hHeld.2.2.1))).trans (hHeld.2.2.1)
                                    have HS3_ := (hb.cell (World.block_lt_of_cell? _ _ (hHeld.2.2.2))).trans (hHeld.2.2.2)
                                    refine ⟨_, rfl, ?_⟩
                                    have n0_ := Aside0.mk (Kd.R_below (by (with_reducible repeat (first | apply Kd.R_alloc | apply Kd.R_drewN | apply Kd.R_drew)); exact HO_3.out) hb)
                                    have n1_ := Aside0.mk (Kd.R_below (by (with_reducible repeat (first | apply Kd.R_alloc | apply Kd.R_drewN | apply Kd.R_drew)); exact HO_9.out) hb)
                                    have n2_ := Aside0.mk (blk_below (g := gb133) (o := .cells #[.int .u64 ((rd_T40 l0 x4_1).f0), .int .i64 ((rd_T40 l0 x4_1).f1)] 40 (0, 0)) (by (with_reducible repeat (first | refine blk_drewN ?_ _ | refine blk_drew ?_ | refine blk_alloc ?_ _)); exact BK133.out) hb)
                                    have n3_ := Aside0.mk (below_step (by repeat (first | (with_reducible first | exact HB.out | apply below_alloc | apply pw_below_drewN | apply below_drew1 | refine below_set ?_ GE133.out) | exact HB.out)) hb)
                                    clear HO_3
                                    clear HO_9
                                    clear BK133
                                    clear HB
                                    have HO_3 := n0_
                                    have HO_9 := n1_
                                    have BK133 := n2_
                                    have HB := n3_
                                    clear n0_ n1_ n2_ n3_
                                    (try clear hb)
                                    (try clear hb2)
                                    (try clear hk)
                                    (try clear hi)
                                    refine hK.out _ _ ⟨(blk_cell BK133.out 0).trans rfl, (blk_cell BK133.out 1).trans rfl, HS2_, HS3_⟩ (fun hHeld => ?_)
                                    clear hK K
                                    refine norm_ (a' := ?_) ?_ ?_
                                    rotate_left
                                    · show Act.put _ (some 88) _ = _
                                      simp only [Act.put, List.setIfInBounds_toArray, List.set_cons_zero, List.set_cons_succ, i64_w, i32_w]
                                      rfl
                                    refine pure_ (i := 11) (N := some 89) (v := ?_) (a' := ?_) #[true, true, true, true, true, true, true, true, true, true, true, true, false] rfl rfl (any_of HT_.out (by kernel_rfl)) (fun _ _ _ h => h) (Or.inl ⟨by rfl, ?_⟩) ?_ ?_
                                    rotate_left
                                    · intro w'
                                      go_simp
                                      with_reducible rfl
                                    rotate_left
                                    · simp only [Act.put, List.setIfInBounds_toArray, List.set_cons_zero, List.set_cons_succ, i64_w, i32_w]
                                      rfl
                                    refine pure_ (i := 12) (N := some 90) (v := ?_) (a' := ?_) #[true, true, true, true, true, true, true, true, true, true, true, true, true] rfl rfl (any_of HT_.out (by kernel_rfl)) (fun _ _ _ h => h) (Or.inl ⟨by rfl, ?_⟩) ?_ ?_
                                    rotate_left
                                    · intro w'
                                      go_simp
                                      with_reducible rfl
                                    rotate_left
                                    · simp only [Act.put, List.setIfInBounds_toArray, List.set_cons_zero, List.set_cons_succ, i64_w, i32_w]
                                      rfl
                                    refine done_ (done_of HT_.out (by kernel_rfl)) ?_
                                    have p155 : 0 ≤ (x11_4 : Int) := of_decide_eq_true (by first | (with_reducible assumption) | assumption)
                                    have q155 : x11_4 < (x3_1.length : Int) := of_decide_eq_true (by first | (with_reducible assumption) | assumption)
                                    obtain ⟨ad155, e155, hx155_0, hx155_1⟩ := at_T40 (Kd.R_reads' HO_3.out).2.2 x11_4 p155 q155
                                    obtain rfl : ad146 = ad155 := (by injection e155)
                                    replace p155 := eq_true p155
                                    replace q155 := eq_true q155
                                    try go_wp2_with (first | ((with_reducible refine gate_builtin (b := .append) (xs := #[.tmp 95, .tmp 100]) rfl ?_); at_builtin; refine Kd.R_append k40 (w0 := w) w.heap.size rfl (.tmp 95) (.tmp 100) 37 40 (.agg #[(.int .u64 0), (.int .i64 0)]) 16 rfl Try.underlying37 info40 rfl (by decide) (by omega) u9 x9_4 (⟨(rd_T40 x3_1 x11_4).f0, (rd_T40 x3_1 x11_4).f1⟩ : S40) [.int .u64 ((rd_T40 x3_1 x11_4).f0), .int .i64 ((rd_T40 x3_1 x11_4).f1)] (fun k_ => some k_ ≠ (.slice (some ad146) x3_1.length co75 : Value).ownBlock ∧ k_ ≠ gb133) (fun _ => False) rfl rfl ?aP (fun _ hk => hk.elim) ?aF ?aO ?aB ?aS ?aL ?_; (case aP => exact k40_mkM _ _ _ (⟨(rd_T40 x3_1 x11_4).f0, (rd_T40 x3_1 x11_4).f1⟩ : S40)); (case aB => exact (by repeat (first | (with_reducible first | exact HB.out | apply below_alloc | apply pw_below_drewN | apply below_drew1 | refine below_set ?_ GE133.out) | exact HB.out))); (case aF => exact (fun k_ hk => ⟨Kd.fresh' (Kd.R_lt (by (with_reducible repeat (first | apply Kd.R_alloc | apply Kd.R_drewN | apply Kd.R_drew)); exact HO_3.out)) k_ hk, Kd.freshB (g := gb133) (o := .cells #[.int .u64 ((rd_T40 l0 x4_1).f0), .int .i64 ((rd_T40 l0 x4_1).f1)] 40 (0, 0)) (by (with_reducible repeat (first | refine blk_drewN ?_ _ | refine blk_drew ?_ | refine blk_alloc ?_ _)); exact BK133.out) k_ hk⟩)); (case aO => exact (by (with_reducible repeat (first | apply Kd.R_alloc | apply Kd.R_drewN | apply Kd.R_drew)); exact HO_9.out)); (case aS => exact (below_size (by repeat (first | (with_reducible first | exact HB.out | apply below_alloc | apply pw_below_drewN | apply below_drew1 | refine below_set ?_ GE133.out) | exact HB.out)))); (case aL => have := LMc74.out; omega); intro v157 w78 ho hb hg hat; rw [← Ny156.out] at ho; have n0_ := Aside0.mk (Kd.R_after (ok := (fun k_ => k_ ≠ gb133)) (by (with_reducible repeat (first | apply Kd.R_alloc | apply Kd.R_drewN | apply Kd.R_drew)); exact Kd.R_mono HO_3.out (fun _ hk => ⟨hk.2, hk.1⟩)) hg hat); have n1_ := Aside0.mk (blk_grown (g := gb133) (o := .cells #[.int .u64 ((rd_T40 l0 x4_1).f0), .int .i64 ((rd_T40 l0 x4_1).f1)] 40 (0, 0)) (by (with_reducible repeat (first | refine blk_drewN ?_ _ | refine blk_drew ?_ | refine blk_alloc ?_ _)); exact BK133.out) hg (Kd.R_away HO_9.out (fun _ hk => hk.2))); have n2_ := Aside0.mk (hb); have n3_ := Aside0.mk (ho); clear HO_3; clear BK133; clear HB; clear HO_9; have HO_3 := n0_; have BK133 := n1_; have HB := n2_; have HO158 := n3_; clear n0_ n1_ n2_ n3_; clear ho hb hg hat))
                                    go_roundg k4
                                    case measure => have := HK1.out; have := HK2.out; have := HJ9.out; have := HK4.out; omega
                                    case rel => exact ⟨(y156), (false), (wrap64 (x11_4 + 1)), (by first | rfl | (simp; done) | (simp [*]; done)), (by first | rfl | (simp; done) | (simp [*]; done)), H', ⟨by have := HK1.out; have := HK2.out; have := HJ9.out; have := HK4.out; omega⟩, ⟨by (with_reducible repeat (first | apply Kd.R_alloc | apply Kd.R_drewN | apply Kd.R_drew)); exact Kd.R_mono HO_3.out (fun _ hk => ⟨hk.2, hk.1⟩)⟩, ⟨by (with_reducible repeat (first | apply Kd.R_alloc | apply Kd.R_drewN | apply Kd.R_drew)); exact HO158.out⟩, ⟨by (with_reducible repeat (first | refine blk_drewN ?_ _ | refine blk_drew ?_ | refine blk_alloc ?_ _)); exact BK133.out⟩, ⟨by repeat (first | (with_reducible first | exact HB.out | apply below_alloc | apply pw_below_drewN | apply below_drew1 | refine below_set ?_ GE133.out) | exact HB.out)⟩⟩
                                  · rw [if_neg c74] at H
                                    exact absurd H (by simp)
                              · rw [if_neg c63] at H
                                exact absurd H (by simp)
                          · rw [if_neg c56] at H
                            have c56b0 : decide (x11_4 < (x3_1.length : Int)) = false := decide_eq_false c56
                            clear c56
                            by_cases c79 : x10_4 = true
                            · subst c79
                              have H1 : (saleroomref14_One.l0 k4 l0 x9_4 (wrap64 (x4_1 + 1))) = some r := by rw [if_pos rfl] at H; exact H
                              clear H
                              have H := H1
                              clear H1
                              have H' := Aside0.mk H
                              clear H
                              obtain ⟨Ao80, co80, eo80⟩ := Kd.R_slice HO_3.out
                              subst eo80
                              go_wp2
                              go_roundg k4
                              case measure => have := HK1.out; have := HK2.out; have := HJ9.out; have := HK4.out; omega
                              case rel => exact ⟨(x9_4), (wrap64 (x4_1 + 1)), (by first | rfl | (simp; done) | (simp [*]; done)), H', ⟨by have := HK1.out; have := HK2.out; have := HJ9.out; have := HK4.out; omega⟩, ⟨by (with_reducible repeat (first | apply Kd.R_alloc | apply Kd.R_drewN | apply Kd.R_drew)); exact Kd.R_mono HO_9.out (fun _ hk => trivial)⟩, ⟨by repeat (first | (with_reducible first | exact HB.out | apply below_alloc | apply pw_below_drewN | apply below_drew1 | refine below_set ?_ GE133.out) | exact HB.out)⟩⟩
                            · replace c79 := Bool.eq_false_iff.mpr c79
                              subst c79
                              have H1 : (if x9_4.length < 8796093022208 then (saleroomref14_One.l0 k4 l0 (x9_4 ++ [(⟨((rd_T40 l0 x4_1).f0), ((rd_T40 l0 x4_1).f1)⟩ : S40)]) (wrap64 (x4_1 + 1))) else (none)) = some r := by rw [if_neg (show ¬ (false = true) by decide)] at H; exact H
                              clear H
                              have H := H1
                              clear H1
                              by_cases c81 : x9_4.length < 8796093022208
                              · rw [if_pos c81] at H
                                have LMc81 := Aside0.mk c81
                                clear c81
                                obtain ⟨y159, hy159⟩ : ∃ y_ : List (S40), y_ = (x9_4 ++ [(⟨((rd_T40 l0 x4_1).f0), ((rd_T40 l0 x4_1).f1)⟩ : S40)]) := ⟨_, rfl⟩
                                replace H : (saleroomref14_One.l0 k4 l0 y159 (wrap64 (x4_1 + 1))) = some r := by first | (rw [hy159]; with_reducible exact H) | (have H2_ := (Option.bind_some _ _).symm.trans H; rw [hy159]; with_reducible exact H2_) | (have H2_ := (Option.bind_some _ _).symm.trans H; with_reducible exact H2_) | with_reducible exact H | (rw [hy159]; exact H) | exact H
                                have Ny159 := Aside0.mk hy159
                                clear hy159
                                have H' := Aside0.mk H
                                clear H
                                obtain ⟨Ao82, co82, eo82⟩ := Kd.R_slice HO_3.out
                                subst eo82
                                have hcz83_0 : wr.cell? ⟨gb133, 0, none⟩ = some (.int .u64 ((rd_T40 l0 x4_1).f0)) := (blk_cell BK133.out 0).trans rfl
                                have hcz83_1 : wr.cell? ⟨gb133, 1, none⟩ = some (.int .i64 ((rd_T40 l0 x4_1).f1)) := (blk_cell BK133.out 1).trans rfl
                                have hfz83_0 := blk_frozen BK133.out 0
                                have hfz83_1 := blk_frozen BK133.out 1
                                go_wp2_with (first | ((with_reducible refine gate_builtin (b := .append) (xs := #[.tmp 104, .tmp 106]) rfl ?_); at_builtin; refine Kd.R_append k40 (w0 := w) w.heap.size rfl (.tmp 104) (.tmp 106) 37 40 (.agg #[(.int .u64 0), (.int .i64 0)]) 16 rfl Try.underlying37 info40 rfl (by decide) (by omega) u9 x9_4 (⟨((rd_T40 l0 x4_1).f0), ((rd_T40 l0 x4_1).f1)⟩ : S40) [.int .u64 ((rd_T40 l0 x4_1).f0), .int .i64 ((rd_T40 l0 x4_1).f1)] (fun k_ => some k_ ≠ (.slice Ao82 x3_1.length co82 : Value).ownBlock ∧ k_ ≠ gb133) (fun _ => False) rfl rfl ?aP (fun _ hk => hk.elim) ?aF ?aO ?aB ?aS ?aL ?_; (case aP => exact k40_mkM _ _ _ (⟨((rd_T40 l0 x4_1).f0), ((rd_T40 l0 x4_1).f1)⟩ : S40)); (case aB => exact (by repeat (first | (with_reducible first | exact HB.out | apply below_alloc | apply pw_below_drewN | apply below_drew1 | refine below_set ?_ GE133.out) | exact HB.out))); (case aF => exact (fun k_ hk => ⟨Kd.fresh' (Kd.R_lt (by (with_reducible repeat (first | apply Kd.R_alloc | apply Kd.R_drewN | apply Kd.R_drew)); exact HO_3.out)) k_ hk, Kd.freshB (g := gb133) (o := .cells #[.int .u64 ((rd_T40 l0 x4_1).f0), .int .i64 ((rd_T40 l0 x4_1).f1)] 40 (0, 0)) (by (with_reducible repeat (first | refine blk_drewN ?_ _ | refine blk_drew ?_ | refine blk_alloc ?_ _)); exact BK133.out) k_ hk⟩)); (case aO => exact (by (with_reducible repeat (first | apply Kd.R_alloc | apply Kd.R_drewN | apply Kd.R_drew)); exact HO_9.out)); (case aS => exact (below_size (by repeat (first | (with_reducible first | exact HB.out | apply below_alloc | apply pw_below_drewN | apply below_drew1 | refine below_set ?_ GE133.out) | exact HB.out)))); (case aL => have := LMc81.out; omega); intro v160 w84 ho hb hg hat; rw [← Ny159.out] at ho; have n0_ := Aside0.mk (Kd.R_after (ok := (fun k_ => k_ ≠ gb133)) (by (with_reducible repeat (first | apply Kd.R_alloc | apply Kd.R_drewN | apply Kd.R_drew)); exact Kd.R_mono HO_3.out (fun _ hk => ⟨hk.2, hk.1⟩)) hg hat); have n1_ := Aside0.mk (blk_grown (g := gb133) (o := .cells #[.int .u64 ((rd_T40 l0 x4_1).f0), .int .i64 ((rd_T40 l0 x4_1).f1)] 40 (0, 0)) (by (with_reducible repeat (first | refine blk_drewN ?_ _ | refine blk_drew ?_ | refine blk_alloc ?_ _)); exact BK133.out) hg (Kd.R_away HO_9.out (fun _ hk => hk.2))); have n2_ := Aside0.mk (hb); have n3_ := Aside0.mk (ho); clear HO_3; clear BK133; clear HB; clear HO_9; have HO_3 := n0_; have BK133 := n1_; have HB := n2_; have HO161 := n3_; clear n0_ n1_ n2_ n3_; clear ho hb hg hat))
                                go_roundg k4
                                case measure => have := HK1.out; have := HK2.out; have := HJ9.out; have := HK4.out; omega
                                case rel => exact ⟨(y159), (wrap64 (x4_1 + 1)), (by first | rfl | (simp; done) | (simp [*]; done)), H', ⟨by have := HK1.out; have := HK2.out; have := HJ9.out; have := HK4.out; omega⟩, ⟨by (with_reducible repeat (first | apply Kd.R_alloc | apply Kd.R_drewN | apply Kd.R_drew)); exact Kd.R_mono HO161.out (fun _ hk => trivial)⟩, ⟨by repeat (first | (with_reducible first | exact HB.out | apply below_alloc | apply pw_below_drewN | apply below_drew1 | refine below_set ?_ GE133.out) | exact HB.out)⟩⟩
                              · rw [if_neg c81] at H
                                exact absurd H (by simp)
                    · replace c53 := Bool.eq_false_iff.mpr c53
                      subst c53
                      have H1 : (saleroomref14_One.l0 kj9 l0 x3_1 (wrap64 (x4_1 + 1))) = some r := by rw [if_neg (show ¬ (false = true) by decide)] at H; exact H
                      clear H
                      have H := H1
                      clear H1
                      have H' := Aside0.mk H
                      clear H
                      go_wp2
                      go_roundg kj9
                      case measure => have := HK1.out; have := HK2.out; have := HJ9.out; omega
                      case rel => exact ⟨(x3_1), (wrap64 (x4_1 + 1)), (by first | rfl | (simp; done) | (simp [*]; done)), H', ⟨by have := HK1.out; have := HK2.out; have := HJ9.out; omega⟩, ⟨by (with_reducible repeat (first | apply Kd.R_alloc | apply Kd.R_drewN | apply Kd.R_drew)); exact Kd.R_mono HO_3.out (fun _ hk => trivial)⟩, ⟨by repeat (first | (with_reducible first | exact HB.out | apply below_alloc | apply pw_below_drewN | apply below_drew1 | refine below_set ?_ GE133.out) | exact HB.out)⟩⟩
        · rw [if_neg c5] at H
          exact absurd H (by simp)
      · rw [if_neg c4] at H
        have c4b0 : decide (x4_1 < (l0.length : Int)) = false := decide_eq_false c4
        clear c4
        obtain rfl := Option.some.inj H
        go_wp2
        go_ret
        exact ⟨_, by first | rfl | (simp [errW_none, errW_some] <;> rfl) | (simp [*, errW_none, errW_some] <;> rfl), by (with_reducible repeat (first | apply Kd.R_alloc | apply Kd.R_drewN | apply Kd.R_drew)); exact HO_3.out, by repeat (first | (with_reducible first | exact HB.out | apply below_alloc | apply pw_below_drewN | apply below_drew1) | exact HB.out)⟩

end Go.Proofs.Ytafhdamdkefpkaa.PPrep

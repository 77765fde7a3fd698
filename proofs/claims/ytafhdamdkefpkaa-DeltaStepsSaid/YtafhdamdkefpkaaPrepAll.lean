/- Printed by a program of this session (the kit's print): prep.Right and prep.union. prep.greatest: the greatest price of each right set, in order. prep.One: of the greatest prices in order those that nothing ahead of them outdoes. prep.Free: the bids within the free items, one by one. prep.Best: the best of the bids within the free items. prep.One as a function on lists; what it answers in plain words. slices.Grow of nil, slices.Concat, prep.Count, prep.Union. A map[int]bool of the call's own, as a set of numbers. prep.group as a function on lists of sets. prep.group: the bidders that belong to one. prep.Groups: the groups of bidders, one by one. -/
import Derived.Test.YtafhdamdkefpkaaPPrepx0
import Derived.Test.YtafhdamdkefpkaaSortAll
import Derived.Test.YtafhdamdkefpkaaTreeAll
import Derived.Test.YtafhdamdkefpkaaKitAll
import Derived.WalkMore
import Derived.Sort.LoopGhostIn
import Derived.Maps.OwnSet
import Derived.Maps.OwnOps
import Derived.Maps.Views
namespace Go.Proofs.Ytafhdamdkefpkaa.PPrep
open Go.RowKit Go.Proofs.YtafhdamdkefpkaaW.PrintWords Go.Proofs.YtafhdamdkefpkaaW.PrintLast Go.Proofs.YtafhdamdkefpkaaW.PrintMore
attribute [local go_sem] max2_int min2_int max_two min_two max_three min_three max_four min_four   -- for this text's walks alone
set_option linter.unusedVariables false
set_option linter.unusedSimpArgs false

/-! ### prep_Right: function 15 -/
def prep_Right.f (a0_0 : Int) (a0_1 : Int) : Option (Bool) := if a0_0 = 0 then (some false) else (if a0_1 ≥ 0 then (some (decide (a0_1 ≤ 2199023255552))) else (some false))
set_option maxHeartbeats 8000000 in
set_option maxRecDepth 100000 in
theorem prep_Right.calls (a0_0 : Int) (a0_1 : Int) (r : Bool) (w : World) (h : prep_Right.f a0_0 a0_1 = some r) :
    Calls Try.prog 15 #[.agg #[.int .u64 a0_0, .int .i64 a0_1]] w fun e w' => e = .returned (.bool r) ∧ Below w.heap.size w w' := by
  have hu40 := Try.underlying40
  have HB := Aside0.mk (Below.refl w.heap.size w)
  have H : (if a0_0 = 0 then (some false) else (if a0_1 ≥ 0 then (some (decide (a0_1 ≤ 2199023255552))) else (some false))) = some r := h
  clear h
  by_cases c2 : a0_0 = 0
  · rw [if_pos c2] at H
    have c2b0 : (a0_0 == 0) = true := beq_iff_eq.mpr c2
    have c2b1 : (a0_0 != 0) = false := bne_eq_false_iff_eq.mpr c2
    clear c2
    obtain rfl := Option.some.inj H
    go_enter Try.func15, Try.ntmps15
    go_wp2_with (first | ((with_reducible refine gate_dst (N := 1) rfl ?_); refine box_event ?hg (N := 1) ?hd (cs := #[.int .u64 a0_0, .int .i64 a0_1]) (t := 40) ?hr ?_; (case hd => rfl); (case hg => rfl); (case hr => first | (go_simp; done) | (go_simp; rfl)); intro gb101 hg w3 hbox hb; have n0_ := Aside0.mk (below_step (by repeat (first | (with_reducible first | exact HB.out | apply below_alloc | apply pw_below_drewN | apply below_drew1) | exact HB.out)) hb); have n1_ := Aside0.mk (hbox); have n2_ := Aside0.mk ((by rw [hg]; exact (below_size (by repeat (first | (with_reducible first | exact HB.out | apply below_alloc | apply pw_below_drewN | apply below_drew1) | exact HB.out))) : w.heap.size ≤ gb101)); have n3_ := Aside0.mk ((by rw [hg]; exact (below_size (by repeat (first | (with_reducible first | exact HB.out | apply below_alloc | apply pw_below_drewN | apply below_drew1) | exact HB.out))) : w.heap.size ≤ gb101)); clear HB; have HB := n0_; have BK101 := n1_; have GW101 := n2_; have GE101 := n3_; clear n0_ n1_ n2_ n3_; clear hb hbox hg; have hcz4_0 : w3.cell? ⟨gb101, 0, none⟩ = some (.int .u64 a0_0) := (blk_cell BK101.out 0).trans rfl; have hcz4_1 : w3.cell? ⟨gb101, 1, none⟩ = some (.int .i64 a0_1) := (blk_cell BK101.out 1).trans rfl; have hfz4_0 := blk_frozen BK101.out 0; have hfz4_1 := blk_frozen BK101.out 1))
    go_ret
    exact ⟨by first | rfl | (simp [errW_none, errW_some] <;> rfl) | (simp [*, errW_none, errW_some] <;> rfl), by repeat (first | (with_reducible first | exact HB.out | apply below_alloc | apply pw_below_drewN | apply below_drew1 | refine below_set ?_ GE101.out) | exact HB.out)⟩
  · rw [if_neg c2] at H
    have c2b0 : (a0_0 == 0) = false := beq_eq_false_iff_ne.mpr c2
    have c2b1 : (a0_0 != 0) = true := bne_iff_ne.mpr c2
    by_cases c5 : a0_1 ≥ 0
    · rw [if_pos c5] at H
      have c5b0 : decide (0 ≤ a0_1) = true := decide_eq_true c5
      clear c5
      obtain rfl := Option.some.inj H
      go_enter Try.func15, Try.ntmps15
      go_wp2_with (first | ((with_reducible refine gate_dst (N := 1) rfl ?_); refine box_event ?hg (N := 1) ?hd (cs := #[.int .u64 a0_0, .int .i64 a0_1]) (t := 40) ?hr ?_; (case hd => rfl); (case hg => rfl); (case hr => first | (go_simp; done) | (go_simp; rfl)); intro gb101 hg w6 hbox hb; have n0_ := Aside0.mk (below_step (by repeat (first | (with_reducible first | exact HB.out | apply below_alloc | apply pw_below_drewN | apply below_drew1) | exact HB.out)) hb); have n1_ := Aside0.mk (hbox); have n2_ := Aside0.mk ((by rw [hg]; exact (below_size (by repeat (first | (with_reducible first | exact HB.out | apply below_alloc | apply pw_below_drewN | apply below_drew1) | exact HB.out))) : w.heap.size ≤ gb101)); have n3_ := Aside0.mk ((by rw [hg]; exact (below_size (by repeat (first | (with_reducible first | exact HB.out | apply below_alloc | apply pw_below_drewN | apply below_drew1) | exact HB.out))) : w.heap.size ≤ gb101)); clear HB; have HB := n0_; have BK101 := n1_; have GW101 := n2_; have GE101 := n3_; clear n0_ n1_ n2_ n3_; clear hb hbox hg; have hcz7_0 : w6.cell? ⟨gb101, 0, none⟩ = some (.int .u64 a0_0) := (blk_cell BK101.out 0).trans rfl; have hcz7_1 : w6.cell? ⟨gb101, 1, none⟩ = some (.int .i64 a0_1) := (blk_cell BK101.out 1).trans rfl; have hfz7_0 := blk_frozen BK101.out 0; have hfz7_1 := blk_frozen BK101.out 1))
      go_ret
      exact ⟨by first | rfl | (simp [errW_none, errW_some] <;> rfl) | (simp [*, errW_none, errW_some] <;> rfl), by repeat (first | (with_reducible first | exact HB.out | apply below_alloc | apply pw_below_drewN | apply below_drew1 | refine below_set ?_ GE101.out) | exact HB.out)⟩
    · rw [if_neg c5] at H
      have c5b0 : decide (0 ≤ a0_1) = false := decide_eq_false c5
      clear c5
      obtain rfl := Option.some.inj H
      go_enter Try.func15, Try.ntmps15
      go_wp2_with (first | ((with_reducible refine gate_dst (N := 1) rfl ?_); refine box_event ?hg (N := 1) ?hd (cs := #[.int .u64 a0_0, .int .i64 a0_1]) (t := 40) ?hr ?_; (case hd => rfl); (case hg => rfl); (case hr => first | (go_simp; done) | (go_simp; rfl)); intro gb101 hg w8 hbox hb; have n0_ := Aside0.mk (below_step (by repeat (first | (with_reducible first | exact HB.out | apply below_alloc | apply pw_below_drewN | apply below_drew1) | exact HB.out)) hb); have n1_ := Aside0.mk (hbox); have n2_ := Aside0.mk ((by rw [hg]; exact (below_size (by repeat (first | (with_reducible first | exact HB.out | apply below_alloc | apply pw_below_drewN | apply below_drew1) | exact HB.out))) : w.heap.size ≤ gb101)); have n3_ := Aside0.mk ((by rw [hg]; exact (below_size (by repeat (first | (with_reducible first | exact HB.out | apply below_alloc | apply pw_below_drewN | apply below_drew1) | exact HB.out))) : w.heap.size ≤ gb101)); clear HB; have HB := n0_; have BK101 := n1_; have GW101 := n2_; have GE101 := n3_; clear n0_ n1_ n2_ n3_; clear hb hbox hg; have hcz9_0 : w8.cell? ⟨gb101, 0, none⟩ = some (.int .u64 a0_0) := (blk_cell BK101.out 0).trans rfl; have hcz9_1 : w8.cell? ⟨gb101, 1, none⟩ = some (.int .i64 a0_1) := (blk_cell BK101.out 1).trans rfl; have hfz9_0 := blk_frozen BK101.out 0; have hfz9_1 := blk_frozen BK101.out 1))
      go_ret
      exact ⟨by first | rfl | (simp [errW_none, errW_some] <;> rfl) | (simp [*, errW_none, errW_some] <;> rfl), by repeat (first | (with_reducible first | exact HB.out | apply below_alloc | apply pw_below_drewN | apply below_drew1 | refine below_set ?_ GE101.out) | exact HB.out)⟩

/-! ### prep_union: function 48 -/
def prep_union.l0 : Nat → Int → List (S40) → Int → Int → Option (Int)
  | 0, _, _, _, _ => none
  | k + 1, x3, x6, x7, x8 => if x8 < x7 then (if 0 ≤ x8 then (if x8 < (x6.length : Int) then (prep_union.l0 k (Go.bits .or .u64 x3 ((rd_T40 x6 x8).f0)) x6 x7 (wrap64 (x8 + 1))) else (none)) else (none)) else (some x3)
def prep_union.f (k : Nat) (l0 : List (S40)) : Option (Int) := prep_union.l0 k 0 l0 (l0.length : Int) 0
theorem prep_union.mono_l : ∀ k, (∀ y0 y1 y2 y3, LeO (prep_union.l0 k y0 y1 y2 y3) (prep_union.l0 (k + 1) y0 y1 y2 y3))
  | 0 => fun _ _ _ _ r h => by simp [prep_union.l0] at h
  | k + 1 => by
    have ih0 := prep_union.mono_l k
    · intro y0 y1 y2 y3
      unfold prep_union.l0
      repeat' first
      | (with_reducible exact ih0 _ _ _ _)
      | (with_reducible exact LeO.refl _)
      | (with_reducible exact LeO.none _)
      | (with_reducible refine LeO.ite ?_ ?_)
      | (with_reducible refine LeO.bind ?_ (fun _ => ?_))
      | exact ih0 _ _ _ _
      | exact LeO.none _
      | refine LeO.ite ?_ ?_
      | refine LeO.bind ?_ (fun _ => ?_)
theorem prep_union.mono : ∀ a0 k, LeO (prep_union.f k a0) (prep_union.f (k + 1) a0) := by
  intro a0 k
  have ih0 := prep_union.mono_l k
  unfold prep_union.f
  repeat' first
      | (with_reducible exact ih0 _ _ _ _)
      | (with_reducible exact LeO.refl _)
      | (with_reducible exact LeO.none _)
      | (with_reducible refine LeO.ite ?_ ?_)
      | (with_reducible refine LeO.bind ?_ (fun _ => ?_))
      | exact ih0 _ _ _ _
      | exact LeO.none _
      | refine LeO.ite ?_ ?_
      | refine LeO.bind ?_ (fun _ => ?_)
set_option maxHeartbeats 8000000 in
set_option maxRecDepth 100000 in
theorem prep_union.calls (k : Nat) (A0 : Option Addr) (c0 : Nat) (l0 : List (S40)) (r : Int) (w : World) (hr0 : Kd.C k40 w A0 l0.length l0) (hc0 : l0.length ≤ c0) (h : prep_union.f k l0 = some r) :
    Calls Try.prog 48 #[.slice A0 l0.length c0] w fun e w' => e = .returned (.int .u64 r) ∧ Below w.heap.size w w' := by
  have hu40 := Try.underlying40
  have HR0 := Aside0.mk hr0
  have HC0 := Aside0.mk hc0
  clear hr0 hc0
  have HB := Aside0.mk (Below.refl w.heap.size w)
  have H : (prep_union.l0 k 0 l0 (l0.length : Int) 0) = some r := h
  clear h
  have H' := Aside0.mk H
  clear H
  go_enter Try.func48, Try.ntmps48
  go_wp2
  go_loopg [3, 8] k (fun kq v3 v8 w' => ∃ (x3_1 : Int) (x8_1 : Int), v3 = .int .u64 x3_1 ∧ v8 = .int .i64 x8_1 ∧ Aside0 (prep_union.l0 kq x3_1 l0 (l0.length : Int) x8_1 = some r) ∧ Aside0 (kq ≤ k) ∧ Aside0 (Below w.heap.size w w'))
  case atStart => exact ⟨(0), (0), (by first | rfl | (simp; done) | (simp [*]; done)), (by first | rfl | (simp; done) | (simp [*]; done)), H', ⟨Nat.le_refl _⟩, ⟨by repeat (first | (with_reducible first | exact HB.out | apply below_alloc | apply pw_below_drewN | apply below_drew1) | exact HB.out)⟩⟩
  case round =>
    clear H'
    obtain ⟨x3_1, x8_1, rfl, rfl, HA, HK1, HB⟩ := hrel
    cases gk with
    | zero => exact absurd HA.out (by simp [prep_union.l0])
    | succ k1 =>
      have H := HA.out
      clear HA
      simp only [prep_union.l0] at H
      by_cases c2 : x8_1 < (l0.length : Int)
      · rw [if_pos c2] at H
        have c2b0 : decide (x8_1 < (l0.length : Int)) = true := decide_eq_true c2
        clear c2
        by_cases c3 : 0 ≤ x8_1
        · rw [if_pos c3] at H
          have c3b0 : decide (0 ≤ x8_1) = true := decide_eq_true c3
          clear c3
          by_cases c4 : x8_1 < (l0.length : Int)
          · rw [if_pos c4] at H
            have c4b0 : decide (x8_1 < (l0.length : Int)) = true := decide_eq_true c4
            clear c4
            have H' := Aside0.mk H
            clear H
            have p110 : 0 ≤ (x8_1 : Int) := of_decide_eq_true (by first | (with_reducible assumption) | assumption)
            have q110 : x8_1 < (l0.length : Int) := of_decide_eq_true (by first | (with_reducible assumption) | assumption)
            obtain ⟨ad110, e110, hx110_0, hx110_1⟩ := at_T40 HR0.out x8_1 p110 q110
            cases e110
            replace hx110_0 := (HB.out.cell (World.block_lt_of_cell? w _ hx110_0)).trans hx110_0
            replace hx110_1 := (HB.out.cell (World.block_lt_of_cell? w _ hx110_1)).trans hx110_1
            replace p110 := eq_true p110
            replace q110 := eq_true q110
            go_wp2_with (first | ((with_reducible refine gate_dst (N := 5) rfl ?_); refine box_event ?hg (N := 5) ?hd (cs := #[.int .u64 0, .int .i64 0]) (t := 40) ?hr ?_; (case hd => rfl); (case hg => rfl); (case hr => first | (go_simp; done) | (go_simp; rfl)); intro gb111 hg w5 hbox hb; have n0_ := Aside0.mk (below_step (by repeat (first | (with_reducible first | exact HB.out | apply below_alloc | apply pw_below_drewN | apply below_drew1) | exact HB.out)) hb); have n1_ := Aside0.mk (hbox); have n2_ := Aside0.mk ((by rw [hg]; exact (below_size (by repeat (first | (with_reducible first | exact HB.out | apply below_alloc | apply pw_below_drewN | apply below_drew1) | exact HB.out))) : w.heap.size ≤ gb111)); have n3_ := Aside0.mk ((by rw [hg]; exact (below_size (by repeat (first | (with_reducible first | exact HB.out | apply below_alloc | apply pw_below_drewN | apply below_drew1) | exact HB.out))) : w.heap.size ≤ gb111)); clear HB; have HB := n0_; have BK111 := n1_; have GW111 := n2_; have GE111 := n3_; clear n0_ n1_ n2_ n3_; clear hb hbox hg; have hcz6_0 : w5.cell? ⟨gb111, 0, none⟩ = some (.int .u64 0) := (blk_cell BK111.out 0).trans rfl; have hcz6_1 : w5.cell? ⟨gb111, 1, none⟩ = some (.int .i64 0) := (blk_cell BK111.out 1).trans rfl; have hfz6_0 := blk_frozen BK111.out 0; have hfz6_1 := blk_frozen BK111.out 1))
            go_roundg k1
            case measure => have := HK1.out; omega
            case rel => exact ⟨(Go.bits .or .u64 x3_1 ((rd_T40 l0 x8_1).f0)), (wrap64 (x8_1 + 1)), (by first | rfl | (simp; done) | (simp [*]; done)), (by first | rfl | (simp; done) | (simp [*]; done)), H', ⟨by have := HK1.out; omega⟩, ⟨by repeat (first | (with_reducible first | exact HB.out | apply below_alloc | apply pw_below_drewN | apply below_drew1 | refine below_set ?_ GE111.out) | exact HB.out)⟩⟩
          · rw [if_neg c4] at H
            exact absurd H (by simp)
        · rw [if_neg c3] at H
          exact absurd H (by simp)
      · rw [if_neg c2] at H
        have c2b0 : decide (x8_1 < (l0.length : Int)) = false := decide_eq_false c2
        clear c2
        obtain rfl := Option.some.inj H
        go_wp2
        go_ret
        exact ⟨by first | rfl | (simp [errW_none, errW_some] <;> rfl) | (simp [*, errW_none, errW_some] <;> rfl), by repeat (first | (with_reducible first | exact HB.out | apply below_alloc | apply pw_below_drewN | apply below_drew1) | exact HB.out)⟩

end Go.Proofs.Ytafhdamdkefpkaa.PPrep

namespace Go.Proofs.Ytafhdamdkefpkaa
open Go.RowKit Go.Proofs.YtafhdamdkefpkaaW.PrintWords Go.Proofs.YtafhdamdkefpkaaW.PrintLast Go.Proofs.YtafhdamdkefpkaaW.PrintMore Go.Proofs.Ytafhdamdkefpkaa.PPrep
attribute [local go_sem] max2_int min2_int max_two min_two Oper.semAt_some
set_option linter.unusedVariables false
set_option linter.unusedSimpArgs false

/-- Is a bid right? -/
def rightB (x : S40) : Bool := decide (x.f0 ≠ 0) && (decide (0 ≤ x.f1) && decide (x.f1 ≤ 2199023255552))
theorem right_f (x : S40) : prep_Right.f x.f0 x.f1 = some (rightB x) := by
  unfold prep_Right.f rightB
  by_cases h : x.f0 = 0 <;> by_cases h1 : 0 ≤ x.f1 <;> simp [h, h1]
def gstep (l : List (Int × Int)) (b : S40) : List (Int × Int) := if rightB b && (!(getL b.f0 l).isSome || decide (b.f1 > (getL b.f0 l).getD 0)) then putL b.f0 b.f1 l else l
theorem gstep_length (l : List (Int × Int)) (b : S40) : (gstep l b).length ≤ l.length + 1 := by
  unfold gstep; split
  · exact putL_length _ _ _
  · omega
theorem gfold_length (xs : List S40) : (xs.foldl gstep []).length ≤ xs.length := by
  suffices h : ∀ l, (xs.foldl gstep l).length ≤ l.length + xs.length by simpa using h []
  induction xs with
  | nil => intro l; simp
  | cons x xs ih => intro l; have := ih (gstep l x); have := gstep_length l x; simp only [List.foldl_cons, List.length_cons]; omega

theorem putL_ub {l : List (Int × Int)} {k x : Int} (hk : 0 ≤ k ∧ k < 18446744073709551616) (h : ∀ p ∈ l, 0 ≤ p.1 ∧ p.1 < 18446744073709551616) : ∀ p ∈ putL k x l, 0 ≤ p.1 ∧ p.1 < 18446744073709551616 := fun p hp => by
  rcases putL_mem hp with rfl | hp
  · exact hk
  · exact h p hp
theorem gfold_ub : ∀ (xs : List S40) (l : List (Int × Int)), (∀ x ∈ xs, 0 ≤ x.f0 ∧ x.f0 < 18446744073709551616) → (∀ p ∈ l, 0 ≤ p.1 ∧ p.1 < 18446744073709551616) → ∀ p ∈ xs.foldl gstep l, 0 ≤ p.1 ∧ p.1 < 18446744073709551616
  | [], l, _, h => h
  | x :: xs, l, hx, h => by
    rw [List.foldl_cons]
    refine gfold_ub xs _ (fun y hy => hx y (List.mem_cons_of_mem _ hy)) ?_
    unfold gstep
    split
    · exact putL_ub (hx x List.mem_cons_self) h
    · exact h
theorem gmem_ub {xs : List S40} {L : List (Int × Int)} (hb : ∀ x ∈ xs, 0 ≤ x.f0 ∧ x.f0 < 18446744073709551616) (hL : xs.foldl gstep [] = L) : ∀ x ∈ L.map (fun p => (⟨p.1, p.2⟩ : S40)), 0 ≤ x.f0 ∧ x.f0 < 18446744073709551616 := by
  intro x hx
  obtain ⟨p, hp, rfl⟩ := List.mem_map.1 hx
  exact gfold_ub xs [] hb (fun p hp => by simp at hp) p (hL ▸ hp)
theorem tab_lt {W : World} {tb : Nat} {l : List (Int × Int)} (h : IsTab W tb l) : tb < W.heap.size := by obtain ⟨_, _, hb, _⟩ := h; exact lt_of_heap hb

set_option maxRecDepth 100000 in
set_option maxHeartbeats 4000000 in
theorem greatest_any (A0 : Option Addr) (c0 : Nat) (xs : List S40) (w : World) (hr0 : Kd.C k40 w A0 xs.length xs) (hc0 : xs.length ≤ c0) (hl : xs.length ≤ 100000) (hb : ∀ x ∈ xs, 0 ≤ x.f0 ∧ x.f0 < 18446744073709551616) :
    Calls Try.prog 44 #[.slice A0 xs.length c0] w fun e w' => ∃ v ys, e = .returned v ∧ ys.Perm ((xs.foldl gstep []).map fun p => (⟨p.1, p.2⟩ : S40)) ∧ ys.Pairwise (fun a b => ¬ scmp b.f0.toNat a.f0.toNat < 0) ∧
      Kd.R k40 40 w' w.heap.size (fun _ => True) v ys ∧ Below w.heap.size w w' := by
  have hu40 := Try.underlying40
  have HR0 := Aside0.mk hr0
  have HC0 := Aside0.mk hc0
  clear hr0 hc0
  have HB := Aside0.mk (Below.refl w.heap.size w)
  refine (callsIn_wide (n := 0)).1 ?_
  refine callsIn_of_wp_marks Try.func44 rfl trivial ?_ rfl
  simp only [Try.ntmps44, List.size_toArray, List.length_cons, List.length_nil, Nat.reduceAdd, Nat.reduceSub, Array.replicate_succ, Array.replicate_zero, List.push_toArray, List.append_toArray, List.nil_append, List.cons_append]
  refine wpIn_wide.2 ?_
  go_wp2_with fail
  have HT := Aside0.mk (show IsTab (w.alloc (.cells #[.pointer none] 126)) w.heap.size [] from ⟨_, .nil, World.alloc_heap_new _ _, rfl, rfl, List.Pairwise.nil⟩)
  go_loopg [13] xs.length (fun n v W => ∃ i : Nat, v = .int .i64 i ∧ Aside0 (i + n = xs.length) ∧ Aside0 (IsTab W w.heap.size ((xs.take i).foldl gstep [])) ∧ Aside0 (Below w.heap.size w W))
  case atStart => exact ⟨0, rfl, ⟨by simp⟩, HT, ⟨by exact below_alloc (Below.refl _ _) _⟩⟩
  case round =>
    clear HT HB
    obtain ⟨i, rfl, HI, HT, HB⟩ := hrel
    by_cases c : (i : Int) < (xs.length : Int)
    · have p1 : (0 : Int) ≤ (i : Int) := by omega
      obtain ⟨ad1, e1, hx0, hx1⟩ := at_T40 HR0.out i p1 c
      cases e1
      rw [Int.toNat_natCast] at hx0 hx1
      replace hx0 := (HB.out.cell (World.block_lt_of_cell? w _ hx0)).trans hx0
      replace hx1 := (HB.out.cell (World.block_lt_of_cell? w _ hx1)).trans hx1
      have hlt : Aside0 (i < xs.length) := ⟨by omega⟩
      have cb := decide_eq_true c
      replace p1 := eq_true p1
      replace c := eq_true c
      go_wp2_with (first
        | ((with_reducible refine gate_dst (N := 5) rfl ?_); refine box_event ?hg (N := 5) ?hd (cs := #[.int .u64 0, .int .i64 0]) (t := 40) ?hr ?_; (case hd => rfl); (case hg => rfl); (case hr => first | (go_simp; done) | (go_simp; rfl)); intro gb hg w5 hbox hb; have BK := Aside0.mk hbox; have KB := Aside0.mk hb; have GB := Aside0.mk hg; clear hb hbox hg; have hcz0 : w5.cell? ⟨gb, 0, none⟩ = some (.int .u64 0) := (blk_cell BK.out 0).trans rfl; have hcz1 : w5.cell? ⟨gb, 1, none⟩ = some (.int .i64 0) := (blk_cell BK.out 1).trans rfl; have hfz0 := blk_frozen BK.out 0; have hfz1 := blk_frozen BK.out 1)
        | fail)
      have hgw : wr.heap.size ≤ gb := by rw [GB.out]; exact Nat.le_refl _
      have htl : w.heap.size < wr.heap.size := by obtain ⟨_, _, hb, _⟩ := HT.out; exact lt_of_heap hb
      have hK6 : Keeps (fun k => k < wr.heap.size) wr ((w5.setCell ⟨gb, 0, none⟩ (.int .u64 (rd_T40 xs i).f0)).setCell ⟨gb, 1, none⟩ (.int .i64 (rd_T40 xs i).f1)) :=
        ((Keeps.of_all KB.out).setCell (fun h => by exact hgw) _).setCell (fun h => by exact hgw) _
      have hT6 : IsTab ((w5.setCell ⟨gb, 0, none⟩ (.int .u64 (rd_T40 xs i).f0)).setCell ⟨gb, 1, none⟩ (.int .i64 (rd_T40 xs i).f1)) w.heap.size ((xs.take i).foldl gstep []) := HT.out.kept hK6 (fun b cs f h => lt_of_heap h) htl
      have hB6 : Below w.heap.size w ((w5.setCell ⟨gb, 0, none⟩ (.int .u64 (rd_T40 xs i).f0)).setCell ⟨gb, 1, none⟩ (.int .i64 (rd_T40 xs i).f1)) := HB.out.trans (hK6.below (fun k hk => by omega) (by omega))
      have hX : ((w5.setCell ⟨gb, 0, none⟩ (.int .u64 (rd_T40 xs i).f0)).setCell ⟨gb, 1, none⟩ (.int .i64 (rd_T40 xs i).f1)).heap[gb]? = some (.cells #[.int .u64 (rd_T40 xs i).f0, .int .i64 (rd_T40 xs i).f1] 40 (0, 0)) := set_at (set_at BK.out 0 _) 1 _
      generalize ((w5.setCell ⟨gb, 0, none⟩ (.int .u64 (rd_T40 xs i).f0)).setCell ⟨gb, 1, none⟩ (.int .i64 (rd_T40 xs i).f1)) = W6 at hK6 hT6 hB6 hX ⊢
      clear hcz0 hcz1 hfz0 hfz1 KB BK hK6 HT HB
      obtain ⟨x, hx⟩ : ∃ x, x = rd_T40 xs i := ⟨_, rfl⟩
      rw [← hx] at hX hx0 hx1 ⊢
      have hcx0 : W6.cell? ⟨gb, 0, none⟩ = some (.int .u64 x.f0) := blk_cell_ hX 0
      have hcx1 : W6.cell? ⟨gb, 1, none⟩ = some (.int .i64 x.f1) := blk_cell_ hX 1
      have HT6 := Aside0.mk hT6
      have HB6 := Aside0.mk hB6
      have hstep : Aside0 ((xs.take (i + 1)).foldl gstep [] = gstep ((xs.take i).foldl gstep []) x) := ⟨by
        rw [List.take_add_one, List.foldl_append, hx]
        have := hlt.out
        simp [rd_T40, List.getD, this]⟩
      have hlen : Aside0 (((xs.take i).foldl gstep []).length < 536870912) := ⟨by
        have h1 := gfold_length (xs.take i)
        simp only [List.length_take] at h1
        omega⟩
      generalize (xs.take i).foldl gstep [] = l at HT6 hstep hlen
      have HX := Aside0.mk hx
      have HXB := Aside0.mk hX
      clear hT6 hB6 hX hx
      have wrapI : wrap64 ((i : Int) + 1) = ((i + 1 : Nat) : Int) := by unfold wrap64; have := hlt.out; omega
      refine (tGet_any _ _ _ _ HT6.out).mono ?_
      have CR := Aside0.mk (fun W => prep_Right.calls x.f0 x.f1 (rightB x) W (right_f x))
      rintro e w' ⟨rfl, rfl⟩
      cases cR : rightB x with
      | false =>
        rw [cR] at CR
        have hg : Aside0 (gstep l x = l) := ⟨by simp [gstep, cR]⟩
        clear cR
        generalize (getL x.f0 l).getD 0 = y
        generalize (getL x.f0 l).isSome = z
        go_wp2_with (go_at_call 15; (with_reducible refine (CR.out _).mono ?_); rintro e W7 ⟨rfl, hb7⟩; have HB7 := Aside0.mk hb7; have q0 := pw_cell_below hb7 hcx0; have q1 := pw_cell_below hb7 hcx1; clear hb7)
        go_roundg (gk - 1)
        case measure => have := HI.out; have := hlt.out; omega
        case rel => exact ⟨i + 1, by rw [wrapI], ⟨by have := HI.out; have := hlt.out; omega⟩, ⟨by rw [hstep.out, hg.out]; exact HT6.out.kept (Keeps.of_all HB7.out) (fun b cs f h => lt_of_heap h) (tab_lt HT6.out)⟩, ⟨below_step HB6.out HB7.out⟩⟩
      | true =>
        rw [cR] at CR
        cases hG : getL x.f0 l with
        | none =>
          have hg : Aside0 (gstep l x = putL x.f0 x.f1 l) := ⟨by simp [gstep, cR, hG]⟩
          clear cR
          go_wp2_with (first
            | (go_at_call 15; (with_reducible refine (CR.out _).mono ?_); rintro e W7 ⟨rfl, hb7⟩; have HB7 := Aside0.mk hb7; have q0 := pw_cell_below hb7 hcx0; have q1 := pw_cell_below hb7 hcx1; clear hb7)
            | (go_at_call 75; (with_reducible refine (tPut_any _ _ _ l _ (HT6.out.kept (Keeps.of_all HB7.out) (fun b cs f h => lt_of_heap h) (tab_lt HT6.out)) hlen.out).mono ?_); rintro e W8 ⟨rfl, hT8, hK8⟩; have HT8 := Aside0.mk hT8; have HK8 := Aside0.mk hK8; clear hT8 hK8))
          go_roundg (gk - 1)
          case measure => have := HI.out; have := hlt.out; omega
          case rel => exact ⟨i + 1, by rw [wrapI], ⟨by have := HI.out; have := hlt.out; omega⟩, ⟨by rw [hstep.out, hg.out]; exact HT8.out⟩, ⟨(below_step HB6.out HB7.out).trans (HK8.out.below (fun k hk => by omega) (by have := HB6.out.size; have := HB7.out.size; omega))⟩⟩
        | some y =>
          by_cases cy : x.f1 > y
          · have hg : Aside0 (gstep l x = putL x.f0 x.f1 l) := ⟨by simp [gstep, cR, hG, cy]⟩
            clear cR
            have cyb : decide (x.f1 > y) = true := decide_eq_true cy
            go_wp2_with (first
              | (go_at_call 15; (with_reducible refine (CR.out _).mono ?_); rintro e W7 ⟨rfl, hb7⟩; have HB7 := Aside0.mk hb7; have q0 := pw_cell_below hb7 hcx0; have q1 := pw_cell_below hb7 hcx1; clear hb7)
              | (go_at_call 75; (with_reducible refine (tPut_any _ _ _ l _ (HT6.out.kept (Keeps.of_all HB7.out) (fun b cs f h => lt_of_heap h) (tab_lt HT6.out)) hlen.out).mono ?_); rintro e W8 ⟨rfl, hT8, hK8⟩; have HT8 := Aside0.mk hT8; have HK8 := Aside0.mk hK8; clear hT8 hK8))
            go_roundg (gk - 1)
            case measure => have := HI.out; have := hlt.out; omega
            case rel => exact ⟨i + 1, by rw [wrapI], ⟨by have := HI.out; have := hlt.out; omega⟩, ⟨by rw [hstep.out, hg.out]; exact HT8.out⟩, ⟨(below_step HB6.out HB7.out).trans (HK8.out.below (fun k hk => by omega) (by have := HB6.out.size; have := HB7.out.size; omega))⟩⟩
          · have hg : Aside0 (gstep l x = l) := ⟨by simp [gstep, cR, hG, cy]⟩
            clear cR
            have cyb : decide (x.f1 > y) = false := decide_eq_false cy
            go_wp2_with (go_at_call 15; (with_reducible refine (CR.out _).mono ?_); rintro e W7 ⟨rfl, hb7⟩; have HB7 := Aside0.mk hb7; have q0 := pw_cell_below hb7 hcx0; have q1 := pw_cell_below hb7 hcx1; clear hb7)
            go_roundg (gk - 1)
            case measure => have := HI.out; have := hlt.out; omega
            case rel => exact ⟨i + 1, by rw [wrapI], ⟨by have := HI.out; have := hlt.out; omega⟩, ⟨by rw [hstep.out, hg.out]; exact HT6.out.kept (Keeps.of_all HB7.out) (fun b cs f h => lt_of_heap h) (tab_lt HT6.out)⟩, ⟨below_step HB6.out HB7.out⟩⟩
    · have cb : decide ((i : Int) < (xs.length : Int)) = false := decide_eq_false c
      have hi : xs.length ≤ i := by omega
      have hi' : Aside0 ((xs.take i) = xs) := ⟨List.take_of_length_le hi⟩
      rw [hi'.out] at HT
      have hll := gfold_length xs
      generalize hL : xs.foldl gstep [] = L at HT hll
      have c1 : (i < xs.length) = False := eq_false (by omega)
      have c2 : ((i : Int) < (xs.length : Int)) = False := eq_false c
      clear c hi hi' HI cb
      go_wp2_with (go_at_call 76; refine (tAll_any _ _).mono ?_; rintro e w' ⟨rfl, rfl⟩)
      clear c1 c2
      have hb8 : ((wr.alloc (.cells #[.slice none 0 0] 37)).alloc (.cells #[.pointer (some ⟨w.heap.size, 0, none⟩)] 158)).heap[wr.heap.size]? = some (.cells #[.slice none 0 0] 37 (0, 0)) :=
        (Below.heap_alloc _ _ _ (by simp)).trans (World.alloc_heap_new _ _)
      have hcb : ((wr.alloc (.cells #[.slice none 0 0] 37)).alloc (.cells #[.pointer (some ⟨w.heap.size, 0, none⟩)] 158)).heap[wr.heap.size + 1]? = some (.cells #[.pointer (some ⟨w.heap.size, 0, none⟩)] 158 (0, 0)) := by
        have := World.alloc_heap_new (wr.alloc (.cells #[.slice none 0 0] 37)) (.cells #[.pointer (some ⟨w.heap.size, 0, none⟩)] 158)
        rwa [World.size_alloc] at this
      have hBw : Below wr.heap.size wr ((wr.alloc (.cells #[.slice none 0 0] 37)).alloc (.cells #[.pointer (some ⟨w.heap.size, 0, none⟩)] 158)) := below_alloc (below_alloc (Below.refl _ _) _) _
      have hsz : ((wr.alloc (.cells #[.slice none 0 0] 37)).alloc (.cells #[.pointer (some ⟨w.heap.size, 0, none⟩)] 158)).heap.size = wr.heap.size + 2 := by simp
      generalize ((wr.alloc (.cells #[.slice none 0 0] 37)).alloc (.cells #[.pointer (some ⟨w.heap.size, 0, none⟩)] 158)) = W10 at hb8 hcb hBw hsz ⊢
      have htl := tab_lt HT.out
      have hT10 : IsTab W10 w.heap.size L := HT.out.kept (Keeps.of_all hBw) (fun b cs f h => trivial) trivial
      have hB10 := Aside0.mk (below_step HB.out hBw)
      refine (wpIn_wide (n := 0)).1 ?_
      refine range_outer (D := fun k => k < W10.heap.size ∧ k ≠ wr.heap.size) rfl (enters_of Try.func106 (by kernel_rfl) rfl)
        (tAll1_iter W10 w.heap.size (wr.heap.size + 1) L _ hT10 hcb (fun b cs f h => ⟨lt_of_heap h, fun e => by subst e; rw [hb8] at h; injection h with h; injection h with _ h; exact absurd h (by decide)⟩) ⟨by omega, by omega⟩ ⟨by omega, by omega⟩)
        (fun k h => h.1) (fun _ => rfl) (fun k => k = wr.heap.size) (fun k h => ⟨by omega, fun h' => h'.2 h⟩)
        (fun pre S W => S wr.heap.size ∧ ∃ v, W.heap[wr.heap.size]? = some (.cells #[v] 37 (0, 0)) ∧ Kd.R k40 40 W wr.heap.size (fun k => S k ∧ k ≠ wr.heap.size) v (pre.map fun p => (⟨p.1, p.2⟩ : S40)))
        (fun _ _ _ _ => False) ?hI ?hIx ?h0
        (fun x _ => { tmps := #[.slice A0 xs.length c0, undef, .slice none 0 0, .pointer (some ⟨w.heap.size, 0, none⟩), undef, u5, u6, u7, .pointer (some ⟨wr.heap.size, 0, none⟩), .int .u64 x.1, .int .i64 x.2, .slice A0 xs.length c0,
          .int .i64 xs.length, .int .i64 i, .bool false, u15, u16, u17, u18, u19, u20, u21, u22, u23, u24, u25, u26, u27, u28, u29, u30, u31, u32, u33, u34, u35, u36, u37, u38, u39, u40,
          .func (.func 106) #[] #[.pointer (some ⟨wr.heap.size + 1, 0, none⟩)], .int .u64 x.1, .int .i64 x.2, undef, undef, undef, undef, undef, undef, undef, undef, undef], defers := [] })
        (fun _ => []) ?assign ?body ?done ?stop
      case hI =>
        rintro pre S A B ⟨h1, v, h2, h3⟩ hk
        exact ⟨h1, v, hk.at_ h2 (.inl h1), Kd.R_step h3 (fun k h hk' => hk.block k (.inl h.1) hk')⟩
      case hIx => rintro c pre S A B h; exact h.elim
      case h0 => exact ⟨rfl, _, hb8, Kd.R_nil _ _ _ _ _⟩
      case assign =>
        intro l x W K hK
        simp only [encKV]
        gi_wp2
        exact hK
      case body =>
        rintro l pre x post S W hx hl0 hlr hSl hS hkW ⟨h1, v, h2, h3⟩
        have hc := blk_cell_ h2 0
        have hpl : (pre.map fun p => (⟨p.1, p.2⟩ : S40)).length ≤ 100000 := by
          have h : L.length = pre.length + (post.length + 1) := by rw [hx]; simp
          rw [List.length_map]
          omega
        have hsW : W10.heap.size ≤ W.heap.size := hkW.size
        have HS := Aside0.mk hS
        have HK := Aside0.mk hkW
        have H3 := Aside0.mk h3
        have H2 := Aside0.mk h2
        have HX := Aside0.mk hx
        have hne : Aside0 (v.ownBlock ≠ some wr.heap.size) := ⟨fun e => (h3.1 _ e).2 rfl⟩
        clear hS hkW h3 h2 hx
        simp only [allocs]
        have H3' : Kd.R k40 40 W wr.heap.size (fun k => (S k ∨ W.heap.size ≤ k) ∧ k ≠ wr.heap.size) v (pre.map fun p => (⟨p.1, p.2⟩ : S40)) := Kd.R_mono H3.out (fun k h => ⟨.inl h.1, h.2⟩)
        gi_wp2_with (gi_at_builtin; refine R_append_in k40 (W := W) wr.heap.size rfl _ _ 37 40 (.agg #[.int .u64 0, .int .i64 0]) 16 rfl Try.underlying37 info40 rfl (by decide) (by decide) v (pre.map fun p => (⟨p.1, p.2⟩ : S40)) (⟨x.1, x.2⟩ : S40) [.int .u64 x.1, .int .i64 x.2] _ (fun _ => False) rfl rfl (k40_mkM _ _ _ _) (fun _ h => h.elim) (fun k h => ⟨.inr h, by omega⟩) H3' (by omega) (by omega) ?_; intro v1 w1 hR1 hg1 hat1; obtain ⟨A1, c1, rfl⟩ := Kd.R_slice hR1; have hb1 : w1.heap[wr.heap.size]? = some (.cells #[v] 37 (0, 0)) := blk_grown H2.out hg1 (fun e => hne.out e.symm); have hc1 := blk_cell_ hb1 0; have hf1 := blk_frozen hb1 0; have R1 := Aside0.mk hR1; have G1 := Aside0.mk hg1; have B1 := Aside0.mk hb1; clear hR1 hg1 hat1 hb1)
        have hd : ∀ u, Keeps (fun k => ¬ S k) W (w1.setCell ⟨wr.heap.size, 0, none⟩ u) := fun u =>
          ((Keeps.refl _ W).grown G1.out (fun k e hk => absurd (H3.out.1 k e).1 hk)).setCell (fun h => absurd h1 h) _
        have R2 : Kd.R k40 40 w1 wr.heap.size (fun k => (S k ∨ W.heap.size ≤ k) ∧ k ≠ wr.heap.size) (.slice A1 (pre.length + 1) c1) ((pre ++ [x]).map fun p => (⟨p.1, p.2⟩ : S40)) := by
          have := R1.out
          rw [List.length_append, List.length_map] at this
          rw [List.map_append]
          exact this
        refine ⟨fun k => S k ∨ (W.heap.size ≤ k ∧ k < w1.heap.size), fun k h => ?_, hd _, .inl h1, _, set_at B1.out 0 _, ?_⟩
        · rcases h with h | ⟨h, h'⟩
          · exact .inl h
          · exact .inr ⟨h, by simp [World.setCell]; exact h'⟩
        · refine Kd.R_mono (Kd.R_far (p := ⟨wr.heap.size, 0, none⟩) (Kd.R_bound R2) (fun k h => h.1.2) _) (fun k h => ⟨?_, h.1.2⟩)
          rcases h.1.1 with h' | h'
          · exact .inl h'
          · exact .inr ⟨h', h.2.2.1⟩
      case done =>
        rintro d S W hd hSd hK hS hkW ⟨h1, v, h2, h3⟩
        have hc := blk_cell_ h2 0
        have hsrt := sort_any h3 (gmem_ub hb hL) (by rw [List.length_map]; omega)
        have H3 := Aside0.mk h3
        have H2 := Aside0.mk h2
        have HK := Aside0.mk hK
        have HS := Aside0.mk hS
        have HKW := Aside0.mk hkW
        have HSRT := Aside0.mk hsrt
        have hne : Aside0 (v.ownBlock ≠ some wr.heap.size) := ⟨fun e => (h3.1 _ e).2 rfl⟩
        clear h2 h3 hK hS hkW hsrt
        go_wp2_with (go_at_call 77; refine (HSRT.out).mono ?_; rintro e W2 ⟨rfl, ys, hp, hs, hR2, hk2⟩; have hc2 : W2.cell? ⟨wr.heap.size, 0, none⟩ = some v := hk2.cell hc (fun e => hne.out e.symm); have R2 := Aside0.mk hR2; have K2 := Aside0.mk hk2; have P2 := Aside0.mk hp; have S2 := Aside0.mk hs; clear hR2 hk2 hp hs)
        have hdr : some d ≠ v.ownBlock := fun e => hSd (H3.out.1 _ e.symm).1
        have hK2 : W2.heap[d]? = some (.deferred (some [])) := K2.out.at_ HK.out hdr
        refine ⟨by simp, .inl ⟨_, _, rfl, run_takeDeferred hK2, ?_⟩⟩
        have hbase : ∀ k, v.ownBlock = some k → wr.heap.size ≤ k := fun k e => ((Kd.R_bound H3.out).1 k e).2.1
        have hkd : Keeps (fun k => k ≠ d) W2 (W2.putObj d (.deferred none)) := (Keeps.refl _ _).putObj (fun h => absurd rfl h) _
        have hww : w.heap.size ≤ wr.heap.size := HB.out.size
        have hws : wr.heap.size < W10.heap.size := by omega
        have hWs : W10.heap.size ≤ W.heap.size := HKW.out.size
        have hbel : Below w.heap.size w (W2.putObj d (.deferred none)) := by
          refine hB10.out.trans ?_
          refine (HKW.out.below (fun k hk => ⟨by omega, by omega⟩) (by omega)).trans ?_
          refine (K2.out.below (fun k hk e => by have := hbase k e.symm; omega) (by omega)).trans ?_
          exact hkd.below (fun k hk => by omega) (by have := K2.out.size; omega)
        refine ⟨_, results_tmp rfl _ _ _, v, rfl, ys, P2.out, ?_, ?_, hbel⟩
        · simpa using S2.out
        · exact Kd.R_mono (Kd.R_lower (Kd.R_step R2.out (fun k h _ => World.putObj_heap_other (fun e => hSd (e ▸ h.1)))) hww) (fun _ _ => trivial)
      case stop => rintro d c pre S W _ _ _ _ _ _ h; exact h.elim
end Go.Proofs.Ytafhdamdkefpkaa

namespace Go.Proofs.Ytafhdamdkefpkaa
open Go.RowKit Go.Proofs.YtafhdamdkefpkaaW.PrintWords Go.Proofs.YtafhdamdkefpkaaW.PrintLast Go.Proofs.YtafhdamdkefpkaaW.PrintMore Go.Proofs.Ytafhdamdkefpkaa.PPrep
attribute [local go_sem] max2_int min2_int max_two min_two
set_option linter.unusedVariables false
set_option linter.unusedSimpArgs false

def withinB (a b : Int) : Bool := (Go.bits .andNot .u64 a b) == 0
/-- Does a outdo b? -/
def domB (a b : S40) : Bool := withinB a.f0 b.f0 && decide (a.f1 ≥ b.f1)
def oneStep (out : List S40) (b : S40) : List S40 := if out.any (fun a => domB a b) then out else out ++ [b]

theorem oneFold_length (xs : List S40) : ∀ out, (xs.foldl oneStep out).length ≤ out.length + xs.length := by
  induction xs with
  | nil => intro out; simp
  | cons x xs ih =>
    intro out
    rw [List.foldl_cons]
    have := ih (oneStep out x)
    have h : (oneStep out x).length ≤ out.length + 1 := by unfold oneStep; split <;> simp
    simp only [List.length_cons]; omega
theorem rd_take (xs : List S40) (i : Nat) (h : i < xs.length) : xs.take (i + 1) = xs.take i ++ [rd_T40 xs i] := by
  rw [List.take_add_one]
  simp [rd_T40, List.getD, h]

theorem within_any (a b : Int) (w : World) : Calls Try.prog 45 #[.int .u64 a, .int .u64 b] w fun e w' => e = .returned (.bool (withinB a b)) ∧ w = w' := by
  go_enter Try.func45, Try.ntmps45
  go_wp2
  go_ret
  exact ⟨rfl, rfl⟩

set_option maxRecDepth 100000 in
set_option maxHeartbeats 4000000 in
theorem one_any (A0 : Option Addr) (c0 : Nat) (xs : List S40) (w : World) (hr0 : Kd.C k40 w A0 xs.length xs) (hc0 : xs.length ≤ c0) (hl : xs.length ≤ 100000) (hb : ∀ x ∈ xs, 0 ≤ x.f0 ∧ x.f0 < 18446744073709551616) :
    Calls Try.prog 18 #[.slice A0 xs.length c0] w fun e w' => ∃ (v : Value) (ys : List S40), e = .returned v ∧ ys.Perm ((xs.foldl gstep []).map fun p => (⟨p.1, p.2⟩ : S40)) ∧ ys.Pairwise (fun a b => ¬ scmp b.f0.toNat a.f0.toNat < 0) ∧
      Kd.R k40 40 w' w.heap.size (fun _ => True) v (ys.foldl oneStep []) ∧ Below w.heap.size w w' := by
  have hu40 := Try.underlying40
  have CG' := greatest_any A0 c0 xs w hr0 hc0 hl hb
  have hll := gfold_length xs
  have CG := Aside0.mk CG'
  clear CG' hr0 hc0 hb
  go_enter Try.func18, Try.ntmps18
  go_wp2
  go_step3
  go_wp2
  go_step3
  go_wp2_with (go_at_call 44; refine (CG.out).mono ?_; rintro e w1 ⟨v, ys, rfl, hp, hs, hR, hB⟩; have HP := Aside0.mk hp; have HS := Aside0.mk hs; have HR := Aside0.mk hR; have HB1 := Aside0.mk hB; clear hp hs hR hB; obtain ⟨A9, c9, e9, hl9, hC9⟩ := Kd.R_reads HR.out; cases e9; have HC9 := Aside0.mk hC9; have HL9 := Aside0.mk hl9; have hyl : ys.length ≤ 100000 := (by rw [HP.out.length_eq, List.length_map]; omega); clear hC9 hl9)
  go_loopg [3, 11] ys.length (fun n v3 v11 W => ∃ i : Nat, v11 = .int .i64 i ∧ Aside0 (i + n = ys.length) ∧ Aside0 (Kd.R k40 40 W w1.heap.size (fun _ => True) v3 ((ys.take i).foldl oneStep [])) ∧ Aside0 (Below w1.heap.size w1 W))
  case atStart => exact ⟨0, rfl, ⟨by simp⟩, ⟨Kd.R_nil _ _ _ _ _⟩, ⟨Below.refl _ _⟩⟩
  case round =>
    obtain ⟨i, rfl, HI, HO, HB⟩ := hrel
    obtain ⟨A3, c3, e3, hl3, hC3⟩ := Kd.R_reads HO.out
    subst e3
    have hol : ((ys.take i).foldl oneStep []).length ≤ 100000 := by
      have h1 := oneFold_length (ys.take i) []
      simp only [List.length_take, List.length_nil] at h1
      omega
    by_cases c : (i : Int) < (ys.length : Int)
    · have p1 : (0 : Int) ≤ (i : Int) := by omega
      obtain ⟨ad1, e1, hx0, hx1⟩ := at_T40 HC9.out i p1 c
      cases e1
      rw [Int.toNat_natCast] at hx0 hx1
      replace hx0 := (HB.out.cell (World.block_lt_of_cell? w1 _ hx0)).trans hx0
      replace hx1 := (HB.out.cell (World.block_lt_of_cell? w1 _ hx1)).trans hx1
      have hlt : Aside0 (i < ys.length) := ⟨by omega⟩
      have cb := decide_eq_true c
      have hstep : Aside0 ((ys.take (i + 1)).foldl oneStep [] = oneStep ((ys.take i).foldl oneStep []) (rd_T40 ys i)) := ⟨by rw [rd_take _ _ hlt.out, List.foldl_append]; rfl⟩
      have wrapI : wrap64 ((i : Int) + 1) = ((i + 1 : Nat) : Int) := by unfold wrap64; omega
      generalize (ys.take i).foldl oneStep [] = out at HO hstep hol hl3 hC3
      generalize rd_T40 ys i = x at hx0 hx1 hstep
      have HL3 := Aside0.mk hl3
      have HC3 := Aside0.mk hC3
      clear hl3 hC3
      replace p1 := eq_true p1
      replace c := eq_true c
      go_wp2_with (first | ((with_reducible refine gate_dst (N := 5) rfl ?_); refine box_event ?hg (N := 5) ?hd (cs := #[.int .u64 0, .int .i64 0]) (t := 40) ?hr ?_; (case hd => rfl); (case hg => rfl); (case hr => first | (go_simp; done) | (go_simp; rfl)); intro gba hg wa hbox hb; have BKa := Aside0.mk hbox; have KBa := Aside0.mk hb; have GBa := Aside0.mk hg; clear hb hbox hg; have hcza0 : wa.cell? ⟨gba, 0, none⟩ = some (.int .u64 0) := (blk_cell BKa.out 0).trans rfl; have hfza0 := blk_frozen BKa.out 0; have hcza1 : wa.cell? ⟨gba, 1, none⟩ = some (.int .i64 0) := (blk_cell BKa.out 1).trans rfl; have hfza1 := blk_frozen BKa.out 1) | fail)
      have hgw : wr.heap.size ≤ gba := by rw [GBa.out]; exact Nat.le_refl _
      have hK6 : Keeps (fun k => k < wr.heap.size) wr ((wa.setCell ⟨gba, 0, none⟩ (.int .u64 x.f0)).setCell ⟨gba, 1, none⟩ (.int .i64 x.f1)) :=
        ((Keeps.of_all KBa.out).setCell (fun h => by exact hgw) _).setCell (fun h => by exact hgw) _
      have hX : ((wa.setCell ⟨gba, 0, none⟩ (.int .u64 x.f0)).setCell ⟨gba, 1, none⟩ (.int .i64 x.f1)).heap[gba]? = some (.cells #[.int .u64 x.f0, .int .i64 x.f1] 40 (0, 0)) := set_at (set_at BKa.out 0 _) 1 _
      generalize ((wa.setCell ⟨gba, 0, none⟩ (.int .u64 x.f0)).setCell ⟨gba, 1, none⟩ (.int .i64 x.f1)) = W6 at hK6 hX ⊢
      have hB6 : Below wr.heap.size wr W6 := hK6.below (fun k hk => hk) (Nat.le_refl _)
      have hO6 : Kd.R k40 40 W6 w1.heap.size (fun _ => True) (.slice A3 out.length c3) out := Kd.R_below HO.out hB6
      have hC6 : Kd.C k40 W6 A3 out.length out := Kd.C_below HC3.out hB6
      have HB6 := Aside0.mk (below_step HB.out hB6)
      have H6 := Aside0.mk hB6
      have HO6 := Aside0.mk hO6
      have HC6 := Aside0.mk hC6
      have HX := Aside0.mk hX
      clear hcza0 hcza1 hfza0 hfza1 KBa BKa hK6 HO HB hx0 hx1 HC3 hX hB6 hO6 hC6
      go_loopg [17] out.length (fun n v W => ∃ j : Nat, v = .int .i64 j ∧ Aside0 (j + n = out.length) ∧ Aside0 (∀ a ∈ out.take j, domB a x = false) ∧ Aside0 (Below W6.heap.size W6 W))
      case atStart => exact ⟨0, rfl, ⟨by simp⟩, ⟨fun a h => by simp at h⟩, ⟨Below.refl _ _⟩⟩
      case round =>
        obtain ⟨j, rfl, HJ, HD, HBj⟩ := hrel
        by_cases cj : (j : Int) < (out.length : Int)
        · have p2 : (0 : Int) ≤ (j : Int) := by omega
          obtain ⟨ad2, e2, hy0, hy1⟩ := at_T40 HC6.out j p2 cj
          cases e2
          rw [Int.toNat_natCast] at hy0 hy1
          replace hy0 := (HBj.out.cell (World.block_lt_of_cell? W6 _ hy0)).trans hy0
          replace hy1 := (HBj.out.cell (World.block_lt_of_cell? W6 _ hy1)).trans hy1
          have hjt : Aside0 (j < out.length) := ⟨by omega⟩
          have cjb := decide_eq_true cj
          have wrapJ : wrap64 ((j : Int) + 1) = ((j + 1 : Nat) : Int) := by unfold wrap64; omega
          have htk := rd_take out j hjt.out
          have HTK := Aside0.mk htk
          clear htk
          generalize hy : rd_T40 out j = y at hy0 hy1 HTK
          have HXw := Aside0.mk ((HBj.out.block gba (lt_of_heap HX.out)).trans HX.out)
          have hxx0 : wr.cell? ⟨gba, 0, none⟩ = some (.int .u64 x.f0) := blk_cell_ HXw.out 0
          have hxx1 : wr.cell? ⟨gba, 1, none⟩ = some (.int .i64 x.f1) := blk_cell_ HXw.out 1
          have hgl := Aside0.mk (lt_of_heap HXw.out)
          replace p2 := eq_true p2
          replace cj := eq_true cj
          go_wp2_with (first
            | (((with_reducible refine gate_dst (N := 7) rfl ?_); refine box_event ?hg (N := 7) ?hd (cs := #[.int .u64 0, .int .i64 0]) (t := 40) ?hr ?_; (case hd => rfl); (case hg => rfl); (case hr => first | (go_simp; done) | (go_simp; rfl)); intro gbb hg wb hbox hb; have BKb := Aside0.mk hbox; have KBb := Aside0.mk hb; have GBb := Aside0.mk hg; clear hb hbox hg; have hczb0 : wb.cell? ⟨gbb, 0, none⟩ = some (.int .u64 0) := (blk_cell BKb.out 0).trans rfl; have hfzb0 := blk_frozen BKb.out 0; have hczb1 : wb.cell? ⟨gbb, 1, none⟩ = some (.int .i64 0) := (blk_cell BKb.out 1).trans rfl; have hfzb1 := blk_frozen BKb.out 1); have hgn : gba ≠ gbb := (by have := hgl.out; rw [GBb.out]; omega); have n1 : (gba = gbb) = False := eq_false hgn; have n2 : (gbb = gba) = False := eq_false hgn.symm; have q0 := pw_cell_below KBb.out hxx0; have q1 := pw_cell_below KBb.out hxx1)
            | fail)
          have hgb : wr.heap.size ≤ gbb := by rw [GBb.out]; exact Nat.le_refl _
          have hK8 : Keeps (fun k => k < wr.heap.size) wr ((wb.setCell ⟨gbb, 0, none⟩ (.int .u64 y.f0)).setCell ⟨gbb, 1, none⟩ (.int .i64 y.f1)) :=
            ((Keeps.of_all KBb.out).setCell (fun h => by exact hgb) _).setCell (fun h => by exact hgb) _
          have hY : ((wb.setCell ⟨gbb, 0, none⟩ (.int .u64 y.f0)).setCell ⟨gbb, 1, none⟩ (.int .i64 y.f1)).heap[gbb]? = some (.cells #[.int .u64 y.f0, .int .i64 y.f1] 40 (0, 0)) := set_at (set_at BKb.out 0 _) 1 _
          have hX8 : ((wb.setCell ⟨gbb, 0, none⟩ (.int .u64 y.f0)).setCell ⟨gbb, 1, none⟩ (.int .i64 y.f1)).heap[gba]? = some (.cells #[.int .u64 x.f0, .int .i64 x.f1] 40 (0, 0)) := hK8.at_ HXw.out hgl.out
          generalize ((wb.setCell ⟨gbb, 0, none⟩ (.int .u64 y.f0)).setCell ⟨gbb, 1, none⟩ (.int .i64 y.f1)) = W8 at hK8 hY hX8 ⊢
          have hB8 : Below W6.heap.size W6 W8 := below_step HBj.out (hK8.below (fun k hk => hk) (Nat.le_refl _))
          have HB8 := Aside0.mk hB8
          have z0 : W8.cell? ⟨gbb, 0, none⟩ = some (.int .u64 y.f0) := blk_cell_ hY 0
          have z1 : W8.cell? ⟨gbb, 1, none⟩ = some (.int .i64 y.f1) := blk_cell_ hY 1
          have z2 : W8.cell? ⟨gba, 0, none⟩ = some (.int .u64 x.f0) := blk_cell_ hX8 0
          have z3 : W8.cell? ⟨gba, 1, none⟩ = some (.int .i64 x.f1) := blk_cell_ hX8 1
          clear hczb0 hczb1 hfzb0 hfzb1 KBb BKb hK8 hY hX8 hB8 hxx0 hxx1 q0 q1 n1 n2 hgn hy0 hy1
          refine (within_any _ _ _).mono ?_
          rintro e w' ⟨rfl, rfl⟩
          have next : domB y x = false → Aside0 (∀ a ∈ out.take (j + 1), domB a x = false) := fun hd => ⟨by
            rw [HTK.out]
            intro a ha
            rcases List.mem_append.1 ha with h | h
            · exact HD.out a h
            · rw [List.mem_singleton.1 h]; exact hd⟩
          have NEXT := Aside0.mk next
          clear next
          cases cw : withinB y.f0 x.f0 with
          | false =>
            have hd : domB y x = false := by simp [domB, cw]
            have HN := NEXT.out hd
            clear cw hd
            go_wp2_with fail
            go_roundg (out.length - j - 1)
            case measure => have := HJ.out; have := hjt.out; omega
            case rel => exact ⟨j + 1, by rw [wrapJ], ⟨by have := HJ.out; have := hjt.out; omega⟩, HN, HB8⟩
          | true =>
            by_cases cp : y.f1 ≥ x.f1
            · have hd : domB y x = true := by simp [domB, cw, cp]
              have hg : Aside0 (oneStep out x = out) := ⟨by
                unfold oneStep
                rw [if_pos]
                refine List.any_eq_true.2 ⟨y, ?_, hd⟩
                exact List.mem_of_mem_take (i := j + 1) (by rw [HTK.out]; simp)⟩
              clear cw hd
              have cpb : decide (y.f1 ≥ x.f1) = true := decide_eq_true cp
              go_wp2_with fail
              go_roundg (ys.length - i - 1)
              case measure => have := HI.out; have := hlt.out; omega
              case rel => exact ⟨i + 1, by rw [wrapI], ⟨by have := HI.out; have := hlt.out; omega⟩, ⟨by rw [hstep.out, hg.out]; exact Kd.R_below HO6.out HB8.out⟩, ⟨below_step HB6.out HB8.out⟩⟩
            · have hd : domB y x = false := by simp [domB, cw, cp]
              have HN := NEXT.out hd
              have cpb : decide (y.f1 ≥ x.f1) = false := decide_eq_false cp
              clear cw hd
              go_wp2_with fail
              go_roundg (out.length - j - 1)
              case measure => have := HJ.out; have := hjt.out; omega
              case rel => exact ⟨j + 1, by rw [wrapJ], ⟨by have := HJ.out; have := hjt.out; omega⟩, HN, HB8⟩
        · have c1 : (j < out.length) = False := eq_false (by omega)
          have c2 : ((j : Int) < (out.length : Int)) = False := eq_false cj
          have hjo : out.take j = out := List.take_of_length_le (by omega)
          have hg : Aside0 (oneStep out x = out ++ [x]) := ⟨by
            have hd := HD.out
            rw [hjo] at hd
            unfold oneStep
            rw [if_neg]
            intro h
            obtain ⟨a, ha, hda⟩ := List.any_eq_true.1 h
            rw [hd a ha] at hda
            cases hda⟩
          have hOj : Kd.R k40 40 wr w1.heap.size (fun _ => True) (.slice A3 out.length c3) out := Kd.R_below HO6.out HBj.out
          have hBj' : Below w1.heap.size w1 wr := below_step HB6.out HBj.out
          have HOj := Aside0.mk hOj
          have HBj' := Aside0.mk hBj'
          have hXw := (HBj.out.block gba (lt_of_heap HX.out)).trans HX.out
          have hxx0 : wr.cell? ⟨gba, 0, none⟩ = some (.int .u64 x.f0) := blk_cell_ hXw 0
          have hxx1 : wr.cell? ⟨gba, 1, none⟩ = some (.int .i64 x.f1) := blk_cell_ hXw 1
          have HS := Aside0.mk hBj'.size
          clear cj hjo hOj hBj' hXw
          go_wp2_with ((with_reducible refine gate_builtin (b := .append) (xs := #[.tmp 34, .tmp 36]) rfl ?_); at_builtin; refine Kd.R_append k40 (w0 := w1) w1.heap.size rfl (.tmp 34) (.tmp 36) 37 40 (.agg #[.int .u64 0, .int .i64 0]) 16 rfl Try.underlying37 info40 rfl (by decide) (by decide) (.slice A3 out.length c3) out x [.int .u64 x.f0, .int .i64 x.f1] (fun _ => True) (fun _ => False) rfl rfl (k40_mkM _ _ _ _) (fun _ h => h.elim) (fun _ _ => trivial) HOj.out HBj'.out HS.out (by omega) ?_; intro v1 w9 hR9 hB9 hg9 hat9; have HR9 := Aside0.mk hR9; have HB9 := Aside0.mk hB9; clear hR9 hB9 hg9 hat9)
          go_roundg (ys.length - i - 1)
          case measure => have := HI.out; have := hlt.out; omega
          case rel => exact ⟨i + 1, by rw [wrapI], ⟨by have := HI.out; have := hlt.out; omega⟩, ⟨by rw [hstep.out, hg.out]; exact HR9.out⟩, HB9⟩
    · have c1 : (i < ys.length) = False := eq_false (by omega)
      have c2 : ((i : Int) < (ys.length : Int)) = False := eq_false c
      have hio : ys.take i = ys := List.take_of_length_le (by omega)
      rw [hio] at HO
      have HIO := Aside0.mk hio
      clear c hio
      go_wp2_with fail
      first | rw [Exit.noGoto_ret] | skip
      go_ret
      have hs := HS.out
      exact ⟨_, ys, rfl, HP.out, by simpa using hs, by
        have := Kd.R_lower HO.out HB1.out.size
        rw [HIO.out]
        exact this, below_step HB1.out HB.out⟩
end Go.Proofs.Ytafhdamdkefpkaa

namespace Go.Proofs.Ytafhdamdkefpkaa
open Go.RowKit Go.Proofs.YtafhdamdkefpkaaW.PrintWords Go.Proofs.YtafhdamdkefpkaaW.PrintLast Go.Proofs.YtafhdamdkefpkaaW.PrintMore Go.Proofs.Ytafhdamdkefpkaa.PPrep
attribute [local go_sem] max2_int min2_int max_two min_two Oper.semAt_some
set_option linter.unusedVariables false
set_option linter.unusedSimpArgs false

/-- The free ones of the first i. -/
def freeTo (xs : List S40) (free : Int) : Nat → List (Nat × S40)
  | 0 => []
  | i + 1 => freeTo xs free i ++ (if withinB (rd_T40 xs i).f0 free then [(i, rd_T40 xs i)] else [])
def freeL (xs : List S40) (free : Int) : List (Nat × S40) := freeTo xs free xs.length
theorem freeTo_pre (xs : List S40) (free : Int) (i d : Nat) : ∃ post, freeTo xs free (i + d) = freeTo xs free i ++ post := by
  induction d with
  | zero => exact ⟨[], by simp⟩
  | succ d ih =>
    obtain ⟨p, hp⟩ := ih
    exact ⟨p ++ (if withinB (rd_T40 xs (i + d : Nat)).f0 free then [(i + d, rd_T40 xs (i + d : Nat))] else []), by rw [← Nat.add_assoc, freeTo, hp, List.append_assoc]⟩
theorem freeL_split (xs : List S40) (free : Int) {i : Nat} (h : i < xs.length) (hw : withinB (rd_T40 xs i).f0 free = true) : ∃ post, freeL xs free = freeTo xs free i ++ (i, rd_T40 xs i) :: post := by
  obtain ⟨p, hp⟩ := freeTo_pre xs free (i + 1) (xs.length - (i + 1))
  rw [show i + 1 + (xs.length - (i + 1)) = xs.length from by omega, freeTo, if_pos hw] at hp
  exact ⟨p, by unfold freeL; rw [hp]; simp⟩

/-- An index and a bid, as they are yielded. -/
def encIB (x : Nat × S40) : Array Value := #[.int .i64 (x.1 : Nat), .agg #[.int .u64 x.2.f0, .int .i64 x.2.f1]]

theorem pfree_any (v : Value) (hv : ∃ A n c, v = .slice A n c) (free : Int) (w : World) : Calls Try.prog 27 #[v, .int .u64 free] w fun e w' =>
    e = .returned (.func (.func 49) #[] #[.pointer (some ⟨w.heap.size, 0, none⟩), .pointer (some ⟨w.heap.size + 1, 0, none⟩)]) ∧ w' = (w.alloc (.cells #[v] 37)).alloc (.cells #[.int .u64 free] 36) := by
  obtain ⟨A, n, c, rfl⟩ := hv
  go_enter Try.func27, Try.ntmps27
  go_wp2
  go_ret
  exact ⟨rfl, rfl⟩

set_option maxRecDepth 100000 in
set_option maxHeartbeats 4000000 in
theorem pfree1_iter (w0 W0 : World) (A0 : Option Addr) (c0 : Nat) (xs : List S40) (free : Int) (b0 b1 : Nat) (D : Nat → Prop) (hC : Kd.C k40 w0 A0 xs.length xs) (hc0 : xs.length ≤ c0) (hl : xs.length ≤ 1000000000)
    (hB : Below w0.heap.size w0 W0) (h0 : W0.heap[b0]? = some (.cells #[.slice A0 xs.length c0] 37 (0, 0))) (h1 : W0.heap[b1]? = some (.cells #[.int .u64 free] 36 (0, 0)))
    (hD : ∀ k, k < w0.heap.size → D k) (hD0 : D b0) (hD1 : D b1) :
    Iter Try.prog 49 #[.pointer (some ⟨b0, 0, none⟩), .pointer (some ⟨b1, 0, none⟩)] encIB (freeL xs free) D W0 := by
  intro l S0 J Jx W hW hS0 hSD hJ hJx hY hj0
  have hw : ∀ S2 W2, YCore S0 W S2 W2 → W2.cell? ⟨b0, 0, none⟩ = some (.slice A0 xs.length c0) ∧ W2.cell? ⟨b1, 0, none⟩ = some (.int .u64 free) ∧ Below w0.heap.size w0 W2 := by
    intro S2 W2 h2
    have k0 := hW.at_ h0 hD0
    have k1 := hW.at_ h1 hD1
    refine ⟨blk_cell_ (h2.keeps.at_ k0 ⟨lt_of_heap k0, fun h => hSD _ h hD0⟩) 0, blk_cell_ (h2.keeps.at_ k1 ⟨lt_of_heap k1, fun h => hSD _ h hD1⟩) 0, ?_⟩
    have hWs : w0.heap.size ≤ W.heap.size := Nat.le_trans hB.size hW.size
    exact hB.trans ((hW.below hD hB.size).trans (h2.keeps.below (fun k hk => ⟨by omega, fun h => hSD _ h (hD k hk)⟩) hWs))
  have HW := Aside0.mk hw
  have HC := Aside0.mk hC
  have hu40 := Try.underlying40
  have HY := Aside0.mk (fun pre x post S W1 hx hj (hc : YCore S0 W S W1) => hY pre x post S W1 hx hj hc.keeps hc.own)
  have HJ := Aside0.mk (fun pre S (A B : World) (hb : Below A.heap.size A B) (hj : J pre S A) => hJ pre S A B hj (Keeps.of_all hb))
  have HS := Aside0.mk (YCore.start hS0)
  have HJ0 := Aside0.mk hj0
  clear hY hj0 hJ hJx hw hC hB h0 h1 hD hD0 hD1 hW hS0 hSD
  refine (callsIn_wide (n := 0)).1 ?_
  refine callsIn_of_wp Try.func49 rfl trivial ?_ rfl
  simp only [Try.ntmps49, List.size_toArray, List.length_cons, List.length_nil, Nat.reduceAdd, Nat.reduceSub, Array.replicate_succ, Array.replicate_zero, List.push_toArray, List.append_toArray, List.nil_append, List.cons_append]
  obtain ⟨q0, q1, -⟩ := HW.out S0 W HS.out
  gi_wp2_with fail
  clear q0 q1
  gi_loopg [8] xs.length (fun n v W1 => ∃ (i : Nat) (S : Nat → Prop), v = .int .i64 i ∧ Aside0 (i + n = xs.length) ∧ Aside0 (YCore S0 W S W1) ∧ Aside0 (J (freeTo xs free i) S W1))
  case atStart => exact ⟨0, S0, rfl, ⟨by simp⟩, HS, HJ0⟩
  case round =>
    clear HS HJ0
    obtain ⟨i, S, rfl, HI, HCo, HJi⟩ := hrel
    by_cases c : (i : Int) < (xs.length : Int)
    · obtain ⟨q0, q1, hB⟩ := HW.out S wr HCo.out
      have p1 : (0 : Int) ≤ (i : Int) := by omega
      obtain ⟨ad1, e1, hx0, hx1⟩ := at_T40 HC.out i p1 c
      cases e1
      rw [Int.toNat_natCast] at hx0 hx1
      replace hx0 := (hB.cell (World.block_lt_of_cell? w0 _ hx0)).trans hx0
      replace hx1 := (hB.cell (World.block_lt_of_cell? w0 _ hx1)).trans hx1
      have hlt : Aside0 (i < xs.length) := ⟨by omega⟩
      have cb := decide_eq_true c
      have wrapI : wrap64 ((i : Int) + 1) = ((i + 1 : Nat) : Int) := by unfold wrap64; omega
      have hstep : Aside0 (freeTo xs free (i + 1) = freeTo xs free i ++ (if withinB (rd_T40 xs i).f0 free then [(i, rd_T40 xs i)] else [])) := ⟨rfl⟩
      have hsp := Aside0.mk (fun h => freeL_split xs free hlt.out h)
      generalize rd_T40 xs i = x at hx0 hx1 hstep hsp
      replace p1 := eq_true p1
      replace c := eq_true c
      clear hB
      have r1 : ∀ o, (wr.alloc o).cell? ⟨b1, 0, none⟩ = some (.int .u64 free) := fun o => pw_cell_below (below_alloc (Below.refl _ _) o) q1
      have HC2 := Aside0.mk (HCo.out.step (below_alloc (Below.refl _ _) (.cells #[.int .u64 x.f0, .int .i64 x.f1] 40)))
      have HJ2 := Aside0.mk (HJ.out _ _ _ _ (below_alloc (Below.refl _ _) (.cells #[.int .u64 x.f0, .int .i64 x.f1] 40)) HJi.out)
      cases cw : withinB x.f0 free with
      | false =>
        have CW := within_any x.f0 free (wr.alloc (.cells #[.int .u64 x.f0, .int .i64 x.f1] 40))
        rw [cw] at CW
        rw [cw] at hstep
        clear cw
        have CW := Aside0.mk CW
        gi_wp2_with fail
        refine ⟨trivial, rfl, (callsIn_wide (n := 0)).2 (CW.out.mono ?_)⟩
        rintro e w' ⟨rfl, rfl⟩
        gi_wp2_with fail
        refine ⟨fun _ h => (by cases h), ?_⟩
        gi_wp2_with fail
        gi_roundg (gk - 1)
        case measure => have := HI.out; have := hlt.out; omega
        case rel => exact ⟨i + 1, S, by rw [wrapI], ⟨by have := HI.out; have := hlt.out; omega⟩, HC2, ⟨by have := hstep.out; simp only [Bool.false_eq_true, if_false, List.append_nil] at this; rw [this]; exact HJ2.out⟩⟩
      | true =>
        have CW := within_any x.f0 free (wr.alloc (.cells #[.int .u64 x.f0, .int .i64 x.f1] 40))
        obtain ⟨post, hpost⟩ := hsp.out cw
        rw [cw] at CW
        rw [cw] at hstep
        clear cw
        have CW := Aside0.mk CW
        obtain ⟨fn, tmps, assign, body, hy, hR⟩ := HY.out _ (i, x) post S _ hpost HJ2.out HC2.out
        have HR := Aside0.mk hR
        have HPo := Aside0.mk hpost
        clear hR hpost hsp HY
        change (Instr.yield l #[.int .i64 (i : Nat), .agg #[.int .u64 x.f0, .int .i64 x.f1]]).run Try.prog _ = _ at hy
        gi_wp2_with fail
        refine ⟨trivial, rfl, (callsIn_wide (n := 0)).2 (CW.out.mono ?_)⟩
        rintro e w' ⟨rfl, rfl⟩
        gi_wp2_with fail
        refine ⟨rfl, (HR.out _).mono ?_⟩
        clear HR hy
        rintro e W3 ⟨S3, hs3, hk3, (⟨rfl, hj3⟩ | ⟨rfl, hx3⟩)⟩
        · have HC3 := Aside0.mk (HC2.out.yield hs3 hk3)
          have HJ3 := Aside0.mk hj3
          clear hs3 hk3 hj3
          gi_wp2_with fail
          gi_roundg (gk - 1)
          case measure => have := HI.out; have := hlt.out; omega
          case rel => exact ⟨i + 1, S3, by rw [wrapI], ⟨by have := HI.out; have := hlt.out; omega⟩, HC3, ⟨by have := hstep.out; simp only [if_true] at this; rw [this]; exact HJ3.out⟩⟩
        · have HC3 := Aside0.mk (HC2.out.yield hs3 hk3)
          have HX3 := Aside0.mk hx3
          clear hs3 hk3 hx3
          gi_wp2_with fail
          refine bodyPost_ret (results_none rfl _ _ _) rfl ?_
          exact ⟨⟨_, rfl⟩, HC3.out.keeps, S3, HC3.out.own, .inr ⟨_, ⟨post, by rw [HPo.out]; simp⟩, HX3.out⟩⟩
    · have c1 : (i < xs.length) = False := eq_false (by omega)
      have c2 : ((i : Int) < (xs.length : Int)) = False := eq_false c
      have hil : Aside0 (freeTo xs free i = freeL xs free) := ⟨by have := HI.out; unfold freeL; rw [show i = xs.length from by omega]⟩
      clear c
      gi_wp2_with fail
      go_end0
      exact ⟨⟨_, rfl⟩, HCo.out.keeps, S, HCo.out.own, .inl (by rw [← hil.out]; exact HJi.out)⟩
end Go.Proofs.Ytafhdamdkefpkaa

namespace Go.Proofs.Ytafhdamdkefpkaa
open Go.RowKit Go.Proofs.YtafhdamdkefpkaaW.PrintWords Go.Proofs.YtafhdamdkefpkaaW.PrintLast Go.Proofs.YtafhdamdkefpkaaW.PrintMore Go.Proofs.Ytafhdamdkefpkaa.PPrep
attribute [local go_sem] max2_int min2_int max_two min_two Oper.semAt_some
set_option linter.unusedVariables false
set_option linter.unusedSimpArgs false

def bestStep (o : S40 × Bool) (x : Nat × S40) : S40 × Bool := if !o.2 || decide (x.2.f1 > o.1.f1) then (x.2, true) else o
def bestF (l : List (Nat × S40)) : S40 × Bool := l.foldl bestStep (z40, false)

theorem allocs_at : ∀ (os : List Obj) (W : World) (i : Nat) (o : Obj), os[i]? = some o → (allocs W os).heap[W.heap.size + i]? = some o
  | [], W, i, o, h => by simp at h
  | p :: os, W, 0, o, h => by
    simp only [List.getElem?_cons_zero, Option.some.injEq] at h
    subst h
    rw [allocs]
    exact (allocs_keeps (fun _ => True) (W.alloc p) os).at_ (World.alloc_heap_new W p) trivial
  | p :: os, W, i + 1, o, h => by
    rw [List.getElem?_cons_succ] at h
    have := allocs_at os (W.alloc p) i o h
    rw [World.size_alloc] at this
    rw [allocs, show W.heap.size + (i + 1) = W.heap.size + 1 + i from by omega]
    exact this

set_option maxRecDepth 100000 in
set_option maxHeartbeats 4000000 in
theorem best_any (A0 : Option Addr) (c0 : Nat) (xs : List S40) (free : Int) (w : World) (hC : Kd.C k40 w A0 xs.length xs) (hc0 : xs.length ≤ c0) (hl : xs.length ≤ 1000000000) :
    Calls Try.prog 25 #[.slice A0 xs.length c0, .int .u64 free] w fun e w' => e = .returned (.tuple #[.agg #[.int .u64 (bestF (freeL xs free)).1.f0, .int .i64 (bestF (freeL xs free)).1.f1], .bool (bestF (freeL xs free)).2]) ∧ Below w.heap.size w w' := by
  have hu40 := Try.underlying40
  have CF := Aside0.mk (fun W => pfree_any (.slice A0 xs.length c0) ⟨_, _, _, rfl⟩ free W)
  have HC := Aside0.mk hC
  clear hC
  refine (callsIn_wide (n := 0)).1 ?_
  refine callsIn_of_wp_marks Try.func25 rfl trivial ?_ rfl
  simp only [Try.ntmps25, List.size_toArray, List.length_cons, List.length_nil, Nat.reduceAdd, Nat.reduceSub, Array.replicate_succ, Array.replicate_zero, List.push_toArray, List.append_toArray, List.nil_append, List.cons_append]
  refine wpIn_wide.2 ?_
  go_wp2_with (go_at_call 27; refine (CF.out _).mono ?_; rintro e w' ⟨rfl, rfl⟩)
  obtain ⟨W5, hW5⟩ : ∃ W5, W5 = allocs w [.cells #[.int .u64 0, .int .i64 0] 40, .cells #[.int .u64 0, .int .i64 0] 40, .cells #[.bool false] 4, .cells #[.slice A0 xs.length c0] 37, .cells #[.int .u64 free] 36] := ⟨_, rfl⟩
  have g0 : W5.heap[w.heap.size]? = some (.cells #[.int .u64 0, .int .i64 0] 40 (0, 0)) := by rw [hW5]; exact allocs_at _ w 0 _ rfl
  have g1 : W5.heap[w.heap.size + 1]? = some (.cells #[.int .u64 0, .int .i64 0] 40 (0, 0)) := by rw [hW5]; exact allocs_at _ w 1 _ rfl
  have g2 : W5.heap[w.heap.size + 1 + 1]? = some (.cells #[.bool false] 4 (0, 0)) := by rw [hW5]; exact allocs_at _ w 2 _ rfl
  have g3 : W5.heap[w.heap.size + 1 + 1 + 1]? = some (.cells #[.slice A0 xs.length c0] 37 (0, 0)) := by rw [hW5]; exact allocs_at _ w 3 _ rfl
  have g4 : W5.heap[w.heap.size + 1 + 1 + 1 + 1]? = some (.cells #[.int .u64 free] 36 (0, 0)) := by rw [hW5]; exact allocs_at _ w 4 _ rfl
  have hsz : W5.heap.size = w.heap.size + 5 := by rw [hW5, allocs_size]; rfl
  have hB5 : Below w.heap.size w W5 := by rw [hW5]; exact (allocs_keeps (fun _ => True) w _).below (fun _ _ => trivial) (Nat.le_refl _)
  change Code.wp _ _ _ _ (allocs w [_, _, _, _, _])
  rw [← hW5]
  clear hW5
  refine (wpIn_wide (n := 0)).1 ?_
  refine range_outer (D := fun j => j < W5.heap.size ∧ j ≠ w.heap.size + 1 ∧ j ≠ w.heap.size + 1 + 1) rfl (enters_of Try.func49 (by kernel_rfl) rfl)
    (pfree1_iter w W5 A0 c0 xs free (w.heap.size + 1 + 1 + 1) (w.heap.size + 1 + 1 + 1 + 1) _ HC.out hc0 hl hB5 g3 g4 (fun k hk => ⟨by omega, by omega, by omega⟩) ⟨by omega, by omega, by omega⟩ ⟨by omega, by omega, by omega⟩)
    (fun k h => h.1) (fun _ => rfl) (fun j => j = w.heap.size + 1 ∨ j = w.heap.size + 1 + 1) (fun k h => ⟨by omega, fun h' => by omega⟩)
    (fun pre S W => S (w.heap.size + 1) ∧ S (w.heap.size + 1 + 1) ∧ W.heap[w.heap.size + 1]? = some (.cells #[.int .u64 (bestF pre).1.f0, .int .i64 (bestF pre).1.f1] 40 (0, 0)) ∧ W.heap[w.heap.size + 1 + 1]? = some (.cells #[.bool (bestF pre).2] 4 (0, 0)))
    (fun _ _ _ _ => False) ?hI ?hIx ?h0
    (fun x n => { tmps := #[.slice A0 xs.length c0, .int .u64 free, undef, undef, .pointer (some ⟨w.heap.size, 0, none⟩), .bool false, .pointer (some ⟨w.heap.size + 1, 0, none⟩), .pointer (some ⟨w.heap.size + 1 + 1, 0, none⟩), undef, .pointer (some ⟨n, 0, none⟩), .slice A0 xs.length c0, .int .u64 free,
      .func (.func 49) #[] #[.pointer (some ⟨w.heap.size + 1 + 1 + 1, 0, none⟩), .pointer (some ⟨w.heap.size + 1 + 1 + 1 + 1, 0, none⟩)], .int .i64 (x.1 : Nat), .agg #[.int .u64 x.2.f0, .int .i64 x.2.f1], undef, undef, undef, undef, undef, undef, undef, undef, undef, undef, undef, undef], defers := [] })
    (fun x => [.cells #[.int .u64 x.2.f0, .int .i64 x.2.f1] 40]) ?assign ?body ?done ?stop
  case hI =>
    rintro pre S A B ⟨h1, h2, h3, h4⟩ hk
    exact ⟨h1, h2, hk.at_ h3 (.inl h1), hk.at_ h4 (.inl h2)⟩
  case hIx => rintro c pre S A B h; exact h.elim
  case h0 => exact ⟨.inl rfl, .inr rfl, g1, g2⟩
  case assign =>
    intro l x W K hK
    simp only [encIB]
    gi_wp2
    exact hK
  case body =>
    rintro l pre x post S W hx hl0 hlr hSl hS hkW ⟨h1, h2, h3, h4⟩
    have hbf : bestF (pre ++ [x]) = bestStep (bestF pre) x := by unfold bestF; rw [List.foldl_append]; rfl
    have hsW : W5.heap.size ≤ W.heap.size := hkW.size
    have hSS := Aside0.mk hS
    have HBF := Aside0.mk hbf
    clear hkW hx hlr hS hbf
    obtain ⟨⟨b, ok⟩, hbo⟩ : ∃ o, o = bestF pre := ⟨_, rfl⟩
    rw [← hbo] at h3 h4 HBF
    clear hbo
    simp only [allocs]
    have k0 : Keeps (fun k => ¬ S k) W (W.alloc (.cells #[.int .u64 x.2.f0, .int .i64 x.2.f1] 40)) := (Keeps.refl _ _).alloc _
    have e9 := World.alloc_heap_new W (.cells #[.int .u64 x.2.f0, .int .i64 x.2.f1] 40)
    have e3 : (W.alloc (.cells #[.int .u64 x.2.f0, .int .i64 x.2.f1] 40)).heap[w.heap.size + 1]? = some (.cells #[.int .u64 b.f0, .int .i64 b.f1] 40 (0, 0)) := (Below.heap_alloc _ _ _ (lt_of_heap h3)).trans h3
    have e4 : (W.alloc (.cells #[.int .u64 x.2.f0, .int .i64 x.2.f1] 40)).heap[w.heap.size + 1 + 1]? = some (.cells #[.bool ok] 4 (0, 0)) := (Below.heap_alloc _ _ _ (lt_of_heap h4)).trans h4
    generalize W.alloc (.cells #[.int .u64 x.2.f0, .int .i64 x.2.f1] 40) = W9 at k0 e9 e3 e4 ⊢
    have c0 := blk_cell_ e9 0
    have c1 := blk_cell_ e9 1
    have c2 := blk_cell_ e3 0
    have c3 := blk_cell_ e3 1
    have c4 := blk_cell_ e4 0
    have f2 := blk_frozen e3 0
    have f3 := blk_frozen e3 1
    have f4 := blk_frozen e4 0
    have K0 := Aside0.mk k0
    have E3 := Aside0.mk e3
    have E4 := Aside0.mk e4
    have yes : bestF (pre ++ [x]) = (x.2, true) → rpost (fun pre S W => S (w.heap.size + 1) ∧ S (w.heap.size + 1 + 1) ∧ W.heap[w.heap.size + 1]? = some (.cells #[.int .u64 (bestF pre).1.f0, .int .i64 (bestF pre).1.f1] 40 (0, 0)) ∧ W.heap[w.heap.size + 1 + 1]? = some (.cells #[.bool (bestF pre).2] 4 (0, 0)))
        (fun _ _ _ _ => False) (pre ++ [x]) S W .normal { tmps := #[], defers := [] } (((W9.setCell ⟨w.heap.size + 1, 0, none⟩ (.int .u64 x.2.f0)).setCell ⟨w.heap.size + 1, 1, none⟩ (.int .i64 x.2.f1)).setCell ⟨w.heap.size + 1 + 1, 0, none⟩ (.bool true)) := by
      intro hb
      refine ⟨S, fun k h => .inl h, ((k0.setCell (fun h => absurd h1 h) _).setCell (fun h => absurd h1 h) _).setCell (fun h => absurd h2 h) _, h1, h2, ?_, ?_⟩
      · rw [hb]
        exact (Below.heap_setCell _ _ _ _ (by simp)).trans (set_at (set_at e3 0 _) 1 _)
      · rw [hb]
        exact set_at ((Below.heap_setCell _ _ _ _ (by simp)).trans ((Below.heap_setCell _ _ _ _ (by simp)).trans e4)) 0 _
    have no : bestF (pre ++ [x]) = (b, ok) → rpost (fun pre S W => S (w.heap.size + 1) ∧ S (w.heap.size + 1 + 1) ∧ W.heap[w.heap.size + 1]? = some (.cells #[.int .u64 (bestF pre).1.f0, .int .i64 (bestF pre).1.f1] 40 (0, 0)) ∧ W.heap[w.heap.size + 1 + 1]? = some (.cells #[.bool (bestF pre).2] 4 (0, 0)))
        (fun _ _ _ _ => False) (pre ++ [x]) S W .normal { tmps := #[], defers := [] } W9 := by
      intro hb
      refine ⟨S, fun k h => .inl h, k0, h1, h2, ?_, ?_⟩
      · rw [hb]; exact e3
      · rw [hb]; exact e4
    have YES := Aside0.mk yes
    have NO := Aside0.mk no
    clear yes no k0 e9 e3 e4 h1 h2 h3 h4 hSS
    cases ok with
    | false =>
      have hy := Aside0.mk (YES.out (by rw [HBF.out]; simp [bestStep]))
      gi_wp2_with fail
      exact hy.out
    | true =>
      by_cases cp : x.2.f1 > b.f1
      · have hy := Aside0.mk (YES.out (by rw [HBF.out]; simp [bestStep, cp]))
        have cpb : decide (x.2.f1 > b.f1) = true := decide_eq_true cp
        gi_wp2_with fail
        exact hy.out
      · have hn := Aside0.mk (NO.out (by rw [HBF.out]; simp [bestStep, cp]))
        have cpb : decide (x.2.f1 > b.f1) = false := decide_eq_false cp
        gi_wp2_with fail
        exact hn.out
  case done =>
    rintro d S W hd hSd hK hS hkW ⟨h1, h2, h3, h4⟩
    have e0 := hkW.at_ g0 ⟨by omega, by omega⟩
    have c0 := blk_cell_ e0 0
    have c1 := blk_cell_ e0 1
    have f0 := blk_frozen e0 0
    have f1 := blk_frozen e0 1
    have c2 := blk_cell_ h3 0
    have c3 := blk_cell_ h3 1
    have c4 := blk_cell_ h4 0
    have HK := Aside0.mk hK
    have HKW := Aside0.mk hkW
    have E0 := Aside0.mk e0
    clear hS hkW h3 h4 hK e0 h1 h2
    obtain ⟨o, ho⟩ : ∃ o, o = bestF (freeL xs free) := ⟨_, rfl⟩
    rw [← ho] at c2 c3 c4
    have HO := Aside0.mk ho
    clear ho
    go_wp2_with fail
    go_region
    go_wp2_with fail
    have hkd : Keeps (fun j => j ≠ w.heap.size ∧ j ≠ d) W (((W.setCell ⟨w.heap.size, 0, none⟩ (.int .u64 o.1.f0)).setCell ⟨w.heap.size, 1, none⟩ (.int .i64 o.1.f1)).drew.putObj d (.deferred none)) :=
      ((((Keeps.refl _ _).setCell (fun h => absurd rfl h.1) _).setCell (fun h => absurd rfl h.1) _).drew).putObj (fun h => absurd rfl h.2) _
    have hd' : ((W.setCell ⟨w.heap.size, 0, none⟩ (.int .u64 o.1.f0)).setCell ⟨w.heap.size, 1, none⟩ (.int .i64 o.1.f1)).drew.heap[d]? = some (.deferred (some [])) :=
      (Below.heap_setCell _ _ _ _ (by simp; omega)).trans ((Below.heap_setCell _ _ _ _ (by simp; omega)).trans HK.out)
    have hr' : (((W.setCell ⟨w.heap.size, 0, none⟩ (.int .u64 o.1.f0)).setCell ⟨w.heap.size, 1, none⟩ (.int .i64 o.1.f1)).drew.putObj d (.deferred none)).heap[w.heap.size]? = some (.cells #[.int .u64 o.1.f0, .int .i64 o.1.f1] 40 (0, 0)) :=
      (World.putObj_heap_other (by omega)).trans (set_at (set_at E0.out 0 _) 1 _)
    refine ⟨by simp, .inl ⟨_, _, rfl, run_takeDeferred hd', ?_⟩⟩
    refine ⟨_, results_ct rfl _ _ w.heap.size 40 #[.int .u64 o.1.f0, .int .i64 o.1.f1] (0, 0) _ rfl hr' hu40 rfl (by kernel_rfl), ?_⟩
    refine ⟨by rw [← HO.out]; rfl, ?_⟩
    have hws : W5.heap.size ≤ W.heap.size := HKW.out.size
    refine hB5.trans ((HKW.out.below (fun k hk => ⟨by omega, by omega⟩) (by omega)).trans (hkd.below (fun k hk => ⟨by omega, by omega⟩) (by omega)))
  case stop => rintro d c pre S W _ _ _ _ _ _ h; exact h.elim
end Go.Proofs.Ytafhdamdkefpkaa

namespace Go.Proofs.Ytafhdamdkefpkaa
open Go.RowKit Go.Proofs.YtafhdamdkefpkaaW.PrintWords Go.Proofs.YtafhdamdkefpkaaW.PrintLast Go.Proofs.YtafhdamdkefpkaaW.PrintMore Go.Proofs.Ytafhdamdkefpkaa.PPrep
attribute [local go_sem] max2_int min2_int max_two min_two
set_option linter.unusedVariables false
set_option linter.unusedSimpArgs false

/-- a bid's set is a uint64. -/
def U64B (x : S40) : Prop := 0 ≤ x.f0 ∧ x.f0 < 18446744073709551616
instance (x : S40) : Decidable (U64B x) := inferInstanceAs (Decidable (_ ∧ _))
def leB (a b : S40) : Bool := decide (¬ scmp b.f0.toNat a.f0.toNat < 0)
def toS (p : Int × Int) : S40 := ⟨p.1, p.2⟩
/-- The greatest prices, in order. -/
def grL (xs : List S40) : List S40 := ((xs.foldl gstep []).map toS).mergeSort leB
/-- What prep.One answers. -/
def oneL (xs : List S40) : List S40 := (grL xs).foldl oneStep []

theorem leB_iff {a b : S40} : leB a b = true ↔ Lib.onesCount a.f0.toNat < Lib.onesCount b.f0.toNat ∨ (Lib.onesCount a.f0.toNat = Lib.onesCount b.f0.toNat ∧ a.f0.toNat ≤ b.f0.toNat) := by
  unfold leB
  rw [decide_eq_true_eq, scmp_neg]
  omega
theorem gfold_rising : ∀ (xs : List S40) (l : List (Int × Int)), Rising l → Rising (xs.foldl gstep l)
  | [], l, h => h
  | x :: xs, l, h => by
    rw [List.foldl_cons]
    refine gfold_rising xs _ ?_
    unfold gstep
    split
    · exact putL_rising _ _ h
    · exact h
theorem rising_key {l : List (Int × Int)} (h : Rising l) : ∀ p ∈ l, ∀ q ∈ l, p.1 = q.1 → p = q := by
  induction l with
  | nil => intro p hp; simp at hp
  | cons a l ih =>
    have h1 := List.pairwise_cons.1 h
    intro p hp q hq e
    rcases List.mem_cons.1 hp with rfl | hp' <;> rcases List.mem_cons.1 hq with rfl | hq'
    · rfl
    · have := h1.1 q hq'; omega
    · have := h1.1 p hp'; omega
    · exact ih h1.2 p hp' q hq' e
theorem grL_unique {xs ys : List S40} (hb : ∀ x ∈ xs, U64B x) (hp : ys.Perm ((xs.foldl gstep []).map fun p => (⟨p.1, p.2⟩ : S40))) (hs : ys.Pairwise (fun a b => ¬ scmp b.f0.toNat a.f0.toNat < 0)) : ys = grL xs := by
  have hub := gmem_ub hb rfl
  have hr := gfold_rising xs [] List.Pairwise.nil
  have key : ∀ a ∈ ys, ∀ b ∈ grL xs, leB a b = true → leB b a = true → a = b := by
    intro a ha b hb' h1 h2
    have ha' := hp.mem_iff.1 ha
    have hb'' : b ∈ (xs.foldl gstep []).map toS := (List.mergeSort_perm _ _).mem_iff.1 hb'
    have ua := hub a ha'
    have ub := hub b hb''
    obtain ⟨p, hpm, rfl⟩ := List.mem_map.1 ha'
    obtain ⟨q, hqm, rfl⟩ := List.mem_map.1 hb''
    rw [leB_iff] at h1 h2
    simp only [toS] at h1 h2 ua ub ⊢
    have e : p.1 = q.1 := by omega
    rw [rising_key hr p hpm q hqm e]
  refine List.Perm.eq_of_pairwise (le := fun a b => leB a b = true) (fun a b ha hb' => key a ha b hb') ?_ ?_ (hp.trans (List.mergeSort_perm _ _).symm)
  · exact hs.imp (fun h => decide_eq_true h)
  · refine List.pairwise_mergeSort ?_ ?_ _
    · intro a b c h k; rw [leB_iff] at h k ⊢; omega
    · intro a b
      rw [Bool.or_eq_true, leB_iff, leB_iff]; omega

theorem one_calls (A0 : Option Addr) (c0 : Nat) (xs : List S40) (w : World) (hr0 : Kd.C k40 w A0 xs.length xs) (hc0 : xs.length ≤ c0) (hl : xs.length ≤ 100000) (hb : ∀ x ∈ xs, U64B x) :
    Calls Try.prog 18 #[.slice A0 xs.length c0] w fun e w' => ∃ v : Value, e = .returned v ∧ Kd.R k40 40 w' w.heap.size (fun _ => True) v (oneL xs) ∧ Below w.heap.size w w' :=
  (one_any A0 c0 xs w hr0 hc0 hl hb).mono fun _ _ ⟨v, ys, he, hp, hs, hR, hB⟩ => ⟨v, he, by rw [oneL, ← grL_unique hb hp hs]; exact hR, hB⟩
end Go.Proofs.Ytafhdamdkefpkaa

namespace Go.Proofs.Ytafhdamdkefpkaa
open Go.RowKit Go.Proofs.YtafhdamdkefpkaaW.PrintWords Go.Proofs.YtafhdamdkefpkaaW.PrintLast Go.Proofs.YtafhdamdkefpkaaW.PrintMore Go.Proofs.Ytafhdamdkefpkaa.PPrep
attribute [local go_sem] max2_int min2_int max_two min_two
set_option linter.unusedVariables false
set_option linter.unusedSimpArgs false

set_option maxRecDepth 100000 in
set_option maxHeartbeats 1600000 in
theorem grow_nil (n : Int) (hn : 0 ≤ n ∧ n ≤ 10000000) (w : World) : Calls Try.prog 80 #[.slice none 0 0, .int .i64 n] w fun e w' => ∃ v : Value, e = .returned v ∧ Kd.R k40 40 w' w.heap.size (fun _ => True) v [] ∧ Below w.heap.size w w' := by
  have h0 : decide (n < 0) = false := decide_eq_false (by omega)
  have hw : wrap64 (n - 0) = n := by unfold wrap64; omega
  by_cases c : n > 0
  · have c1 : decide (n > 0) = true := decide_eq_true c
    go_enter Try.func80, Try.ntmps80
    go_wp2_with ((with_reducible refine gate_builtin (b := .append) (xs := #[.tmp 20, .tmp 21]) rfl ?_); at_builtin; refine Kd.R_append_zeros k40 (w0 := w) (W := w) w.heap.size rfl (.tmp 20) (.tmp 21) 37 3 40 (.agg #[.int .u64 0, .int .i64 0]) 16 rfl Try.underlying37 Try.underlying3 info40 rfl (by decide) (by decide) (.slice none 0 0) [] (⟨0, 0⟩ : S40) n (fun _ => True) rfl rfl (k40_mkM _ _ _ _) (fun _ _ => trivial) (Kd.R_nil _ _ _ _ _) hn.1 (Below.refl _ _) (Nat.le_refl _) (by simp; omega) ?_; intro v1 w1 hR hB hg hat; obtain ⟨A1, c1, rfl⟩ := Kd.R_slice hR; have HR := Aside0.mk hR; have HB := Aside0.mk hB; clear hR hB hg hat)
    go_ret
    exact ⟨_, rfl, Kd.R_take (m := 0) HR.out (Nat.zero_le _), HB.out⟩
  · have e : n = 0 := by omega
    subst e
    go_enter Try.func80, Try.ntmps80
    go_wp2_with fail
    go_ret
    exact ⟨_, rfl, Kd.R_nil _ _ _ _ _, Below.refl _ _⟩

theorem rdL_take (xss : List (List S40)) (i : Nat) (h : i < xss.length) : xss.take (i + 1) = xss.take i ++ [rd_L3 xss i] := by
  rw [List.take_add_one]
  simp [rd_L3, List.getD, h]
theorem flat_take_le (xss : List (List S40)) (i : Nat) : (xss.take i).flatten.length ≤ xss.flatten.length := by
  conv => rhs; rw [← List.take_append_drop i xss]
  rw [List.flatten_append, List.length_append]; omega

set_option maxRecDepth 100000 in
set_option maxHeartbeats 4000000 in
theorem concat_any (A0 : Option Addr) (c0 : Nat) (xss : List (List S40)) (w : World) (hr0 : Kd.C (Kd.slice 40 k40) w A0 xss.length xss) (hc0 : xss.length ≤ c0) (hl : xss.flatten.length ≤ 1000000) (hl2 : xss.length ≤ 1000000) :
    Calls Try.prog 47 #[.slice A0 xss.length c0] w fun e w' => ∃ v : Value, e = .returned v ∧ Kd.R k40 40 w' w.heap.size (fun _ => True) v xss.flatten ∧ Below w.heap.size w w' := by
  have HR0 := Aside0.mk hr0
  clear hr0
  go_enter Try.func47, Try.ntmps47
  go_wp2_with fail
  go_loopg [3, 11] xss.length (fun n v3 v11 W => ∃ i : Nat, v3 = .int .i64 ((xss.take i).flatten.length : Nat) ∧ v11 = .int .i64 i ∧ Aside0 (i + n = xss.length) ∧ Aside0 (w = W))
  case atStart => exact ⟨0, by simp, rfl, ⟨by simp⟩, ⟨rfl⟩⟩
  case round =>
    obtain ⟨i, rfl, rfl, HI, HW⟩ := hrel
    obtain rfl := HW.out
    by_cases c : (i : Int) < (xss.length : Int)
    · have p1 : (0 : Int) ≤ (i : Int) := by omega
      obtain ⟨ad1, A1, c1, e1, hx0, hl1, hC1⟩ := at_L3 HR0.out i p1 c
      cases e1
      rw [Int.toNat_natCast] at hx0
      have hlt : Aside0 (i < xss.length) := ⟨by omega⟩
      have cb := decide_eq_true c
      have wrapI : wrap64 ((i : Int) + 1) = ((i + 1 : Nat) : Int) := by unfold wrap64; omega
      have hfl := flat_take_le xss (i + 1)
      have hft : (xss.take (i + 1)).flatten.length = (xss.take i).flatten.length + (rd_L3 xss i).length := by rw [rdL_take _ _ hlt.out]; simp
      rw [hft] at hfl
      have HFT := Aside0.mk hft
      have wrapS : wrap64 (((xss.take i).flatten.length : Int) + ((rd_L3 xss i).length : Int)) = (((xss.take i).flatten.length + (rd_L3 xss i).length : Nat) : Int) := by unfold wrap64; omega
      have hge : decide ((((xss.take i).flatten.length + (rd_L3 xss i).length : Nat) : Int) < 0) = false := decide_eq_false (by omega)
      clear hft
      generalize (xss.take i).flatten.length = m at wrapS hge hfl HFT
      generalize rd_L3 xss i = xs at hx0 wrapS hge hfl hC1 hl1 HFT
      replace p1 := eq_true p1
      replace c := eq_true c
      go_wp2_with fail
      go_roundg (gk - 1)
      case measure => have := HI.out; have := hlt.out; omega
      case rel => exact ⟨i + 1, by rw [HFT.out]; simp, by simp, ⟨by have := HI.out; have := hlt.out; omega⟩, ⟨rfl⟩⟩
    · have c1 : (i < xss.length) = False := eq_false (by omega)
      have c2 : ((i : Int) < (xss.length : Int)) = False := eq_false c
      have hio : xss.take i = xss := List.take_of_length_le (by omega)
      rw [hio]
      clear c hio HI HW
      have CG := Aside0.mk (grow_nil (xss.flatten.length : Nat) ⟨by omega, by omega⟩ w)
      generalize hfz : xss.flatten.length = z at CG hl
      go_wp2_with (go_at_call 80; refine (CG.out).mono ?_; rintro e w1 ⟨v1, rfl, hR, hB⟩; have HR := Aside0.mk hR; have HB := Aside0.mk hB; clear hR hB)
      clear c1 c2
      go_loopg [6, 27] xss.length (fun n v6 v27 W => ∃ j : Nat, v27 = .int .i64 j ∧ Aside0 (j + n = xss.length) ∧ Aside0 (Kd.R k40 40 W w.heap.size (fun _ => True) v6 (xss.take j).flatten) ∧ Aside0 (Below w.heap.size w W))
      case atStart => exact ⟨0, rfl, ⟨by simp⟩, HR, HB⟩
      case round =>
        clear HR HB CG
        obtain ⟨j, rfl, HJ, HR, HB⟩ := hrel
        by_cases c : (j : Int) < (xss.length : Int)
        · have p1 : (0 : Int) ≤ (j : Int) := by omega
          obtain ⟨ad1, A1, c1, e1, hx0, hl1, hC1⟩ := at_L3 HR0.out j p1 c
          cases e1
          rw [Int.toNat_natCast] at hx0
          replace hx0 := (HB.out.cell (World.block_lt_of_cell? w _ hx0)).trans hx0
          have hC2 := Kd.C_below hC1 HB.out
          have hlt : Aside0 (j < xss.length) := ⟨by omega⟩
          have cb := decide_eq_true c
          have wrapJ : wrap64 ((j : Int) + 1) = ((j + 1 : Nat) : Int) := by unfold wrap64; omega
          have hfl := flat_take_le xss (j + 1)
          have hft : (xss.take (j + 1)).flatten = (xss.take j).flatten ++ rd_L3 xss j := by rw [rdL_take _ _ hlt.out]; simp
          rw [hft, List.length_append] at hfl
          have HFT := Aside0.mk hft
          obtain ⟨A6, c6, e6, -⟩ := Kd.R_reads HR.out
          subst e6
          clear hft hC1
          generalize (xss.take j).flatten = ys at HR HFT hfl
          generalize rd_L3 xss j = xs at hx0 hC2 hl1 HFT hfl
          have HC2 := Aside0.mk hC2
          have HL1 := Aside0.mk hl1
          have HS := Aside0.mk HB.out.size
          clear hC2 hl1
          replace p1 := eq_true p1
          replace c := eq_true c
          go_wp2_with ((with_reducible refine gate_builtin (b := .append) (xs := #[.tmp 31, .tmp 32]) rfl ?_); at_builtin; refine Kd.R_append_rows k40 (Rr := k40.K wr) (w0 := w) (W := wr) w.heap.size rfl (.tmp 31) (.tmp 32) 37 40 (.agg #[.int .u64 0, .int .i64 0]) 16 rfl Try.underlying37 info40 rfl (by decide) (by decide) (.slice A6 ys.length c6) ys xs A1 xs.length c1 (fun _ => True) (fun _ => False) rfl rfl HR.out HC2.out (fun x cs h => by rw [k40_open h]; exact k40_mkM _ _ _ _) (fun _ h => h.elim) (fun _ _ => trivial) HB.out HS.out (by omega) ?_; intro v9 w9 hR9 hB9 hg9 hat9; have HR9 := Aside0.mk hR9; have HB9 := Aside0.mk hB9; clear hR9 hB9 hg9 hat9)
          go_roundg (gk - 1)
          case measure => have := HJ.out; have := hlt.out; omega
          case rel => exact ⟨j + 1, by rw [wrapJ], ⟨by have := HJ.out; have := hlt.out; omega⟩, ⟨by rw [HFT.out]; exact HR9.out⟩, HB9⟩
        · have c1 : (j < xss.length) = False := eq_false (by omega)
          have c2 : ((j : Int) < (xss.length : Int)) = False := eq_false c
          have hjo : xss.take j = xss := List.take_of_length_le (by omega)
          rw [hjo] at HR
          clear c hjo
          go_wp2_with fail
          go_ret
          exact ⟨_, rfl, HR.out, HB.out⟩

set_option maxRecDepth 100000 in
theorem count_any (A0 : Option Addr) (c0 : Nat) (xss : List (List S40)) (w : World) (hr0 : Kd.C (Kd.slice 40 k40) w A0 xss.length xss) (hc0 : xss.length ≤ c0) (hl : xss.flatten.length ≤ 1000000) (hl2 : xss.length ≤ 1000000) :
    Calls Try.prog 23 #[.slice A0 xss.length c0] w fun e w' => e = .returned (.int .i64 (xss.flatten.length : Nat)) ∧ Below w.heap.size w w' := by
  have C := Aside0.mk (concat_any A0 c0 xss w hr0 hc0 hl hl2)
  clear hr0 hl hl2
  go_enter Try.func23, Try.ntmps23
  go_wp2_with (go_at_call 47; refine (C.out).mono ?_; rintro e w1 ⟨v1, rfl, hR, hB⟩; obtain ⟨A1, c1, rfl⟩ := Kd.R_slice hR; have HB := Aside0.mk hB; clear hR hB)
  go_ret
  exact ⟨by simp [List.length_flatten], HB.out⟩

/-- All items of bids. -/
def uniL (xs : List S40) : Int := xs.foldl (fun u b => Go.bits .or .u64 u b.f0) 0
theorem union_loop (xs : List S40) : ∀ (k i : Nat) (u : Int), i + k = xs.length → xs.length ≤ 1000000 → prep_union.l0 (k + 1) u xs (xs.length : Int) (i : Int) = some ((xs.drop i).foldl (fun u b => Go.bits .or .u64 u b.f0) u)
  | 0, i, u, h, _ => by
    have e : xs.drop i = [] := List.drop_eq_nil_of_le (by omega)
    rw [e]
    unfold prep_union.l0
    rw [if_neg (by omega)]
    rfl
  | k + 1, i, u, h, hl => by
    have hi : i < xs.length := by omega
    unfold prep_union.l0
    rw [if_pos (by omega), if_pos (by omega), if_pos (by omega)]
    have hw : wrap64 ((i : Int) + 1) = ((i + 1 : Nat) : Int) := by unfold wrap64; omega
    rw [hw, union_loop xs k (i + 1) _ (by omega) hl, List.drop_eq_getElem_cons hi, List.foldl_cons]
    have e : rd_T40 xs (i : Int) = xs[i] := by simp [rd_T40, List.getD, hi]
    rw [e]
theorem union_f (xs : List S40) (hl : xs.length ≤ 1000000) : prep_union.f (xs.length + 1) xs = some (uniL xs) := by
  have := union_loop xs xs.length 0 0 (by omega) hl
  exact this
theorem union_any (A0 : Option Addr) (c0 : Nat) (xs : List S40) (w : World) (hr0 : Kd.C k40 w A0 xs.length xs) (hc0 : xs.length ≤ c0) (hl : xs.length ≤ 1000000) :
    Calls Try.prog 48 #[.slice A0 xs.length c0] w fun e w' => e = .returned (.int .u64 (uniL xs)) ∧ Below w.heap.size w w' := by
  have h := union_f xs hl
  generalize uniL xs = r at h ⊢
  exact prep_union.calls (xs.length + 1) A0 c0 xs r w hr0 hc0 h

set_option maxRecDepth 100000 in
theorem Union_any (A0 : Option Addr) (c0 : Nat) (xss : List (List S40)) (w : World) (hr0 : Kd.C (Kd.slice 40 k40) w A0 xss.length xss) (hc0 : xss.length ≤ c0) (hl : xss.flatten.length ≤ 1000000) (hl2 : xss.length ≤ 1000000) :
    Calls Try.prog 24 #[.slice A0 xss.length c0] w fun e w' => e = .returned (.int .u64 (uniL xss.flatten)) ∧ Below w.heap.size w w' := by
  have C := Aside0.mk (concat_any A0 c0 xss w hr0 hc0 hl hl2)
  have HL := Aside0.mk hl
  clear hr0 hl hl2
  generalize xss.flatten = fl at C HL ⊢
  go_enter Try.func24, Try.ntmps24
  go_wp2_with (first
    | (go_at_call 47; refine (C.out).mono ?_; rintro e w1 ⟨v1, rfl, hR, hB⟩; obtain ⟨A1, c1, e1, hl1, hC1⟩ := Kd.R_reads hR; subst e1; have C2 := Aside0.mk (union_any A1 c1 fl w1 hC1 hl1 HL.out); have HB := Aside0.mk hB; clear hR hB hl1 hC1)
    | (go_at_call 48; refine (C2.out).mono ?_; rintro e w2 ⟨rfl, hB2⟩; have HB2 := Aside0.mk hB2; clear hB2))
  go_ret
  exact ⟨rfl, below_step HB.out HB2.out⟩
end Go.Proofs.Ytafhdamdkefpkaa

namespace Go.Proofs.Ytafhdamdkefpkaa
open Go.RowKit Go.Proofs.YtafhdamdkefpkaaW.PrintWords Go.Proofs.YtafhdamdkefpkaaW.PrintLast Go.Proofs.YtafhdamdkefpkaaW.PrintMore Go.Proofs.Ytafhdamdkefpkaa.PPrep Go.Maps
set_option linter.unusedVariables false
set_option linter.unusedSimpArgs false

/-- Block b is a map of at most n entries that holds 'true' at f's numbers. -/
def BSet (W : World) (b n : Nat) (f : Int → Bool) : Prop :=
  ∃ D : DataW Unit, W.ownsMap Try.prog 3 (plainElem Try.prog 4) b n D ∧ ∀ i, (Lit.int .i64 i).wf = true → D.atKey (.int .i64 i) (.lit (.bool false)) = .lit (.bool (f i))
theorem zeroB (w : World) : (zeroValue 4).run Try.prog w = .ok (.bool false) w := by kernel_rfl
theorem kintB : Keyed Try.prog 3 := int_keyed Try.underlying3
set_option maxRecDepth 100000 in
theorem plainElem_bool_inv {H : Type} {v : Value} {z : DataW H × List MemPlace} (h : plainElem Try.prog 4 v = some z) : ∃ x, v = .bool x ∧ z = (.lit (.bool x), []) := by
  simp only [plainElem, Try.underlying4] at h
  cases v <;> simp at h
  exact ⟨_, rfl, h.symm⟩
set_option maxRecDepth 100000 in
theorem BSet.made (w : World) : BSet (w.alloc (.map #[] 0)) w.heap.size 0 (fun _ => false) := ⟨_, World.ownsMap_made _ _ _ _, fun i _ => by simp [DataW.atKey]⟩
theorem BSet.lt {w : World} {b n : Nat} {f : Int → Bool} (h : BSet w b n f) : b < w.heap.size := by obtain ⟨D, h1, _⟩ := h; exact h1.lt
theorem BSet.at_ {w w' : World} {b n : Nat} {f : Int → Bool} (h : BSet w b n f) (e : w'.heap[b]? = w.heap[b]?) : BSet w' b n f := by
  obtain ⟨D, ⟨es, cl, hb, r⟩, h2⟩ := h
  exact ⟨D, ⟨es, cl, e.trans hb, r⟩, h2⟩
theorem BSet.below {w w' : World} {b n : Nat} {f : Int → Bool} (h : BSet w b n f) (hb : Below w.heap.size w w') : BSet w' b n f := h.at_ (hb.block b h.lt)
theorem BSet.kept {w w' : World} {b n : Nat} {f : Int → Bool} {row : Option Nat} (h : BSet w b n f) (hg : w.grownBy w' row) (hne : some b ≠ row) : BSet w' b n f := by
  obtain ⟨D, h1, h2⟩ := h
  exact ⟨D, h1.kept hg hne, h2⟩
set_option maxRecDepth 100000 in
theorem BSet.look {w : World} {b n : Nat} {f : Int → Bool} (h : BSet w b n f) (i : Int) (hi : (Lit.int .i64 i).wf = true) : (Instr.lookup 136 (.map (some b)) (.int .i64 i) false).run Try.prog w = .ok (.bool (f i)) w := by
  obtain ⟨D, h1, h2⟩ := h
  obtain ⟨v, ps, hrun, hv⟩ := h1.lookup (t := 136) (e := 4) kintB Try.underlying136 (zeroB w) (plainElem_bool Try.underlying4 false) (keyOf_int_mk Try.underlying3 hi)
  obtain ⟨x, rfl, hx⟩ := plainElem_bool_inv hv
  rw [h2 i hi] at hx
  simp only [Prod.mk.injEq] at hx
  rw [hrun]
  have : f i = x := by injection hx.1 with h3; injection h3
  rw [this]
set_option maxRecDepth 100000 in
theorem BSet.put {w : World} {b n : Nat} {f : Int → Bool} (h : BSet w b n f) (hn : n < maxLen) (i : Int) (hi : (Lit.int .i64 i).wf = true) :
    ∃ w', (Instr.mapUpdate 136 (.map (some b)) (.int .i64 i) (.bool true)).run Try.prog w = .ok () w' ∧ BSet w' b (n + 1) (fun j => decide (j = i) || f j) ∧ w.grownBy w' (some b) := by
  obtain ⟨D, h1, h2⟩ := h
  obtain ⟨w', hrun, h3, h4⟩ := h1.update (t := 136) (e := 4) kintB Try.underlying136 hn (keyOf_int_mk Try.underlying3 hi) (plainElem_bool Try.underlying4 true)
  refine ⟨w', hrun, ⟨_, h3, fun j hj => ?_⟩, h4⟩
  by_cases e : j = i
  · subst e
    rw [atKey_put_same h1.isMap (by simp [WideAt.IsKeyLit])]
    simp
  · rw [atKey_put_other (by intro h; injection h with _ h; exact e h), h2 j hj]
    simp [e]
end Go.Proofs.Ytafhdamdkefpkaa

namespace Go.Proofs.Ytafhdamdkefpkaa
open Go.RowKit

def apartB (a b : Int) : Bool := (Go.bits .and .u64 a b) == 0
/-- One bidder of a pass: (who is in, their items, has it grown). -/
def gStep (us : List Int) (st : (Int → Bool) × Int × Bool) (i : Nat) : (Int → Bool) × Int × Bool :=
  if !st.1 i && !apartB (us.getD i 0) st.2.1 then (fun j => decide (j = (i : Int)) || st.1 j, Go.bits .or .u64 st.2.1 (us.getD i 0), true) else st
def passTo (us : List Int) (st : (Int → Bool) × Int × Bool) : Nat → (Int → Bool) × Int × Bool
  | 0 => st
  | i + 1 => gStep us (passTo us st i) i
def passes (us : List Int) : Nat → (Int → Bool) → Int → (Int → Bool)
  | 0, f, _ => f
  | k + 1, f, items => let p := passTo us (f, items, false) us.length; if p.2.2 then passes us k p.1 p.2.1 else p.1
/-- How many of the first n are not in. -/
def missing (n : Nat) (f : Int → Bool) : Nat := ((List.range n).filter fun (i : Nat) => !f (i : Int)).length
theorem missing_put {n : Nat} {f : Int → Bool} {i : Nat} (hi : i < n) (hf : f i = false) : missing n (fun j => decide (j = (i : Int)) || f j) + 1 = missing n f := by
  induction n with
  | zero => omega
  | succ n ih =>
    unfold missing at ih ⊢
    rw [List.range_succ, List.filter_append, List.filter_append, List.length_append, List.length_append]
    rcases Nat.lt_or_ge i n with h | h
    · have := ih h
      have e : ¬ ((n : Int) = (i : Int)) := by omega
      simp only [List.filter_cons, List.filter_nil, e, decide_false, Bool.false_or] at this ⊢
      omega
    · have e : i = n := by omega
      subst e
      have h1 : (List.range i).filter (fun (j : Nat) => !(decide ((j : Int) = (i : Int)) || f (j : Int))) = (List.range i).filter (fun (j : Nat) => !f (j : Int)) := by
        refine List.filter_congr (fun j hj => ?_)
        have : ¬ ((j : Int) = (i : Int)) := by have := List.mem_range.1 hj; omega
        simp [this]
      rw [h1]
      simp [hf]
end Go.Proofs.Ytafhdamdkefpkaa

namespace Go.Proofs.Ytafhdamdkefpkaa
open Go.RowKit Go.Proofs.YtafhdamdkefpkaaW.PrintWords Go.Proofs.YtafhdamdkefpkaaW.PrintLast Go.Proofs.YtafhdamdkefpkaaW.PrintMore Go.Proofs.Ytafhdamdkefpkaa.PPrep
attribute [local go_sem] max2_int min2_int max_two min_two
set_option linter.unusedVariables false
set_option linter.unusedSimpArgs false

theorem apart_any (a b : Int) (w : World) : Calls Try.prog 81 #[.int .u64 a, .int .u64 b] w fun e w' => e = .returned (.bool (apartB a b)) ∧ w = w' := by
  go_enter Try.func81, Try.ntmps81
  go_wp2
  go_ret
  exact ⟨rfl, rfl⟩

/-- prep.group's answer. -/
def groupL (us : List Int) (first : Nat) : List Int := ((List.range us.length).filter fun (i : Nat) => passes us (us.length + 1) (fun j => decide (j = (first : Int))) (us.getD first 0) (i : Int)).map fun (i : Nat) => (i : Int)

/-- The members among the first n. -/
def groupTo (F : Int → Bool) (n : Nat) : List Int := ((List.range n).filter fun (i : Nat) => F (i : Int)).map fun (i : Nat) => (i : Int)
theorem groupTo_succ (F : Int → Bool) (n : Nat) : groupTo F (n + 1) = groupTo F n ++ (if F (n : Int) then [(n : Int)] else []) := by
  unfold groupTo
  rw [List.range_succ, List.filter_append, List.map_append]
  cases e : F (n : Int) <;> simp [e]
theorem groupTo_le (F : Int → Bool) (n : Nat) : (groupTo F n).length ≤ n := by
  unfold groupTo
  rw [List.length_map]
  exact Nat.le_trans (List.length_filter_le _ _) (by simp)
theorem info_int : (Try.prog.info? 3).map (fun i => (i.zero, i.size, i.bytes)) = some (some (.int .i64 0), 1, 8) := by kernel_rfl

set_option maxRecDepth 100000 in
set_option maxHeartbeats 4000000 in
theorem group_any (A0 : Option Addr) (c0 : Nat) (xss : List (List S40)) (first : Nat) (w : World) (hr0 : Kd.C (Kd.slice 40 k40) w A0 xss.length xss) (hc0 : xss.length ≤ c0) (hl : ∀ xs ∈ xss, xs.length ≤ 1000000) (hl2 : xss.length ≤ 1000000) (hf : first < xss.length) :
    Calls Try.prog 53 #[.slice A0 xss.length c0, .int .i64 (first : Nat)] w fun e w' => ∃ v : Value, e = .returned v ∧ Kd.R (Kd.int .i64) 3 w' w.heap.size (fun _ => True) v (groupL (xss.map uniL) first) ∧ Below w.heap.size w w' := by
  have HR0 := Aside0.mk hr0
  have hmm := @run_makeMap Try.prog
  obtain ⟨ad0, A1, c1, e0, hx0, hl1, hC1⟩ := at_L3 hr0 (first : Nat) (by omega) (by omega)
  cases e0
  rw [Int.toNat_natCast] at hx0
  have p1 := eq_true (show (0 : Int) ≤ (first : Nat) by omega)
  have p2 := eq_true (show ((first : Nat) : Int) < (xss.length : Int) by omega)
  have hmem : (rd_L3 xss (first : Nat)).length ≤ 1000000 := hl _ (by simp [rd_L3, List.getD, hf])
  have hu0 : (xss.map uniL).getD first 0 = uniL (rd_L3 xss (first : Nat)) := by simp [rd_L3, List.getD, hf]
  have hm0 : missing xss.length (fun j => decide (j = ((first : Nat) : Int)) || false) + 1 = xss.length := by
    rw [missing_put (f := fun _ => false) hf rfl]
    unfold missing
    rw [List.filter_eq_self.2 (by simp), List.length_range]
  rw [show groupL (xss.map uniL) first = ((List.range xss.length).filter fun (i : Nat) => passes (xss.map uniL) (xss.length + 1) (fun j => decide (j = (first : Int))) (uniL (rd_L3 xss (first : Nat))) (i : Int)).map fun (i : Nat) => (i : Int) from by unfold groupL; rw [List.length_map, hu0]]
  have CU := Aside0.mk (union_any A1 c1 (rd_L3 xss (first : Nat)) w hC1 hl1 hmem)
  generalize huu : uniL (rd_L3 xss (first : Nat)) = u0 at CU ⊢
  obtain ⟨us, hus⟩ : ∃ us, us = xss.map uniL := ⟨_, rfl⟩
  have hul : us.length = xss.length := by rw [hus, List.length_map]
  rw [← hus]
  obtain ⟨F, hF⟩ : ∃ F, F = passes us (xss.length + 1) (fun j => decide (j = (first : Int))) u0 := ⟨_, rfl⟩
  rw [← hF]
  have HM0 := Aside0.mk hm0
  have HUS := Aside0.mk hus
  have HF := Aside0.mk hF
  clear hr0 hC1 hm0 hus hF hu0 huu hmem
  go_enter Try.func53, Try.ntmps53
  have wff : (Lit.int .i64 (first : Nat)).wf = true := WalkArith.wf_i64 (by omega)
  have WFF := Aside0.mk wff
  clear wff
  go_wp2_with (go_at_call 48; refine (CU.out).mono ?_; rintro e w1 ⟨rfl, hB⟩; obtain ⟨w2, hrun2, hS2, hg2⟩ := (BSet.made w1).put (by decide) (first : Nat) WFF.out; have HS2 := Aside0.mk hS2; have HB1 := Aside0.mk hB; have HB2 := Aside0.mk (Below.grown (below_alloc hB (.map #[] 0)) hg2 (by have := hB.size; simp; omega) (fun j hj => by cases hj; exact hB.size)); clear hB hS2 hg2)
  have hwb : w.heap.size ≤ w1.heap.size := HB1.out.size
  clear hrun2 p1 p2 hx0
  go_loopg [5, 7] (xss.length + 1) (fun k v5 v7 W => ∃ (f : Int → Bool) (items : Int) (g : Bool) (cnt : Nat), v5 = .int .u64 items ∧ v7 = .bool g ∧ Aside0 (BSet W w1.heap.size cnt f) ∧ Aside0 (cnt + missing xss.length f ≤ xss.length + 1) ∧ Aside0 (Below w.heap.size w W) ∧ Aside0 (g = true → passes us k f items = F ∧ missing xss.length f < k) ∧ Aside0 (g = false → f = F))
  case atStart =>
    exact ⟨_, _, true, 1, rfl, rfl, HS2, ⟨by have := HM0.out; omega⟩, HB2, ⟨fun _ => ⟨by rw [HF.out]; simp, by have := HM0.out; omega⟩⟩, ⟨fun h => by cases h⟩⟩
  case round =>
    clear HS2 HB2 HM0 HF
    obtain ⟨f, items, g, cnt, rfl, rfl, HS, HN, HB, HT, HE⟩ := hrel
    cases g with
    | false =>
      have hf := HE.out rfl
      rw [hf] at HS
      clear HT HE hf HN CU hl1
      have hns : w1.heap.size ≤ wr.heap.size := Nat.le_of_lt HS.out.lt
      go_wp2_with fail
      go_loopg [10, 48] xss.length (fun n v10 v48 W => ∃ i : Nat, v48 = .int .i64 i ∧ Aside0 (i + n = xss.length) ∧ Aside0 (Kd.R (Kd.int .i64) 3 W w.heap.size (fun k => k ≠ w1.heap.size) v10 (groupTo F i)) ∧ Aside0 (Below w.heap.size w W) ∧ Aside0 (BSet W w1.heap.size cnt F))
      case atStart => exact ⟨0, rfl, ⟨by simp⟩, ⟨Kd.R_nil _ _ _ _ _⟩, HB, HS⟩
      case round =>
        clear HS HB
        obtain ⟨i, rfl, HI, HR, HB, HS⟩ := hrel
        by_cases c : (i : Int) < (xss.length : Int)
        · have hlt : i < xss.length := by omega
          have HLT := Aside0.mk hlt
          have wfi : (Lit.int .i64 ((i : Nat) : Int)).wf = true := WalkArith.wf_i64 (by omega)
          have hll : (groupTo F i).length ≤ 1000000 := by have := groupTo_le F i; omega
          have wrapI : wrap64 ((i : Int) + 1) = ((i + 1 : Nat) : Int) := by unfold wrap64; omega
          have hlook := HS.out.look (i : Nat) wfi
          have hst := Aside0.mk (groupTo_succ F i)
          have HLL := Aside0.mk hll
          clear wfi hll
          replace c := eq_true c
          cases hfi : F (i : Int) with
          | false =>
            rw [hfi] at hlook hst
            clear hfi
            go_wp2_with fail
            go_roundg (gk - 1)
            case measure => have := HI.out; have := HLT.out; omega
            case rel => exact ⟨i + 1, by simp, ⟨by have := HI.out; have := HLT.out; omega⟩, by rw [hst.out]; exact ⟨by simpa using HR.out⟩, HB, HS⟩
          | true =>
            rw [hfi] at hlook hst
            clear hfi
            obtain ⟨A6, c6, e6, -⟩ := Kd.R_reads HR.out
            subst e6
            generalize groupTo F i = ys at HR hst HLL
            have HW := Aside0.mk HS.out.lt
            go_wp2_with ((with_reducible refine gate_builtin (b := .append) (xs := #[.tmp 54, .tmp 56]) rfl ?_); at_builtin; refine Kd.R_append (Kd.int .i64) (w0 := w) (W := wr) w.heap.size rfl (.tmp 54) (.tmp 56) 52 3 (.int .i64 0) 8 rfl Try.underlying52 info_int rfl (by decide) (by decide) (.slice A6 ys.length c6) ys (i : Int) [.int .i64 (i : Int)] (fun k => k ≠ w1.heap.size) (fun _ => False) rfl rfl rfl (fun _ h => h.elim) (fun k hk => by have := HW.out; omega) HR.out HB.out HB.out.size (by have := HLL.out; omega) ?_; intro v1 w9 hR9 hB9 hg9 hat9; have HR9 := Aside0.mk hR9; have HB9 := Aside0.mk hB9; have HS9 := Aside0.mk (HS.out.kept hg9 (fun e => HR.out.1 _ e.symm rfl)); clear hR9 hB9 hg9 hat9)
            go_roundg (gk - 1)
            case measure => have := HI.out; have := HLT.out; omega
            case rel => exact ⟨i + 1, by simp, ⟨by have := HI.out; have := HLT.out; omega⟩, by rw [hst.out]; exact HR9, HB9, HS9⟩
        · have c1 : (i < xss.length) = False := eq_false (by omega)
          have c2 : ((i : Int) < (xss.length : Int)) = False := eq_false c
          have hio : i = xss.length := by have := HI.out; omega
          rw [hio] at HR
          clear c hio
          go_wp2_with fail
          go_ret
          exact ⟨_, rfl, Kd.R_mono HR.out (fun _ _ => trivial), HB.out⟩
    | true =>
      obtain ⟨hp, hm⟩ := HT.out rfl
      have HP := Aside0.mk hp
      have HM := Aside0.mk hm
      obtain ⟨gko, hgko⟩ : ∃ n, gk = n + 1 := ⟨gk - 1, by omega⟩
      have HGK := Aside0.mk hgko
      clear hp hm HT HE hgko
      go_wp2_with fail
      go_loopg [5, 7, 23] xss.length (fun m v5 v7 v23 W => ∃ (i cnt' : Nat), v23 = .int .i64 i ∧ v5 = .int .u64 (passTo us (f, items, false) i).2.1 ∧ v7 = .bool (passTo us (f, items, false) i).2.2 ∧ Aside0 (i + m = xss.length) ∧
        Aside0 (BSet W w1.heap.size cnt' (passTo us (f, items, false) i).1) ∧ Aside0 (cnt' + missing xss.length (passTo us (f, items, false) i).1 ≤ xss.length + 1) ∧ Aside0 (Below w.heap.size w W) ∧
        Aside0 ((passTo us (f, items, false) i).2.2 = true → missing xss.length (passTo us (f, items, false) i).1 < missing xss.length f) ∧ Aside0 (missing xss.length (passTo us (f, items, false) i).1 ≤ missing xss.length f))
      case atStart => exact ⟨0, cnt, rfl, rfl, rfl, ⟨by simp⟩, HS, HN, HB, ⟨fun h => by cases h⟩, ⟨Nat.le_refl _⟩⟩
      case round =>
        clear HS HN HB
        obtain ⟨i, cnt', rfl, rfl, rfl, HI, HS, HN, HB, HG, HL⟩ := hrel
        by_cases c : (i : Int) < (xss.length : Int)
        · have q1 : (0 : Int) ≤ (i : Int) := by omega
          obtain ⟨ad1, A2, c2, e1, hx1, hl3, hC3⟩ := at_L3 HR0.out i q1 c
          cases e1
          rw [Int.toNat_natCast] at hx1
          replace hx1 := (HB.out.cell (World.block_lt_of_cell? w _ hx1)).trans hx1
          have hC4 := Kd.C_below hC3 HB.out
          have hlt : i < xss.length := by omega
          have HLT := Aside0.mk hlt
          have hmem : (rd_L3 xss (i : Nat)).length ≤ 1000000 := hl _ (by simp [rd_L3, List.getD, hlt])
          have CV := Aside0.mk (fun W (h : Kd.C k40 W A2 (rd_L3 xss i).length (rd_L3 xss i)) => union_any A2 c2 (rd_L3 xss i) W h hl3 hmem)
          have HC4 := Aside0.mk hC4
          have HC0 := Aside0.mk hC3
          have wfi : (Lit.int .i64 ((i : Nat) : Int)).wf = true := WalkArith.wf_i64 (by omega)
          have wrapI : wrap64 ((i : Int) + 1) = ((i + 1 : Nat) : Int) := by unfold wrap64; omega
          have hui : us.getD i 0 = uniL (rd_L3 xss (i : Nat)) := by rw [HUS.out]; simp [rd_L3, List.getD, hlt]
          have hst : passTo us (f, items, false) (i + 1) = gStep us (passTo us (f, items, false) i) i := rfl
          have HST := Aside0.mk hst
          have HUI := Aside0.mk hui
          have hlook := HS.out.look (i : Nat) wfi
          have WFI := Aside0.mk wfi
          clear wfi hC3 hC4 hst hui hmem hl3
          generalize passTo us (f, items, false) i = st at HS HN HG HL HST hlook
          obtain ⟨sf, si, sg⟩ := st
          simp only at hlook
          replace q1 := eq_true q1
          replace c := eq_true c
          cases hfi : sf (i : Nat) with
          | true =>
            rw [hfi] at hlook
            have hg : Aside0 (passTo us (f, items, false) (i + 1) = (sf, si, sg)) := ⟨by rw [HST.out]; simp [gStep, hfi]⟩
            clear hfi
            go_wp2_with fail
            go_roundg (gk - 1)
            case measure => have := HI.out; have := HLT.out; omega
            case rel => exact ⟨i + 1, cnt', by simp, by rw [hg.out], by rw [hg.out], ⟨by have := HI.out; have := HLT.out; omega⟩, by rw [hg.out]; exact HS, by rw [hg.out]; exact HN, HB, by rw [hg.out]; exact HG, by rw [hg.out]; exact HL⟩
          | false =>
            rw [hfi] at hlook
            have CA := Aside0.mk (fun W => apart_any (uniL (rd_L3 xss (i : Nat))) si W)
            cases ha : apartB (uniL (rd_L3 xss (i : Nat))) si with
            | true =>
              rw [ha] at CA
              have hg : Aside0 (passTo us (f, items, false) (i + 1) = (sf, si, sg)) := ⟨by rw [HST.out]; simp only [gStep]; rw [HUI.out, ha]; simp⟩
              clear hfi ha
              generalize uniL (rd_L3 xss (i : Nat)) = u at CV CA HUI
              go_wp2_with (first
                | (go_at_call 48; refine ((CV.out _ HC4.out)).mono ?_; rintro e W7 ⟨rfl, hb7⟩; have HB7 := Aside0.mk hb7; clear hb7)
                | (go_at_call 81; refine (CA.out _).mono ?_; rintro e W8 ⟨rfl, rfl⟩))
              go_roundg (gk - 1)
              case measure => have := HI.out; have := HLT.out; omega
              case rel => exact ⟨i + 1, cnt', by simp, by rw [hg.out], by rw [hg.out], ⟨by have := HI.out; have := HLT.out; omega⟩, by rw [hg.out]; exact ⟨HS.out.below HB7.out⟩, by rw [hg.out]; exact HN, ⟨below_step HB.out HB7.out⟩, by rw [hg.out]; exact HG, by rw [hg.out]; exact HL⟩
            | false =>
              rw [ha] at CA
              have hg : Aside0 (passTo us (f, items, false) (i + 1) = (fun j => decide (j = (i : Int)) || sf j, Go.bits .or .u64 si (uniL (rd_L3 xss (i : Nat))), true)) := ⟨by rw [HST.out]; simp only [gStep]; rw [HUI.out, ha]; simp [hfi]⟩
              have hms := Aside0.mk (missing_put HLT.out hfi)
              have hcn : cnt' < maxLen := Nat.lt_of_le_of_lt (show cnt' ≤ 1000001 by have := HN.out; omega) (by decide)
              clear hfi ha
              generalize uniL (rd_L3 xss (i : Nat)) = u at CV CA HUI hg
              go_wp2_with (first
                | (go_at_call 81; refine (CA.out _).mono ?_; rintro e W8 ⟨rfl, rfl⟩)
                | (go_at_call 48; refine ((CV.out _ HC4.out)).mono ?_; rintro e W7 ⟨rfl, hb7⟩; obtain ⟨W9, hrun9, hS9, hg9⟩ := (HS.out.below hb7).put hcn (i : Nat) WFI.out; have HB9 := Aside0.mk (Below.grown (below_step HB.out hb7) hg9 (by have := (below_step HB.out hb7).size; exact this) (fun j hj => by cases hj; exact hwb)); have HS9 := Aside0.mk hS9; have HC9 := Aside0.mk (Kd.C_below (HC0.out) HB9.out); clear hb7 hS9 hg9)
                | (go_at_call 48; refine ((CV.out _ HC9.out)).mono ?_; rintro e W7 ⟨rfl, hb7⟩; have HB10 := Aside0.mk hb7; clear hb7))
              go_roundg (gk - 1)
              case measure => have := HI.out; have := HLT.out; omega
              case rel => exact ⟨i + 1, cnt' + 1, by simp, by rw [hg.out], by rw [hg.out], ⟨by have := HI.out; have := HLT.out; omega⟩, by rw [hg.out]; exact ⟨HS9.out.below HB10.out⟩, by rw [hg.out]; exact ⟨by have := HN.out; have := hms.out; simp only at *; omega⟩, ⟨below_step HB9.out HB10.out⟩, by rw [hg.out]; exact ⟨fun _ => by have := HL.out; have := hms.out; simp only at *; omega⟩, by rw [hg.out]; exact ⟨by have := HL.out; have := hms.out; simp only at *; omega⟩⟩
        · have c1 : (i < xss.length) = False := eq_false (by omega)
          have c2 : ((i : Int) < (xss.length : Int)) = False := eq_false c
          have hio : i = us.length := by have := HI.out; omega
          have HIO := Aside0.mk hio
          have hpp := HP.out
          rw [HGK.out, passes, ← hio] at hpp
          have HPP := Aside0.mk hpp
          generalize passTo us (f, items, false) i = st at HS HN HG HL HPP
          obtain ⟨sf, si, sg⟩ := st
          clear c hio hpp
          go_wp2_with fail
          go_roundg gko
          case measure => have := HGK.out; omega
          case rel =>
            refine ⟨sf, si, sg, cnt', rfl, rfl, HS, HN, HB, ⟨fun hg => ?_⟩, ⟨fun hg => ?_⟩⟩
            · have h1 := HPP.out
              have h2 := HG.out hg
              have h3 := HM.out
              have h4 := HGK.out
              rw [hg] at h1
              exact ⟨by simpa using h1, by omega⟩
            · have h1 := HPP.out
              rw [hg] at h1
              simpa using h1
end Go.Proofs.Ytafhdamdkefpkaa

namespace Go.Proofs.Ytafhdamdkefpkaa
open Go.RowKit Go.Proofs.YtafhdamdkefpkaaW.PrintWords Go.Proofs.YtafhdamdkefpkaaW.PrintLast Go.Proofs.YtafhdamdkefpkaaW.PrintMore Go.Proofs.Ytafhdamdkefpkaa.PPrep
attribute [local go_sem] max2_int min2_int max_two min_two Oper.semAt_some
set_option linter.unusedVariables false
set_option linter.unusedSimpArgs false

/-- A row of numbers that is none of the caller's blocks. -/
def RowRel (x : List Int) (v : Value) (S : Nat → Prop) (W : World) : Prop := Kd.R (Kd.int .i64) 3 W 0 (fun k => ¬ S k) v x
theorem rowRel_ok : RelOk RowRel := fun x v S S' W W' h hs hk => Kd.R_mono (Kd.R_step h (fun k h1 h2 => hk.block k h1 h2)) (fun k h1 h2 => h1 (hs k h2))
def encV (v : Value) : Array Value := #[v]

/-- Those of a group are seen. -/
def markL (seen : List Bool) (g : List Int) : List Bool := g.foldl (fun s k => s.set k.toNat true) seen
def gsStep (xss : List (List S40)) (st : List Bool × List (List Int)) (i : Nat) : List Bool × List (List Int) :=
  if st.1.getD i false || (rd_L3 xss (i : Int)).isEmpty then st else (markL st.1 (groupL (xss.map uniL) i), st.2 ++ [groupL (xss.map uniL) i])
def gsTo (xss : List (List S40)) : Nat → List Bool × List (List Int)
  | 0 => (List.replicate xss.length false, [])
  | i + 1 => gsStep xss (gsTo xss i) i
def groupsL (xss : List (List S40)) : List (List Int) := (gsTo xss xss.length).2
theorem markL_length (seen : List Bool) (g : List Int) : (markL seen g).length = seen.length := by
  induction g generalizing seen with
  | nil => rfl
  | cons k g ih => unfold markL at ih ⊢; rw [List.foldl_cons, ih]; simp
theorem gsTo_length (xss : List (List S40)) (i : Nat) : (gsTo xss i).1.length = xss.length := by
  induction i with
  | zero => simp [gsTo]
  | succ i ih =>
    show (gsStep xss (gsTo xss i) i).1.length = _
    unfold gsStep
    split
    · exact ih
    · rw [markL_length]; exact ih
theorem gsTo_pre (xss : List (List S40)) (i d : Nat) : ∃ post, (gsTo xss (i + d)).2 = (gsTo xss i).2 ++ post := by
  induction d with
  | zero => exact ⟨[], by simp⟩
  | succ d ih =>
    obtain ⟨p, hp⟩ := ih
    show ∃ post, (gsStep xss (gsTo xss (i + d)) (i + d)).2 = _
    unfold gsStep
    split
    · exact ⟨p, hp⟩
    · exact ⟨p ++ [groupL (xss.map uniL) (i + d)], by simp only [hp, List.append_assoc]⟩
theorem groupsL_split (xss : List (List S40)) {i : Nat} (h : i < xss.length) (hs : (gsTo xss (i + 1)).2 = (gsTo xss i).2 ++ [groupL (xss.map uniL) i]) : ∃ post, groupsL xss = (gsTo xss i).2 ++ groupL (xss.map uniL) i :: post := by
  obtain ⟨p, hp⟩ := gsTo_pre xss (i + 1) (xss.length - (i + 1))
  rw [show i + 1 + (xss.length - (i + 1)) = xss.length from by omega, hs] at hp
  exact ⟨p, by unfold groupsL; rw [hp]; simp⟩
theorem groupL_mem (us : List Int) (f : Nat) : ∀ k ∈ groupL us f, 0 ≤ k ∧ k < us.length := by
  intro k hk
  unfold groupL at hk
  obtain ⟨j, hj, rfl⟩ := List.mem_map.1 hk
  have := List.mem_range.1 (List.mem_filter.1 hj).1
  exact ⟨by omega, by omega⟩
theorem groupL_le (us : List Int) (f : Nat) : (groupL us f).length ≤ us.length := by
  unfold groupL
  rw [List.length_map]
  exact Nat.le_trans (List.length_filter_le _ _) (by simp)
theorem markL_take (seen : List Bool) (g : List Int) (j : Nat) (h : j < g.length) : markL seen (g.take (j + 1)) = (markL seen (g.take j)).set (g.getD j 0).toNat true := by
  unfold markL
  rw [List.take_add_one, List.foldl_append]
  simp [h]
theorem info_bool : (Try.prog.info? 4).map (fun i => (i.zero, i.size, i.bytes)) = some (some (.bool false), 1, 1) := by kernel_rfl

theorem pgroups_any (v : Value) (hv : ∃ A n c, v = .slice A n c) (w : World) : Calls Try.prog 31 #[v] w fun e w' =>
    e = .returned (.func (.func 52) #[] #[.pointer (some ⟨w.heap.size, 0, none⟩)]) ∧ w' = w.alloc (.cells #[v] 34) := by
  obtain ⟨A, n, c, rfl⟩ := hv
  go_enter Try.func31, Try.ntmps31
  go_wp2
  go_ret
  exact ⟨rfl, rfl⟩

set_option maxRecDepth 100000 in
set_option maxHeartbeats 4000000 in
theorem pgroups1_iter (w0 W0 : World) (A0 : Option Addr) (c0 : Nat) (xss : List (List S40)) (b0 : Nat) (D : Nat → Prop) (hC : Kd.C (Kd.slice 40 k40) w0 A0 xss.length xss) (hc0 : xss.length ≤ c0)
    (hl : ∀ xs ∈ xss, xs.length ≤ 1000000) (hl2 : xss.length ≤ 1000000)
    (hB : Below w0.heap.size w0 W0) (h0 : W0.heap[b0]? = some (.cells #[.slice A0 xss.length c0] 34 (0, 0)))
    (hD : ∀ k, k < w0.heap.size → D k) (hD0 : D b0) :
    IterR Try.prog 52 #[.pointer (some ⟨b0, 0, none⟩)] encV RowRel (groupsL xss) D W0 := by
  intro l S0 J Jx W hW hS0 hSD hJ hJx hY hj0
  have hw : ∀ S2 W2, YCore S0 W S2 W2 → W2.cell? ⟨b0, 0, none⟩ = some (.slice A0 xss.length c0) ∧ Below w0.heap.size w0 W2 := by
    intro S2 W2 h2
    have k0 := hW.at_ h0 hD0
    refine ⟨blk_cell_ (h2.keeps.at_ k0 ⟨lt_of_heap k0, fun h => hSD _ h hD0⟩) 0, ?_⟩
    have hWs : w0.heap.size ≤ W.heap.size := Nat.le_trans hB.size hW.size
    exact hB.trans ((hW.below hD hB.size).trans (h2.keeps.below (fun k hk => ⟨by omega, fun h => hSD _ h (hD k hk)⟩) hWs))
  have HW := Aside0.mk hw
  have HC := Aside0.mk hC
  have HY := Aside0.mk (fun pre x post b S W1 hx hr hj (hc : YCore S0 W S W1) => hY pre x post b S W1 hx hr hj hc.keeps hc.own)
  have HJ := Aside0.mk hJ
  have HS := Aside0.mk (YCore.start hS0)
  have HJ0 := Aside0.mk hj0
  have HS0 := Aside0.mk hS0
  have hmk := fun W => print_make_of (P := Try.prog) 96 4 (.bool false) 1 Try.underlying96 info_bool rfl (by decide) xss.length (by omega) W
  clear hY hj0 hJ hJx hw hC hB h0 hD hD0 hW hS0 hSD
  refine (callsIn_wide (n := 0)).1 ?_
  refine callsIn_of_wp Try.func52 rfl trivial ?_ rfl
  simp only [Try.ntmps52, List.size_toArray, List.length_cons, List.length_nil, Nat.reduceAdd, Nat.reduceSub, Array.replicate_succ, Array.replicate_zero, List.push_toArray, List.append_toArray, List.nil_append, List.cons_append]
  obtain ⟨q0, -⟩ := HW.out S0 W HS.out
  have r0 : ∀ o, (W.alloc o).cell? ⟨b0, 0, none⟩ = some (.slice A0 xss.length c0) := fun o => pw_cell_below (below_alloc (Below.refl _ _) o) q0
  gi_wp2_with fail
  clear q0 r0 hmk
  have hR0 : Kd.R Kd.bool 4 (W.alloc (.cells (madeCells #[.bool false] xss.length) 4)) 0 (fun k => k = W.heap.size) (.slice (some ⟨W.heap.size, 0, none⟩) xss.length xss.length) (gsTo xss 0).1 := by
    refine Kd.R_of_own (enc := Value.bool) ?_ (fun k hk => by simpa [Value.ownBlock] using hk.symm)
    have h := own_made_of (enc := Value.bool) (d := false) W 0 4 xss.length (Nat.zero_le _) (by omega)
    rw [show (gsTo xss 0).1 = List.replicate xss.length false from rfl, List.length_replicate]
    exact h
  have HR0 := Aside0.mk hR0
  have HC0 := Aside0.mk (HS.out.step (below_alloc (Below.refl _ _) (.cells (madeCells #[.bool false] xss.length) 4)))
  have HJ1 := Aside0.mk (HJ.out _ _ _ _ HJ0.out (Keeps.of_all (below_alloc (Below.refl _ _) (.cells (madeCells #[.bool false] xss.length) 4))))
  have HN0 : Aside0 (¬ S0 W.heap.size) := ⟨fun h => by have := HS0.out _ h; omega⟩
  have HZ0 : Aside0 (W.heap.size < (W.alloc (.cells (madeCells #[.bool false] xss.length) 4)).heap.size) := ⟨by simp⟩
  obtain ⟨sb, hsb⟩ : ∃ sb, sb = W.heap.size := ⟨_, rfl⟩
  have HSB := Aside0.mk hsb
  rw [← hsb] at HR0 HN0 HZ0 ⊢
  clear hR0 HS HJ0 HS0 hsb
  generalize W.alloc (.cells (madeCells #[.bool false] xss.length) 4) = W1 at HR0 HC0 HJ1 HZ0 ⊢
  gi_loopg [14] xss.length (fun n v W1 => ∃ (i : Nat) (S : Nat → Prop), v = .int .i64 i ∧ Aside0 (i + n = xss.length) ∧ Aside0 (YCore S0 W S W1) ∧ Aside0 (¬ S sb) ∧ Aside0 (sb < W1.heap.size) ∧
    Aside0 (Kd.R Kd.bool 4 W1 0 (fun k => k = sb) (.slice (some ⟨sb, 0, none⟩) xss.length xss.length) (gsTo xss i).1) ∧ Aside0 (J (gsTo xss i).2 S W1))
  case atStart => exact ⟨0, S0, rfl, ⟨by simp⟩, HC0, HN0, HZ0, HR0, HJ1⟩
  case round =>
    clear HC0 HN0 HZ0 HR0 HJ1
    obtain ⟨i, S, rfl, HI, HCo, HN, HZ, HR, HJi⟩ := hrel
    by_cases c : (i : Int) < (xss.length : Int)
    · obtain ⟨q0, hB⟩ := HW.out S wr HCo.out
      have p1 : (0 : Int) ≤ (i : Int) := by omega
      obtain ⟨ad1, A1, c1, e1, hx0, hl1, hC1⟩ := at_L3 HC.out i p1 c
      cases e1
      rw [Int.toNat_natCast] at hx0
      replace hx0 := (hB.cell (World.block_lt_of_cell? w0 _ hx0)).trans hx0
      have hlt : i < xss.length := by omega
      have HLT := Aside0.mk hlt
      obtain ⟨hs0, -⟩ := Kd.R_celln false HR.out i p1 c
      rw [Int.toNat_natCast] at hs0
      have hrd : rdOf false (gsTo xss i).1 (i : Int) = (gsTo xss i).1.getD i false := by simp [rdOf]
      rw [hrd] at hs0
      have wrapI : wrap64 ((i : Int) + 1) = ((i + 1 : Nat) : Int) := by unfold wrap64; omega
      have hstep : Aside0 (gsTo xss (i + 1) = gsStep xss (gsTo xss i) i) := ⟨rfl⟩
      have hmem : (rd_L3 xss (i : Nat)).length ≤ 1000000 := hl _ (by simp [rd_L3, List.getD, hlt])
      have HML := Aside0.mk hmem
      clear hrd hB hmem
      replace p1 := eq_true p1
      replace c := eq_true c
      cases hsi : (gsTo xss i).1.getD i false with
      | true =>
        rw [hsi] at hs0
        have hg : Aside0 (gsTo xss (i + 1) = gsTo xss i) := ⟨by rw [hstep.out]; unfold gsStep; rw [hsi]; simp⟩
        clear hsi
        gi_wp2_with fail
        gi_roundg (gk - 1)
        case measure => have := HI.out; have := HLT.out; omega
        case rel => exact ⟨i + 1, S, by simp, ⟨by have := HI.out; have := HLT.out; omega⟩, HCo, HN, HZ, by rw [hg.out]; exact HR, by rw [hg.out]; exact HJi⟩
      | false =>
        rw [hsi] at hs0
        obtain ⟨xs, hxs⟩ : ∃ xs, xs = rd_L3 xss (i : Int) := ⟨_, rfl⟩
        have HXS := Aside0.mk hxs
        rw [← hxs] at hx0 hl1 hC1
        clear hxs
        cases xs with
        | nil =>
          have hg : Aside0 (gsTo xss (i + 1) = gsTo xss i) := ⟨by rw [hstep.out]; unfold gsStep; rw [hsi, ← HXS.out]; simp⟩
          clear hsi hl1 hC1
          simp only [List.length_nil] at hx0
          gi_wp2_with fail
          gi_roundg (gk - 1)
          case measure => have := HI.out; have := HLT.out; omega
          case rel => exact ⟨i + 1, S, by simp, ⟨by have := HI.out; have := HLT.out; omega⟩, HCo, HN, HZ, by rw [hg.out]; exact HR, by rw [hg.out]; exact HJi⟩
        | cons b xs =>
          have hg : Aside0 (gsTo xss (i + 1) = (markL (gsTo xss i).1 (groupL (xss.map uniL) i), (gsTo xss i).2 ++ [groupL (xss.map uniL) i])) := ⟨by rw [hstep.out]; unfold gsStep; rw [hsi, ← HXS.out]; simp⟩
          clear hsi hC1
          have hlen0 : (((b :: xs).length : Int) == 0) = false := by simp; omega
          generalize (b :: xs).length = m at hx0 hl1 hlen0
          obtain ⟨-, hB⟩ := HW.out S wr HCo.out
          have hgrp := group_any (some ad1) c0 xss i wr (Kd.C_below HC.out hB) hc0 hl hl2 HLT.out
          have HGM := Aside0.mk (groupL_mem (xss.map uniL) i)
          rw [List.length_map] at HGM
          have hgl := groupL_le (xss.map uniL) i
          rw [List.length_map] at hgl
          have HSP := Aside0.mk (groupsL_split xss HLT.out (by rw [hg.out]))
          generalize groupL (xss.map uniL) i = g at hg hgrp HGM HSP hgl
          have HGR := Aside0.mk hgrp
          clear hgrp hB
          gi_wp2_with fail
          clear hx0 hs0 q0
          refine ⟨trivial, rfl, (callsIn_wide (n := 0)).2 (HGR.out.mono ?_)⟩
          clear HGR
          rintro e W2 ⟨v, rfl, hR2, hB2⟩
          have hsw := HZ.out
          have hRg : Kd.R (Kd.int .i64) 3 W2 wr.heap.size (fun k => k ≠ sb) v g := Kd.R_mono (Kd.R_bound hR2) (fun k hk => by have := hk.2.1; omega)
          obtain ⟨A6, c6, e6, -⟩ := Kd.R_reads hRg
          subst e6
          have HG1 := Aside0.mk hRg
          have HC1 := Aside0.mk (HCo.out.step hB2)
          have HZ1 : Aside0 (sb < W2.heap.size) := ⟨Nat.lt_of_lt_of_le hsw hB2.size⟩
          have HR1 := Aside0.mk (Kd.R_below HR.out hB2)
          have HJ1 := Aside0.mk (HJ.out _ _ _ _ HJi.out (Keeps.of_all hB2))
          have hws := hB2.size
          have hnw : ∀ k, S k → k < wr.heap.size := fun k hk => (HCo.out.own k hk).1
          obtain ⟨zb, hzb⟩ : ∃ z, z = wr.heap.size := ⟨_, rfl⟩
          rw [← hzb] at HG1 hws hnw hsw
          have HWS := Aside0.mk hws
          have HNW := Aside0.mk hnw
          have HWR := Aside0.mk hsw
          clear hws hnw hzb
          clear hR2 hRg hB2 hsw
          gi_wp2_with fail
          clear HCo HZ HR HJi
          gi_loopg [33] g.length (fun n v W3 => ∃ j : Nat, v = .int .i64 j ∧ Aside0 (j + n = g.length) ∧ Aside0 (YCore S0 W S W3) ∧ Aside0 (sb < W3.heap.size) ∧ Aside0 (zb ≤ W3.heap.size) ∧
            Aside0 (Kd.R Kd.bool 4 W3 0 (fun k => k = sb) (.slice (some ⟨sb, 0, none⟩) xss.length xss.length) (markL (gsTo xss i).1 (g.take j))) ∧
            Aside0 (Kd.R (Kd.int .i64) 3 W3 zb (fun k => k ≠ sb) (.slice A6 g.length c6) g) ∧ Aside0 (J (gsTo xss i).2 S W3))
          case atStart => exact ⟨0, rfl, ⟨by simp⟩, HC1, HZ1, HWS, HR1, HG1, HJ1⟩
          case round =>
            clear HC1 HZ1 HR1 HG1 HJ1 HWS
            obtain ⟨j, rfl, HJ2, HC1, HZ1, HWS, HR1, HG1, HJ1⟩ := hrel
            by_cases cj : (j : Int) < (g.length : Int)
            · have p1 : (0 : Int) ≤ (j : Int) := by omega
              have hjl : j < g.length := by omega
              have HJL := Aside0.mk hjl
              obtain ⟨ad6, e6, hg0⟩ := ReadsOf.at_ (Kd.reads_of_C (enc := Value.int .i64) (d := (0 : Int)) (Kd.R_reads' HG1.out).2.2) (j : Int) p1 cj
              subst e6
              rw [Int.toNat_natCast, show rdOf 0 g (j : Int) = g.getD j 0 from by simp [rdOf]] at hg0
              obtain ⟨m0, m1⟩ := HGM.out (g.getD j 0) (by simp [List.getD, hjl])
              obtain ⟨hs0, hf0⟩ := Kd.R_celln false HR1.out (g.getD j 0) m0 m1
              have HPUT := Aside0.mk (Kd.R_putg HR1.out (g.getD j 0) true)
              rw [← markL_take _ _ _ hjl] at HPUT
              have HSET := Aside0.mk (fun u => HJ.out _ _ _ _ HJ1.out (show Keeps (fun k => S k ∨ k < W.heap.size) wr (wr.setCell ⟨sb, (g.getD j 0).toNat, none⟩ u) from (Keeps.refl _ _).setCell (fun h => by rcases h with h | h; exact absurd h HN.out; have := HSB.out; simp only at h; omega) u))
              have HCS := Aside0.mk (fun u => (⟨HC1.out.keeps.trans ((Keeps.refl _ _).setCell (fun h => by have := HSB.out; have := h.1; simp only at this; omega) u), fun k hk => ⟨by simpa [World.setCell] using (HC1.out.own k hk).1, (HC1.out.own k hk).2⟩⟩ : YCore S0 W S (wr.setCell ⟨sb, (g.getD j 0).toNat, none⟩ u)))
              have HGS := Aside0.mk (fun u => Kd.R_far (p := ⟨sb, (g.getD j 0).toNat, none⟩) HG1.out (fun k hk => hk) u)
              replace p1 := eq_true p1
              replace cj := eq_true cj
              replace m0 := eq_true m0
              replace m1 := eq_true m1
              generalize g.getD j 0 = kk at hg0 m0 m1 hs0 hf0 HPUT HSET HCS HGS
              gi_wp2_with fail
              gi_roundg (gk - 1)
              case measure => have := HJ2.out; have := HJL.out; omega
              case rel => exact ⟨j + 1, by simp, ⟨by have := HJ2.out; have := HJL.out; omega⟩, ⟨HCS.out _⟩, ⟨by simp [World.setCell]; exact HZ1.out⟩, ⟨by simp [World.setCell]; exact HWS.out⟩, ⟨HPUT.out.1⟩, ⟨HGS.out _⟩, ⟨HSET.out _⟩⟩
            · have c1 : (j < g.length) = False := eq_false (by omega)
              have c2 : ((j : Int) < (g.length : Int)) = False := eq_false cj
              have hjo : g.take j = g := List.take_of_length_le (by omega)
              rw [hjo] at HR1
              obtain ⟨post, hpost⟩ := HSP.out
              have hrel : RowRel g (.slice A6 g.length c6) S wr := Kd.R_lower (Kd.R_mono (Kd.R_bound HG1.out) (fun k hk hS => by have := HNW.out k hS; have := hk.2.1; omega)) (Nat.zero_le _)
              obtain ⟨fn, tmps, assign, body, hy, hR⟩ := HY.out _ g post (.slice A6 g.length c6) S _ hpost hrel HJ1.out HC1.out
              have HRY := Aside0.mk hR
              have HPo := Aside0.mk hpost
              clear cj hjo hR hpost hrel HSP
              change (Instr.yield l #[.slice A6 g.length c6]).run Try.prog _ = _ at hy
              gi_wp2_with fail
              refine ⟨rfl, (HRY.out _).mono ?_⟩
              clear HRY hy
              rintro e W3 ⟨S3, hs3, hk3, (⟨rfl, hj3⟩ | ⟨rfl, hx3⟩)⟩
              · have HC3 := Aside0.mk (HC1.out.yield hs3 hk3)
                have HJ3 := Aside0.mk hj3
                have HN3 : Aside0 (¬ S3 sb) := ⟨fun h => by rcases hs3 _ h with h | h; exact HN.out h; have := HZ1.out; omega⟩
                have HZ3 : Aside0 (sb < W3.heap.size) := ⟨Nat.lt_of_lt_of_le HZ1.out hk3.size⟩
                have HR3 := Aside0.mk (Kd.R_step HR1.out (fun k hk hlt => hk3.block k (by subst hk; exact HN.out) hlt))
                clear hs3 hk3 hj3
                gi_wp2_with fail
                gi_roundg (xss.length - (i + 1))
                case measure => have := HI.out; have := HLT.out; omega
                case rel => exact ⟨i + 1, S3, by simp, ⟨by have := HI.out; have := HLT.out; omega⟩, HC3, HN3, HZ3, by rw [hg.out]; exact HR3, by rw [hg.out]; exact HJ3⟩
              · have HC3 := Aside0.mk (HC1.out.yield hs3 hk3)
                have HX3 := Aside0.mk hx3
                clear hs3 hk3 hx3
                gi_wp2_with fail
                refine bodyPost_ret (results_none rfl _ _ _) rfl ?_
                exact ⟨⟨_, rfl⟩, HC3.out.keeps, S3, HC3.out.own, .inr ⟨_, ⟨post, by rw [HPo.out]; simp⟩, HX3.out⟩⟩
    · have c1 : (i < xss.length) = False := eq_false (by omega)
      have c2 : ((i : Int) < (xss.length : Int)) = False := eq_false c
      have hil : Aside0 ((gsTo xss i).2 = groupsL xss) := ⟨by have := HI.out; unfold groupsL; rw [show i = xss.length from by omega]⟩
      clear c
      gi_wp2_with fail
      go_end0
      exact ⟨⟨_, rfl⟩, HCo.out.keeps, S, HCo.out.own, .inl (by rw [← hil.out]; exact HJi.out)⟩
end Go.Proofs.Ytafhdamdkefpkaa

/- The tables by keys (uint64, int64): what a tree of nodes in memory is, and what each function over it answers. The tables by keys (uint64, int64), more: leaning, turning, evening. The tables by keys (uint64, int64), more: evening. The tables by keys (uint64, int64), more: finding, putting; a table's methods. The tables by keys (uint64, int64), more: going over all, in order. The tables by keys (uint64, int64), more: a table's Get and Put. -/
import Derived.Test.YtafhdamdkefpkaaKitAll
import Derived.Test.YtafhdamdkefpkaaProg
import Derived.WalkKit
import Derived.WalkLawsBesides
import Derived.Deep.QuietTactic
import Derived.BigQuiet
import Derived.Deep.RegionHeld3
import Derived.Lib.Hide
import Derived.Test.YtafhdamdkefpkaaWMore
import Derived.Shelf.Abstract
import Derived.Shelf.RegionOpen
import Derived.OwnWalkIn
import Derived.TacticsInMore
import Derived.LoopNIn
import Derived.LoopIn
import Derived.Sort.BigQuietIn
namespace Go.Proofs.Ytafhdamdkefpkaa
open Go.RowKit Go.Proofs.YtafhdamdkefpkaaW.PrintWords Go.Proofs.YtafhdamdkefpkaaW.PrintLast Go.Proofs.YtafhdamdkefpkaaW.PrintMore
attribute [local go_sem] max2_int min2_int max_two min_two
set_option linter.unusedVariables false
set_option linter.unusedSimpArgs false

/-- The order of two numbers, as Go's cmp.Compare tells it. -/
def icmp (a b : Int) : Int := if a < b then -1 else if b < a then 1 else 0

set_option maxHeartbeats 400000 in
theorem cmpu_any (a b : Int) (w : World) : Calls Try.prog 101 #[.int .u64 a, .int .u64 b] w fun e w' => e = .returned (.int .i64 (icmp a b)) ∧ w = w' := by
  by_cases h1 : a < b
  · have e : icmp a b = -1 := by simp [icmp, h1]
    rw [e]
    go_enter Try.func101, Try.ntmps101
    go_wp2
    go_ret
    exact ⟨rfl, rfl⟩
  · by_cases h2 : b < a
    · have e : icmp a b = 1 := by simp [icmp, h1, h2]
      rw [e]
      go_enter Try.func101, Try.ntmps101
      go_wp2
      go_ret
      exact ⟨rfl, rfl⟩
    · have e : icmp a b = 0 := by simp [icmp, h1, h2]
      rw [e]
      go_enter Try.func101, Try.ntmps101
      go_wp2
      go_ret
      exact ⟨rfl, rfl⟩

/-- A tree: keys, values. -/
inductive BT where
  | nil
  | node (k v : Int) (l r : BT)
namespace BT
def height : BT → Nat
  | nil => 0
  | node _ _ l r => max l.height r.height + 1
def size : BT → Nat
  | nil => 0
  | node _ _ l r => l.size + r.size + 1
def list : BT → List (Int × Int)
  | nil => []
  | node k v l r => l.list ++ (k, v) :: r.list
theorem height_le : ∀ t : BT, t.height ≤ t.size
  | nil => Nat.le_refl _
  | node _ _ l r => by have := height_le l; have := height_le r; simp only [height, size]; omega
theorem size_list : ∀ t : BT, t.list.length = t.size
  | nil => rfl
  | node _ _ l r => by simp [list, size, size_list l, size_list r]; omega
end BT

/-- The value v is the tree t in W. -/
def IsBT (W : World) : Value → BT → Prop
  | v, .nil => v = .pointer none
  | v, .node k x l r => ∃ b lv rv, v = .pointer (some ⟨b, 0, none⟩) ∧ W.heap[b]? = some (.cells #[.int .u64 k, .int .i64 x, lv, rv, .int .i64 ((max l.height r.height + 1 : Nat) : Int), .int .i64 ((l.size + r.size + 1 : Nat) : Int)] 161 (0, 0)) ∧ IsBT W lv l ∧ IsBT W rv r

theorem IsBT.kept {S : Nat → Prop} {W W' : World} (hk : Keeps S W W') (hS : ∀ b cs f, W.heap[b]? = some (.cells cs 161 f) → S b) : ∀ {t : BT} {v : Value}, IsBT W v t → IsBT W' v t
  | .nil, _, h => h
  | .node _ _ _ _, _, ⟨b, lv, rv, hv, hb, hl, hr⟩ => ⟨b, lv, rv, hv, hk.at_ hb (hS b _ _ hb), hl.kept hk hS, hr.kept hk hS⟩
theorem IsBT.below {W W' : World} (hb : Below W.heap.size W W') {t : BT} {v : Value} (h : IsBT W v t) : IsBT W' v t := h.kept (S := fun _ => True) (Keeps.of_all hb) (fun _ _ _ _ => trivial)

theorem IsBT.ptr {W : World} {t : BT} {v : Value} (h : IsBT W v t) : ∃ p, v = .pointer p := by
  cases t with
  | nil => exact ⟨none, h⟩
  | node k x l r => obtain ⟨b, _, _, hv, _⟩ := h; exact ⟨_, hv⟩

theorem blk_cell_ {W : World} {b : Nat} {cs : Array Value} {T : TypeId} (h : W.heap[b]? = some (.cells cs T (0, 0))) (i : Nat) : W.cell? ⟨b, i, none⟩ = cs[i]? := by simp [World.cell?, h]
theorem blk_frozen_ {W : World} {b : Nat} {cs : Array Value} {T : TypeId} (h : W.heap[b]? = some (.cells cs T (0, 0))) (i : Nat) : W.frozen? ⟨b, i, none⟩ = false := by simp [World.frozen?, h]

/-- A node's cells. -/
theorem IsBT.cells {W : World} {b : Nat} {k x : Int} {lv rv : Value} {l r : BT} (hb : W.heap[b]? = some (.cells #[.int .u64 k, .int .i64 x, lv, rv, .int .i64 ((max l.height r.height + 1 : Nat) : Int), .int .i64 ((l.size + r.size + 1 : Nat) : Int)] 161 (0, 0))) :
    W.cell? ⟨b, 0, none⟩ = some (.int .u64 k) ∧ W.cell? ⟨b, 1, none⟩ = some (.int .i64 x) ∧ W.cell? ⟨b, 2, none⟩ = some lv ∧ W.cell? ⟨b, 3, none⟩ = some rv ∧
    W.cell? ⟨b, 4, none⟩ = some (.int .i64 ((max l.height r.height + 1 : Nat) : Int)) ∧ W.cell? ⟨b, 5, none⟩ = some (.int .i64 ((l.size + r.size + 1 : Nat) : Int)) :=
  ⟨blk_cell_ hb 0, blk_cell_ hb 1, blk_cell_ hb 2, blk_cell_ hb 3, blk_cell_ hb 4, blk_cell_ hb 5⟩

set_option maxHeartbeats 400000 in
theorem theight_any (t : BT) (v : Value) (w : World) (h : IsBT w v t) : Calls Try.prog 130 #[v] w fun e w' => e = .returned (.int .i64 (t.height : Int)) ∧ w = w' := by
  cases t with
  | nil =>
    obtain rfl := h
    go_enter Try.func130, Try.ntmps130
    go_wp2
    go_ret
    exact ⟨rfl, rfl⟩
  | node k x l r =>
    obtain ⟨b, lv, rv, rfl, hb, -, -⟩ := h
    obtain ⟨-, -, -, -, h4, -⟩ := IsBT.cells hb
    show Calls _ _ _ _ fun e w' => e = .returned (.int .i64 ((max l.height r.height + 1 : Nat) : Int)) ∧ _
    generalize hm : ((max l.height r.height + 1 : Nat) : Int) = m at h4 ⊢
    clear hm hb
    go_enter Try.func130, Try.ntmps130
    go_wp2
    go_ret
    exact ⟨rfl, rfl⟩

set_option maxHeartbeats 400000 in
theorem tsize_any (t : BT) (v : Value) (w : World) (h : IsBT w v t) : Calls Try.prog 131 #[v] w fun e w' => e = .returned (.int .i64 (t.size : Int)) ∧ w = w' := by
  cases t with
  | nil =>
    obtain rfl := h
    go_enter Try.func131, Try.ntmps131
    go_wp2
    go_ret
    exact ⟨rfl, rfl⟩
  | node k x l r =>
    obtain ⟨b, lv, rv, rfl, hb, -, -⟩ := h
    obtain ⟨-, -, -, -, -, h5⟩ := IsBT.cells hb
    show Calls _ _ _ _ fun e w' => e = .returned (.int .i64 ((l.size + r.size + 1 : Nat) : Int)) ∧ _
    generalize hm : ((l.size + r.size + 1 : Nat) : Int) = m at h5 ⊢
    clear hm hb
    go_enter Try.func131, Try.ntmps131
    go_wp2
    go_ret
    exact ⟨rfl, rfl⟩

set_option maxHeartbeats 800000 in
set_option maxRecDepth 100000 in
theorem tjoin_any (k x : Int) (l r : BT) (lv rv : Value) (w : World) (hl : IsBT w lv l) (hr : IsBT w rv r) (hs : l.size + r.size < 4611686018427387904) :
    Calls Try.prog 117 #[.int .u64 k, .int .i64 x, lv, rv] w fun e w' => ∃ v, e = .returned v ∧ IsBT w' v (.node k x l r) ∧ Below w.heap.size w w' := by
  have b1 := l.height_le
  have b2 := r.height_le
  obtain ⟨pl, rfl⟩ := hl.ptr
  obtain ⟨pr, rfl⟩ := hr.ptr
  have c1 := theight_any l _ w hl
  have c2 := theight_any r _ w hr
  have c3 := tsize_any l _ w hl
  have c4 := tsize_any r _ w hr
  have C1 := Lib.hid c1
  have C2 := Lib.hid c2
  have C3 := Lib.hid c3
  have C4 := Lib.hid c4
  clear c1 c2 c3 c4
  have b3 : (l.height : Int) < r.height ∨ ¬ (l.height : Int) < r.height := Classical.em _
  rcases b3 with b3 | b3
  all_goals
    go_enter Try.func117, Try.ntmps117
    go_wp2_with fail
    refine C1.out.mono ?_
    rintro e w' ⟨rfl, rfl⟩
    go_wp2_with fail
    refine C2.out.mono ?_
    rintro e w' ⟨rfl, rfl⟩
    go_wp2_with fail
    refine C3.out.mono ?_
    rintro e w' ⟨rfl, rfl⟩
    go_wp2_with fail
    refine C4.out.mono ?_
    rintro e w' ⟨rfl, rfl⟩
    go_wp2_with fail
    go_ret
    refine ⟨_, rfl, ⟨_, _, _, rfl, (World.alloc_heap_new w _).trans ?_, hl.below (below_alloc (Below.refl _ _) _), hr.below (below_alloc (Below.refl _ _) _)⟩, below_alloc (Below.refl _ _) _⟩
    congr 5
    simp
    omega

end Go.Proofs.Ytafhdamdkefpkaa

namespace Go.Proofs.Ytafhdamdkefpkaa
open Go.RowKit Go.Proofs.YtafhdamdkefpkaaW.PrintWords Go.Proofs.YtafhdamdkefpkaaW.PrintLast Go.Proofs.YtafhdamdkefpkaaW.PrintMore
attribute [local go_sem] max2_int min2_int max_two min_two
set_option linter.unusedVariables false
set_option linter.unusedSimpArgs false

def BT.lean : BT → Int
  | .nil => 0
  | .node _ _ l r => (l.height : Int) - r.height

theorem quiet_same {P : Program} {f : FuncId} {args : Array Value} {w : World} {n : Nat} {v : Value} (h : Calls P f args (w.drewN n) fun e w' => e = .returned v ∧ w.drewN n = w') :
    Calls P f args (w.drewN n) fun e w'' => e = .returned v ∧ ∃ m, w'' = w.drewN m := h.mono fun _ _ ⟨he, hm⟩ => ⟨he, n, hm.symm⟩

set_option maxRecDepth 100000 in
set_option maxHeartbeats 800000 in
theorem tlean_any (k x : Int) (l r : BT) (v : Value) (w : World) (h : IsBT w v (.node k x l r)) (hs : l.size + r.size < 4611686018427387904) :
    Calls Try.prog 132 #[v] w fun e w' => e = .returned (.int .i64 ((l.height : Int) - r.height)) ∧ ∃ n, w' = w.drewN n := by
  have b1 := l.height_le
  have b2 := r.height_le
  obtain ⟨b, lv, rv, rfl, hb, hl, hr⟩ := h
  obtain ⟨-, -, h2, h3, -, -⟩ := IsBT.cells hb
  clear hb
  obtain ⟨pl, rfl⟩ := hl.ptr
  obtain ⟨pr, rfl⟩ := hr.ptr
  have C1 := Aside0.mk (fun n => quiet_same (theight_any l _ _ (hl.below (pw_below_drewN (Below.refl _ _) n))))
  have C2 := Aside0.mk (fun n => quiet_same (theight_any r _ _ (hr.below (pw_below_drewN (Below.refl _ _) n))))
  clear hl hr
  go_enter Try.func132, Try.ntmps132
  go_wp2_with fail
  go_quiet ((go_at_call 130; first | (with_reducible exact C1.out _) | (with_reducible exact C2.out _)))
  go_wp2_with fail
  go_ret
  exact ⟨rfl, nq, rfl⟩

set_option maxRecDepth 100000 in
set_option maxHeartbeats 1600000 in
theorem tright_any (k x kl xl : Int) (ll lr r : BT) (v : Value) (w : World) (h : IsBT w v (.node k x (.node kl xl ll lr) r)) (hs : ll.size + lr.size + r.size < 1152921504606846976) :
    Calls Try.prog 133 #[v] w fun e w' => ∃ v', e = .returned v' ∧ IsBT w' v' (.node kl xl ll (.node k x lr r)) ∧ Below w.heap.size w w' := by
  obtain ⟨b, lv, rv, rfl, hb, hl, hr⟩ := h
  obtain ⟨bl, llv, lrv, rfl, hbl, hll, hlr⟩ := hl
  obtain ⟨h0, h1, h2, h3, -, -⟩ := IsBT.cells hb
  obtain ⟨g0, g1, g2, g3, -, -⟩ := IsBT.cells hbl
  clear hb hbl
  obtain ⟨pr, rfl⟩ := hr.ptr
  obtain ⟨pll, rfl⟩ := hll.ptr
  obtain ⟨plr, rfl⟩ := hlr.ptr
  have HR := Aside0.mk hr
  have HLL := Aside0.mk hll
  have HLR := Aside0.mk hlr
  clear hr hll hlr
  go_enter Try.func133, Try.ntmps133
  go_wp2_with fail
  go_region_held3 (fun w' => w'.cell? ⟨b, 0, none⟩ = some (.int .u64 k) ∧ w'.cell? ⟨b, 1, none⟩ = some (.int .i64 x) ∧ w'.cell? ⟨b, 3, none⟩ = some (.pointer pr) ∧ w'.cell? ⟨bl, 0, none⟩ = some (.int .u64 kl) ∧ w'.cell? ⟨bl, 1, none⟩ = some (.int .i64 xl) ∧ w'.cell? ⟨bl, 2, none⟩ = some (.pointer pll) ∧ w'.cell? ⟨bl, 3, none⟩ = some (.pointer plr)) (go_keep)
    (first
      | (go_at_call 117; (with_reducible refine (tjoin_any k x lr r (.pointer plr) (.pointer pr) w.drew (HLR.out.below (Below.refl _ _).drew) (HR.out.below (Below.refl _ _).drew) (by omega)).mono ?_); rintro e w1 ⟨v1, rfl, hv1, hb1⟩; have HV1 := Aside0.mk hv1; have HB1 := Aside0.mk ((Below.refl w.heap.size w).drew.trans hb1); clear hv1; have q0 := pw_cell_below HB1.out h0; have q1 := pw_cell_below HB1.out h1; have q3 := pw_cell_below HB1.out h3; have p0 := pw_cell_below HB1.out g0; have p1 := pw_cell_below HB1.out g1; have p2 := pw_cell_below HB1.out g2; have p3 := pw_cell_below HB1.out g3; clear hb1)
      | (go_at_call 117; (with_reducible refine (tjoin_any kl xl ll (.node k x lr r) (.pointer pll) _ _ (HLL.out.below HB1.out) HV1.out (by simp only [BT.size]; omega)).mono ?_); rintro e w2 ⟨v2, rfl, hv2, hb2⟩; have HV2 := Aside0.mk hv2; have HB2 := Aside0.mk (below_step HB1.out hb2); clear hv2; have q0 := pw_cell_below HB2.out h0; have q1 := pw_cell_below HB2.out h1; have q3 := pw_cell_below HB2.out h3; have p0 := pw_cell_below HB2.out g0; have p1 := pw_cell_below HB2.out g1; have p2 := pw_cell_below HB2.out g2; have p3 := pw_cell_below HB2.out g3; clear hb2))
  go_wp2_with fail
  go_ret
  exact ⟨_, rfl, HV2.out, HB2.out⟩

set_option maxRecDepth 100000 in
set_option maxHeartbeats 1600000 in
theorem tleft_any (k x kr xr : Int) (l rl rr : BT) (v : Value) (w : World) (h : IsBT w v (.node k x l (.node kr xr rl rr))) (hs : l.size + rl.size + rr.size < 1152921504606846976) :
    Calls Try.prog 134 #[v] w fun e w' => ∃ v', e = .returned v' ∧ IsBT w' v' (.node kr xr (.node k x l rl) rr) ∧ Below w.heap.size w w' := by
  obtain ⟨b, lv, rv, rfl, hb, hl, hr⟩ := h
  obtain ⟨br, rlv, rrv, rfl, hbr, hrl, hrr⟩ := hr
  obtain ⟨h0, h1, h2, h3, -, -⟩ := IsBT.cells hb
  obtain ⟨g0, g1, g2, g3, -, -⟩ := IsBT.cells hbr
  clear hb hbr
  obtain ⟨pl, rfl⟩ := hl.ptr
  obtain ⟨prl, rfl⟩ := hrl.ptr
  obtain ⟨prr, rfl⟩ := hrr.ptr
  have HL := Aside0.mk hl
  have HRL := Aside0.mk hrl
  have HRR := Aside0.mk hrr
  clear hl hrl hrr
  go_enter Try.func134, Try.ntmps134
  go_wp2_with fail
  go_region_held3 (fun w' => w'.cell? ⟨b, 0, none⟩ = some (.int .u64 k) ∧ w'.cell? ⟨b, 1, none⟩ = some (.int .i64 x) ∧ w'.cell? ⟨b, 2, none⟩ = some (.pointer pl) ∧ w'.cell? ⟨br, 0, none⟩ = some (.int .u64 kr) ∧ w'.cell? ⟨br, 1, none⟩ = some (.int .i64 xr) ∧ w'.cell? ⟨br, 2, none⟩ = some (.pointer prl) ∧ w'.cell? ⟨br, 3, none⟩ = some (.pointer prr)) (go_keep)
    (first
      | (go_at_call 117; (with_reducible refine (tjoin_any k x l rl (.pointer pl) (.pointer prl) w.drew (HL.out.below (Below.refl _ _).drew) (HRL.out.below (Below.refl _ _).drew) (by omega)).mono ?_); rintro e w1 ⟨v1, rfl, hv1, hb1⟩; have HV1 := Aside0.mk hv1; have HB1 := Aside0.mk ((Below.refl w.heap.size w).drew.trans hb1); clear hv1; have q0 := pw_cell_below HB1.out h0; have q1 := pw_cell_below HB1.out h1; have q2 := pw_cell_below HB1.out h2; have p0 := pw_cell_below HB1.out g0; have p1 := pw_cell_below HB1.out g1; have p2 := pw_cell_below HB1.out g2; have p3 := pw_cell_below HB1.out g3; clear hb1)
      | (go_at_call 117; (with_reducible refine (tjoin_any kr xr (.node k x l rl) rr _ (.pointer prr) _ HV1.out (HRR.out.below HB1.out) (by simp only [BT.size]; omega)).mono ?_); rintro e w2 ⟨v2, rfl, hv2, hb2⟩; have HV2 := Aside0.mk hv2; have HB2 := Aside0.mk (below_step HB1.out hb2); clear hv2; have q0 := pw_cell_below HB2.out h0; have q1 := pw_cell_below HB2.out h1; have q2 := pw_cell_below HB2.out h2; have p0 := pw_cell_below HB2.out g0; have p1 := pw_cell_below HB2.out g1; have p2 := pw_cell_below HB2.out g2; have p3 := pw_cell_below HB2.out g3; clear hb2))
  go_wp2_with fail
  go_ret
  exact ⟨_, rfl, HV2.out, HB2.out⟩

end Go.Proofs.Ytafhdamdkefpkaa

namespace Go.Proofs.Ytafhdamdkefpkaa
open Go.RowKit Go.Proofs.YtafhdamdkefpkaaW.PrintWords Go.Proofs.YtafhdamdkefpkaaW.PrintLast Go.Proofs.YtafhdamdkefpkaaW.PrintMore
set_option linter.unusedVariables false
set_option linter.unusedSimpArgs false

/-- What 'even' gives: the same list. -/
def Evened (k x : Int) (l r : BT) (w : World) (e : Ending) (w' : World) : Prop := ∃ v t, e = .returned v ∧ IsBT w' v t ∧ t.list = l.list ++ (k, x) :: r.list ∧ Below w.heap.size w w'

theorem tlean_b (k x : Int) (l r : BT) (v : Value) (w : World) (h : IsBT w v (.node k x l r)) (hs : l.size + r.size < 4611686018427387904) :
    Calls Try.prog 132 #[v] w fun e w' => e = .returned (.int .i64 ((l.height : Int) - r.height)) ∧ Below w.heap.size w w' :=
  (tlean_any k x l r v w h hs).mono fun e w' ⟨he, n, hn⟩ => ⟨he, by rw [hn]; exact pw_below_drewN (Below.refl _ _) n⟩

set_option maxRecDepth 100000 in
set_option maxHeartbeats 1600000 in
theorem teven_0 (k x : Int) (l r : BT) (pl pr : Option Addr) (w : World) (hl : IsBT w (.pointer pl) l) (hr : IsBT w (.pointer pr) r) (hs : (l).size + (r).size < 1073741824) (c1 : (l.height : Int) - r.height ≤ 1) (c2 : -1 ≤ (l.height : Int) - r.height) :
    Calls Try.prog 118 #[.int .u64 k, .int .i64 x, .pointer pl, .pointer pr] w (Evened k x l r w) := by
  have b1 := (l).height_le
  have b2 := (r).height_le
  have HL := Aside0.mk hl
  have HR := Aside0.mk hr
  have J := Aside0.mk (tjoin_any k x l r (.pointer pl) (.pointer pr) w hl hr (by omega))
  clear hl hr
  go_enter Try.func118, Try.ntmps118
  go_wp2_with fail
  refine J.out.mono ?_
  rintro e w1 ⟨v1, rfl, hv1, hb1⟩
  have HV1 := Aside0.mk hv1
  have HB1 := Aside0.mk hb1
  clear hv1 hb1 J
  go_wp2_with fail
  refine (tlean_b k x l r _ _ HV1.out (by first | omega | (simp only [BT.size] at hs ⊢; omega))).mono ?_
  rintro e u1 ⟨rfl, hn1⟩
  have HV2 := Aside0.mk (HV1.out.below hn1)
  have HB2 := Aside0.mk (below_step HB1.out hn1)
  clear hn1
  go_wp2_with fail
  refine (tlean_b k x l r _ _ HV2.out (by first | omega | (simp only [BT.size] at hs ⊢; omega))).mono ?_
  rintro e u2 ⟨rfl, hn2⟩
  have HV3 := Aside0.mk (HV2.out.below hn2)
  have HB3 := Aside0.mk (below_step HB2.out hn2)
  clear hn2
  go_wp2_with fail
  refine (tlean_b k x l r _ _ HV3.out (by first | omega | (simp only [BT.size] at hs ⊢; omega))).mono ?_
  rintro e u3 ⟨rfl, hn3⟩
  have HV4 := Aside0.mk (HV3.out.below hn3)
  have HB4 := Aside0.mk (below_step HB3.out hn3)
  clear hn3
  go_wp2_with fail
  refine (tlean_b k x l r _ _ HV4.out (by first | omega | (simp only [BT.size] at hs ⊢; omega))).mono ?_
  rintro e u4 ⟨rfl, hn4⟩
  have HV5 := Aside0.mk (HV4.out.below hn4)
  have HB5 := Aside0.mk (below_step HB4.out hn4)
  clear hn4
  go_wp2_with fail
  go_ret
  exact ⟨_, _, rfl, HV5.out, rfl, HB5.out⟩

set_option maxRecDepth 100000 in
set_option maxHeartbeats 1600000 in
theorem teven_l (k x : Int) (kl xl : Int) (ll lr : BT) (r : BT) (pl pr : Option Addr) (w : World) (hl : IsBT w (.pointer pl) (.node kl xl ll lr)) (hr : IsBT w (.pointer pr) r) (hs : ((.node kl xl ll lr) : BT).size + (r).size < 1073741824) (c1 : 1 < (((.node kl xl ll lr) : BT).height : Int) - r.height) (c2 : 0 ≤ (ll.height : Int) - lr.height) :
    Calls Try.prog 118 #[.int .u64 k, .int .i64 x, .pointer pl, .pointer pr] w (Evened k x (.node kl xl ll lr) r w) := by
  have b1 := ((.node kl xl ll lr) : BT).height_le
  have b2 := (r).height_le
  have HL := Aside0.mk hl
  have HR := Aside0.mk hr
  have J := Aside0.mk (tjoin_any k x (.node kl xl ll lr) r (.pointer pl) (.pointer pr) w hl hr (by omega))
  clear hl hr
  have b3 := ll.height_le
  have b4 := lr.height_le
  go_enter Try.func118, Try.ntmps118
  go_wp2_with fail
  refine J.out.mono ?_
  rintro e w1 ⟨v1, rfl, hv1, hb1⟩
  have HV1 := Aside0.mk hv1
  have HB1 := Aside0.mk hb1
  clear hv1 hb1 J
  go_wp2_with fail
  refine (tlean_b k x (.node kl xl ll lr) r _ _ HV1.out (by first | omega | (simp only [BT.size] at hs ⊢; omega))).mono ?_
  rintro e u1 ⟨rfl, hn1⟩
  have HV2 := Aside0.mk (HV1.out.below hn1)
  have HB2 := Aside0.mk (below_step HB1.out hn1)
  clear hn1
  go_wp2_with fail
  refine (tlean_b kl xl ll lr _ _ (HL.out.below HB2.out) (by first | omega | (simp only [BT.size] at hs ⊢; omega))).mono ?_
  rintro e u2 ⟨rfl, hn2⟩
  have HV3 := Aside0.mk (HV2.out.below hn2)
  have HB3 := Aside0.mk (below_step HB2.out hn2)
  clear hn2
  go_wp2_with fail
  refine (tlean_b k x (.node kl xl ll lr) r _ _ HV3.out (by first | omega | (simp only [BT.size] at hs ⊢; omega))).mono ?_
  rintro e u3 ⟨rfl, hn3⟩
  have HV4 := Aside0.mk (HV3.out.below hn3)
  have HB4 := Aside0.mk (below_step HB3.out hn3)
  clear hn3
  go_wp2_with fail
  refine (tright_any k x kl xl ll lr r _ _ HV4.out (by first | omega | (simp only [BT.size] at hs ⊢; omega))).mono ?_
  rintro e w9 ⟨v9, rfl, hv9, hb9⟩
  go_wp2_with fail
  go_ret
  exact ⟨_, _, rfl, hv9, by simp [BT.list], below_step HB4.out hb9⟩

set_option maxRecDepth 100000 in
set_option maxHeartbeats 1600000 in
theorem teven_ll (k x : Int) (kl xl km xm : Int) (ll ml mr : BT) (r : BT) (pl pr : Option Addr) (w : World) (hl : IsBT w (.pointer pl) (.node kl xl ll (.node km xm ml mr))) (hr : IsBT w (.pointer pr) r) (hs : ((.node kl xl ll (.node km xm ml mr)) : BT).size + (r).size < 1073741824) (c1 : 1 < (((.node kl xl ll (.node km xm ml mr)) : BT).height : Int) - r.height) (c2 : (ll.height : Int) - ((BT.node km xm ml mr).height : Int) < 0) :
    Calls Try.prog 118 #[.int .u64 k, .int .i64 x, .pointer pl, .pointer pr] w (Evened k x (.node kl xl ll (.node km xm ml mr)) r w) := by
  have b1 := ((.node kl xl ll (.node km xm ml mr)) : BT).height_le
  have b2 := (r).height_le
  have HL := Aside0.mk hl
  have HR := Aside0.mk hr
  have J := Aside0.mk (tjoin_any k x (.node kl xl ll (.node km xm ml mr)) r (.pointer pl) (.pointer pr) w hl hr (by omega))
  clear hl hr
  have b3 := ll.height_le
  have b4 := (BT.node km xm ml mr).height_le
  go_enter Try.func118, Try.ntmps118
  go_wp2_with fail
  refine J.out.mono ?_
  rintro e w1 ⟨v1, rfl, hv1, hb1⟩
  have HV1 := Aside0.mk hv1
  have HB1 := Aside0.mk hb1
  clear hv1 hb1 J
  go_wp2_with fail
  refine (tlean_b k x (.node kl xl ll (.node km xm ml mr)) r _ _ HV1.out (by first | omega | (simp only [BT.size] at hs ⊢; omega))).mono ?_
  rintro e u1 ⟨rfl, hn1⟩
  have HV2 := Aside0.mk (HV1.out.below hn1)
  have HB2 := Aside0.mk (below_step HB1.out hn1)
  clear hn1
  go_wp2_with fail
  refine (tlean_b kl xl ll (.node km xm ml mr) _ _ (HL.out.below HB2.out) (by first | omega | (simp only [BT.size] at hs ⊢; omega))).mono ?_
  rintro e u2 ⟨rfl, hn2⟩
  have HV3 := Aside0.mk (HV2.out.below hn2)
  have HB3 := Aside0.mk (below_step HB2.out hn2)
  clear hn2
  go_wp2_with fail
  refine (tleft_any kl xl km xm ll ml mr _ _ (HL.out.below HB3.out) (by first | omega | (simp only [BT.size] at hs ⊢; omega))).mono ?_
  rintro e w7 ⟨v7, rfl, hv7, hb7⟩
  have HV7 := Aside0.mk hv7
  have HB7 := Aside0.mk (below_step HB3.out hb7)
  clear hv7 hb7
  go_wp2_with fail
  refine (tjoin_any k x _ r _ _ _ HV7.out (HR.out.below HB7.out) (by first | omega | (simp only [BT.size] at hs ⊢; omega))).mono ?_
  rintro e w8 ⟨v8, rfl, hv8, hb8⟩
  have HV8 := Aside0.mk hv8
  have HB8 := Aside0.mk (below_step HB7.out hb8)
  clear hv8 hb8
  go_wp2_with fail
  refine (tright_any k x km xm _ mr r _ _ HV8.out (by first | omega | (simp only [BT.size] at hs ⊢; omega))).mono ?_
  rintro e w9 ⟨v9, rfl, hv9, hb9⟩
  go_wp2_with fail
  go_ret
  exact ⟨_, _, rfl, hv9, by simp [BT.list], below_step HB8.out hb9⟩

set_option maxRecDepth 100000 in
set_option maxHeartbeats 1600000 in
theorem teven_r (k x : Int) (kr xr : Int) (rl rr : BT) (l : BT) (pl pr : Option Addr) (w : World) (hl : IsBT w (.pointer pl) l) (hr : IsBT w (.pointer pr) (.node kr xr rl rr)) (hs : (l).size + ((.node kr xr rl rr) : BT).size < 1073741824) (c1 : (l.height : Int) - (((.node kr xr rl rr) : BT).height : Int) < -1) (c2 : (rl.height : Int) - rr.height ≤ 0) :
    Calls Try.prog 118 #[.int .u64 k, .int .i64 x, .pointer pl, .pointer pr] w (Evened k x l (.node kr xr rl rr) w) := by
  have b1 := (l).height_le
  have b2 := ((.node kr xr rl rr) : BT).height_le
  have HL := Aside0.mk hl
  have HR := Aside0.mk hr
  have J := Aside0.mk (tjoin_any k x l (.node kr xr rl rr) (.pointer pl) (.pointer pr) w hl hr (by omega))
  clear hl hr
  have b3 := rl.height_le
  have b4 := rr.height_le
  go_enter Try.func118, Try.ntmps118
  go_wp2_with fail
  refine J.out.mono ?_
  rintro e w1 ⟨v1, rfl, hv1, hb1⟩
  have HV1 := Aside0.mk hv1
  have HB1 := Aside0.mk hb1
  clear hv1 hb1 J
  go_wp2_with fail
  refine (tlean_b k x l (.node kr xr rl rr) _ _ HV1.out (by first | omega | (simp only [BT.size] at hs ⊢; omega))).mono ?_
  rintro e u1 ⟨rfl, hn1⟩
  have HV2 := Aside0.mk (HV1.out.below hn1)
  have HB2 := Aside0.mk (below_step HB1.out hn1)
  clear hn1
  go_wp2_with fail
  refine (tlean_b k x l (.node kr xr rl rr) _ _ HV2.out (by first | omega | (simp only [BT.size] at hs ⊢; omega))).mono ?_
  rintro e u2 ⟨rfl, hn2⟩
  have HV3 := Aside0.mk (HV2.out.below hn2)
  have HB3 := Aside0.mk (below_step HB2.out hn2)
  clear hn2
  go_wp2_with fail
  refine (tlean_b k x l (.node kr xr rl rr) _ _ HV3.out (by first | omega | (simp only [BT.size] at hs ⊢; omega))).mono ?_
  rintro e u3 ⟨rfl, hn3⟩
  have HV4 := Aside0.mk (HV3.out.below hn3)
  have HB4 := Aside0.mk (below_step HB3.out hn3)
  clear hn3
  go_wp2_with fail
  refine (tlean_b kr xr rl rr _ _ (HR.out.below HB4.out) (by first | omega | (simp only [BT.size] at hs ⊢; omega))).mono ?_
  rintro e u4 ⟨rfl, hn4⟩
  have HV5 := Aside0.mk (HV4.out.below hn4)
  have HB5 := Aside0.mk (below_step HB4.out hn4)
  clear hn4
  go_wp2_with fail
  refine (tlean_b k x l (.node kr xr rl rr) _ _ HV5.out (by first | omega | (simp only [BT.size] at hs ⊢; omega))).mono ?_
  rintro e u5 ⟨rfl, hn5⟩
  have HV6 := Aside0.mk (HV5.out.below hn5)
  have HB6 := Aside0.mk (below_step HB5.out hn5)
  clear hn5
  go_wp2_with fail
  refine (tleft_any k x kr xr l rl rr _ _ HV6.out (by first | omega | (simp only [BT.size] at hs ⊢; omega))).mono ?_
  rintro e w9 ⟨v9, rfl, hv9, hb9⟩
  go_wp2_with fail
  go_ret
  exact ⟨_, _, rfl, hv9, by simp [BT.list], below_step HB6.out hb9⟩

set_option maxRecDepth 100000 in
set_option maxHeartbeats 1600000 in
theorem teven_rr (k x : Int) (kr xr km xm : Int) (ml mr rr : BT) (l : BT) (pl pr : Option Addr) (w : World) (hl : IsBT w (.pointer pl) l) (hr : IsBT w (.pointer pr) (.node kr xr (.node km xm ml mr) rr)) (hs : (l).size + ((.node kr xr (.node km xm ml mr) rr) : BT).size < 1073741824) (c1 : (l.height : Int) - (((.node kr xr (.node km xm ml mr) rr) : BT).height : Int) < -1) (c2 : 0 < ((BT.node km xm ml mr).height : Int) - rr.height) :
    Calls Try.prog 118 #[.int .u64 k, .int .i64 x, .pointer pl, .pointer pr] w (Evened k x l (.node kr xr (.node km xm ml mr) rr) w) := by
  have b1 := (l).height_le
  have b2 := ((.node kr xr (.node km xm ml mr) rr) : BT).height_le
  have HL := Aside0.mk hl
  have HR := Aside0.mk hr
  have J := Aside0.mk (tjoin_any k x l (.node kr xr (.node km xm ml mr) rr) (.pointer pl) (.pointer pr) w hl hr (by omega))
  clear hl hr
  have b3 := (BT.node km xm ml mr).height_le
  have b4 := rr.height_le
  go_enter Try.func118, Try.ntmps118
  go_wp2_with fail
  refine J.out.mono ?_
  rintro e w1 ⟨v1, rfl, hv1, hb1⟩
  have HV1 := Aside0.mk hv1
  have HB1 := Aside0.mk hb1
  clear hv1 hb1 J
  go_wp2_with fail
  refine (tlean_b k x l (.node kr xr (.node km xm ml mr) rr) _ _ HV1.out (by first | omega | (simp only [BT.size] at hs ⊢; omega))).mono ?_
  rintro e u1 ⟨rfl, hn1⟩
  have HV2 := Aside0.mk (HV1.out.below hn1)
  have HB2 := Aside0.mk (below_step HB1.out hn1)
  clear hn1
  go_wp2_with fail
  refine (tlean_b k x l (.node kr xr (.node km xm ml mr) rr) _ _ HV2.out (by first | omega | (simp only [BT.size] at hs ⊢; omega))).mono ?_
  rintro e u2 ⟨rfl, hn2⟩
  have HV3 := Aside0.mk (HV2.out.below hn2)
  have HB3 := Aside0.mk (below_step HB2.out hn2)
  clear hn2
  go_wp2_with fail
  refine (tlean_b k x l (.node kr xr (.node km xm ml mr) rr) _ _ HV3.out (by first | omega | (simp only [BT.size] at hs ⊢; omega))).mono ?_
  rintro e u3 ⟨rfl, hn3⟩
  have HV4 := Aside0.mk (HV3.out.below hn3)
  have HB4 := Aside0.mk (below_step HB3.out hn3)
  clear hn3
  go_wp2_with fail
  refine (tlean_b kr xr (.node km xm ml mr) rr _ _ (HR.out.below HB4.out) (by first | omega | (simp only [BT.size] at hs ⊢; omega))).mono ?_
  rintro e u4 ⟨rfl, hn4⟩
  have HV5 := Aside0.mk (HV4.out.below hn4)
  have HB5 := Aside0.mk (below_step HB4.out hn4)
  clear hn4
  go_wp2_with fail
  refine (tright_any kr xr km xm ml mr rr _ _ (HR.out.below HB5.out) (by first | omega | (simp only [BT.size] at hs ⊢; omega))).mono ?_
  rintro e w7 ⟨v7, rfl, hv7, hb7⟩
  have HV7 := Aside0.mk hv7
  have HB7 := Aside0.mk (below_step HB5.out hb7)
  clear hv7 hb7
  go_wp2_with fail
  refine (tjoin_any k x l _ _ _ _ (HL.out.below HB7.out) HV7.out (by first | omega | (simp only [BT.size] at hs ⊢; omega))).mono ?_
  rintro e w8 ⟨v8, rfl, hv8, hb8⟩
  have HV8 := Aside0.mk hv8
  have HB8 := Aside0.mk (below_step HB7.out hb8)
  clear hv8 hb8
  go_wp2_with fail
  refine (tleft_any k x km xm l ml _ _ _ HV8.out (by first | omega | (simp only [BT.size] at hs ⊢; omega))).mono ?_
  rintro e w9 ⟨v9, rfl, hv9, hb9⟩
  go_wp2_with fail
  go_ret
  exact ⟨_, _, rfl, hv9, by simp [BT.list], below_step HB8.out hb9⟩

theorem teven_any (k x : Int) (l r : BT) (lv rv : Value) (w : World) (hl : IsBT w lv l) (hr : IsBT w rv r) (hs : l.size + r.size < 1073741824) :
    Calls Try.prog 118 #[.int .u64 k, .int .i64 x, lv, rv] w (Evened k x l r w) := by
  obtain ⟨pl, rfl⟩ := hl.ptr
  obtain ⟨pr, rfl⟩ := hr.ptr
  by_cases c1 : (l.height : Int) - r.height ≤ 1
  · by_cases c2 : -1 ≤ (l.height : Int) - r.height
    · exact teven_0 k x l r pl pr w hl hr hs c1 c2
    · cases r with
      | nil => simp only [BT.height] at c2; omega
      | node kr xr rl rr =>
        by_cases c3 : (rl.height : Int) - rr.height ≤ 0
        · exact teven_r k x kr xr rl rr l pl pr w hl hr hs (by omega) c3
        · cases rl with
          | nil => simp only [BT.height] at c3; omega
          | node km xm ml mr => exact teven_rr k x kr xr km xm ml mr rr l pl pr w hl hr hs (by omega) (by omega)
  · cases l with
    | nil => simp only [BT.height] at c1; omega
    | node kl xl ll lr =>
      by_cases c3 : 0 ≤ (ll.height : Int) - lr.height
      · exact teven_l k x kl xl ll lr r pl pr w hl hr hs (by omega) c3
      · cases lr with
        | nil => simp only [BT.height] at c3; omega
        | node km xm ml mr => exact teven_ll k x kl xl km xm ll ml mr r pl pr w hl hr hs (by omega) (by omega)
end Go.Proofs.Ytafhdamdkefpkaa

namespace Go.Proofs.Ytafhdamdkefpkaa
open Go.RowKit Go.Proofs.YtafhdamdkefpkaaW.PrintWords Go.Proofs.YtafhdamdkefpkaaW.PrintLast Go.Proofs.YtafhdamdkefpkaaW.PrintMore
set_option linter.unusedVariables false
set_option linter.unusedSimpArgs false

/-- A key's value, by the search's own way down. -/
def BT.find (k : Int) : BT → Option Int
  | .nil => none
  | .node k' x l r => if k < k' then l.find k else if k' < k then r.find k else some x

/-- What 'find' answers. -/
def Found (o : Option Int) (w : World) (e : Ending) (w' : World) : Prop :=
  w = w' ∧ match o with
  | none => e = .returned (.pointer none)
  | some x => ∃ b, e = .returned (.pointer (some ⟨b, 0, none⟩)) ∧ w.cell? ⟨b, 1, none⟩ = some (.int .i64 x)

set_option maxRecDepth 100000 in
set_option maxHeartbeats 1600000 in
theorem tfind_any (k : Int) (t : BT) (v : Value) (w : World) (h : IsBT w v t) : Calls Try.prog 104 #[v, .int .u64 k] w (Found (t.find k) w) := by
  have H := Aside0.mk h
  clear h
  go_enter Try.func104, Try.ntmps104
  go_wp2_with fail
  go_loopg [0, 5] t.size (fun n v c w' => ∃ t' : BT, Aside0 (IsBT w v t') ∧ Aside0 (t'.find k = t.find k) ∧ Aside0 (t'.size = n) ∧ Aside0 (w = w'))
  case atStart => exact ⟨t, H, ⟨rfl⟩, ⟨rfl⟩, ⟨rfl⟩⟩
  case round =>
    obtain ⟨t', ht, hf, hn, hw⟩ := hrel
    obtain rfl := hw.out
    clear hw
    cases t' with
    | nil =>
      have e := ht.out
      simp only [IsBT] at e
      subst e
      go_wp2_with fail
      go_ret
      rw [← hf.out]
      exact ⟨rfl, rfl⟩
    | node k' x l r =>
      obtain ⟨b, lv, rv, e, hb, hl, hr⟩ := ht.out
      subst e
      obtain ⟨h0, h1, h2, h3, -, -⟩ := IsBT.cells hb
      clear hb
      obtain ⟨pl, rfl⟩ := hl.ptr
      obtain ⟨pr, rfl⟩ := hr.ptr
      have HL := Aside0.mk hl
      have HR := Aside0.mk hr
      have H1 := Aside0.mk h1
      clear hl hr h1
      rcases Int.lt_trichotomy k k' with c | c | c
      · have ec : icmp k k' = -1 := by simp [icmp, c]
        have C := Aside0.mk (ec ▸ cmpu_any k k' w)
        have hf' : l.find k = t.find k := by rw [← hf.out, BT.find, if_pos c]
        have HF := Aside0.mk hf'
        clear hf' ec c
        go_wp2_with fail
        refine C.out.mono ?_
        rintro e w' ⟨rfl, rfl⟩
        go_wp2_with fail
        go_roundg l.size
        case measure => have := hn.out; simp only [BT.size] at this; omega
        case rel => exact ⟨l, HL, HF, ⟨rfl⟩, ⟨rfl⟩⟩
      · have ec : icmp k k' = 0 := by simp [icmp, c]
        have C := Aside0.mk (ec ▸ cmpu_any k k' w)
        have hf' : some x = t.find k := by rw [← hf.out, BT.find, if_neg (by omega), if_neg (by omega)]
        have HF := Aside0.mk hf'
        clear hf' ec
        have CK := Aside0.mk c
        clear c
        go_wp2_with fail
        refine C.out.mono ?_
        rintro e w' ⟨rfl, rfl⟩
        go_wp2_with fail
        go_ret
        rw [← HF.out]
        exact ⟨rfl, b, rfl, H1.out⟩
      · have ec : icmp k k' = 1 := by simp [icmp, c, Int.not_lt.2 (Int.le_of_lt c)]
        have C := Aside0.mk (ec ▸ cmpu_any k k' w)
        have hf' : r.find k = t.find k := by rw [← hf.out, BT.find, if_neg (by omega), if_pos c]
        have HF := Aside0.mk hf'
        clear hf' ec c
        go_wp2_with fail
        refine C.out.mono ?_
        rintro e w' ⟨rfl, rfl⟩
        go_wp2_with fail
        go_roundg r.size
        case measure => have := hn.out; simp only [BT.size] at this; omega
        case rel => exact ⟨r, HR, HF, ⟨rfl⟩, ⟨rfl⟩⟩

/-- What is put into a list by key. -/
def putL (k x : Int) : List (Int × Int) → List (Int × Int)
  | [] => [(k, x)]
  | (k', y) :: l => if k < k' then (k, x) :: (k', y) :: l else if k' < k then (k', y) :: putL k x l else (k, x) :: l
/-- The keys rise. -/
def Rising (l : List (Int × Int)) : Prop := l.Pairwise (fun a b => a.1 < b.1)

theorem putL_append_lt {k x k' y : Int} {l r : List (Int × Int)} (h : k < k') (hr : Rising (l ++ (k', y) :: r)) : putL k x (l ++ (k', y) :: r) = putL k x l ++ (k', y) :: r := by
  induction l with
  | nil => simp [putL, h]
  | cons p l ih =>
    obtain ⟨q, z⟩ := p
    simp only [List.cons_append, putL]
    have ih' := ih (List.Pairwise.of_cons hr)
    split
    · rfl
    · split
      · rw [ih']; rfl
      · rfl
theorem putL_append_gt {k x k' y : Int} {l r : List (Int × Int)} (h : k' < k) (hr : Rising (l ++ (k', y) :: r)) : putL k x (l ++ (k', y) :: r) = l ++ (k', y) :: putL k x r := by
  induction l with
  | nil => simp [putL, h, Int.not_lt.2 (Int.le_of_lt h)]
  | cons p l ih =>
    obtain ⟨q, z⟩ := p
    simp only [List.cons_append, putL]
    have hq : q < k' := (List.pairwise_cons.1 hr).1 (k', y) (by simp)
    rw [if_neg (by omega), if_pos (by omega), ih (List.Pairwise.of_cons hr)]
theorem putL_append_eq {k x y : Int} {l r : List (Int × Int)} (hr : Rising (l ++ (k, y) :: r)) : putL k x (l ++ (k, y) :: r) = l ++ (k, x) :: r := by
  induction l with
  | nil => simp [putL]
  | cons p l ih =>
    obtain ⟨q, z⟩ := p
    simp only [List.cons_append, putL]
    have hq : q < k := (List.pairwise_cons.1 hr).1 (k, y) (by simp)
    rw [if_neg (by omega), if_pos (by omega), ih (List.Pairwise.of_cons hr)]
theorem putL_length (k x : Int) (l : List (Int × Int)) : (putL k x l).length ≤ l.length + 1 := by
  induction l with
  | nil => simp [putL]
  | cons p l ih =>
    obtain ⟨q, z⟩ := p
    simp only [putL]
    split
    · simp
    · split
      · simp; omega
      · simp

/-- What 'put' gives. -/
def PutT (k x : Int) (t : BT) (w : World) (e : Ending) (w' : World) : Prop := ∃ v t', e = .returned v ∧ IsBT w' v t' ∧ t'.list = putL k x t.list ∧ Below w.heap.size w w'

set_option maxRecDepth 100000 in
set_option maxHeartbeats 3200000 in
theorem tput_any (k x : Int) (t : BT) : ∀ (v : Value) (w : World), IsBT w v t → Rising t.list → t.size < 536870912 → Calls Try.prog 105 #[v, .int .u64 k, .int .i64 x] w (PutT k x t w) := by
  induction t with
  | nil =>
    intro v w h hs hz
    obtain rfl := h
    go_enter Try.func105, Try.ntmps105
    go_wp2_with fail
    refine (tjoin_any k x .nil .nil _ _ w rfl rfl (by simp [BT.size])).mono ?_
    rintro e w1 ⟨v1, rfl, hv, hb⟩
    go_wp2_with fail
    go_ret
    exact ⟨_, _, rfl, hv, rfl, hb⟩
  | node k' y l r ihl ihr =>
    intro v w h hs hz
    obtain ⟨b, lv, rv, rfl, hb, hl, hr⟩ := h
    obtain ⟨h0, h1, h2, h3, -, -⟩ := IsBT.cells hb
    clear hb
    obtain ⟨pl, rfl⟩ := hl.ptr
    obtain ⟨pr, rfl⟩ := hr.ptr
    have hsl : Rising l.list := (List.pairwise_append.1 hs).1
    have hsr : Rising r.list := (List.pairwise_cons.1 (List.pairwise_append.1 hs).2.1).2
    simp only [BT.size] at hz
    have HL := Aside0.mk hl
    have HR := Aside0.mk hr
    have IL := Aside0.mk (fun w0 h => ihl (.pointer pl) w0 h hsl (by omega))
    have IR := Aside0.mk (fun w0 h => ihr (.pointer pr) w0 h hsr (by omega))
    have HS := Aside0.mk hs
    clear hl hr ihl ihr hsl hsr hs
    rcases Int.lt_trichotomy k k' with c | c | c
    · have ec : icmp k k' = -1 := by simp [icmp, c]
      have C := Aside0.mk (ec ▸ cmpu_any k k' w)
      have CK := Aside0.mk c
      clear ec c
      go_enter Try.func105, Try.ntmps105
      go_wp2_with fail
      refine C.out.mono ?_
      rintro e w' ⟨rfl, rfl⟩
      go_wp2_with fail
      go_region_held3 (fun w' => w'.cell? ⟨b, 0, none⟩ = some (.int .u64 k') ∧ w'.cell? ⟨b, 1, none⟩ = some (.int .i64 y) ∧ w'.cell? ⟨b, 2, none⟩ = some (.pointer pl) ∧ w'.cell? ⟨b, 3, none⟩ = some (.pointer pr)) (go_keep)
        (first
          | (go_at_call 105; (with_reducible refine (IL.out w.drew (HL.out.below (Below.refl _ _).drew)).mono ?_); rintro e w1 ⟨v1, t1, rfl, hv1, hl1, hb1⟩; have HV1 := Aside0.mk hv1; have HL1 := Aside0.mk hl1; have HB1 := Aside0.mk ((Below.refl w.heap.size w).drew.trans hb1); have HZ1 := Aside0.mk (by rw [← BT.size_list, ← BT.size_list, hl1]; exact putL_length k x l.list : t1.size ≤ l.size + 1); clear hv1 hl1; have q0 := pw_cell_below HB1.out h0; have q1 := pw_cell_below HB1.out h1; have q2 := pw_cell_below HB1.out h2; have q3 := pw_cell_below HB1.out h3; clear hb1)
          | (go_at_call 118; (with_reducible refine (teven_any k' y t1 r v1 (.pointer pr) w1 HV1.out (HR.out.below HB1.out) (by have := HZ1.out; omega)).mono ?_); rintro e w2 ⟨v2, t2, rfl, hv2, hl2, hb2⟩; have HV2 := Aside0.mk (⟨t2, hv2, hl2⟩ : ∃ t2, IsBT w2 v2 t2 ∧ t2.list = _); have HB2 := Aside0.mk (below_step HB1.out hb2); clear hv2 hl2; have q0 := pw_cell_below HB2.out h0; have q1 := pw_cell_below HB2.out h1; have q2 := pw_cell_below HB2.out h2; have q3 := pw_cell_below HB2.out h3; clear hb2))
      go_wp2_with fail
      go_ret
      obtain ⟨t2, hv2, hl2⟩ := HV2.out
      exact ⟨_, t2, rfl, hv2, by rw [hl2, HL1.out, BT.list, putL_append_lt CK.out HS.out], HB2.out⟩
    · subst c
      have ec : icmp k k = 0 := by simp [icmp]
      have C := Aside0.mk (ec ▸ cmpu_any k k w)
      clear ec
      go_enter Try.func105, Try.ntmps105
      go_wp2_with fail
      refine C.out.mono ?_
      rintro e w' ⟨rfl, rfl⟩
      go_wp2_with fail
      go_region_held3 (fun w' => w'.cell? ⟨b, 0, none⟩ = some (.int .u64 k) ∧ w'.cell? ⟨b, 1, none⟩ = some (.int .i64 y) ∧ w'.cell? ⟨b, 2, none⟩ = some (.pointer pl) ∧ w'.cell? ⟨b, 3, none⟩ = some (.pointer pr)) (go_keep)
        (first
          | (go_at_call 117; (with_reducible refine (tjoin_any k x l r (.pointer pl) (.pointer pr) w.drew (HL.out.below (Below.refl _ _).drew) (HR.out.below (Below.refl _ _).drew) (by omega)).mono ?_); rintro e w1 ⟨v1, rfl, hv1, hb1⟩; have HV1 := Aside0.mk hv1; have HB1 := Aside0.mk ((Below.refl w.heap.size w).drew.trans hb1); clear hv1; have q0 := pw_cell_below HB1.out h0; have q1 := pw_cell_below HB1.out h1; have q2 := pw_cell_below HB1.out h2; have q3 := pw_cell_below HB1.out h3; clear hb1))
      go_wp2_with fail
      go_ret
      exact ⟨_, _, rfl, HV1.out, by rw [BT.list, BT.list, putL_append_eq HS.out], HB1.out⟩
    · have ec : icmp k k' = 1 := by simp [icmp, c, Int.not_lt.2 (Int.le_of_lt c)]
      have C := Aside0.mk (ec ▸ cmpu_any k k' w)
      have CK := Aside0.mk c
      clear ec c
      go_enter Try.func105, Try.ntmps105
      go_wp2_with fail
      refine C.out.mono ?_
      rintro e w' ⟨rfl, rfl⟩
      go_wp2_with fail
      go_region_held3 (fun w' => w'.cell? ⟨b, 0, none⟩ = some (.int .u64 k') ∧ w'.cell? ⟨b, 1, none⟩ = some (.int .i64 y) ∧ w'.cell? ⟨b, 2, none⟩ = some (.pointer pl) ∧ w'.cell? ⟨b, 3, none⟩ = some (.pointer pr)) (go_keep)
        (first
          | (go_at_call 105; (with_reducible refine (IR.out w.drew (HR.out.below (Below.refl _ _).drew)).mono ?_); rintro e w1 ⟨v1, t1, rfl, hv1, hl1, hb1⟩; have HV1 := Aside0.mk hv1; have HL1 := Aside0.mk hl1; have HB1 := Aside0.mk ((Below.refl w.heap.size w).drew.trans hb1); have HZ1 := Aside0.mk (by rw [← BT.size_list, ← BT.size_list, hl1]; exact putL_length k x r.list : t1.size ≤ r.size + 1); clear hv1 hl1; have q0 := pw_cell_below HB1.out h0; have q1 := pw_cell_below HB1.out h1; have q2 := pw_cell_below HB1.out h2; have q3 := pw_cell_below HB1.out h3; clear hb1)
          | (go_at_call 118; (with_reducible refine (teven_any k' y l t1 (.pointer pl) v1 w1 (HL.out.below HB1.out) HV1.out (by have := HZ1.out; omega)).mono ?_); rintro e w2 ⟨v2, t2, rfl, hv2, hl2, hb2⟩; have HV2 := Aside0.mk (⟨t2, hv2, hl2⟩ : ∃ t2, IsBT w2 v2 t2 ∧ t2.list = _); have HB2 := Aside0.mk (below_step HB1.out hb2); clear hv2 hl2; have q0 := pw_cell_below HB2.out h0; have q1 := pw_cell_below HB2.out h1; have q2 := pw_cell_below HB2.out h2; have q3 := pw_cell_below HB2.out h3; clear hb2))
      go_wp2_with fail
      go_ret
      obtain ⟨t2, hv2, hl2⟩ := HV2.out
      exact ⟨_, t2, rfl, hv2, by rw [hl2, HL1.out, BT.list, putL_append_gt CK.out HS.out], HB2.out⟩
end Go.Proofs.Ytafhdamdkefpkaa

namespace Go.Proofs.Ytafhdamdkefpkaa
open Go.RowKit Go.Shelf Go.Proofs.YtafhdamdkefpkaaW.PrintWords Go.Proofs.YtafhdamdkefpkaaW.PrintLast Go.Proofs.YtafhdamdkefpkaaW.PrintMore
attribute [local go_sem] Oper.semAt_some
set_option linter.unusedVariables false
set_option linter.unusedSimpArgs false

/-- Between two yields: what the iterator's caller's blocks are (S), and what lies as it lay since the iterator was called in W. -/
structure YCore (S0 : Nat → Prop) (W : World) (S : Nat → Prop) (W1 : World) : Prop where
  keeps : Keeps (fun k => k < W.heap.size ∧ ¬ S0 k) W W1
  own : ∀ k, S k → k < W1.heap.size ∧ (S0 k ∨ W.heap.size ≤ k)
theorem YCore.start {S0 : Nat → Prop} {W : World} (h : ∀ k, S0 k → k < W.heap.size) : YCore S0 W S0 W := ⟨Keeps.refl _ _, fun k hk => ⟨h k hk, .inl hk⟩⟩
/-- The iterator's own steps: what is new, and blocks not the caller's. -/
theorem YCore.step {S0 S : Nat → Prop} {W W1 W2 : World} (h : YCore S0 W S W1) (hk : Below W1.heap.size W1 W2) : YCore S0 W S W2 :=
  ⟨h.keeps.trans (Keeps.of_all hk), fun k hS => ⟨Nat.lt_of_lt_of_le (h.own k hS).1 hk.size, (h.own k hS).2⟩⟩
/-- A yield's. -/
theorem YCore.yield {S0 S S' : Nat → Prop} {W W1 W2 : World} (h : YCore S0 W S W1) (h1 : ∀ k, S' k → S k ∨ (W1.heap.size ≤ k ∧ k < W2.heap.size)) (h2 : Keeps (fun k => ¬ S k) W1 W2) : YCore S0 W S' W2 := by
  refine ⟨h.keeps.trans (h2.mono (fun k hk _ hS => ?_)), fun k hS => ?_⟩
  · rcases (h.own k hS).2 with h3 | h3
    · exact hk.2 h3
    · omega
  · rcases h1 k hS with h3 | h3
    · exact ⟨Nat.lt_of_lt_of_le (h.own k h3).1 h2.size, (h.own k h3).2⟩
    · exact ⟨h3.2, .inr (by have := h.keeps.size; omega)⟩

section
variable {α : Type} {l : Nat} {encs : α → Array Value} {xs : List α} {S0 : Nat → Prop} {J Jx : List α → (Nat → Prop) → World → Prop} {W : World}

/-- How a piece of an iterator may end: all of ys has come, or it was told 'no more'. -/
def YEnd (S0 : Nat → Prop) (W : World) (J Jx : List α → (Nat → Prop) → World → Prop) (xs pre ys : List α) (e : Ending) (W' : World) : Prop :=
  ∃ S, YCore S0 W S W' ∧ ((e = .returned (.bool true) ∧ J (pre ++ ys) S W') ∨ (e = .returned (.bool false) ∧ ∃ q, q <+: xs ∧ Jx q S W'))
theorem YEnd.bool {α : Type} {xs pre ys : List α} {S0 : Nat → Prop} {J Jx : List α → (Nat → Prop) → World → Prop} {W W' : World} {e : Ending} (h : YEnd S0 W J Jx xs pre ys e W') :
    ∃ c : Bool, e = .returned (.bool c) ∧ ∃ S, YCore S0 W S W' ∧ ((c = true ∧ J (pre ++ ys) S W') ∨ (c = false ∧ ∃ q, q <+: xs ∧ Jx q S W')) := by
  obtain ⟨S, hc, ⟨he, hj⟩ | ⟨he, hx⟩⟩ := h
  · exact ⟨true, he, S, hc, .inl ⟨rfl, hj⟩⟩
  · exact ⟨false, he, S, hc, .inr ⟨rfl, hx⟩⟩
end

/-- A key and its value, as they are yielded. -/
def encKV (x : Int × Int) : Array Value := #[.int .u64 x.1, .int .i64 x.2]

theorem P_follows : Try.prog.follows .mixedOrders = true := by kernel_rfl

/-- Two operations that only read may come up: either way round they come to one end. -/
theorem any_two {F : Fence} {n : Nat} {P : Program} {md : Region.Mode} {ops : Array Oper} {Q : Exit → Act → World → Prop} {fuel : Nat} {listed : Array Bool} {a : Act} {w : World} {i j : Nat} {oi oj : Oper} {di dj : Tmp} (vi vj : Value)
    (hr : Region.ready md ops listed = [i, j]) (hri : Region.ready md ops (listed.setIfInBounds i true) = [j]) (hrj : Region.ready md ops (listed.setIfInBounds j true) = [i])
    (hi : ops[i]? = some oi) (hj : ops[j]? = some oj) (hdi : oi.dst = some di) (hdj : oj.dst = some dj) (hd : di ≠ dj)
    (ei : ∀ b, (b = a ∨ b = a.put (some dj) vj) → ∀ K : Act → World → Prop, K (b.put (some di) vi) w → wpOpIn F n P ops Q i K b w)
    (ej : ∀ b, (b = a ∨ b = a.put (some di) vi) → ∀ K : Act → World → Prop, K (b.put (some dj) vj) w → wpOpIn F n P ops Q j K b w)
    (h : wpAnyIn F n P md ops Q fuel ((listed.setIfInBounds i true).setIfInBounds j true) ((a.put (some di) vi).put (some dj) vj) w) : wpAnyIn F n P md ops Q (fuel + 2) listed a w := by
  refine ⟨fun h0 => (by rw [hr] at h0; cases h0), fun k hk => ?_⟩
  rw [hr] at hk
  have hcomm : (a.put (some dj) vj).put (some di) vi = (a.put (some di) vi).put (some dj) vj := by
    simp only [Act.put]
    congr 1
    apply Array.ext_getElem?
    intro t
    simp only [Array.getElem?_setIfInBounds, Array.size_setIfInBounds]
    by_cases h1 : di = t
    · subst h1; simp [Ne.symm hd]
    · simp [h1]
  have hl : (listed.setIfInBounds j true).setIfInBounds i true = (listed.setIfInBounds i true).setIfInBounds j true := by
    apply Array.ext_getElem?
    intro t
    simp only [Array.getElem?_setIfInBounds, Array.size_setIfInBounds]
    by_cases h1 : i = t <;> by_cases h2 : j = t <;> simp [h1, h2]
  rcases List.mem_cons.1 hk with rfl | hk
  · refine ei a (.inl rfl) _ ⟨fun h0 => (by rw [hri] at h0; cases h0), fun m hm => ?_⟩
    rw [hri] at hm
    obtain rfl := List.mem_singleton.1 hm
    exact ej _ (.inr rfl) _ h
  · obtain rfl := List.mem_singleton.1 hk
    refine ej a (.inl rfl) _ ⟨fun h0 => (by rw [hrj] at h0; cases h0), fun m hm => ?_⟩
    rw [hrj] at hm
    obtain rfl := List.mem_singleton.1 hm
    refine ei _ (.inr rfl) _ ?_
    rw [hcomm, hl]
    exact h

set_option maxRecDepth 100000 in
set_option maxHeartbeats 3200000 in
theorem trise_any (l : Nat) (xs : List (Int × Int)) (S0 : Nat → Prop) (J Jx : List (Int × Int) → (Nat → Prop) → World → Prop) (W : World) (hJ : Abides_ W.heap.size J)
    (hY : ∀ pre x post S W1, xs = pre ++ x :: post → J pre S W1 → YCore S0 W S W1 → Yields Try.prog l (encKV x) W1 (YPost J Jx (pre ++ [x]) S W1))
    (W0 : World) (D : Nat → Prop) (hW : Keeps D W0 W) (hSD : ∀ k, S0 k → ¬ D k) (hD : ∀ b cs f, W0.heap[b]? = some (.cells cs 161 f) → D b) (t : BT) :
    ∀ (v : Value) (pre post : List (Int × Int)) (S : Nat → Prop) (W1 : World), IsBT W0 v t → xs = pre ++ t.list ++ post → J pre S W1 → YCore S0 W S W1 →
      CallsIn Fence.wide 0 Try.prog 107 #[v, .pointer none, .func (.yield l) #[] #[]] W1 (YEnd S0 W J Jx xs pre t.list) := by
  induction t with
  | nil =>
    intro v pre post S W1 ht hx hj hc
    obtain rfl := ht
    refine callsIn_of_wp Try.func107 rfl trivial ?_ rfl
    simp only [Try.ntmps107, List.size_toArray, List.length_cons, List.length_nil, Nat.reduceAdd, Nat.reduceSub, Array.replicate_succ, Array.replicate_zero, List.push_toArray, List.append_toArray, List.nil_append, List.cons_append]
    gi_wp2
    go_ret
    exact ⟨S, hc, .inl ⟨rfl, by simpa [BT.list] using hj⟩⟩
  | node k x tl tr ihl ihr =>
    intro v pre post S W1 ht hx hj hc
    obtain ⟨b, lv, rv, rfl, hb, hl, hr⟩ := ht
    obtain ⟨pl, rfl⟩ := hl.ptr
    obtain ⟨pr, rfl⟩ := hr.ptr
    have N : Aside0 (∀ S2 W2, YCore S0 W S2 W2 → W2.cell? ⟨b, 0, none⟩ = some (.int .u64 k) ∧ W2.cell? ⟨b, 1, none⟩ = some (.int .i64 x) ∧ W2.cell? ⟨b, 2, none⟩ = some (.pointer pl) ∧ W2.cell? ⟨b, 3, none⟩ = some (.pointer pr)) :=
      ⟨fun S2 W2 h2 => by
        obtain ⟨h0, h1, h2, h3, -, -⟩ := IsBT.cells (h2.keeps.at_ (hW.at_ hb (hD b _ _ hb)) ⟨lt_of_heap (hW.at_ hb (hD b _ _ hb)), fun hs => hSD b hs (hD b _ _ hb)⟩)
        exact ⟨h0, h1, h2, h3⟩⟩
    have HY := Aside0.mk (fun S2 W2 hj hc => hY (pre ++ tl.list) (k, x) (tr.list ++ post) S2 W2 (by rw [hx]; simp [BT.list]) hj hc)
    have ih1 := Aside0.mk (fun W0 hj hc => ihl (.pointer pl) pre ((k, x) :: tr.list ++ post) S W0 hl (by rw [hx]; simp [BT.list]) hj hc)
    have ih2 := Aside0.mk (fun S2 W2 hj hc => ihr (.pointer pr) (pre ++ tl.list ++ [(k, x)]) post S2 W2 hr (by rw [hx]; simp [BT.list]) hj hc)
    have HJ := Aside0.mk (fun (W2 : World) (hb : Below W1.heap.size W1 W2) => hJ pre S W1 W2 hj (Keeps.of_all hb))
    have HC := Aside0.mk (fun (W2 : World) (hb : Below W1.heap.size W1 W2) => hc.step hb)
    have HX := Aside0.mk hx
    clear hb hl hr ihl ihr hD hY hj hc hx hJ hSD hW
    refine callsIn_of_wp Try.func107 rfl trivial ?_ rfl
    simp only [Try.ntmps107, List.size_toArray, List.length_cons, List.length_nil, Nat.reduceAdd, Nat.reduceSub, Array.replicate_succ, Array.replicate_zero, List.push_toArray, List.append_toArray, List.nil_append, List.cons_append]
    gi_wp2_with fail
    refine wpIn_region_quiet_lit rfl (by kernel_rfl) (by kernel_rfl) ?_
    repeat (gi_big_quiet_step (fail))
    refine BigFrame.wpQuietIn_skip (fun _ _ _ _ => trivial) (by simp [Region.wanted, yielded, go_sem]) ?_
    simp only [Act.put, List.setIfInBounds_toArray, List.set_cons_succ, List.set_cons_zero]
    repeat (gi_big_quiet_step (fail))
    refine wpQuietIn_nil ?_
    intro _ hw'
    obtain ⟨nq, hw''⟩ := hw'
    subst hw''
    gi_wp2_with fail
    refine wpIn_region_any P_follows ?_
    obtain ⟨Wd, hWd⟩ : ∃ Wd, (W1.drewN nq).drew = Wd := ⟨_, rfl⟩
    change wpAnyIn _ _ _ _ _ _ _ _ _ (W1.drewN nq).drew
    rw [hWd]
    have hbd : Below W1.heap.size W1 Wd := by rw [← hWd]; exact (pw_below_drewN (Below.refl _ _) nq).drew
    have hj1 := Aside0.mk (HJ.out Wd hbd)
    have hc1 := Aside0.mk (HC.out Wd hbd)
    clear hWd hbd HJ HC
    obtain ⟨d0, d1, d2, d3⟩ := N.out S Wd hc1.out
    refine wpAnyIn_take (i := 0) (v := ?_) rfl rfl (by kernel_rfl) (by kernel_rfl) (by kernel_rfl) (fun _ _ _ h => h) ⟨Or.inl ⟨by rfl, ?_⟩, fun _ => rfl⟩ ?_
    rotate_left
    · intro w; (go_simp; first | done | with_reducible rfl)
    simp only [List.getElem_toArray, List.getElem_cons_zero, List.getElem_cons_succ, Act.put, List.setIfInBounds_toArray, List.set_cons_succ, List.set_cons_zero]
    refine wpAnyIn_take (i := 1) (v := ?_) rfl rfl (by kernel_rfl) (by kernel_rfl) (by kernel_rfl) (fun _ _ _ h => h) ⟨Or.inl ⟨by rfl, ?_⟩, fun _ => rfl⟩ ?_
    rotate_left
    · intro w; (go_simp; first | done | with_reducible rfl)
    simp only [List.getElem_toArray, List.getElem_cons_zero, List.getElem_cons_succ, Act.put, List.setIfInBounds_toArray, List.set_cons_succ, List.set_cons_zero]
    refine wpAnyIn_take (i := 2) (v := ?_) rfl rfl (by kernel_rfl) (by kernel_rfl) (by kernel_rfl) (fun _ _ _ h => h) ⟨Or.inl ⟨by rfl, ?_⟩, fun _ => rfl⟩ ?_
    rotate_left
    · intro w; (go_simp; first | done | with_reducible rfl)
    simp only [List.getElem_toArray, List.getElem_cons_zero, List.getElem_cons_succ, Act.put, List.setIfInBounds_toArray, List.set_cons_succ, List.set_cons_zero]
    refine wpAnyIn_take (i := 4) (v := ?_) rfl rfl (by kernel_rfl) (by kernel_rfl) (by kernel_rfl) (fun _ _ _ h => h) ⟨Or.inl ⟨by rfl, ?_⟩, fun _ => rfl⟩ ?_
    rotate_left
    · intro w; (go_simp; first | done | with_reducible rfl)
    simp only [List.getElem_toArray, List.getElem_cons_zero, List.getElem_cons_succ, Act.put, List.setIfInBounds_toArray, List.set_cons_succ, List.set_cons_zero]
    refine wpAnyIn_take (i := 5) (v := ?_) rfl rfl (by kernel_rfl) (by kernel_rfl) (by kernel_rfl) (fun _ _ _ h => h) ⟨Or.inl ⟨by rfl, ?_⟩, fun _ => rfl⟩ ?_
    rotate_left
    · intro w; (go_simp; first | done | with_reducible rfl)
    simp only [List.getElem_toArray, List.getElem_cons_zero, List.getElem_cons_succ, Act.put, List.setIfInBounds_toArray, List.set_cons_succ, List.set_cons_zero]
    refine wpAnyIn_ready (rs := [3]) (by kernel_rfl) (by simp) (AllReadyIn.cons rfl (fun K hK => ?_) AllReadyIn.nil)
    go_simp
    refine hK _ _ ?_
    clear hK K
    refine wpAnyIn_ready (rs := [6]) (by kernel_rfl) (by simp) (AllReadyIn.cons rfl (fun K hK => ?_) AllReadyIn.nil)
    go_simp
    refine ⟨trivial, rfl, (ih1.out _ hj1.out hc1.out).mono ?_⟩
    clear ih1 hj1 hc1 d0 d1 d2 d3
    rintro e W2 ⟨S2, hc2, (⟨rfl, hj2⟩ | ⟨rfl, q, hq, hx2⟩)⟩
    · -- all of the left side has come
      obtain ⟨d0, d1, d2, d3⟩ := N.out S2 W2 hc2
      obtain ⟨fn, tmps, assign, body, hy, hR⟩ := HY.out S2 W2 hj2 hc2
      have HR := Aside0.mk hR
      have HC2 := Aside0.mk hc2
      clear hj2 hR hc2 HY
      change (Instr.yield l #[.int .u64 k, .int .i64 x]).run Try.prog W2 = _ at hy
      go_simp
      refine hK _ _ ?_
      clear hK K
      refine wpAnyIn_take (i := 7) (v := ?_) rfl rfl (by kernel_rfl) (by kernel_rfl) (by kernel_rfl) (fun _ _ _ h => h) ⟨Or.inl ⟨by rfl, ?_⟩, fun _ => rfl⟩ ?_
      rotate_left
      · intro w; (go_simp; first | done | with_reducible rfl)
      simp only [List.getElem_toArray, List.getElem_cons_zero, List.getElem_cons_succ, Act.put, List.setIfInBounds_toArray, List.set_cons_succ, List.set_cons_zero]
      refine wpAnyIn_take (i := 8) (v := ?_) rfl rfl (by kernel_rfl) (by kernel_rfl) (by kernel_rfl) (fun _ _ _ h => h) ⟨Or.inl ⟨by rfl, ?_⟩, fun _ => rfl⟩ ?_
      rotate_left
      · intro w; (go_simp; first | done | with_reducible rfl)
      simp only [List.getElem_toArray, List.getElem_cons_zero, List.getElem_cons_succ, Act.put, List.setIfInBounds_toArray, List.set_cons_succ, List.set_cons_zero]
      refine wpAnyIn_take (i := 9) (v := ?_) rfl rfl (by kernel_rfl) (by kernel_rfl) (by kernel_rfl) (fun _ _ _ h => h) ⟨Or.inl ⟨by rfl, ?_⟩, fun _ => rfl⟩ ?_
      rotate_left
      · intro w; (go_simp; first | done | with_reducible rfl)
      simp only [List.getElem_toArray, List.getElem_cons_zero, List.getElem_cons_succ, Act.put, List.setIfInBounds_toArray, List.set_cons_succ, List.set_cons_zero]
      refine wpAnyIn_take (i := 10) (v := ?_) rfl rfl (by kernel_rfl) (by kernel_rfl) (by kernel_rfl) (fun _ _ _ h => h) ⟨Or.inl ⟨by rfl, ?_⟩, fun _ => rfl⟩ ?_
      rotate_left
      · intro w; (go_simp; first | done | with_reducible rfl)
      simp only [List.getElem_toArray, List.getElem_cons_zero, List.getElem_cons_succ, Act.put, List.setIfInBounds_toArray, List.set_cons_succ, List.set_cons_zero]
      refine wpAnyIn_take (i := 11) (v := ?_) rfl rfl (by kernel_rfl) (by kernel_rfl) (by kernel_rfl) (fun _ _ _ h => h) ⟨Or.inl ⟨by rfl, ?_⟩, fun _ => rfl⟩ ?_
      rotate_left
      · intro w; (go_simp; first | done | with_reducible rfl)
      simp only [List.getElem_toArray, List.getElem_cons_zero, List.getElem_cons_succ, Act.put, List.setIfInBounds_toArray, List.set_cons_succ, List.set_cons_zero]
      refine wpAnyIn_take (i := 13) (v := ?_) rfl rfl (by kernel_rfl) (by kernel_rfl) (by kernel_rfl) (fun _ _ _ h => h) ⟨Or.inl ⟨by rfl, ?_⟩, fun _ => rfl⟩ ?_
      rotate_left
      · intro w; (go_simp; first | done | with_reducible rfl)
      simp only [List.getElem_toArray, List.getElem_cons_zero, List.getElem_cons_succ, Act.put, List.setIfInBounds_toArray, List.set_cons_succ, List.set_cons_zero]
      refine wpAnyIn_take (i := 14) (v := ?_) rfl rfl (by kernel_rfl) (by kernel_rfl) (by kernel_rfl) (fun _ _ _ h => h) ⟨Or.inl ⟨by rfl, ?_⟩, fun _ => rfl⟩ ?_
      rotate_left
      · intro w; (go_simp; first | done | with_reducible rfl)
      simp only [List.getElem_toArray, List.getElem_cons_zero, List.getElem_cons_succ, Act.put, List.setIfInBounds_toArray, List.set_cons_succ, List.set_cons_zero]
      refine wpAnyIn_take (i := 15) (v := ?_) rfl rfl (by kernel_rfl) (by kernel_rfl) (by kernel_rfl) (fun _ _ _ h => h) ⟨Or.inl ⟨by rfl, ?_⟩, fun _ => rfl⟩ ?_
      rotate_left
      · intro w; (go_simp; first | done | with_reducible rfl)
      simp only [List.getElem_toArray, List.getElem_cons_zero, List.getElem_cons_succ, Act.put, List.setIfInBounds_toArray, List.set_cons_succ, List.set_cons_zero]
      refine any_two (i := 12) (j := 16) (di := 41) (dj := 45) (.int .u64 k) (.int .i64 x) (by kernel_rfl) (by kernel_rfl) (by kernel_rfl) rfl rfl rfl rfl (by decide) ?_ ?_ ?_
      · rintro b (rfl | rfl) K hK
        · refine wpOpIn_step rfl (fun K' hK' => ?_)
          go_simp
          exact hK' _ _ hK
        · simp only [Act.put, List.setIfInBounds_toArray, List.set_cons_succ, List.set_cons_zero] at hK ⊢
          refine wpOpIn_step rfl (fun K' hK' => ?_)
          go_simp
          exact hK' _ _ hK
      · rintro b (rfl | rfl) K hK
        · refine wpOpIn_step rfl (fun K' hK' => ?_)
          go_simp
          exact hK' _ _ hK
        · simp only [Act.put, List.setIfInBounds_toArray, List.set_cons_succ, List.set_cons_zero] at hK ⊢
          refine wpOpIn_step rfl (fun K' hK' => ?_)
          go_simp
          exact hK' _ _ hK
      simp only [Act.put, List.setIfInBounds_toArray, List.set_cons_succ, List.set_cons_zero]
      refine wpAnyIn_ready (rs := [17]) (by kernel_rfl) (by simp) (AllReadyIn.cons rfl (fun K hK => ?_) AllReadyIn.nil)
      go_simp
      refine ⟨rfl, (HR.out _).mono ?_⟩
      clear HR hy d0 d1 d2 d3
      rintro e W3 ⟨S3, hs3, hk3, (⟨rfl, hj3⟩ | ⟨rfl, hx3⟩)⟩
      · have hc3 := Aside0.mk (HC2.out.yield hs3 hk3)
        obtain ⟨d0, d1, d2, d3⟩ := N.out S3 W3 hc3.out
        have HI := Aside0.mk (ih2.out S3 W3 hj3 hc3.out)
        clear ih2 hs3 hk3 hj3
        refine hK _ _ ?_
        clear hK K
        refine wpAnyIn_take (i := 18) (v := ?_) rfl rfl (by kernel_rfl) (by kernel_rfl) (by kernel_rfl) (fun _ _ _ h => h) ⟨Or.inl ⟨by rfl, ?_⟩, fun _ => rfl⟩ ?_
        rotate_left
        · intro w; (go_simp; first | done | with_reducible rfl)
        simp only [List.getElem_toArray, List.getElem_cons_zero, List.getElem_cons_succ, Act.put, List.setIfInBounds_toArray, List.set_cons_succ, List.set_cons_zero]
        refine wpAnyIn_take (i := 19) (v := ?_) rfl rfl (by kernel_rfl) (by kernel_rfl) (by kernel_rfl) (fun _ _ _ h => h) ⟨Or.inl ⟨by rfl, ?_⟩, fun _ => rfl⟩ ?_
        rotate_left
        · intro w; (go_simp; first | done | with_reducible rfl)
        simp only [List.getElem_toArray, List.getElem_cons_zero, List.getElem_cons_succ, Act.put, List.setIfInBounds_toArray, List.set_cons_succ, List.set_cons_zero]
        refine wpAnyIn_take (i := 20) (v := ?_) rfl rfl (by kernel_rfl) (by kernel_rfl) (by kernel_rfl) (fun _ _ _ h => h) ⟨Or.inl ⟨by rfl, ?_⟩, fun _ => rfl⟩ ?_
        rotate_left
        · intro w; (go_simp; first | done | with_reducible rfl)
        simp only [List.getElem_toArray, List.getElem_cons_zero, List.getElem_cons_succ, Act.put, List.setIfInBounds_toArray, List.set_cons_succ, List.set_cons_zero]
        refine wpAnyIn_take (i := 21) (v := ?_) rfl rfl (by kernel_rfl) (by kernel_rfl) (by kernel_rfl) (fun _ _ _ h => h) ⟨Or.inl ⟨by rfl, ?_⟩, fun _ => rfl⟩ ?_
        rotate_left
        · intro w; (go_simp; first | done | with_reducible rfl)
        simp only [List.getElem_toArray, List.getElem_cons_zero, List.getElem_cons_succ, Act.put, List.setIfInBounds_toArray, List.set_cons_succ, List.set_cons_zero]
        refine wpAnyIn_take (i := 22) (v := ?_) rfl rfl (by kernel_rfl) (by kernel_rfl) (by kernel_rfl) (fun _ _ _ h => h) ⟨Or.inl ⟨by rfl, ?_⟩, fun _ => rfl⟩ ?_
        rotate_left
        · intro w; (go_simp; first | done | with_reducible rfl)
        simp only [List.getElem_toArray, List.getElem_cons_zero, List.getElem_cons_succ, Act.put, List.setIfInBounds_toArray, List.set_cons_succ, List.set_cons_zero]
        refine wpAnyIn_take (i := 24) (v := ?_) rfl rfl (by kernel_rfl) (by kernel_rfl) (by kernel_rfl) (fun _ _ _ h => h) ⟨Or.inl ⟨by rfl, ?_⟩, fun _ => rfl⟩ ?_
        rotate_left
        · intro w; (go_simp; first | done | with_reducible rfl)
        simp only [List.getElem_toArray, List.getElem_cons_zero, List.getElem_cons_succ, Act.put, List.setIfInBounds_toArray, List.set_cons_succ, List.set_cons_zero]
        refine wpAnyIn_ready (rs := [23]) (by kernel_rfl) (by simp) (AllReadyIn.cons rfl (fun K hK => ?_) AllReadyIn.nil)
        go_simp
        refine hK _ _ ?_
        clear hK K
        refine wpAnyIn_ready (rs := [25]) (by kernel_rfl) (by simp) (AllReadyIn.cons rfl (fun K hK => ?_) AllReadyIn.nil)
        go_simp
        refine ⟨trivial, rfl, HI.out.mono ?_⟩
        clear HI d0 d1 d2 d3
        rintro e W4 ⟨S4, hc4, (⟨rfl, hj4⟩ | ⟨rfl, q, hq, hx4⟩)⟩
        · refine hK _ _ ?_
          clear hK K
          refine wpAnyIn_take (i := 26) (v := ?_) rfl rfl (by kernel_rfl) (by kernel_rfl) (by kernel_rfl) (fun _ _ _ h => h) ⟨Or.inl ⟨by rfl, ?_⟩, fun _ => rfl⟩ ?_
          rotate_left
          · intro w; (go_simp; first | done | with_reducible rfl)
          simp only [List.getElem_toArray, List.getElem_cons_zero, List.getElem_cons_succ, Act.put, List.setIfInBounds_toArray, List.set_cons_succ, List.set_cons_zero]
          refine wpAnyIn_ready (rs := [27]) (by kernel_rfl) (by simp) (AllReadyIn.cons rfl (fun K hK => ?_) AllReadyIn.nil)
          go_simp
          refine hK _ _ ?_
          clear hK K
          refine wpAnyIn_done (by kernel_rfl) ?_ _
          gi_wp2_with fail
          go_ret
          exact ⟨S4, hc4, .inl ⟨rfl, by simpa [BT.list] using hj4⟩⟩
        · refine hK _ _ ?_
          clear hK K
          refine wpAnyIn_take (i := 26) (v := ?_) rfl rfl (by kernel_rfl) (by kernel_rfl) (by kernel_rfl) (fun _ _ _ h => h) ⟨Or.inl ⟨by rfl, ?_⟩, fun _ => rfl⟩ ?_
          rotate_left
          · intro w; (go_simp; first | done | with_reducible rfl)
          simp only [List.getElem_toArray, List.getElem_cons_zero, List.getElem_cons_succ, Act.put, List.setIfInBounds_toArray, List.set_cons_succ, List.set_cons_zero]
          refine wpAnyIn_ready (rs := [27]) (by kernel_rfl) (by simp) (AllReadyIn.cons rfl (fun K hK => ?_) AllReadyIn.nil)
          go_simp
          refine hK _ _ ?_
          clear hK K
          refine wpAnyIn_done (by kernel_rfl) ?_ _
          gi_wp2_with fail
          go_ret
          exact ⟨S4, hc4, .inr ⟨rfl, q, hq, hx4⟩⟩
      · have hc3 := Aside0.mk (HC2.out.yield hs3 hk3)
        clear ih2 hs3 hk3
        have hx4 := Aside0.mk hx3
        clear hx3
        refine hK _ _ ?_
        clear hK K
        refine wpAnyIn_take (i := 18) (v := ?_) rfl rfl (by kernel_rfl) (by kernel_rfl) (by kernel_rfl) (fun _ _ _ h => h) ⟨Or.inl ⟨by rfl, ?_⟩, fun _ => rfl⟩ ?_
        rotate_left
        · intro w; (go_simp; first | done | with_reducible rfl)
        simp only [List.getElem_toArray, List.getElem_cons_zero, List.getElem_cons_succ, Act.put, List.setIfInBounds_toArray, List.set_cons_succ, List.set_cons_zero]
        refine wpAnyIn_take (i := 19) (v := ?_) rfl rfl (by kernel_rfl) (by kernel_rfl) (by kernel_rfl) (fun _ _ _ h => h) ⟨Or.inl ⟨by rfl, ?_⟩, fun _ => rfl⟩ ?_
        rotate_left
        · intro w; (go_simp; first | done | with_reducible rfl)
        simp only [List.getElem_toArray, List.getElem_cons_zero, List.getElem_cons_succ, Act.put, List.setIfInBounds_toArray, List.set_cons_succ, List.set_cons_zero]
        refine wpAnyIn_take (i := 20) (v := undef) rfl rfl (by kernel_rfl) (by kernel_rfl) (by kernel_rfl) (fun _ _ _ h => h) ⟨Or.inr ⟨by rfl, rfl⟩, fun _ => rfl⟩ ?_
        simp only [List.getElem_toArray, List.getElem_cons_zero, List.getElem_cons_succ, Act.put, List.setIfInBounds_toArray, List.set_cons_succ, List.set_cons_zero]
        refine wpAnyIn_take (i := 21) (v := undef) rfl rfl (by kernel_rfl) (by kernel_rfl) (by kernel_rfl) (fun _ _ _ h => h) ⟨Or.inr ⟨by rfl, rfl⟩, fun _ => rfl⟩ ?_
        simp only [List.getElem_toArray, List.getElem_cons_zero, List.getElem_cons_succ, Act.put, List.setIfInBounds_toArray, List.set_cons_succ, List.set_cons_zero]
        refine wpAnyIn_take (i := 22) (v := undef) rfl rfl (by kernel_rfl) (by kernel_rfl) (by kernel_rfl) (fun _ _ _ h => h) ⟨Or.inr ⟨by rfl, rfl⟩, fun _ => rfl⟩ ?_
        simp only [List.getElem_toArray, List.getElem_cons_zero, List.getElem_cons_succ, Act.put, List.setIfInBounds_toArray, List.set_cons_succ, List.set_cons_zero]
        refine wpAnyIn_take (i := 23) (v := undef) rfl rfl (by kernel_rfl) (by kernel_rfl) (by kernel_rfl) (fun _ _ _ h => h) ⟨Or.inr ⟨by rfl, rfl⟩, fun _ => rfl⟩ ?_
        simp only [List.getElem_toArray, List.getElem_cons_zero, List.getElem_cons_succ, Act.put, List.setIfInBounds_toArray, List.set_cons_succ, List.set_cons_zero]
        refine wpAnyIn_take (i := 24) (v := undef) rfl rfl (by kernel_rfl) (by kernel_rfl) (by kernel_rfl) (fun _ _ _ h => h) ⟨Or.inr ⟨by rfl, rfl⟩, fun _ => rfl⟩ ?_
        simp only [List.getElem_toArray, List.getElem_cons_zero, List.getElem_cons_succ, Act.put, List.setIfInBounds_toArray, List.set_cons_succ, List.set_cons_zero]
        refine wpAnyIn_ready (rs := [25]) (by kernel_rfl) (by simp) (AllReadyIn.cons rfl (fun K hK => ?_) AllReadyIn.nil)
        go_simp
        refine ⟨by first | trivial | (intros; trivial), hK _ _ ?_⟩
        clear hK K
        refine wpAnyIn_take (i := 26) (v := ?_) rfl rfl (by kernel_rfl) (by kernel_rfl) (by kernel_rfl) (fun _ _ _ h => h) ⟨Or.inl ⟨by rfl, ?_⟩, fun _ => rfl⟩ ?_
        rotate_left
        · intro w; (go_simp; first | done | with_reducible rfl)
        simp only [List.getElem_toArray, List.getElem_cons_zero, List.getElem_cons_succ, Act.put, List.setIfInBounds_toArray, List.set_cons_succ, List.set_cons_zero]
        refine wpAnyIn_ready (rs := [27]) (by kernel_rfl) (by simp) (AllReadyIn.cons rfl (fun K hK => ?_) AllReadyIn.nil)
        go_simp
        refine hK _ _ ?_
        clear hK K
        refine wpAnyIn_done (by kernel_rfl) ?_ _
        gi_wp2_with fail
        go_ret
        exact ⟨S3, hc3.out, .inr ⟨rfl, _, ⟨tr.list ++ post, by rw [HX.out]; simp [BT.list]⟩, hx4.out⟩⟩
    · have hx3 := Aside0.mk hx2
      have hc3 := Aside0.mk hc2
      have hq3 := Aside0.mk hq
      clear hx2 hc2 hq ih2 HY
      go_simp
      refine hK _ _ ?_
      clear hK K
      refine wpAnyIn_take (i := 7) (v := ?_) rfl rfl (by kernel_rfl) (by kernel_rfl) (by kernel_rfl) (fun _ _ _ h => h) ⟨Or.inl ⟨by rfl, ?_⟩, fun _ => rfl⟩ ?_
      rotate_left
      · intro w; (go_simp; first | done | with_reducible rfl)
      simp only [List.getElem_toArray, List.getElem_cons_zero, List.getElem_cons_succ, Act.put, List.setIfInBounds_toArray, List.set_cons_succ, List.set_cons_zero]
      refine wpAnyIn_take (i := 8) (v := undef) rfl rfl (by kernel_rfl) (by kernel_rfl) (by kernel_rfl) (fun _ _ _ h => h) ⟨Or.inr ⟨by rfl, rfl⟩, fun _ => rfl⟩ ?_
      simp only [List.getElem_toArray, List.getElem_cons_zero, List.getElem_cons_succ, Act.put, List.setIfInBounds_toArray, List.set_cons_succ, List.set_cons_zero]
      refine wpAnyIn_take (i := 9) (v := undef) rfl rfl (by kernel_rfl) (by kernel_rfl) (by kernel_rfl) (fun _ _ _ h => h) ⟨Or.inr ⟨by rfl, rfl⟩, fun _ => rfl⟩ ?_
      simp only [List.getElem_toArray, List.getElem_cons_zero, List.getElem_cons_succ, Act.put, List.setIfInBounds_toArray, List.set_cons_succ, List.set_cons_zero]
      refine wpAnyIn_take (i := 10) (v := undef) rfl rfl (by kernel_rfl) (by kernel_rfl) (by kernel_rfl) (fun _ _ _ h => h) ⟨Or.inr ⟨by rfl, rfl⟩, fun _ => rfl⟩ ?_
      simp only [List.getElem_toArray, List.getElem_cons_zero, List.getElem_cons_succ, Act.put, List.setIfInBounds_toArray, List.set_cons_succ, List.set_cons_zero]
      refine wpAnyIn_take (i := 11) (v := undef) rfl rfl (by kernel_rfl) (by kernel_rfl) (by kernel_rfl) (fun _ _ _ h => h) ⟨Or.inr ⟨by rfl, rfl⟩, fun _ => rfl⟩ ?_
      simp only [List.getElem_toArray, List.getElem_cons_zero, List.getElem_cons_succ, Act.put, List.setIfInBounds_toArray, List.set_cons_succ, List.set_cons_zero]
      refine wpAnyIn_take (i := 12) (v := undef) rfl rfl (by kernel_rfl) (by kernel_rfl) (by kernel_rfl) (fun _ _ _ h => h) ⟨Or.inr ⟨by rfl, rfl⟩, fun _ => rfl⟩ ?_
      simp only [List.getElem_toArray, List.getElem_cons_zero, List.getElem_cons_succ, Act.put, List.setIfInBounds_toArray, List.set_cons_succ, List.set_cons_zero]
      refine wpAnyIn_take (i := 13) (v := undef) rfl rfl (by kernel_rfl) (by kernel_rfl) (by kernel_rfl) (fun _ _ _ h => h) ⟨Or.inr ⟨by rfl, rfl⟩, fun _ => rfl⟩ ?_
      simp only [List.getElem_toArray, List.getElem_cons_zero, List.getElem_cons_succ, Act.put, List.setIfInBounds_toArray, List.set_cons_succ, List.set_cons_zero]
      refine wpAnyIn_take (i := 14) (v := undef) rfl rfl (by kernel_rfl) (by kernel_rfl) (by kernel_rfl) (fun _ _ _ h => h) ⟨Or.inr ⟨by rfl, rfl⟩, fun _ => rfl⟩ ?_
      simp only [List.getElem_toArray, List.getElem_cons_zero, List.getElem_cons_succ, Act.put, List.setIfInBounds_toArray, List.set_cons_succ, List.set_cons_zero]
      refine wpAnyIn_take (i := 15) (v := undef) rfl rfl (by kernel_rfl) (by kernel_rfl) (by kernel_rfl) (fun _ _ _ h => h) ⟨Or.inr ⟨by rfl, rfl⟩, fun _ => rfl⟩ ?_
      simp only [List.getElem_toArray, List.getElem_cons_zero, List.getElem_cons_succ, Act.put, List.setIfInBounds_toArray, List.set_cons_succ, List.set_cons_zero]
      refine wpAnyIn_take (i := 16) (v := undef) rfl rfl (by kernel_rfl) (by kernel_rfl) (by kernel_rfl) (fun _ _ _ h => h) ⟨Or.inr ⟨by rfl, rfl⟩, fun _ => rfl⟩ ?_
      simp only [List.getElem_toArray, List.getElem_cons_zero, List.getElem_cons_succ, Act.put, List.setIfInBounds_toArray, List.set_cons_succ, List.set_cons_zero]
      refine wpAnyIn_ready (rs := [17]) (by kernel_rfl) (by simp) (AllReadyIn.cons rfl (fun K hK => ?_) AllReadyIn.nil)
      go_simp
      refine ⟨by first | trivial | (intros; trivial), hK _ _ ?_⟩
      clear hK K
      refine wpAnyIn_take (i := 18) (v := ?_) rfl rfl (by kernel_rfl) (by kernel_rfl) (by kernel_rfl) (fun _ _ _ h => h) ⟨Or.inl ⟨by rfl, ?_⟩, fun _ => rfl⟩ ?_
      rotate_left
      · intro w; (go_simp; first | done | with_reducible rfl)
      simp only [List.getElem_toArray, List.getElem_cons_zero, List.getElem_cons_succ, Act.put, List.setIfInBounds_toArray, List.set_cons_succ, List.set_cons_zero]
      refine wpAnyIn_take (i := 19) (v := ?_) rfl rfl (by kernel_rfl) (by kernel_rfl) (by kernel_rfl) (fun _ _ _ h => h) ⟨Or.inl ⟨by rfl, ?_⟩, fun _ => rfl⟩ ?_
      rotate_left
      · intro w; (go_simp; first | done | with_reducible rfl)
      simp only [List.getElem_toArray, List.getElem_cons_zero, List.getElem_cons_succ, Act.put, List.setIfInBounds_toArray, List.set_cons_succ, List.set_cons_zero]
      refine wpAnyIn_take (i := 20) (v := undef) rfl rfl (by kernel_rfl) (by kernel_rfl) (by kernel_rfl) (fun _ _ _ h => h) ⟨Or.inr ⟨by rfl, rfl⟩, fun _ => rfl⟩ ?_
      simp only [List.getElem_toArray, List.getElem_cons_zero, List.getElem_cons_succ, Act.put, List.setIfInBounds_toArray, List.set_cons_succ, List.set_cons_zero]
      refine wpAnyIn_take (i := 21) (v := undef) rfl rfl (by kernel_rfl) (by kernel_rfl) (by kernel_rfl) (fun _ _ _ h => h) ⟨Or.inr ⟨by rfl, rfl⟩, fun _ => rfl⟩ ?_
      simp only [List.getElem_toArray, List.getElem_cons_zero, List.getElem_cons_succ, Act.put, List.setIfInBounds_toArray, List.set_cons_succ, List.set_cons_zero]
      refine wpAnyIn_take (i := 22) (v := undef) rfl rfl (by kernel_rfl) (by kernel_rfl) (by kernel_rfl) (fun _ _ _ h => h) ⟨Or.inr ⟨by rfl, rfl⟩, fun _ => rfl⟩ ?_
      simp only [List.getElem_toArray, List.getElem_cons_zero, List.getElem_cons_succ, Act.put, List.setIfInBounds_toArray, List.set_cons_succ, List.set_cons_zero]
      refine wpAnyIn_take (i := 23) (v := undef) rfl rfl (by kernel_rfl) (by kernel_rfl) (by kernel_rfl) (fun _ _ _ h => h) ⟨Or.inr ⟨by rfl, rfl⟩, fun _ => rfl⟩ ?_
      simp only [List.getElem_toArray, List.getElem_cons_zero, List.getElem_cons_succ, Act.put, List.setIfInBounds_toArray, List.set_cons_succ, List.set_cons_zero]
      refine wpAnyIn_take (i := 24) (v := undef) rfl rfl (by kernel_rfl) (by kernel_rfl) (by kernel_rfl) (fun _ _ _ h => h) ⟨Or.inr ⟨by rfl, rfl⟩, fun _ => rfl⟩ ?_
      simp only [List.getElem_toArray, List.getElem_cons_zero, List.getElem_cons_succ, Act.put, List.setIfInBounds_toArray, List.set_cons_succ, List.set_cons_zero]
      refine wpAnyIn_ready (rs := [25]) (by kernel_rfl) (by simp) (AllReadyIn.cons rfl (fun K hK => ?_) AllReadyIn.nil)
      go_simp
      refine ⟨by first | trivial | (intros; trivial), hK _ _ ?_⟩
      clear hK K
      refine wpAnyIn_take (i := 26) (v := ?_) rfl rfl (by kernel_rfl) (by kernel_rfl) (by kernel_rfl) (fun _ _ _ h => h) ⟨Or.inl ⟨by rfl, ?_⟩, fun _ => rfl⟩ ?_
      rotate_left
      · intro w; (go_simp; first | done | with_reducible rfl)
      simp only [List.getElem_toArray, List.getElem_cons_zero, List.getElem_cons_succ, Act.put, List.setIfInBounds_toArray, List.set_cons_succ, List.set_cons_zero]
      refine wpAnyIn_ready (rs := [27]) (by kernel_rfl) (by simp) (AllReadyIn.cons rfl (fun K hK => ?_) AllReadyIn.nil)
      go_simp
      refine hK _ _ ?_
      clear hK K
      refine wpAnyIn_done (by kernel_rfl) ?_ _
      gi_wp2_with fail
      go_ret
      exact ⟨S2, hc3.out, .inr ⟨rfl, q, hq3.out, hx3.out⟩⟩

/-- The list of a table in memory: one cell, the root. -/
def IsTab (W : World) (tb : Nat) (l : List (Int × Int)) : Prop := ∃ v t, W.heap[tb]? = some (.cells #[v] 126 (0, 0)) ∧ IsBT W v t ∧ t.list = l ∧ Rising l
theorem IsTab.kept {S : Nat → Prop} {W W' : World} (hk : Keeps S W W') (hS : ∀ b cs f, W.heap[b]? = some (.cells cs 161 f) → S b) {tb : Nat} (ht : S tb) {l : List (Int × Int)} (h : IsTab W tb l) : IsTab W' tb l := by
  obtain ⟨v, t, hb, hv, hl, hr⟩ := h
  exact ⟨v, t, hk.at_ hb ht, hv.kept hk hS, hl, hr⟩

set_option maxRecDepth 100000 in
set_option maxHeartbeats 1600000 in
/-- **A TABLE's All() gives its keys and values, rising.** -/
theorem tAll1_iter (W0 : World) (tb cb : Nat) (xs : List (Int × Int)) (D : Nat → Prop) (ht : IsTab W0 tb xs) (hcb : W0.heap[cb]? = some (.cells #[.pointer (some ⟨tb, 0, none⟩)] 158 (0, 0)))
    (hD : ∀ b cs f, W0.heap[b]? = some (.cells cs 161 f) → D b) (hDt : D tb) (hDc : D cb) :
    Iter Try.prog 106 #[.pointer (some ⟨cb, 0, none⟩)] encKV xs D W0 := by
  intro l S0 J Jx W hW hS0 hSD hJ hJx hY h0
  obtain ⟨v, t, htb, hv, rfl, hr⟩ := ht
  have h1 := hW.at_ htb hDt
  have h2 := hW.at_ hcb hDc
  have c1 : W.cell? ⟨tb, 0, none⟩ = some v := blk_cell_ h1 0
  have c2 : W.cell? ⟨cb, 0, none⟩ = some (.pointer (some ⟨tb, 0, none⟩)) := blk_cell_ h2 0
  obtain ⟨p, rfl⟩ := hv.ptr
  have HP := Aside0.mk (trise_any l t.list S0 J Jx W hJ (fun pre x post S W1 hx hj hc => hY pre x post S W1 hx hj hc.keeps hc.own) W0 D hW hSD hD t (.pointer p) [] [] S0 W hv (by simp) h0 (YCore.start hS0))
  clear hY h0 hJ hJx hv htb h1 h2 hr hD
  refine (callsIn_wide (n := 0)).1 ?_
  refine callsIn_of_wp Try.func106 rfl trivial ?_ rfl
  simp only [Try.ntmps106, List.size_toArray, List.length_cons, List.length_nil, Nat.reduceAdd, Nat.reduceSub, Array.replicate_succ, Array.replicate_zero, List.push_toArray, List.append_toArray, List.nil_append, List.cons_append]
  gi_wp2_with fail
  refine ⟨trivial, rfl, HP.out.mono ?_⟩
  rintro e W1 ⟨S, hc, (⟨rfl, hj⟩ | ⟨rfl, q, hq, hx⟩)⟩
  · gi_wp2_with fail
    go_end0
    exact ⟨⟨_, rfl⟩, hc.keeps, S, hc.own, .inl (by simpa using hj)⟩
  · gi_wp2_with fail
    go_end0
    exact ⟨⟨_, rfl⟩, hc.keeps, S, hc.own, .inr ⟨q, hq, hx⟩⟩

set_option maxHeartbeats 800000 in
/-- t.All(): the receiver is boxed. -/
theorem tAll_any (p : Option Addr) (w : World) : Calls Try.prog 76 #[.pointer p] w fun e w' => e = .returned (.func (.func 106) #[] #[.pointer (some ⟨w.heap.size, 0, none⟩)]) ∧ w' = w.alloc (.cells #[.pointer p] 158) := by
  go_enter Try.func76, Try.ntmps76
  go_wp2
  go_ret
  exact ⟨rfl, rfl⟩
end Go.Proofs.Ytafhdamdkefpkaa

namespace Go.Proofs.Ytafhdamdkefpkaa
open Go.RowKit Go.Proofs.YtafhdamdkefpkaaW.PrintWords Go.Proofs.YtafhdamdkefpkaaW.PrintLast Go.Proofs.YtafhdamdkefpkaaW.PrintMore
set_option linter.unusedVariables false
set_option linter.unusedSimpArgs false

/-- A key's value in a list. -/
def getL (k : Int) : List (Int × Int) → Option Int
  | [] => none
  | (k', y) :: l => if k' = k then some y else getL k l
theorem getL_append (k : Int) (l r : List (Int × Int)) : getL k (l ++ r) = (getL k l).or (getL k r) := by
  induction l with
  | nil => simp [getL]
  | cons p l ih =>
    obtain ⟨q, z⟩ := p
    simp only [List.cons_append, getL]
    split
    · simp
    · exact ih
theorem getL_none {k : Int} {l : List (Int × Int)} (h : ∀ p ∈ l, p.1 ≠ k) : getL k l = none := by
  induction l with
  | nil => rfl
  | cons p l ih =>
    obtain ⟨q, z⟩ := p
    simp only [getL]
    rw [if_neg (h (q, z) (by simp)), ih (fun p hp => h p (by simp [hp]))]
theorem find_list {k : Int} : ∀ {t : BT}, Rising t.list → t.find k = getL k t.list
  | .nil, _ => rfl
  | .node k' x l r, h => by
    have hl : Rising l.list := (List.pairwise_append.1 h).1
    have hr : Rising r.list := (List.pairwise_cons.1 (List.pairwise_append.1 h).2.1).2
    have h1 : ∀ p ∈ l.list, p.1 < k' := fun p hp => (List.pairwise_append.1 h).2.2 p hp (k', x) (by simp)
    have h2 : ∀ p ∈ r.list, k' < p.1 := fun p hp => (List.pairwise_cons.1 (List.pairwise_append.1 h).2.1).1 p hp
    rw [BT.find, BT.list, getL_append, getL]
    by_cases c1 : k < k'
    · rw [if_pos c1, find_list hl, if_neg (by omega), getL_none (l := r.list) (fun p hp => by have := h2 p hp; omega)]; simp
    · rw [if_neg c1, getL_none (l := l.list) (fun p hp => by have := h1 p hp; omega)]
      by_cases c2 : k' < k
      · rw [if_pos c2, find_list hr, if_neg (by omega)]; rfl
      · rw [if_neg c2, if_pos (by omega)]; rfl

/-- What Get answers. -/
def Got (o : Option Int) (w : World) (e : Ending) (w' : World) : Prop := e = .returned (.tuple #[.int .i64 (o.getD 0), .bool o.isSome]) ∧ w = w'

set_option maxRecDepth 100000 in
set_option maxHeartbeats 1600000 in
theorem tGet_any (tb : Nat) (k : Int) (l : List (Int × Int)) (w : World) (h : IsTab w tb l) : Calls Try.prog 74 #[.pointer (some ⟨tb, 0, none⟩), .int .u64 k] w (Got (getL k l) w) := by
  obtain ⟨v, t, hb, hv, rfl, hr⟩ := h
  have c := blk_cell_ hb 0
  obtain ⟨p, rfl⟩ := hv.ptr
  have F := Aside0.mk (tfind_any k t (.pointer p) w hv)
  rw [find_list hr] at F
  simp only [List.getElem?_toArray, List.getElem?_cons_zero] at c
  clear hb hv hr
  cases ho : getL k t.list with
  | none =>
    rw [ho] at F
    clear ho
    go_enter Try.func74, Try.ntmps74
    go_wp2_with fail
    refine F.out.mono ?_
    rintro e w' ⟨rfl, rfl⟩
    go_wp2_with fail
    go_ret2
    exact ⟨rfl, rfl⟩
  | some x =>
    rw [ho] at F
    clear ho
    go_enter Try.func74, Try.ntmps74
    go_wp2_with fail
    refine F.out.mono ?_
    rintro e w' ⟨rfl, b, rfl, hc⟩
    go_wp2_with fail
    go_ret2
    exact ⟨rfl, rfl⟩

/-- What Put does: the table is that with one more; nothing else that lay has turned. -/
def PutTab (tb : Nat) (k x : Int) (l : List (Int × Int)) (w : World) (e : Ending) (w' : World) : Prop :=
  e = .returned (.bool (getL k l).isNone) ∧ IsTab w' tb (putL k x l) ∧ Keeps (fun b => b ≠ tb) w w'

theorem putL_mem {k x : Int} {l : List (Int × Int)} {p : Int × Int} (h : p ∈ putL k x l) : p = (k, x) ∨ p ∈ l := by
  induction l with
  | nil => simpa [putL] using h
  | cons q l ih =>
    obtain ⟨a, b⟩ := q
    simp only [putL] at h
    split at h
    · simpa using h
    · split at h
      · rcases List.mem_cons.1 h with h | h
        · exact .inr (by simp [h])
        · rcases ih h with h | h
          · exact .inl h
          · exact .inr (by simp [h])
      · rcases List.mem_cons.1 h with h | h
        · exact .inl h
        · exact .inr (by simp [h])
theorem putL_rising (k x : Int) {l : List (Int × Int)} (h : Rising l) : Rising (putL k x l) := by
  induction l with
  | nil => simp [putL, Rising]
  | cons q l ih =>
    obtain ⟨a, b⟩ := q
    have h1 := List.pairwise_cons.1 h
    simp only [putL]
    split
    · rename_i c
      refine List.pairwise_cons.2 ⟨fun p hp => ?_, h⟩
      rcases List.mem_cons.1 hp with rfl | hp
      · exact c
      · have := h1.1 p hp; simp only at this ⊢; omega
    · split
      · rename_i c1 c2
        refine List.pairwise_cons.2 ⟨fun p hp => ?_, ih h1.2⟩
        rcases putL_mem hp with rfl | hp
        · exact c2
        · exact h1.1 p hp
      · rename_i c1 c2
        obtain rfl : k = a := by omega
        exact List.pairwise_cons.2 ⟨h1.1, h1.2⟩

set_option maxRecDepth 100000 in
set_option maxHeartbeats 1600000 in
theorem tPut_any (tb : Nat) (k x : Int) (l : List (Int × Int)) (w : World) (h : IsTab w tb l) (hl : l.length < 536870912) : Calls Try.prog 75 #[.pointer (some ⟨tb, 0, none⟩), .int .u64 k, .int .i64 x] w (PutTab tb k x l w) := by
  obtain ⟨v, t, hb, hv, rfl, hr⟩ := h
  have c := blk_cell_ hb 0
  simp only [List.getElem?_toArray, List.getElem?_cons_zero] at c
  obtain ⟨p, rfl⟩ := hv.ptr
  have F := Aside0.mk (tfind_any k t (.pointer p) w hv)
  rw [find_list hr] at F
  have G := Aside0.mk (tput_any k x t (.pointer p) w hv hr (by rw [← BT.size_list]; exact hl))
  have HB := Aside0.mk hb
  have HR := Aside0.mk (putL_rising k x hr)
  clear hb hv hr hl
  have fin : ∀ (v1 : Value) (t1 : BT) (w1 : World), IsBT w1 v1 t1 → t1.list = putL k x t.list → Below w.heap.size w w1 →
      IsTab (w1.setCell ⟨tb, 0, none⟩ v1) tb (putL k x t.list) ∧ Keeps (fun b => b ≠ tb) w (w1.setCell ⟨tb, 0, none⟩ v1) := by
    intro v1 t1 w1 hv1 hl1 hb1
    have hb2 : w1.heap[tb]? = some (.cells #[.pointer p] 126 (0, 0)) := (hb1.block tb (lt_of_heap HB.out)).trans HB.out
    have hk : Keeps (fun b => b ≠ tb) w1 (w1.setCell ⟨tb, 0, none⟩ v1) := (Keeps.refl _ _).setCell (fun h => absurd rfl h) _
    refine ⟨⟨v1, t1, Boxed.set v1 hb2, hv1.kept hk (fun b cs f hn e => ?_), hl1, HR.out⟩, (Keeps.of_all hb1).trans hk⟩
    subst e
    rw [hb2] at hn
    injection hn with hn
    injection hn with _ hn
    exact absurd hn (by decide)
  have FIN := Aside0.mk fin
  clear fin
  cases ho : getL k t.list with
  | none =>
    rw [ho] at F
    go_enter Try.func75, Try.ntmps75
    go_wp2_with fail
    refine F.out.mono ?_
    rintro e w' ⟨rfl, rfl⟩
    go_wp2_with fail
    refine G.out.mono ?_
    rintro e w1 ⟨v1, t1, rfl, hv1, hl1, hb1⟩
    have q1 : w1.cell? ⟨tb, 0, none⟩ = some (.pointer p) := pw_cell_below hb1 c
    have q2 : w1.frozen? ⟨tb, 0, none⟩ = false := (hb1.frozen (p := ⟨tb, 0, none⟩) (lt_of_heap HB.out)).trans (blk_frozen_ HB.out 0)
    obtain ⟨p1, rfl⟩ := hv1.ptr
    have Z := Aside0.mk (FIN.out _ t1 w1 hv1 hl1 hb1)
    clear hv1 hl1 hb1
    go_wp2_with fail
    go_ret
    exact ⟨by rw [ho]; rfl, Z.out.1, Z.out.2⟩
  | some y =>
    rw [ho] at F
    go_enter Try.func75, Try.ntmps75
    go_wp2_with fail
    refine F.out.mono ?_
    rintro e w' ⟨rfl, b, rfl, hc⟩
    go_wp2_with fail
    refine G.out.mono ?_
    rintro e w1 ⟨v1, t1, rfl, hv1, hl1, hb1⟩
    have q1 : w1.cell? ⟨tb, 0, none⟩ = some (.pointer p) := pw_cell_below hb1 c
    have q2 : w1.frozen? ⟨tb, 0, none⟩ = false := (hb1.frozen (p := ⟨tb, 0, none⟩) (lt_of_heap HB.out)).trans (blk_frozen_ HB.out 0)
    obtain ⟨p1, rfl⟩ := hv1.ptr
    have Z := Aside0.mk (FIN.out _ t1 w1 hv1 hl1 hb1)
    clear hv1 hl1 hb1
    go_wp2_with fail
    go_ret
    exact ⟨by rw [ho]; rfl, Z.out.1, Z.out.2⟩
end Go.Proofs.Ytafhdamdkefpkaa

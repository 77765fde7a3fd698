/- codec: a whole number of one byte written. -/
import Derived.Test.YtafhdamdkefpkaaKitAll
import Derived.Test.YtafhdamdkefpkaaPDeltax3
import Derived.Test.YtafhdamdkefpkaaPriceAll
import Derived.Test.YtafhdamdkefpkaaPrepAll
namespace Go.Proofs.Ytafhdamdkefpkaa
open Go.RowKit Go.Proofs.YtafhdamdkefpkaaW.PrintWords Go.Proofs.YtafhdamdkefpkaaW.PrintLast Go.Proofs.YtafhdamdkefpkaaW.PrintMore
attribute [local go_sem] max2_int min2_int max_two min_two Oper.semAt_some
set_option linter.unusedVariables false
set_option linter.unusedSimpArgs false
theorem info_byte : (Try.prog.info? 5).map (fun i => (i.zero, i.size, i.bytes)) = some (some (.int .u8 0), 1, 1) := by kernel_rfl
/-- A goal that a walk shall leave alone. -/
structure HeldG (p : Prop) : Prop where
  out : p
theorem heldg_out {p : Prop} (h : HeldG p) : p := h.out
/-- What an Out holds: the block, the row, the bytes. -/
def OutAt (W : World) (base q : Nat) (v : Value) (bs : List Int) : Prop := W.heap[q]? = some (.cells #[v] 108 (0, 0)) ∧ Kd.R (Kd.int IntKind.u8) 5 W base (fun _ => True) v bs
/-- What becomes of the world when an Out is written to. -/
def OutGrown (W W' : World) (base q : Nat) (v : Value) (bs : List Int) : Prop :=
  ∃ v', OutAt W' base q v' bs ∧ (v'.ownBlock = v.ownBlock ∨ ∃ b, v'.ownBlock = some b ∧ W.heap.size ≤ b) ∧ Keeps (fun k => k < W.heap.size ∧ k ≠ q ∧ some k ≠ v.ownBlock) W W'
/-- .. with the row's new value. -/
def OutStep (W W' : World) (base q : Nat) (v v' : Value) (bs : List Int) : Prop :=
  OutAt W' base q v' bs ∧ (v'.ownBlock = v.ownBlock ∨ ∃ b, v'.ownBlock = some b ∧ W.heap.size ≤ b) ∧ Keeps (fun k => k < W.heap.size ∧ k ≠ q ∧ some k ≠ v.ownBlock) W W'
theorem OutStep.grown {W W' : World} {base q : Nat} {v v' : Value} {bs : List Int} (h : OutStep W W' base q v v' bs) : OutGrown W W' base q v bs := ⟨v', h⟩
theorem OutStep.trans {W W1 W2 : World} {base q : Nat} {v v1 v2 : Value} {bs cs : List Int} (h : OutStep W W1 base q v v1 bs) (k : OutStep W1 W2 base q v1 v2 cs) : OutStep W W2 base q v v2 cs := by
  obtain ⟨h1, h2, h3⟩ := h
  obtain ⟨k1, k2, k3⟩ := k
  refine ⟨k1, ?_, h3.trans (k3.mono (fun j hj hlt => ⟨hlt, hj.2.1, fun e => ?_⟩))⟩
  · rcases k2 with e | ⟨b, e, hb⟩
    · rw [e]; exact h2
    · exact .inr ⟨b, e, Nat.le_trans h3.size hb⟩
  · rcases h2 with e2 | ⟨b, e2, hb⟩
    · exact hj.2.2 (by rw [e, e2])
    · rw [e2] at e
      injection e with e
      have := hj.1
      omega
theorem OutAt.below {W W' : World} {base q : Nat} {v : Value} {bs : List Int} (h : OutAt W base q v bs) (hb : Below W.heap.size W W') : OutAt W' base q v bs := ⟨(hb.block q (lt_of_heap h.1)).trans h.1, Kd.R_below h.2 hb⟩
theorem OutGrown.pre {W W1 W2 : World} {base q : Nat} {v : Value} {cs : List Int} (hb : Below W.heap.size W W1) (h : OutGrown W1 W2 base q v cs) : OutGrown W W2 base q v cs := by
  obtain ⟨v2, k1, k2, k3⟩ := h
  refine ⟨v2, k1, ?_, (Keeps.of_all hb).trans (k3.mono (fun j hj hlt => ⟨by have := hb.size; have := hj.1; omega, hj.2⟩))⟩
  rcases k2 with e | ⟨b, e, hb2⟩
  · exact .inl e
  · exact .inr ⟨b, e, Nat.le_trans hb.size hb2⟩
/-- Another block, of another type. -/
theorem OutGrown.other {W W' : World} {base q k : Nat} {v : Value} {bs cs : List Int} {cells : Array Value} {t : Nat} (h : OutGrown W W' base q v cs) (hO : OutAt W base q v bs) (hk : W.heap[k]? = some (.cells cells t (0, 0))) (h1 : 108 ≠ t) (h2 : 5 ≠ t) : W'.heap[k]? = some (.cells cells t (0, 0)) := by
  obtain ⟨v2, k1, k2, k3⟩ := h
  exact k3.at_ hk ⟨lt_of_heap hk, (blk_ne hO.1 hk h1).symm, Kd.R_ne hO.2 hk h2⟩

set_option maxRecDepth 100000 in
set_option maxHeartbeats 1600000 in
theorem oUint_one (q : Nat) (v : Value) (bs : List Int) (n : Int) (w : World) (base : Nat) (hO : OutAt w base q v bs) (hbase : base ≤ w.heap.size) (hn : 0 ≤ n ∧ n < 128) (hl : bs.length ≤ 1000000) :
    Calls Try.prog 93 #[.pointer (some ⟨q, 0, none⟩), .int .u64 n] w fun e w' => (∃ u, e = .returned u) ∧ OutGrown w w' base q v (bs ++ [n]) := by
  obtain ⟨hq, hR⟩ := hO
  obtain ⟨A, m, c, rfl⟩ := R_is_slice hR
  have HR := Aside0.mk hR
  have HQ := Aside0.mk hq
  have HQL := Aside0.mk (lt_of_heap hq)
  have c0 := blk_cell_ hq 0
  have hne := Kd.R_ne hR hq (by decide)
  have HNE := Aside0.mk hne
  have t0 : decide (n ≥ 128) = false := decide_eq_false (by omega)
  have hw : IntKind.u8.wrap n = n := by rw [IntKind.wrap_u8]; omega
  clear hR hq hne
  go_enter Try.func93, Try.ntmps93
  go_wp2_with fail
  go_loopg [1] 0 (fun k v1 W => v1 = .int .u64 n ∧ Aside0 (w = W))
  case atStart => exact ⟨rfl, ⟨rfl⟩⟩
  case round =>
    obtain ⟨rfl, HW⟩ := hrel
    obtain rfl := HW.out
    go_wp2_with ((with_reducible refine gate_builtin (b := .append) (xs := #[.tmp 24, .tmp 27]) rfl ?_); at_builtin; refine Kd.R_append (Kd.int IntKind.u8) (w0 := w) (W := w) base rfl (.tmp 24) (.tmp 27) 73 5 (.int .u8 0) 1 rfl Try.underlying73 info_byte rfl (by decide) (by decide) (.slice A m c) bs n [.int .u8 n] (fun _ => True) (fun _ => False) rfl rfl rfl (fun _ h => h.elim) (fun _ _ => trivial) HR.out (Below.refl _ _) hbase (by omega) ?_; intro v9 w9 hR9 hB9 hg9 hat9; obtain ⟨A9, n9, c9, e9⟩ := R_is_slice hR9; subst e9; have hq9 := blk_grown HQ.out hg9 HNE.out; have cq9 := blk_cell_ hq9 0; have fq9 := blk_frozen hq9 0; have HQ9 := Aside0.mk hq9; have HR9 := Aside0.mk hR9; have HG9 := Aside0.mk hg9; have HA9 := Aside0.mk hat9; clear hR9 hB9 hg9 hat9 hq9)
    go_end0
    exact ⟨⟨_, rfl⟩, _, ⟨set_at HQ9.out 0 _, Kd.R_set HR9.out HQ9.out (by decide) 0 _⟩, HA9.out, ((Keeps.refl _ w).grown HG9.out (fun k e hk => absurd e.symm hk.2.2)).setCell (fun hk => absurd rfl hk.2.1) _⟩

theorem bnil_row (c0 : Nat) (W : World) : Sem.run Try.prog (binOp .eql 73 (.slice none 0 c0) (.slice none 0 0)) W = .ok (.bool true) W := by kernel_rfl
theorem bnil_row2 (ad : Addr) (n c0 : Nat) (W : World) : Sem.run Try.prog (binOp .eql 73 (.slice (some ad) n c0) (.slice none 0 0)) W = .ok (.bool false) W := by kernel_rfl
theorem C_none_of {α : Type} {d : Kd α} {w : World} {xs : List α} (h : d.C w none xs.length xs) : xs = [] := by
  rcases Nat.eq_zero_or_pos xs.length with e | e
  · exact List.length_eq_zero_iff.1 e
  · obtain ⟨ad, e1, -⟩ := h.2.2 e
    cases e1
theorem kB_mkM (w : World) (base : Nat) (ok : Nat → Prop) (x : Int) : Kd.M (Kd.int IntKind.u8) w base ok x [.int .u8 x] := rfl

set_option maxRecDepth 100000 in
set_option maxHeartbeats 1600000 in
/-- slices.Clone of bytes. -/
theorem bclone_any (A0 : Option Addr) (c0 : Nat) (xs : List Int) (w : World) (hC : Kd.C (Kd.int IntKind.u8) w A0 xs.length xs) (hc0 : xs.length ≤ c0) (hl : xs.length ≤ 1000000000) :
    Calls Try.prog 96 #[.slice A0 xs.length c0] w fun e w' => ∃ v : Value, e = .returned v ∧ Kd.R (Kd.int IntKind.u8) 5 w' w.heap.size (fun _ => True) v xs ∧ Below w.heap.size w w' := by
  have HC := Aside0.mk hC
  clear hC
  have nq1 := bnil_row
  have nq2 := bnil_row2
  cases A0 with
  | none =>
    obtain rfl := C_none_of HC.out
    go_enter Try.func96, Try.ntmps96
    go_wp2_with fail
    go_ret
    exact ⟨_, rfl, Kd.R_nil _ _ _ _ _, Below.refl _ _⟩
  | some ad =>
    go_enter Try.func96, Try.ntmps96
    go_wp2_with (first
      | ((with_reducible refine gate_dst (N := 5) rfl ?_); refine Kd.R_lit (Kd.int IntKind.u8) _ 5 ?hg (N := 5) ?hd (xs := ([] : List Int)) (inner := []) (ok := fun _ => True) (okp := fun _ => True) ?hr ?hp (fun _ hk => hk) trivial (Below.refl _ _) (Nat.le_refl _) (by simp) ?_; (case hd => rfl); (case hg => rfl); (case hr => first | (go_simp; done) | (go_simp; rfl)); (case hp => exact (Reps.none _ _)); intro v1 w1 hR hB hg_ hnew_; obtain ⟨A6, c6, rfl⟩ := Kd.R_slice hR; have HR := Aside0.mk (show Kd.R (Kd.int IntKind.u8) 5 w1 w.heap.size (fun _ => True) (.slice A6 0 c6) [] from hR); have HB := Aside0.mk hB; have HC1 := Aside0.mk (Kd.C_below HC.out hB); clear hg_ hnew_ hR hB)
      | ((with_reducible refine gate_builtin (b := .append) (xs := #[.tmp 5, .tmp 6]) rfl ?_); at_builtin; refine heldg_out ?_))
    refine ⟨?_⟩
    refine Kd.R_append_rows (Kd.int IntKind.u8) (Rr := Kd.K (Kd.int IntKind.u8) w1) (w0 := w) (W := w1) w.heap.size rfl (.tmp 5) (.tmp 6) 73 5 (.int .u8 0) 1 rfl Try.underlying73 info_byte rfl (by decide) (by decide) (.slice A6 0 c6) [] xs (some ad) xs.length c0 (fun _ => True) (fun _ => False) rfl rfl HR.out HC1.out (fun x cs h => h) (fun _ h => h.elim) (fun _ _ => trivial) HB.out HB.out.size (by simp only [List.length_nil]; omega) ?_
    intro v9 w9 hR9 hB9 hg9 hat9
    have HR9 := Aside0.mk hR9
    have HB9 := Aside0.mk hB9
    clear hR9 hB9 hg9 hat9
    go_wp2_with fail
    go_ret
    exact ⟨_, rfl, HR9.out, HB9.out⟩

set_option maxRecDepth 100000 in
set_option maxHeartbeats 1600000 in
/-- Out.Done. -/
theorem oDone_any (q : Nat) (v : Value) (bs : List Int) (w : World) (base : Nat) (hO : OutAt w base q v bs) (hl : bs.length ≤ 1000000) :
    Calls Try.prog 64 #[.pointer (some ⟨q, 0, none⟩)] w fun e w' => ∃ v : Value, e = .returned v ∧ Kd.R (Kd.int IntKind.u8) 5 w' w.heap.size (fun _ => True) v bs ∧ Below w.heap.size w w' := by
  obtain ⟨A, c, rfl, hlc, hC⟩ := Kd.R_reads hO.2
  have CC := Aside0.mk (bclone_any A c bs w hC hlc (by omega))
  have c0 := blk_cell_ hO.1 0
  clear hO hC
  go_enter Try.func64, Try.ntmps64
  go_wp2_with (go_at_call 96; refine (CC.out).mono ?_; rintro e w1 ⟨v1, rfl, hR, hB⟩; have HR := Aside0.mk hR; have HB := Aside0.mk hB; clear hR hB)
  go_ret
  exact ⟨_, rfl, HR.out, HB.out⟩
end Go.Proofs.Ytafhdamdkefpkaa

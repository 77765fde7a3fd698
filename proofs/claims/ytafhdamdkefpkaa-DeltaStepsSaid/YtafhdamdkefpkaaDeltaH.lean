/- delta.Read in the law's own example; delta.Rose; delta.Sum. -/
import Derived.Test.YtafhdamdkefpkaaDeltaG
import Derived.Test.YtafhdamdkefpkaaCodecB
namespace Go.Proofs.Ytafhdamdkefpkaa
open Go.RowKit Go.Proofs.YtafhdamdkefpkaaW.PrintWords Go.Proofs.YtafhdamdkefpkaaW.PrintLast Go.Proofs.YtafhdamdkefpkaaW.PrintMore
attribute [local go_sem] max2_int min2_int max_two min_two Oper.semAt_some
set_option linter.unusedVariables false
set_option linter.unusedSimpArgs false

set_option maxRecDepth 100000 in
set_option maxHeartbeats 1600000 in
theorem dtake_ex (q : Nat) (rest : List Int) (w : World) (hI : InAt w q (0 :: 2 :: 4 :: rest)) (hl : rest.length ≤ 100000) :
    Calls Try.prog 58 #[.pointer (some ⟨q, 0, none⟩)] w fun e w' => e = .returned (.agg #[.int .i64 0, .int .u64 2, .int .i64 2]) ∧ InAt w' q rest ∧ Keeps (fun k => k ≠ q) w w' := by
  have huE := Try.underlying68
  have huC := Try.underlying76
  have HQ := Aside0.mk (show q < w.heap.size by obtain ⟨A, c, h, -⟩ := hI; exact lt_of_heap h)
  have hb0 := below_alloc (Below.refl w.heap.size w) (.cells #[.int .i64 0, .int .u64 0, .int .i64 0] 76)
  have hr0 := World.alloc_heap_new w (.cells #[.int .i64 0, .int .u64 0, .int .i64 0] 76)
  have hI0 := hI.below hb0
  have C1 := Aside0.mk (iUint_one q 0 (2 :: 4 :: rest) _ hI0 (by decide) (by kernel_rfl) (by kernel_rfl) (by simp; omega))
  have C2 := Aside0.mk (fun (W : World) (h : InAt W q (2 :: 4 :: rest)) => iUint_one q 2 (4 :: rest) W h (by decide) (by kernel_rfl) (by kernel_rfl) (by simp; omega))
  have C3 := Aside0.mk (fun (W : World) (h : InAt W q (4 :: rest)) => iInt_two q rest W h (by omega))
  have HB0 := Aside0.mk hb0
  have HR0 := Aside0.mk hr0
  clear hI hb0 hr0 hI0
  go_enter Try.func58, Try.ntmps58
  go_wp2_with fail
  refine (C1.out).mono ?_
  rintro e w1 ⟨rfl, hi1, hk1⟩
  have HI1 := Aside0.mk hi1
  have HK1 := Aside0.mk hk1
  clear hi1 hk1
  go_wp2_with fail
  refine (C2.out w1 HI1.out).mono ?_
  rintro e w2 ⟨rfl, hi2, hk2⟩
  have HI2 := Aside0.mk hi2
  have HK2 := Aside0.mk (HK1.out.trans hk2)
  clear hi2 hk2
  go_wp2_with fail
  refine (C3.out w2 HI2.out).mono ?_
  rintro e w3 ⟨rfl, hi3, hk3⟩
  have HI3 := Aside0.mk hi3
  have HK3 := Aside0.mk (HK2.out.trans hk3)
  have hr3 := HK3.out.at_ HR0.out (fun e => by have := HQ.out; omega)
  have hne : w.heap.size < w3.heap.size := lt_of_heap hr3
  have c0 := blk_cell_ hr3 0
  have c1 := blk_cell_ hr3 1
  have c2 := blk_cell_ hr3 2
  have f0 := blk_frozen hr3 0
  have f1 := blk_frozen hr3 1
  have f2 := blk_frozen hr3 2
  have HR3 := Aside0.mk hr3
  clear hi3 hk3 hr3
  go_wp2_with fail
  have hs1 := set_at (set_at (set_at HR3.out 0 (.int .i64 0)) 1 (.int .u64 2)) 2 (.int .i64 2)
  have hkq : Keeps (fun k => k ≠ w.heap.size) w3 (((w3.setCell ⟨w.heap.size, 0, none⟩ (.int .i64 0)).setCell ⟨w.heap.size, 1, none⟩ (.int .u64 2)).setCell ⟨w.heap.size, 2, none⟩ (.int .i64 2)) :=
    (((Keeps.refl _ _).setCell (fun h => absurd rfl h) _).setCell (fun h => absurd rfl h) _).setCell (fun h => absurd rfl h) _
  generalize ((w3.setCell ⟨w.heap.size, 0, none⟩ (.int .i64 0)).setCell ⟨w.heap.size, 1, none⟩ (.int .u64 2)).setCell ⟨w.heap.size, 2, none⟩ (.int .i64 2) = W9 at hs1 hkq ⊢
  have hs2 := (Below.heap_alloc W9 (.cells #[.int .i64 0, .int .u64 2, .int .i64 2] 76) _ (lt_of_heap hs1)).trans hs1
  refine bodyPost_ret (results_cell_row rfl _ _ w.heap.size 76 #[.int .i64 0, .int .u64 2, .int .i64 2] (0, 0) _ rfl hs2 huC rfl (by kernel_rfl)) rfl ⟨rfl, ?_, ?_⟩
  · exact (HI3.out.keeps HQ.out hkq).below (below_alloc (Below.refl _ _) _)
  · have k3 : Keeps (fun k => k < w.heap.size ∧ k ≠ q) w W9 := ((Keeps.of_all HB0.out).trans (HK3.out.mono (fun k h _ => h.2))).trans (hkq.mono (fun k h _ => by omega))
    exact (k3.mono (fun k h hlt => ⟨hlt, h⟩)).alloc _

set_option maxRecDepth 100000 in
set_option maxHeartbeats 4000000 in
theorem cTakeC_ex (q : Nat) (w : World) (hI : InAt w q [1, 0, 2, 4]) :
    Calls Try.prog 86 #[.pointer (some ⟨q, 0, none⟩), .int .i64 4096, .func (.func 58) #[] #[]] w fun e w' => ∃ v : Value, e = .returned v ∧ Kd.R PDelta.k76 76 w' w.heap.size (fun _ => True) v [⟨0, ⟨2, 2⟩⟩] ∧ InAt w' q [] ∧ Keeps (fun k => k ≠ q) w w' := by
  have huE := Try.underlying68
  have huC := Try.underlying76
  have HQ := Aside0.mk (show q < w.heap.size by obtain ⟨A, c, h, -⟩ := hI; exact lt_of_heap h)
  have C1 := Aside0.mk (iUint_one q 1 [0, 2, 4] w hI (by decide) (by kernel_rfl) (by kernel_rfl) (by simp))
  have C2 := Aside0.mk (fun (W : World) (h : InAt W q [0, 2, 4]) => dtake_ex q [] W h (by simp))
  clear hI
  go_enter Try.func86, Try.ntmps86
  go_wp2_with fail
  refine (C1.out).mono ?_
  rintro e w1 ⟨rfl, hi1, hk1⟩
  have HI1 := Aside0.mk hi1
  have HK1 := Aside0.mk hk1
  obtain ⟨A1, c1, hq1, -, -, -⟩ := hi1
  have d1 := blk_cell_ hq1 1
  clear hk1 hq1
  have wm : wrap64 (max 4096 0) = 4096 := by unfold wrap64; omega
  go_wp2_with fail
  clear d1
  go_loopg [8, 26] 2 (fun n v8 v26 W => ∃ j : Int, v26 = .int .u64 j ∧ ((j = 0 ∧ v8 = .slice none 0 0 ∧ Aside0 (n = 2) ∧ Aside0 (w1 = W)) ∨ (j = 1 ∧ Aside0 (Kd.R PDelta.k76 76 W w.heap.size (fun _ => True) v8 [⟨0, ⟨2, 2⟩⟩]) ∧ Aside0 (InAt W q []) ∧ Aside0 (Keeps (fun k => k ≠ q) w W))))
  case atStart => exact ⟨0, rfl, .inl ⟨rfl, rfl, ⟨rfl⟩, ⟨rfl⟩⟩⟩
  case round =>
    obtain ⟨j, rfl, (⟨rfl, rfl, HN, HW⟩ | ⟨rfl, HR, HI, HK⟩)⟩ := hrel
    · obtain rfl := HW.out
      obtain ⟨A1, c1, hq1, -, -, -⟩ := HI1.out
      have d1 := blk_cell_ hq1 1
      clear hq1
      go_wp2_with (first
        | (go_at_call 58; refine (C2.out w1 HI1.out).mono ?_; rintro e w2 ⟨rfl, hi2, hk2⟩; have HI2 := Aside0.mk hi2; have HK2 := Aside0.mk (HK1.out.trans hk2); clear hi2 hk2)
        | ((with_reducible refine gate_builtin (b := .append) (xs := #[.tmp 33, .tmp 37]) rfl ?_); at_builtin; refine Kd.R_append PDelta.k76 (w0 := w2) (W := w2) w.heap.size rfl (.tmp 33) (.tmp 37) 26 76 (.agg #[.int .i64 0, .int .u64 0, .int .i64 0]) 24 rfl Try.underlying26 info_change rfl (by decide) (by decide) (.slice none 0 0) [] (⟨0, ⟨2, 2⟩⟩ : PDelta.S76) [.int .i64 0, .int .u64 2, .int .i64 2] (fun _ => True) (fun _ => False) rfl rfl (PDelta.k76_mkM _ _ _ ⟨0, ⟨2, 2⟩⟩) (fun _ h => h.elim) (fun _ _ => trivial) (Kd.R_nil _ _ _ _ _) (Below.refl _ _) HK2.out.size (by decide) ?_; intro v9 w9 hR9 hB9 hg9 hat9; have HR9 := Aside0.mk hR9; have HG9 := Aside0.mk hg9; clear hR9 hB9 hg9 hat9))
      go_roundg 1
      case measure => have := HN.out; omega
      case rel =>
        have hb9 : Below w2.heap.size w2 w9 := ⟨HG9.out.os, HG9.out.tape, HG9.out.output, HG9.out.size, fun k hk => HG9.out.block k hk (by simp [Value.ownBlock])⟩
        exact ⟨1, rfl, .inr ⟨rfl, HR9, ⟨HI2.out.below hb9⟩, ⟨HK2.out.trans (Keeps.of_all hb9)⟩⟩⟩
    · obtain ⟨A1, c1, hq1, -, -, -⟩ := HI.out
      have d1 := blk_cell_ hq1 1
      clear hq1
      go_wp2_with fail
      go_ret
      exact ⟨_, rfl, HR.out, HI.out, HK.out⟩

set_option maxRecDepth 100000 in
set_option maxHeartbeats 4000000 in
theorem cAllC_ex (A0 : Option Addr) (c0 : Nat) (w : World) (hC : Kd.C (Kd.int IntKind.u8) w A0 4 [1, 0, 2, 4]) (hc0 : 4 ≤ c0) :
    Calls Try.prog 57 #[.slice A0 4 c0, .int .i64 4096, .func (.func 58) #[] #[]] w fun e w' => ∃ v : Value, e = .returned (.tuple #[v, .int .i64 0]) ∧ Kd.R PDelta.k76 76 w' w.heap.size (fun _ => True) v [⟨0, ⟨2, 2⟩⟩] ∧ Below w.heap.size w w' := by
  have CF := Aside0.mk (cFrom_any A0 c0 [1, 0, 2, 4] w hC hc0 (by simp))
  clear hC
  go_enter Try.func57, Try.ntmps57
  go_wp2_with (first
    | (go_at_call 85; refine (CF.out).mono ?_; rintro e w1 ⟨q, rfl, hq, hi, hb⟩; have HQ := Aside0.mk hq; have HI := Aside0.mk hi; have HB := Aside0.mk hb; clear hq hi hb)
    | (go_at_call 86; refine (cTakeC_ex q w1 HI.out).mono ?_; rintro e w2 ⟨v2, rfl, hr, hi, hk⟩; have HR2 := Aside0.mk hr; have HI2 := Aside0.mk hi; have HK2 := Aside0.mk hk; clear hr hi hk)
    | (go_at_call 87; refine (iErr_any q [] w2 HI2.out).mono ?_; rintro e w3 ⟨rfl, rfl⟩)
    | (go_at_call 88; refine (iLeft_any q [] w2 HI2.out).mono ?_; rintro e w3 ⟨rfl, rfl⟩))
  go_ret2
  have hb : Below w.heap.size w w2 := HB.out.trans (HK2.out.below (fun k hk e => by have := HQ.out; omega) HB.out.size)
  exact ⟨_, rfl, Kd.R_lower HR2.out HB.out.size, hb⟩

/-- The changes of which the bidder is none. -/
theorem dread1_any (x : PDelta.S76) (w : World) : Calls Try.prog 60 #[.agg #[.int .i64 x.f0, .int .u64 x.f1.f0, .int .i64 x.f1.f1]] w fun e w' => e = .returned (.bool (decide (x.f0 < 0))) ∧ Below w.heap.size w w' := by
  have huE := Try.underlying68
  have huC := Try.underlying76
  go_enter Try.func60, Try.ntmps60
  go_wp2_with fail
  go_ret
  exact ⟨rfl, below_alloc (Below.refl _ _) _⟩
set_option maxRecDepth 100000 in
set_option maxHeartbeats 4000000 in
/-- Is there a change of nobody? In a list in which there is none. -/
theorem idxC_no (A0 : Option Addr) (c0 : Nat) (xs : List PDelta.S76) (w : World) (hC : Kd.C PDelta.k76 w A0 xs.length xs) (hc0 : xs.length ≤ c0) (hl : xs.length ≤ 1000000) (hn : ∀ x ∈ xs, 0 ≤ x.f0) :
    Calls Try.prog 92 #[.slice A0 xs.length c0, .func (.func 60) #[] #[]] w fun e w' => e = .returned (.int .i64 (-1)) ∧ Below w.heap.size w w' := by
  have huE := Try.underlying68
  have huC := Try.underlying76
  have HC := Aside0.mk hC
  have HN := Aside0.mk hn
  clear hC hn
  go_enter Try.func92, Try.ntmps92
  go_wp2_with fail
  go_loopg [8] xs.length (fun n v8 W => ∃ i : Nat, v8 = .int .i64 i ∧ Aside0 (i + n = xs.length) ∧ Aside0 (Below w.heap.size w W))
  case atStart => exact ⟨0, rfl, ⟨by omega⟩, ⟨Below.refl _ _⟩⟩
  case round =>
    obtain ⟨i, rfl, HI, HB⟩ := hrel
    by_cases c : (i : Int) < (xs.length : Int)
    · have p1 : (0 : Int) ≤ (i : Int) := by omega
      obtain ⟨ad1, e1, hx0, hx1, hx2⟩ := PDelta.at_T76 (Kd.C_below HC.out HB.out) i p1 c
      cases e1
      rw [Int.toNat_natCast] at hx0 hx1 hx2
      have HIL := Aside0.mk (show i < xs.length by omega)
      have wrapI : wrap64 ((i : Int) + 1) = ((i + 1 : Nat) : Int) := by unfold wrap64; omega
      have h0 : decide ((PDelta.rd_T76 xs i).f0 < 0) = false := decide_eq_false (by rw [rdC_get _ _ HIL.out]; have := HN.out _ (List.getElem_mem HIL.out); omega)
      have CC := dread1_any (PDelta.rd_T76 xs i) wr
      rw [h0] at CC
      have CC := Aside0.mk CC
      clear h0
      generalize PDelta.rd_T76 xs i = x at hx0 hx1 hx2 CC
      replace p1 := eq_true p1
      replace c := eq_true c
      go_wp2_with (go_at_call 60; refine (CC.out).mono ?_; rintro e w1 ⟨rfl, hb1⟩; have HB2 := Aside0.mk (below_step HB.out hb1); clear hb1)
      go_roundg (gk - 1)
      case measure => have := HI.out; have := HIL.out; omega
      case rel => exact ⟨i + 1, by first | rfl | (simp; done) | rw [wrapI], ⟨by have := HI.out; have := HIL.out; omega⟩, HB2⟩
    · have c1 : (i < xs.length) = False := eq_false (by omega)
      have c2 : ((i : Int) < (xs.length : Int)) = False := eq_false c
      clear c
      go_wp2_with fail
      go_ret
      exact ⟨rfl, HB.out⟩
set_option maxRecDepth 100000 in
theorem containsC_no (A0 : Option Addr) (c0 : Nat) (xs : List PDelta.S76) (w : World) (hC : Kd.C PDelta.k76 w A0 xs.length xs) (hc0 : xs.length ≤ c0) (hl : xs.length ≤ 1000000) (hn : ∀ x ∈ xs, 0 ≤ x.f0) :
    Calls Try.prog 59 #[.slice A0 xs.length c0, .func (.func 60) #[] #[]] w fun e w' => e = .returned (.bool false) ∧ Below w.heap.size w w' := by
  have C := Aside0.mk (idxC_no A0 c0 xs w hC hc0 hl hn)
  clear hC hn
  go_enter Try.func59, Try.ntmps59
  go_wp2_with (go_at_call 92; refine (C.out).mono ?_; rintro e w1 ⟨rfl, hb1⟩; have HB2 := Aside0.mk hb1; clear hb1)
  go_ret
  exact ⟨rfl, HB2.out⟩
set_option maxRecDepth 100000 in
set_option maxHeartbeats 4000000 in
theorem dread_ex (A0 : Option Addr) (c0 : Nat) (w : World) (hC : Kd.C (Kd.int IntKind.u8) w A0 4 [1, 0, 2, 4]) (hc0 : 4 ≤ c0) :
    Calls Try.prog 33 #[.slice A0 4 c0] w fun e w' => ∃ v : Value, e = .returned (.tuple #[v, .int .i64 0]) ∧ Kd.R PDelta.k76 76 w' w.heap.size (fun _ => True) v [⟨0, ⟨2, 2⟩⟩] ∧ Below w.heap.size w w' := by
  have CA := Aside0.mk (cAllC_ex A0 c0 w hC hc0)
  clear hC
  go_enter Try.func33, Try.ntmps33
  go_wp2_with (first
    | (go_at_call 57; refine (CA.out).mono ?_; rintro e w1 ⟨v1, rfl, hr, hb⟩; obtain ⟨A1, c1, e1, hl1, hC1⟩ := Kd.R_reads hr; subst e1; have HR := Aside0.mk hr; have HB := Aside0.mk hb; have CX := Aside0.mk (containsC_no A1 c1 [⟨0, ⟨2, 2⟩⟩] w1 hC1 hl1 (by simp) (by simp)); clear hr hb hl1 hC1)
    | (go_at_call 59; refine (CX.out).mono ?_; rintro e w2 ⟨rfl, hb⟩; have HB2 := Aside0.mk hb; clear hb))
  go_ret2
  exact ⟨_, rfl, Kd.R_below HR.out HB2.out, below_step HB.out HB2.out⟩

set_option maxRecDepth 100000 in
set_option maxHeartbeats 4000000 in
/-- **delta.Rose.** -/
theorem drose_any (A0 A1 : Option Addr) (c0 c1 : Nat) (old now : List (List PDelta.S68)) (w : World) (hC0 : Kd.C (Kd.slice 68 PDelta.k68) w A0 old.length old) (hc0 : old.length ≤ c0) (hC1 : Kd.C (Kd.slice 68 PDelta.k68) w A1 now.length now) (hc1 : now.length ≤ c1)
    (h0 : BookOk old) (h1 : BookOk now) :
    Calls Try.prog 36 #[.slice A0 old.length c0, .slice A1 now.length c1] w fun e w' => e = .returned (.bool (decide ((diffL now old).length = 0))) ∧ Below w.heap.size w w' := by
  have CD := Aside0.mk (ddiff_any A1 A0 c1 c0 now old w hC1 hc1 hC0 hc0 h1.1 h0.1 h1.2.1 h0.2.1 h1.2.2.1 h0.2.2.1 h0.2.2.2)
  clear hC0 hC1 h0 h1
  generalize diffL now old = df at CD ⊢
  go_enter Try.func36, Try.ntmps36
  go_wp2_with (go_at_call 32; refine (CD.out).mono ?_; rintro e w1 ⟨v1, rfl, hr, hb⟩; obtain ⟨A2, c2, e2⟩ := Kd.R_slice hr; subst e2; have HB := Aside0.mk hb; clear hr hb)
  go_ret
  refine ⟨?_, HB.out⟩
  first
    | rfl
    | (congr 2; simp; cases df with
        | nil => rfl
        | cons a t => simp; omega)

/-- All asks of changes, added up. -/
def sumC (cs : List PDelta.S76) : Int := cs.foldl (fun o c => min (o + min c.f1.f1 1099511627776) 140737488355328) 0
set_option maxRecDepth 100000 in
set_option maxHeartbeats 4000000 in
/-- **delta.Sum**, of tight lists. -/
theorem dsum_any (A0 : Option Addr) (c0 : Nat) (bks : List (List PDelta.S68)) (w : World) (hC0 : Kd.C (Kd.slice 68 PDelta.k68) w A0 bks.length bks) (hc0 : bks.length ≤ c0) (h0 : BookOk bks) (hp : ∀ c ∈ allL (bks.map ofL), 0 ≤ c.f1.f1) :
    Calls Try.prog 39 #[.slice A0 bks.length c0] w fun e w' => e = .returned (.int .i64 (sumC (allL (bks.map ofL)))) ∧ Below w.heap.size w w' := by
  have CO := Aside0.mk (fun (W : World) (hb : Below w.heap.size w W) => dopen_any A0 c0 bks W (Kd.C_below hC0 hb) hc0 (by have := h0.1; omega) h0.2.1 h0.2.2.1)
  have HF := Aside0.mk (fine_open h0.2.1 h0.2.2.1 1000000 (by have := h0.1; omega))
  have HP := Aside0.mk hp
  clear hC0 h0 hp
  generalize bks.map ofL = bs at CO HF HP ⊢
  refine (callsIn_wide (n := 0)).1 ?_
  refine callsIn_of_wp_marks Try.func39 rfl trivial ?_ rfl
  simp only [Try.ntmps39, List.size_toArray, List.length_cons, List.length_nil, Nat.reduceAdd, Nat.reduceSub, Array.replicate_succ, Array.replicate_zero, List.push_toArray, List.append_toArray, List.nil_append, List.cons_append]
  refine wpIn_wide.2 ?_
  go_wp2_with (first
    | (go_at_call 40; refine ((CO.out _ (below_alloc (Below.refl _ _) _))).mono ?_; rintro e w2 ⟨v2, rfl, hk2, hb2⟩; have HK2 := Aside0.mk hk2; have HB2 := Aside0.mk hb2; clear hk2 hb2)
    | (go_at_call 54; refine ((dall_any _ (by obtain ⟨ps, -, -, h, -⟩ := HK2.out; exact R_is_slice h) _)).mono ?_; rintro e w3 ⟨rfl, rfl⟩))
  obtain ⟨Wb, hWb⟩ : ∃ Wb, Wb = w.alloc (.cells #[.int .i64 0] 2) := ⟨_, rfl⟩
  have go : Wb.heap[w.heap.size]? = some (.cells #[.int .i64 0] 2 (0, 0)) := by rw [hWb]; exact World.alloc_heap_new _ _
  have hsb : Wb.heap.size = w.heap.size + 1 := by rw [hWb, World.size_alloc]
  have hBb : Below w.heap.size w Wb := by rw [hWb]; exact below_alloc (Below.refl _ _) _
  have HB2' : Below Wb.heap.size Wb w2 := by rw [hWb]; exact HB2.out
  have HK2' : Book w2 Wb.heap.size v2 bs := by rw [hWb]; exact HK2.out
  clear hWb HB2 HK2
  obtain ⟨W5, hW5⟩ : ∃ W5, W5 = w2.alloc (.cells #[v2] 83) := ⟨_, rfl⟩
  have gn : W5.heap[w2.heap.size]? = some (.cells #[v2] 83 (0, 0)) := by rw [hW5]; exact World.alloc_heap_new _ _
  have hs5 : W5.heap.size = w2.heap.size + 1 := by rw [hW5, World.size_alloc]
  have hB5 : Below w2.heap.size w2 W5 := by rw [hW5]; exact below_alloc (Below.refl _ _) _
  rw [← hW5]
  clear hW5
  have hs2 : Wb.heap.size ≤ w2.heap.size := HB2'.size
  obtain ⟨bo, hbo⟩ : ∃ bo, bo = w.heap.size := ⟨_, rfl⟩
  have HBO := Aside0.mk hbo
  rw [← hbo] at go ⊢
  have go5 : W5.heap[bo]? = some (.cells #[.int .i64 0] 2 (0, 0)) := (hB5.block _ (by omega)).trans ((HB2'.block _ (by omega)).trans go)
  have hBK5 : BookIn W5 Wb.heap.size (fun k => Wb.heap.size ≤ k ∧ k < w2.heap.size) v2 bs := HK2'.inside.step (fun k hk hlt => hB5.block k hlt)
  have hitE := dall1_iter W5 Wb.heap.size (fun k => Wb.heap.size ≤ k ∧ k < w2.heap.size) v2 bs w2.heap.size (fun k => k < W5.heap.size ∧ k ≠ bo) hBK5 (fun k hk => by have := hk.2; omega) (by have := HF.out.2; omega) (fun b hb => by have := (HF.out.1 b hb).2; omega) gn (fun k hk => ⟨by have := hk.2; omega, by have := hk.1; omega⟩) ⟨by omega, by omega⟩
  have hB05 : Below w.heap.size w W5 := (hBb.trans (HB2'.mono (by omega))).trans (hB5.mono (by omega))
  have HB05 := Aside0.mk hB05
  have HLEN := Aside0.mk (show w.heap.size + 1 < W5.heap.size ∧ bo = w.heap.size from ⟨by omega, hbo⟩)
  have hbo5 : bo < W5.heap.size := by omega
  clear go hsb hBb HB2' HK2' gn hs5 hB5 hs2 hbo hBK5 hB05
  refine (wpIn_wide (n := 0)).1 ?_
  refine range_outerU rfl (enters_of Try.func82 (by kernel_rfl) rfl) eqRel_ok hitE.toR (fun k h => h.1) (fun _ => rfl) (fun k => k = bo) (fun k h => ⟨by omega, fun h' => h'.2 h⟩)
    (fun pre S W => S bo ∧ 0 ≤ sumC pre ∧ sumC pre ≤ 140737488355328 ∧ W.heap[bo]? = some (.cells #[.int .i64 (sumC pre)] 2 (0, 0)))
    (fun _ _ _ _ => False) ?hI ?hIx ?h0 (fun x n => [(4, .pointer (some ⟨n, 0, none⟩))]) (fun x => [.cells #[.int .i64 x.f0, .int .u64 x.f1.f0, .int .i64 x.f1.f1] 76]) ?assign ?body ?done ?stop
  case hI =>
    rintro pre S A B ⟨h1, h2, h3, h4⟩ hk
    exact ⟨h1, h2, h3, hk.at_ h4 (.inl h1)⟩
  case hIx => rintro c pre S A B h; exact h.elim
  case h0 => exact ⟨rfl, by decide, by decide, go5⟩
  case assign =>
    intro l x W K hK
    simp only [encC, allocs, slotsSet, List.zip_toArray, List.zip_cons_cons, List.zip_nil_left, List.zip_nil_right, List.foldl_toArray, List.foldl_cons, List.foldl_nil, List.setIfInBounds_toArray, List.set_cons_succ, List.set_cons_zero] at hK ⊢
    gi_wp2
    exact hK
  case body =>
    rintro l pre x post b' S W hx hrel hl0 hlr hSl hS hkW ⟨h1, h2, h3, h4⟩
    subst hrel
    have hxp : 0 ≤ x.f1.f1 := HP.out x (by rw [hx]; simp)
    have hst : sumC (pre ++ [x]) = min (sumC pre + min x.f1.f1 1099511627776) 140737488355328 := by unfold sumC; rw [List.foldl_append]; rfl
    have HST := Aside0.mk hst
    simp only [encC, allocs, slotsSet, List.zip_toArray, List.zip_cons_cons, List.zip_nil_left, List.zip_nil_right, List.foldl_toArray, List.foldl_cons, List.foldl_nil, List.setIfInBounds_toArray, List.set_cons_succ, List.set_cons_zero]
    have hb0 : Below W.heap.size W (W.alloc (.cells #[.int .i64 x.f0, .int .u64 x.f1.f0, .int .i64 x.f1.f1] 76)) := below_alloc (Below.refl _ _) _
    have e9 := World.alloc_heap_new W (.cells #[.int .i64 x.f0, .int .u64 x.f1.f0, .int .i64 x.f1.f1] 76)
    generalize W.alloc (.cells #[.int .i64 x.f0, .int .u64 x.f1.f0, .int .i64 x.f1.f1] 76) = W9 at hb0 e9 ⊢
    have h49 := (hb0.block _ (lt_of_heap h4)).trans h4
    have n2 := blk_cell_ e9 2
    have no := blk_cell_ h49 0
    have fo := blk_frozen h49 0
    have HB0 := Aside0.mk hb0
    have H49 := Aside0.mk h49
    have H1 := Aside0.mk h1
    clear hx hlr hSl hS hkW h4 hst hl0 h49 e9 hb0 h1
    generalize sumC pre = a at h2 h3 HST H49 no
    generalize x.f1.f1 = y at HST n2 hxp ⊢
    have hm : ∀ z, max z y = max z y := fun _ => rfl
    clear hm
    gi_wp2_with fail
    all_goals
      refine ⟨S, fun k h => .inl h, (Keeps.of_all HB0.out).setCell (fun h => absurd H1.out h) _, H1.out, by rw [HST.out]; omega, by rw [HST.out]; omega, ?_⟩
      rw [HST.out]
      first
        | exact set_at H49.out 0 _
        | (rw [show min (a + min y 1099511627776) 140737488355328 = 140737488355328 from by omega]; exact set_at H49.out 0 _)
        | (rw [show min (a + min y 1099511627776) 140737488355328 = a + 1099511627776 from by omega]; exact set_at H49.out 0 _)
        | (rw [show min (a + min y 1099511627776) 140737488355328 = a + y from by omega]; exact set_at H49.out 0 _)
  case stop => rintro d c pre S W _ _ _ _ _ _ h; exact h.elim
  case done =>
    rintro d S W hd hSd hK hS hkW ⟨h1, h2, h3, h4⟩
    have c2 := blk_cell_ h4 0
    have HK := Aside0.mk hK
    have HKW := Aside0.mk hkW
    have HD := Aside0.mk hd
    clear hS hkW h4 hK h1 hd
    go_wp2_with fail
    refine ⟨by simp, .inl ⟨_, _, rfl, run_takeDeferred HK.out, ?_⟩⟩
    refine ⟨_, results_tmp rfl _ _ _, rfl, ?_⟩
    have hk9 : Keeps (fun k => k < w.heap.size) W5 (W.putObj d (.deferred none)) := (Keeps.mono HKW.out (fun k h hlt => ⟨hlt, by have := HLEN.out; omega⟩)).putObj (fun h => by have := HLEN.out; have := HD.out; omega) _
    exact HB05.out.trans (hk9.below (fun k hk => hk) HB05.out.size)
end Go.Proofs.Ytafhdamdkefpkaa

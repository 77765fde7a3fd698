/- What delta.Write and delta.Read do in the law's own example: slices.Values of changes; a change written. -/
import Derived.Test.YtafhdamdkefpkaaDeltaF
import Derived.Test.YtafhdamdkefpkaaCodecA
namespace Go.Proofs.Ytafhdamdkefpkaa
open Go.RowKit Go.Proofs.YtafhdamdkefpkaaW.PrintWords Go.Proofs.YtafhdamdkefpkaaW.PrintLast Go.Proofs.YtafhdamdkefpkaaW.PrintMore
attribute [local go_sem] max2_int min2_int max_two min_two Oper.semAt_some
set_option linter.unusedVariables false
set_option linter.unusedSimpArgs false
theorem splitC (xs : List PDelta.S76) (i : Nat) (h : i < xs.length) : ∃ post, xs = xs.take i ++ PDelta.rd_T76 xs i :: post :=
  ⟨xs.drop (i + 1), by
    have e := List.take_append_drop (i + 1) xs
    rw [takeC xs i h, List.append_assoc] at e
    exact e.symm⟩
theorem valsC_any (v : Value) (hv : ∃ A n c, v = .slice A n c) (w : World) : Calls Try.prog 62 #[v] w fun e w' =>
    e = .returned (.func (.func 94) #[] #[.pointer (some ⟨w.heap.size, 0, none⟩)]) ∧ w' = w.alloc (.cells #[v] 26) := by
  obtain ⟨A, n, c, rfl⟩ := hv
  go_enter Try.func62, Try.ntmps62
  go_wp2
  go_ret
  exact ⟨rfl, rfl⟩

set_option maxRecDepth 100000 in
set_option maxHeartbeats 1000000 in
theorem valsC1_iter (w0 W0 : World) (A0 : Option Addr) (c0 : Nat) (xs : List PDelta.S76) (b0 : Nat) (D : Nat → Prop) (hC : Kd.C PDelta.k76 w0 A0 xs.length xs) (hc0 : xs.length ≤ c0) (hl : xs.length ≤ 1000000000)
    (hB : Below w0.heap.size w0 W0) (h0 : W0.heap[b0]? = some (.cells #[.slice A0 xs.length c0] 26 (0, 0))) (hD : ∀ k, k < w0.heap.size → D k) (hD0 : D b0) :
    Iter Try.prog 94 #[.pointer (some ⟨b0, 0, none⟩)] encC xs D W0 := by
  intro l S0 J Jx W hW hS0 hSD hJ hJx hY hj0
  have hw : ∀ S2 W2, YCore S0 W S2 W2 → W2.cell? ⟨b0, 0, none⟩ = some (.slice A0 xs.length c0) ∧ Below w0.heap.size w0 W2 := by
    intro S2 W2 h2
    have k0 := hW.at_ h0 hD0
    refine ⟨blk_cell_ (h2.keeps.at_ k0 ⟨lt_of_heap k0, fun h => hSD _ h hD0⟩) 0, ?_⟩
    have hWs : w0.heap.size ≤ W.heap.size := Nat.le_trans hB.size hW.size
    exact hB.trans ((hW.below hD hB.size).trans (h2.keeps.below (fun k hk => ⟨by omega, fun h => hSD _ h (hD k hk)⟩) hWs))
  have HW := Aside0.mk hw
  have HC := Aside0.mk hC
  have huE := Try.underlying68
  have huC := Try.underlying76
  have HY := Aside0.mk (fun pre x post S W1 hx hj (hc : YCore S0 W S W1) => hY pre x post S W1 hx hj hc.keeps hc.own)
  have HJ := Aside0.mk (fun pre S (A B : World) (hb : Below A.heap.size A B) (hj : J pre S A) => hJ pre S A B hj (Keeps.of_all hb))
  have HS := Aside0.mk (YCore.start hS0)
  have HJ0 := Aside0.mk hj0
  clear hY hj0 hJ hJx hw hC hB h0 hD hD0 hW hS0 hSD
  refine (callsIn_wide (n := 0)).1 ?_
  refine callsIn_of_wp Try.func94 rfl trivial ?_ rfl
  simp only [Try.ntmps94, List.size_toArray, List.length_cons, List.length_nil, Nat.reduceAdd, Nat.reduceSub, Array.replicate_succ, Array.replicate_zero, List.push_toArray, List.append_toArray, List.nil_append, List.cons_append]
  obtain ⟨q0, -⟩ := HW.out S0 W HS.out
  gi_wp2_with fail
  clear q0
  gi_loopg [7] xs.length (fun n v W1 => ∃ (i : Nat) (S : Nat → Prop), v = .int .i64 i ∧ Aside0 (i + n = xs.length) ∧ Aside0 (YCore S0 W S W1) ∧ Aside0 (J (xs.take i) S W1))
  case atStart => exact ⟨0, S0, rfl, ⟨by simp⟩, HS, by rw [List.take_zero]; exact HJ0⟩
  case round =>
    clear HS HJ0
    obtain ⟨i, S, rfl, HI, HCo, HJi⟩ := hrel
    by_cases c : (i : Int) < (xs.length : Int)
    · obtain ⟨q0, hB⟩ := HW.out S wr HCo.out
      have p1 : (0 : Int) ≤ (i : Int) := by omega
      obtain ⟨ad1, e1, hx0, hx1, hx2⟩ := PDelta.at_T76 (Kd.C_below HC.out hB) i p1 c
      cases e1
      rw [Int.toNat_natCast] at hx0 hx1 hx2
      have hlt : Aside0 (i < xs.length) := ⟨by omega⟩
      have wrapI : wrap64 ((i : Int) + 1) = ((i + 1 : Nat) : Int) := by unfold wrap64; omega
      have hstep := Aside0.mk (takeC xs i hlt.out)
      obtain ⟨post, hpost⟩ := splitC xs i hlt.out
      have HPo := Aside0.mk hpost
      generalize PDelta.rd_T76 xs i = x at hx0 hx1 hx2 hstep HPo
      clear hpost hB
      replace p1 := eq_true p1
      replace c := eq_true c
      have HC2 := Aside0.mk (HCo.out.step (below_alloc (Below.refl _ _) (.cells #[.int .i64 x.f0, .int .u64 x.f1.f0, .int .i64 x.f1.f1] 76)))
      have HJ2 := Aside0.mk (HJ.out _ _ _ _ (below_alloc (Below.refl _ _) (.cells #[.int .i64 x.f0, .int .u64 x.f1.f0, .int .i64 x.f1.f1] 76)) HJi.out)
      obtain ⟨fn, tmps, assign, body, hy, hR⟩ := HY.out _ x post S _ HPo.out HJ2.out HC2.out
      have HR := Aside0.mk hR
      clear hR HY
      change (Instr.yield l #[.agg #[.int .i64 x.f0, .int .u64 x.f1.f0, .int .i64 x.f1.f1]]).run Try.prog _ = _ at hy
      gi_wp2_with fail
      refine ⟨rfl, (HR.out _).mono ?_⟩
      clear HR hy
      rintro e W3 ⟨S3, hs3, hk3, (⟨rfl, hj3⟩ | ⟨rfl, hx3⟩)⟩
      · have HC3 := Aside0.mk (HC2.out.yield hs3 hk3)
        have HJ3 := Aside0.mk hj3
        clear hs3 hk3 hj3
        gi_wp2_with fail
        gi_roundg (gk - 1)
        case measure => have := HI.out; have := hlt.out; omega
        case rel => exact ⟨i + 1, S3, by first | rfl | (simp; done) | rw [wrapI], ⟨by have := HI.out; have := hlt.out; omega⟩, HC3, ⟨by rw [hstep.out]; exact HJ3.out⟩⟩
      · have HC3 := Aside0.mk (HC2.out.yield hs3 hk3)
        have HX3 := Aside0.mk hx3
        clear hs3 hk3 hx3
        gi_wp2_with fail
        refine bodyPost_ret (results_none rfl _ _ _) rfl ?_
        exact ⟨⟨_, rfl⟩, HC3.out.keeps, S3, HC3.out.own, .inr ⟨_, ⟨post, by have := HPo.out; rw [List.append_assoc]; exact this.symm⟩, HX3.out⟩⟩
    · have c1 : (i < xs.length) = False := eq_false (by omega)
      have c2 : ((i : Int) < (xs.length : Int)) = False := eq_false c
      have hil : Aside0 (xs.take i = xs) := ⟨List.take_of_length_le (by omega)⟩
      clear c
      gi_wp2_with fail
      go_end0
      exact ⟨⟨_, rfl⟩, HCo.out.keeps, S, HCo.out.own, .inl (by rw [hil.out] at HJi; exact HJi.out)⟩

set_option maxRecDepth 100000 in
set_option maxHeartbeats 1600000 in
/-- The number 2 written with a sign. -/
theorem oInt_two (q : Nat) (v : Value) (bs : List Int) (w : World) (base : Nat) (hO : OutAt w base q v bs) (hbase : base ≤ w.heap.size) (hl : bs.length ≤ 1000000) :
    Calls Try.prog 95 #[.pointer (some ⟨q, 0, none⟩), .int .i64 2] w fun e w' => (∃ u, e = .returned u) ∧ OutGrown w w' base q v (bs ++ [4]) := by
  have C := Aside0.mk (oUint_one q v bs 4 w base hO hbase (by decide) hl)
  clear hO
  go_enter Try.func95, Try.ntmps95
  go_wp2_with (go_at_call 93; refine (C.out).mono ?_; rintro e w1 ⟨⟨u, rfl⟩, hg⟩; have HG := Aside0.mk hg; clear hg)
  go_end0
  exact ⟨⟨_, rfl⟩, HG.out⟩

set_option maxRecDepth 100000 in
set_option maxHeartbeats 1600000 in
/-- The example's change written. -/
theorem dput_ex (q : Nat) (v : Value) (bs : List Int) (w : World) (base : Nat) (hO : OutAt w base q v bs) (hbase : base ≤ w.heap.size) (hl : bs.length ≤ 100000) :
    Calls Try.prog 63 #[.pointer (some ⟨q, 0, none⟩), .agg #[.int .i64 0, .int .u64 2, .int .i64 2]] w fun e w' => (∃ u, e = .returned u) ∧ OutGrown w w' base q v (bs ++ [0, 2, 4]) := by
  have huE := Try.underlying68
  have huC := Try.underlying76
  have HO := Aside0.mk hO
  have HQ := Aside0.mk (lt_of_heap hO.1)
  clear hO
  go_enter Try.func63, Try.ntmps63
  have hbx := below_alloc (Below.refl w.heap.size w) (.cells #[.int .i64 0, .int .u64 2, .int .i64 2] 76)
  have HBX := Aside0.mk hbx
  have hO0 := HO.out.below hbx
  have hx0 := World.alloc_heap_new w (.cells #[.int .i64 0, .int .u64 2, .int .i64 2] 76)
  have HX0 := Aside0.mk hx0
  have HO0 := Aside0.mk hO0
  clear hbx hO0 hx0
  go_wp2_with fail
  refine (oUint_one q v bs 0 _ base HO0.out (by have := HBX.out.size; omega) (by decide) (by omega)).mono ?_
  rintro e w1 ⟨⟨u1, rfl⟩, hg1⟩
  have hx1 := hg1.other HO0.out HX0.out (by decide) (by decide)
  obtain ⟨v1, hO1, hat1, hk1⟩ := hg1
  have HG1 := Aside0.mk (show OutStep _ w1 base q v v1 (bs ++ [0]) from ⟨hO1, hat1, hk1⟩)
  have HO1 := Aside0.mk hO1
  have HX1 := Aside0.mk hx1
  have HS1 := Aside0.mk (Nat.le_trans HBX.out.size hk1.size)
  have c0 := blk_cell_ hx1 0
  have c1 := blk_cell_ hx1 1
  have c2 := blk_cell_ hx1 2
  clear hO1 hat1 hk1 hx1
  go_wp2_with fail
  refine (oUint_one q v1 (bs ++ [0]) 2 w1 base HO1.out (by have := HS1.out; omega) (by decide) (by simp; omega)).mono ?_
  rintro e w2 ⟨⟨u2, rfl⟩, hg2⟩
  have hx2 := hg2.other HO1.out HX1.out (by decide) (by decide)
  obtain ⟨v2, hO2, hat2, hk2⟩ := hg2
  have HG2 := Aside0.mk (show OutStep w1 w2 base q v1 v2 (bs ++ [0] ++ [2]) from ⟨hO2, hat2, hk2⟩)
  have HO2 := Aside0.mk hO2
  have HS2 := Aside0.mk (Nat.le_trans HS1.out hk2.size)
  have d2 := blk_cell_ hx2 2
  clear hO2 hat2 hk2 hx2 c0 c1 c2
  go_wp2_with fail
  refine (oInt_two q v2 (bs ++ [0] ++ [2]) w2 base HO2.out (by have := HS2.out; omega) (by simp; omega)).mono ?_
  rintro e w3 ⟨⟨u3, rfl⟩, hg3⟩
  have HG3 := Aside0.mk hg3
  clear hg3
  go_wp2_with fail
  go_end0
  refine ⟨⟨_, rfl⟩, OutGrown.pre HBX.out ?_⟩
  have e1 : bs ++ [0, 2, 4] = bs ++ [0] ++ [2] ++ [4] := by simp
  rw [e1]
  obtain ⟨v3, hg3⟩ := HG3.out
  exact ((HG1.out.trans HG2.out).trans hg3).grown

set_option maxRecDepth 100000 in
set_option maxHeartbeats 4000000 in
/-- The example's list written. -/
theorem cPut_ex (q : Nat) (v : Value) (A0 : Option Addr) (c0 b0 : Nat) (w0 w : World) (base : Nat) (hO : OutAt w base q v []) (hbase : base ≤ w.heap.size) (hC : Kd.C PDelta.k76 w A0 1 [⟨0, ⟨2, 2⟩⟩]) (hc0 : 1 ≤ c0)
    (h0 : w.heap[b0]? = some (.cells #[.slice A0 1 c0] 26 (0, 0))) :
    Calls Try.prog 61 #[.pointer (some ⟨q, 0, none⟩), .func (.func 94) #[] #[.pointer (some ⟨b0, 0, none⟩)], .func (.func 63) #[] #[]] w fun e w' => (∃ u, e = .returned u) ∧ OutGrown w w' base q v [1, 0, 2, 4] := by
  have HO := Aside0.mk hO
  have HC := Aside0.mk hC
  have H0 := Aside0.mk h0
  have HQ := Aside0.mk (lt_of_heap hO.1)
  clear hO hC h0
  refine (callsIn_wide (n := 0)).1 ?_
  refine callsIn_of_wp_marks Try.func61 rfl trivial ?_ rfl
  simp only [Try.ntmps61, List.size_toArray, List.length_cons, List.length_nil, Nat.reduceAdd, Nat.reduceSub, Array.replicate_succ, Array.replicate_zero, List.push_toArray, List.append_toArray, List.nil_append, List.cons_append]
  refine wpIn_wide.2 ?_
  go_wp2_with fail
  obtain ⟨W5, hW5⟩ : ∃ W5, W5 = allocs w [.cells #[.func (.func 63) #[] #[]] 112, .cells #[.slice none 0 0] 108, .cells #[.int .u64 0] 36] := ⟨_, rfl⟩
  have g0 : W5.heap[w.heap.size]? = some (.cells #[.func (.func 63) #[] #[]] 112 (0, 0)) := by rw [hW5]; exact allocs_at _ w 0 _ rfl
  have g1 : W5.heap[w.heap.size + 1]? = some (.cells #[.slice none 0 0] 108 (0, 0)) := by rw [hW5]; exact allocs_at _ w 1 _ rfl
  have g2 : W5.heap[w.heap.size + 1 + 1]? = some (.cells #[.int .u64 0] 36 (0, 0)) := by rw [hW5]; exact allocs_at _ w 2 _ rfl
  have hsz : W5.heap.size = w.heap.size + 3 := by rw [hW5, allocs_size]; rfl
  have hB5 : Below w.heap.size w W5 := by rw [hW5]; exact (allocs_keeps (fun _ => True) w _).below (fun _ _ => trivial) (Nat.le_refl _)
  change Code.wp _ _ _ _ (allocs w [_, _, _])
  rw [← hW5]
  clear hW5
  obtain ⟨bb, hbb⟩ : ∃ bb, bb = w.heap.size + 1 := ⟨_, rfl⟩
  rw [← hbb] at g1 g2 ⊢
  have hitE := valsC1_iter w W5 A0 c0 [⟨0, ⟨2, 2⟩⟩] b0 (fun k => k < W5.heap.size ∧ k ≠ bb ∧ k ≠ bb + 1) HC.out hc0 (by decide) hB5 ((hB5.block _ (lt_of_heap H0.out)).trans H0.out) (fun k hk => ⟨by omega, by omega, by omega⟩) (by have := lt_of_heap H0.out; exact ⟨by omega, by omega, by omega⟩)
  have HB5 := Aside0.mk hB5
  have HSZ := Aside0.mk hsz
  have HBB := Aside0.mk hbb
  have HG0 := Aside0.mk g0
  have HN := Aside0.mk (show bb + 1 < W5.heap.size ∧ bb = w.heap.size + 1 from ⟨by omega, hbb⟩)
  clear hB5 hsz hbb g0
  refine (wpIn_wide (n := 0)).1 ?_
  refine range_outerU rfl (enters_of Try.func94 (by kernel_rfl) rfl) eqRel_ok hitE.toR (fun k h => h.1) (fun _ => rfl) (fun k => k = bb ∨ k = bb + 1) (fun k h => ⟨by have := HN.out; omega, fun h' => by omega⟩)
    (fun pre S W => S bb ∧ S (bb + 1) ∧ ∃ v', W.heap[bb]? = some (.cells #[v'] 108 (0, 0)) ∧ Kd.R (Kd.int IntKind.u8) 5 W bb (fun k => S k) v' (pre.flatMap fun _ => [0, 2, 4]) ∧ W.heap[bb + 1]? = some (.cells #[.int .u64 (pre.length : Nat)] 36 (0, 0)))
    (fun _ _ _ _ => False) ?hI ?hIx ?h0 (fun x n => [(8, .pointer (some ⟨n, 0, none⟩))]) (fun x => [.cells #[.int .i64 x.f0, .int .u64 x.f1.f0, .int .i64 x.f1.f1] 76]) ?assign ?body ?done ?stop
  case hI =>
    rintro pre S A B ⟨h1, h1', v, h2, h3, h4⟩ hk
    exact ⟨h1, h1', v, hk.at_ h2 (.inl h1), Kd.R_step h3 (fun k h hk' => hk.block k (.inl h) hk'), hk.at_ h4 (.inl h1')⟩
  case hIx => rintro c pre S A B h; exact h.elim
  case h0 => exact ⟨.inl rfl, .inr rfl, _, g1, Kd.R_nil _ _ _ _ _, g2⟩
  case assign =>
    intro l x W K hK
    simp only [encC, allocs, slotsSet, List.zip_toArray, List.zip_cons_cons, List.zip_nil_left, List.zip_nil_right, List.foldl_toArray, List.foldl_cons, List.foldl_nil, List.setIfInBounds_toArray, List.set_cons_succ, List.set_cons_zero] at hK ⊢
    gi_wp2
    exact hK
  case body =>
    rintro l pre x post b' S W hx hrel hl0 hlr hSl hS hkW ⟨h1, h1', v', h2, h3, h4⟩
    subst hrel
    obtain ⟨rfl, rfl⟩ : pre = [] ∧ x = ⟨0, ⟨2, 2⟩⟩ := by
      cases pre with
      | nil => simp at hx; exact ⟨rfl, hx.1.symm⟩
      | cons y ys => simp at hx
    have hf0 : W.heap[w.heap.size]? = some (.cells #[.func (.func 63) #[] #[]] 112 (0, 0)) := hkW.at_ HG0.out ⟨by have := HN.out; omega, fun e => by have := HN.out; omega⟩
    simp only [encC, allocs, slotsSet, List.zip_toArray, List.zip_cons_cons, List.zip_nil_left, List.zip_nil_right, List.foldl_toArray, List.foldl_cons, List.foldl_nil, List.setIfInBounds_toArray, List.set_cons_succ, List.set_cons_zero]
    have hb0 : Below W.heap.size W (W.alloc (.cells #[.int .i64 0, .int .u64 2, .int .i64 2] 76)) := below_alloc (Below.refl _ _) _
    have e9 := World.alloc_heap_new W (.cells #[.int .i64 0, .int .u64 2, .int .i64 2] 76)
    have hs9 : (W.alloc (.cells #[.int .i64 0, .int .u64 2, .int .i64 2] 76)).heap.size = W.heap.size + 1 := World.size_alloc _ _
    generalize W.alloc (.cells #[.int .i64 0, .int .u64 2, .int .i64 2] 76) = W9 at hb0 e9 hs9 ⊢
    have n0 := blk_cell_ e9 0
    have n1 := blk_cell_ e9 1
    have n2 := blk_cell_ e9 2
    have hf9 := (hb0.block _ (lt_of_heap hf0)).trans hf0
    have nf := blk_cell_ hf9 0
    have h49 := (hb0.block _ (lt_of_heap h4)).trans h4
    have hO9 : OutAt W9 bb bb v' [] := OutAt.below ⟨h2, Kd.R_mono h3 (fun _ _ => trivial)⟩ hb0
    have CP := Aside0.mk (dput_ex bb v' [] W9 bb hO9 (by have := lt_of_heap h2; omega) (by simp))
    have HO9 := Aside0.mk hO9
    have H49 := Aside0.mk h49
    have HS := Aside0.mk hS
    have H3 := Aside0.mk h3
    have HB0 := Aside0.mk hb0
    have HS9 := Aside0.mk hs9
    have HOWN := Aside0.mk h3.1
    have HWL := Aside0.mk (lt_of_heap h2)
    clear hx hlr hSl hS hkW h2 h3 h4 hf0 hf9 h49 hO9 hb0 hs9 hl0
    gi_wp2_with fail
    refine ⟨trivial, rfl, (callsIn_wide (n := 0)).2 ((CP.out).mono ?_)⟩
    rintro e w6 ⟨⟨u6, rfl⟩, hg⟩
    have hn6 := hg.other HO9.out H49.out (by decide) (by decide)
    obtain ⟨v6, hO6, hat6, hk6⟩ := hg
    have m0 := blk_cell_ hn6 0
    have mf := blk_frozen hn6 0
    have HN6 := Aside0.mk hn6
    have HO6 := Aside0.mk hO6
    have HA6 := Aside0.mk hat6
    have HK6 := Aside0.mk hk6
    clear hn6 hO6 hat6 hk6 n0 n1 n2 nf e9
    gi_wp2_with fail
    have hsz6 : W.heap.size < w6.heap.size := by have := HS9.out; have := HK6.out.size; omega
    refine ⟨fun k => S k ∨ (W.heap.size ≤ k ∧ k < w6.heap.size), fun k h => ?_, ?_, .inl h1, .inl h1', v6, (Below.heap_setCell _ _ _ _ (by simp)).trans HO6.out.1, ?_, set_at HN6.out 0 _⟩
    · rcases h with h | ⟨h, h'⟩
      · exact .inl h
      · exact .inr ⟨h, by simp [World.setCell]; exact h'⟩
    · refine (((Keeps.of_all HB0.out).trans (HK6.out.mono (fun k hk hlt => ⟨by have := HS9.out; omega, fun e => hk (e ▸ h1), fun e => hk (HOWN.out k e.symm)⟩)))).setCell (fun hk => absurd h1' hk) _
    · have hr6 := Kd.R_set (v := v6) HO6.out.2 HN6.out (by decide) 0 (.int .u64 1)
      refine ⟨fun k hk => ?_, hr6.2⟩
      rcases HA6.out with e | ⟨b, e, hb⟩
      · exact .inl (HOWN.out k (by rw [← e]; exact hk))
      · rw [e] at hk
        injection hk with hk
        subst hk
        exact .inr ⟨by have := HS9.out; omega, Kd.R_lt HO6.out.2 _ e⟩
  case stop => rintro d c pre S W _ _ _ _ _ _ h; exact h.elim
  case done =>
    rintro d S W hd hSd hK hS hkW ⟨h1, h1', v', h2, h3, h4⟩
    have hkw : ∀ k, k < w.heap.size → W.heap[k]? = w.heap[k]? := fun k hk => (hkW.block k ⟨by have := HN.out; omega, fun e => by have := HN.out; omega⟩ (by have := HN.out; omega)).trans (HB5.out.block k hk)
    have hOW : OutAt W base q v [] := ⟨(hkw q HQ.out).trans HO.out.1, Kd.R_step HO.out.2 (fun k _ hk => hkw k hk)⟩
    have hsW : W5.heap.size ≤ W.heap.size := hkW.size
    have CU := Aside0.mk (oUint_one q v [] 1 W base hOW (by have := HN.out; omega) (by decide) (by simp))
    have hown : ∀ k, v.ownBlock = some k → k < w.heap.size := Kd.R_lt HO.out.2
    have c4 := blk_cell_ h4 0
    have H2 := Aside0.mk h2
    have H3 := Aside0.mk h3
    have HK := Aside0.mk hK
    have HD := Aside0.mk hd
    have HOW := Aside0.mk hOW
    have HKW := Aside0.mk hkw
    have HSW := Aside0.mk hsW
    have HOWN := Aside0.mk hown
    have HWE : Aside0 (W.os = w.os ∧ W.tape = w.tape ∧ W.output = w.output) := ⟨hkW.os.trans HB5.out.os, hkW.tape.trans HB5.out.tape, hkW.output.trans HB5.out.output⟩
    clear hS hkW h2 h3 h4 hK h1 h1' hd hSd hkw hOW hsW hown
    go_wp2_with (go_at_call 93; refine (CU.out).mono ?_; rintro e w7 ⟨⟨u7, rfl⟩, hg⟩; have HG7 := Aside0.mk hg; clear hg)
    obtain ⟨v1, hO7, hat7, hk7⟩ := HG7.out
    have hbbW : bb < W.heap.size ∧ w.heap.size < bb := by have := HN.out; have := HSW.out; omega
    have h27 : w7.heap[bb]? = some (.cells #[v'] 108 (0, 0)) := hk7.at_ H2.out ⟨hbbW.1, fun e => by have := HQ.out; omega, fun e => by have := HOWN.out bb e.symm; omega⟩
    have h37 : Kd.R (Kd.int IntKind.u8) 5 w7 bb (fun _ => True) v' [0, 2, 4] := Kd.R_mono (Kd.R_step (Kd.R_bound (Kd.R_mono H3.out (fun _ _ => trivial))) (fun k hk hlt => hk7.block k ⟨hlt, fun e => by have := HQ.out; have := hk.2.1; omega, fun e => by have := HOWN.out k e.symm; have := hk.2.1; omega⟩ hlt)) (fun _ _ => trivial)
    obtain ⟨A3, c3, e3, hl3, hC3⟩ := Kd.R_reads h37
    subst e3
    obtain ⟨A1, n1, c1, e1⟩ := R_is_slice hO7.2
    subst e1
    have q7 := blk_cell_ hO7.1 0
    have b7 := blk_cell_ h27 0
    have HO7 := Aside0.mk hO7
    have HA7 := Aside0.mk hat7
    have HK7 := Aside0.mk hk7
    have HC3 := Aside0.mk hC3
    have HNE := Aside0.mk (Kd.R_ne hO7.2 hO7.1 (by decide))
    have HNB := Aside0.mk (Kd.R_ne hO7.2 h27 (by decide))
    have HBQ := Aside0.mk (show bb ≠ q by have := HQ.out; omega)
    have H27 := Aside0.mk h27
    have HS7 := Aside0.mk (show W.heap.size ≤ w7.heap.size from hk7.size)
    clear hO7 hat7 hk7 h27 h37 hC3 hl3
    replace q7 : w7.cell? ⟨q, 0, none⟩ = some (.slice A1 n1 c1) := q7
    replace b7 : w7.cell? ⟨bb, 0, none⟩ = some (.slice A3 3 c3) := b7
    refine wp_region_noPanic ?_
    go_region_law
      (refine Kd.R_append_rows_step (Kd.int IntKind.u8) (Rr := Kd.K (Kd.int IntKind.u8) w7.drew) (w0 := w7.drew) (W := w7.drew) base rfl (.tmp 23) (.tmp 25) 73 5 (.int .u8 0) 1 rfl Try.underlying73 info_byte rfl (by decide) (by decide) (.slice A1 n1 c1) [1] [0, 2, 4] A3 3 c3 (fun _ => True) (fun _ => False) rfl rfl (Kd.R_drew HO7.out.2) (Kd.C_drew HC3.out) (fun x cs h => h) (fun _ h => h.elim) (fun _ _ => trivial) (Below.refl _ _) (by show base ≤ w7.heap.size; have := HS7.out; have := HSW.out; have := HN.out; omega) (by decide) ?_; intro v9 w9 hR9 hB9 hg9 hat9; obtain ⟨A9, n9, c9, e9⟩ := R_is_slice hR9; subst e9; have hq9 := blk_grown (w := w7.drew) HO7.out.1 hg9 HNE.out; have q9 := blk_cell_ hq9 0; have hb9 := blk_grown (w := w7.drew) H27.out hg9 HNB.out; have b9 := blk_cell_ hb9 0; have f9 := blk_frozen hq9 0; have HQ9 := Aside0.mk hq9; have HR9 := Aside0.mk hR9; have HG9 := Aside0.mk hg9; have HA9 := Aside0.mk hat9; clear hR9 hB9 hg9 hat9 hq9 hb9)
    all_goals
      refine NoPanic.normal ?_
      go_wp2_with fail
      have hws : W.heap.size ≤ w9.heap.size := by have := HS7.out; have h2 : w7.heap.size ≤ w9.heap.size := HG9.out.size; omega
      have hd7 : w7.heap[d]? = some (.deferred (some [])) := HK7.out.at_ HK.out ⟨lt_of_heap HK.out, fun e => by have := HD.out; have := HQ.out; have := HN.out; omega, fun e => by have := HOWN.out d e.symm; have := HD.out; have := HN.out; omega⟩
      have hdne : some d ≠ (Value.slice A1 n1 c1).ownBlock := fun e => by
        rcases HA7.out with e2 | ⟨b, e2, hb⟩
        · rw [e2] at e; have := HOWN.out d e.symm; have := HD.out; have := HN.out; omega
        · rw [e2] at e; injection e with e; have := lt_of_heap HK.out; omega
      have hd9 : w9.heap[d]? = some (.deferred (some [])) := (HG9.out.block d (lt_of_heap hd7) hdne).trans hd7
      have hdq : d ≠ q := fun e => by have := HD.out; have := HQ.out; have := HN.out; omega
      refine ⟨by simp, .inl ⟨_, _, rfl, run_takeDeferred ((Below.heap_setCell _ _ _ _ hdq).trans hd9), ?_⟩⟩
      have hdB : w.heap.size < d := by have := HD.out; have := HN.out; omega
      refine ⟨_, results_none rfl _ _ _, ⟨_, rfl⟩, .slice A9 n9 c9, ⟨(World.putObj_heap_other hdq.symm).trans (set_at HQ9.out 0 _), ?_⟩, ?_, ?_⟩
      · refine Kd.R_mono (Kd.R_step (Kd.R_bound (Kd.R_set HR9.out HQ9.out (by decide) 0 (.slice A9 n9 c9))) (fun k hk hlt => World.putObj_heap_other (fun e => ?_))) (fun _ _ => trivial)
        obtain ⟨-, -, -, t, -, cells, hc⟩ := hk
        rw [e, (Below.heap_setCell _ _ _ _ hdq).trans hd9] at hc
        cases hc
      · rcases HA9.out with e | ⟨b, e, hb⟩
        · rcases HA7.out with e2 | ⟨b, e2, hb⟩
          · exact .inl (e.trans e2)
          · exact .inr ⟨b, e.trans e2, by have := HSW.out; have := HN.out; omega⟩
        · exact .inr ⟨b, e, by have : w7.heap.size ≤ b := hb; have := HS7.out; have := HSW.out; have := HN.out; omega⟩
      · have hkW : Keeps (fun k => k < w.heap.size ∧ k ≠ q ∧ some k ≠ v.ownBlock) w W := ⟨HWE.out.1, HWE.out.2.1, HWE.out.2.2, by have := HSW.out; have := HN.out; omega, fun k hk hlt => HKW.out k hk.1⟩
        have hk7 : Keeps (fun k => k < w.heap.size ∧ k ≠ q ∧ some k ≠ v.ownBlock) W w7 := HK7.out.mono (fun k hk hlt => ⟨hlt, hk.2⟩)
        have hk9 : Keeps (fun k => k < w.heap.size ∧ k ≠ q ∧ some k ≠ v.ownBlock) w7 w9 := ((Keeps.refl _ w7).drew).grown (W := w7.drew) HG9.out (fun k e hk => by
          rcases HA7.out with e2 | ⟨b, e2, hb⟩
          · exact absurd (e2.symm.trans e).symm hk.2.2
          · rw [e2] at e
            injection e with e
            have := hk.1; have := HSW.out; have := HN.out; omega)
        exact (((hkW.trans hk7).trans hk9).setCell (fun hk => absurd rfl hk.2.1) _).putObj (fun hk => by have := hk.1; omega) _

set_option maxRecDepth 100000 in
set_option maxHeartbeats 4000000 in
/-- The example's list as bytes. -/
theorem dwrite_ex (A0 : Option Addr) (c0 : Nat) (w : World) (hC : Kd.C PDelta.k76 w A0 1 [⟨0, ⟨2, 2⟩⟩]) (hc0 : 1 ≤ c0) :
    Calls Try.prog 34 #[.slice A0 1 c0] w fun e w' => ∃ v : Value, e = .returned v ∧ Kd.R (Kd.int IntKind.u8) 5 w' w.heap.size (fun _ => True) v [1, 0, 2, 4] ∧ Below w.heap.size w w' := by
  obtain ⟨W5, hW5⟩ : ∃ W5, W5 = allocs w [.cells #[.slice none 0 0] 108, .cells #[.slice A0 1 c0] 26] := ⟨_, rfl⟩
  have g0 : W5.heap[w.heap.size]? = some (.cells #[.slice none 0 0] 108 (0, 0)) := by rw [hW5]; exact allocs_at _ w 0 _ rfl
  have g1 : W5.heap[w.heap.size + 1]? = some (.cells #[.slice A0 1 c0] 26 (0, 0)) := by rw [hW5]; exact allocs_at _ w 1 _ rfl
  have hB5 : Below w.heap.size w W5 := by rw [hW5]; exact (allocs_keeps (fun _ => True) w _).below (fun _ _ => trivial) (Nat.le_refl _)
  have CV := Aside0.mk (fun W => valsC_any (.slice A0 1 c0) ⟨_, _, _, rfl⟩ W)
  have CP := Aside0.mk (cPut_ex w.heap.size (.slice none 0 0) A0 c0 (w.heap.size + 1) w W5 w.heap.size ⟨g0, Kd.R_nil _ _ _ _ _⟩ hB5.size (Kd.C_below hC hB5) hc0 g1)
  have HB5 := Aside0.mk hB5
  have HW5 := Aside0.mk hW5
  clear g0 g1 hB5 hW5 hC
  go_enter Try.func34, Try.ntmps34
  go_wp2_with (go_at_call 62; refine (CV.out _).mono ?_; rintro e w1 ⟨rfl, rfl⟩; refine heldg_out ?_)
  refine ⟨?_⟩
  have e5 : (w.alloc (.cells #[.slice none 0 0] 108)).alloc (.cells #[.slice A0 1 c0] 26) = W5 := HW5.out.symm
  rw [e5]
  clear e5 HW5
  go_wp2_with (first
    | (go_at_call 61; refine (CP.out).mono ?_; rintro e w1 ⟨⟨u1, rfl⟩, hg⟩; obtain ⟨v1, ho, -, hk⟩ := hg; have HO := Aside0.mk ho; have HK := Aside0.mk hk; clear ho hk)
    | (go_at_call 64; refine (oDone_any w.heap.size v1 [1, 0, 2, 4] w1 w.heap.size HO.out (by decide)).mono ?_; rintro e w2 ⟨v2, rfl, hR, hB⟩; have HR := Aside0.mk hR; have HB := Aside0.mk hB; clear hR hB))
  go_ret
  have hb1 : Below w.heap.size w w1 := HB5.out.trans (HK.out.below (fun k hk => ⟨by have := HB5.out.size; omega, by omega, by simp [Value.ownBlock]⟩) HB5.out.size)
  exact ⟨_, rfl, Kd.R_lower HR.out hb1.size, hb1.trans (HB.out.mono hb1.size)⟩
end Go.Proofs.Ytafhdamdkefpkaa

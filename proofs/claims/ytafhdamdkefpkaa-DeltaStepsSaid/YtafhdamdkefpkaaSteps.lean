/- The law DeltaSteps returns true: its walk. -/
import Derived.Test.YtafhdamdkefpkaaDeltaI
import Derived.Test.YtafhdamdkefpkaaPlBook
import Derived.Test.YtafhdamdkefpkaaKitC
namespace Go.Proofs.Ytafhdamdkefpkaa
open Go.RowKit Go.Proofs.YtafhdamdkefpkaaW.PrintWords Go.Proofs.YtafhdamdkefpkaaW.PrintLast Go.Proofs.YtafhdamdkefpkaaW.PrintMore
attribute [local go_sem] max2_int min2_int max_two min_two Oper.semAt_some
set_option linter.unusedVariables false
set_option linter.unusedSimpArgs false
/-- The law's boxes: how many are asked for, the answer. -/
structure DG (w : World) (b : Nat) (mv : Int) (W : World) : Prop where
  below : Below w.heap.size w W
  e0 : W.heap[b]? = some (.cells #[.int .i64 mv] 3 (0, 0))
  e1 : W.heap[b + 1]? = some (.cells #[.bool false] 4 (0, 0))
theorem DG.step {w : World} {b : Nat} {mv : Int} {W W' : World} (h : DG w b mv W) (hb : Below W.heap.size W W') : DG w b mv W' :=
  ⟨below_step h.below hb, (hb.block _ (lt_of_heap h.e0)).trans h.e0, (hb.block _ (lt_of_heap h.e1)).trans h.e1⟩

/-- A row of the call's own, but none of the boxes. -/
def Fnc (b bx : Nat) (k : Nat) : Prop := k ≠ b ∧ k ≠ b + 1 ∧ k ≠ bx
/-- The books so far. -/
structure StepS (w : World) (rows : List (List PDelta.S76)) (b bx : Nat) (mv : Int) (i : Nat) (v6 : Value) (W : World) : Prop where
  good : DG w b mv W
  row : Kd.R (Kd.slice 68 PDelta.k68) 31 W w.heap.size (Fnc b bx) v6 (bkAt rows i)
  books : ∃ vb, W.heap[bx]? = some (.cells #[vb] 24 (0, 0)) ∧ Kd.R (Kd.slice 31 (Kd.slice 68 PDelta.k68)) 25 W w.heap.size (Fnc b bx) vb (bksTo rows i)
theorem at_Rows {w : World} {A : Option Addr} {n : Nat} {xs : List (List PDelta.S76)} (h : Kd.C (Kd.slice 76 PDelta.k76) w A n xs) (i : Nat) (h1 : i < n) : ∃ ad A0 c0, A = some ad ∧ w.cell? (ad.add i) = some (.slice A0 (xs.getD i []).length c0) ∧ (xs.getD i []).length ≤ c0 ∧ Kd.C PDelta.k76 w A0 (xs.getD i []).length (xs.getD i []) := by
  obtain ⟨ad, c, e, _, hK, hc0⟩ := Kd.C_get h ([] : List PDelta.S76) (i : Int) (by omega) (by omega)
  have hc : ∀ j u, c[j]? = some u → w.cell? (ad.add (i * 1 + j)) = some u := hc0
  obtain ⟨A0, c0, rfl, l0, g0⟩ := hK
  exact ⟨ad, A0, c0, e, by have hq := hc 0 _ rfl; rwa [Nat.mul_one, Nat.add_zero] at hq, l0, g0⟩
theorem info_entriess : (Try.prog.info? 25).map (fun i => (i.zero, i.size, i.bytes)) = some (some (.slice none 0 0), 1, 24) := by kernel_rfl
theorem R_empty {α : Type} (d : Kd α) {e : Nat} {W : World} {base g : Nat} {ok : Nat → Prop} (h : W.heap[g]? = some (.cells #[] e (0, 0))) (hg : base ≤ g) (hok : ok g) : d.R e W base ok (.slice (some ⟨g, 0, none⟩) 0 0) [] :=
  ⟨fun k hk => by
    have : g = k := by simpa [Value.ownBlock] using hk
    subst this
    exact hok, _, own_shut (cur := []) hg h (Nat.le_refl _) (by decide) (by simp) rfl, by simpa using Reps.none _ _⟩

theorem i64_and15 (n : Int) : Go.bits .and .i64 n 15 = n % 16 := by
  have h15 : (BitVec.ofInt 64 15).toNat = 2 ^ 4 - 1 := by decide
  have key : (BitVec.ofInt 64 n &&& BitVec.ofInt 64 15).toNat = (n % ((2 ^ 64 : Nat) : Int)).toNat % 2 ^ 4 := by
    rw [BitVec.toNat_and, BitVec.toNat_ofInt, h15, Nat.and_two_pow_sub_one_eq_mod]
  show IntKind.i64.wrap ((BitVec.ofInt 64 n &&& BitVec.ofInt 64 15).toNat : Nat) = n % 16
  rw [key, IntKind.wrap_i64]
  omega
theorem steps_at {books : List (List (List PDelta.S68))} {pre post : List (List PDelta.S76)} {x : List PDelta.S76} (h : stepsL books = pre ++ x :: post) : pre.length < books.length ∧ x = diffL (prevB books pre.length) (books.getD pre.length []) := by
  have hl : (stepsL books).length = books.length := stepsTo_length books books.length
  have hlt : pre.length < books.length := by rw [← hl, h]; simp
  refine ⟨hlt, ?_⟩
  obtain ⟨p, hp⟩ := stepsL_split books hlt
  rw [h] at hp
  have := (List.append_inj hp (stepsTo_length books pre.length).symm).2
  injection this
theorem sameE_l (l : List PDelta.S68) (hl : l.length ≤ 1000000000) : ∀ (m i : Nat), i + m = l.length → PDelta.saleroomref11_Same.l0 (m + 1) l l (i : Int) = some true
  | 0, i, h => by
    unfold PDelta.saleroomref11_Same.l0
    rw [if_neg (by omega)]
  | m + 1, i, h => by
    unfold PDelta.saleroomref11_Same.l0
    rw [if_pos (by omega), if_pos (by omega), if_pos (by omega)]
    have hw : wrap64 ((i : Int) + 1) = ((i + 1 : Nat) : Int) := by unfold wrap64; omega
    rw [hw, sameE_l l hl m (i + 1) (by omega)]
    simp
theorem sameE_f (l : List PDelta.S68) (hl : l.length ≤ 1000000000) : PDelta.saleroomref11_Same.f (l.length + 1) l l = some true := by
  unfold PDelta.saleroomref11_Same.f
  rw [if_pos rfl]
  exact sameE_l l hl l.length 0 (by omega)
/-- What is held between the rounds: how many lists came, and the copy. -/
structure CopyS (rows : List (List PDelta.S76)) (zs n : Nat) (S : Nat → Prop) (W : World) : Prop where
  mine : S zs ∧ S (zs + 1) ∧ S (zs + 2)
  n_ : W.heap[zs]? = some (.cells #[.int .i64 (n : Nat)] 3 (0, 0))
  copy : ∃ vc cb, W.heap[zs + 2]? = some (.cells #[vc] 25 (0, 0)) ∧ Kd.R (Kd.slice 68 PDelta.k68) 31 W 0 (fun k => S k ∧ k ≠ zs ∧ k ≠ zs + 2) vc cb ∧ AgreeL cb (bkAt rows n)
theorem CopyS.abide {rows : List (List PDelta.S76)} {zs n B : Nat} {S : Nat → Prop} {W W' : World} (h : CopyS rows zs n S W) (hk : Keeps (fun k => S k ∨ k < B) W W') : CopyS rows zs n S W' := by
  obtain ⟨h1, h2, vc, cb, h3, h4, h5⟩ := h
  exact ⟨h1, hk.at_ h2 (.inl h1.1), vc, cb, hk.at_ h3 (.inl h1.2.2), Kd.R_step h4 (fun k h _ => hk.block k (.inl h.1) (by assumption)), h5⟩

set_option maxRecDepth 100000 in
set_option maxHeartbeats 4000000 in
theorem stepsL_law (A0 : Option Addr) (c0 : Nat) (rows : List (List PDelta.S76)) (most : Int) (w : World) (hC : Kd.C (Kd.slice 76 PDelta.k76) w A0 rows.length rows) (hc0 : rows.length ≤ c0) (hu : ∀ r ∈ rows, ∀ c ∈ r, U64 c.f1.f0) :
    Calls Try.prog 3 #[.slice A0 rows.length c0, .int .i64 most] w fun e w' => e = .returned (.bool true) ∧ Below w.heap.size w w' := by
  have HC := Aside0.mk hC
  have HU := Aside0.mk hu
  clear hC hu
  refine (callsIn_wide (n := 0)).1 ?_
  refine callsIn_of_wp_marks Try.func3 rfl trivial ?_ rfl
  simp only [Try.ntmps3, List.size_toArray, List.length_cons, List.length_nil, Nat.reduceAdd, Nat.reduceSub, Array.replicate_succ, Array.replicate_zero, List.push_toArray, List.append_toArray, List.nil_append, List.cons_append]
  refine wpIn_wide.2 ?_
  go_wp2_with fail
  obtain ⟨W1, hW1⟩ : ∃ W1, W1 = allocs w [.cells #[.int .i64 most] 3, .cells #[.bool false] 4] := ⟨_, rfl⟩
  have hG : DG w w.heap.size most W1 := by
    rw [hW1]
    exact ⟨(allocs_keeps (fun _ => True) w _).below (fun _ _ => trivial) (Nat.le_refl _), allocs_at _ w 0 _ rfl, allocs_at _ w 1 _ rfl⟩
  change Calls _ _ _ (allocs w [_, _]) _
  rw [← hW1]
  clear hW1
  obtain ⟨b, hb⟩ : ∃ b, b = w.heap.size := ⟨_, rfl⟩
  rw [← hb] at hG ⊢
  have HBW := Aside0.mk hb
  clear hb
  refine (dalive_true W1).mono ?_
  rintro e W2 ⟨rfl, hb2⟩
  have HG := Aside0.mk (hG.step hb2)
  clear hG hb2
  have q1 := blk_cell_ HG.out.e1 0
  have f1 := blk_frozen HG.out.e1 0
  by_cases hl : rows.length ≤ 10
  · have t1 : decide ((rows.length : Int) > 10) = false := decide_eq_false (by omega)
    have t2 : decide (10 < rows.length) = false := decide_eq_false (by omega)
    have HL := Aside0.mk hl
    clear hl
    go_wp2_with fail
    obtain ⟨bx, hbx⟩ : ∃ bx, bx = W2.heap.size + 1 := ⟨_, rfl⟩
    have hs2 : b + 1 < W2.heap.size := lt_of_heap HG.out.e1
    obtain ⟨W3, hW3⟩ : ∃ W3, W3 = allocs W2 [.cells #[] 25, .cells #[.slice (some ⟨W2.heap.size, 0, none⟩) 0 0] 24, .cells #[] 31] := ⟨_, rfl⟩
    have hB3 : Below W2.heap.size W2 W3 := by rw [hW3]; exact (allocs_keeps (fun _ => True) W2 _).below (fun _ _ => trivial) (Nat.le_refl _)
    have x0 : W3.heap[W2.heap.size]? = some (.cells #[] 25 (0, 0)) := by rw [hW3]; exact allocs_at _ W2 0 _ rfl
    have x1 : W3.heap[bx]? = some (.cells #[.slice (some ⟨W2.heap.size, 0, none⟩) 0 0] 24 (0, 0)) := by rw [hW3, hbx]; exact allocs_at _ W2 1 _ rfl
    have x2 : W3.heap[bx + 1]? = some (.cells #[] 31 (0, 0)) := by rw [hW3, hbx]; exact allocs_at _ W2 2 _ rfl
    have hbw : w.heap.size ≤ W2.heap.size := HG.out.below.size
    have hS0 : StepS w rows b bx most 0 (.slice (some ⟨bx + 1, 0, none⟩) 0 0) W3 :=
      ⟨HG.out.step hB3, R_empty _ x2 (by omega) ⟨by omega, by omega, by omega⟩, _, x1, R_empty _ x0 (by omega) ⟨by omega, by omega, by omega⟩⟩
    have HS0 := Aside0.mk hS0
    have HZ := Aside0.mk (show b + 1 < bx ∧ w.heap.size ≤ b ∧ bx < W3.heap.size from ⟨by omega, by have := HBW.out; omega, lt_of_heap x1⟩)
    rw [← hbx]
    change Code.wp _ _ _ _ (allocs W2 [_, _, _])
    rw [← hW3]
    clear hW3 hbx hB3 x0 x1 x2 hbw hS0 hs2 HG q1 f1 t1 t2
    go_loopg [6, 23] rows.length (fun n v6 v23 W => ∃ (i : Nat) (A : Option Addr) (c : Nat), v23 = .int .i64 i ∧ v6 = .slice A (bkAt rows i).length c ∧ Aside0 (i + n = rows.length) ∧ Aside0 (RowsOk rows i) ∧ Aside0 (StepS w rows b bx most i (.slice A (bkAt rows i).length c) W))
    case atStart => exact ⟨0, _, 0, rfl, rfl, ⟨by omega⟩, ⟨by omega, fun k hk => by omega⟩, HS0⟩
    case round =>
      clear HS0
      obtain ⟨i, A6, c6, rfl, rfl, HI, HRO, HS⟩ := hrel
      by_cases c : (i : Int) < (rows.length : Int)
      · have hil : i < rows.length := by omega
        have HIL := Aside0.mk hil
        obtain ⟨ad, A1, c1, e1, hx, hl1, hC1⟩ := at_Rows (Kd.C_below HC.out HS.out.good.below) i hil
        cases e1
        have p1 : (0 : Int) ≤ (i : Int) := by omega
        have q1 := blk_cell_ HS.out.good.e1 0
        have f1 := blk_frozen HS.out.good.e1 0
        have hux : ∀ c ∈ rows.getD i [], U64 c.f1.f0 := HU.out _ (by simp [List.getD, hil])
        by_cases h20 : (rows.getD i []).length ≤ 20
        · have t1 : decide (((rows.getD i []).length : Int) > 20) = false := decide_eq_false (by omega)
          have t2 : decide (20 < (rows.getD i []).length) = false := decide_eq_false (by omega)
          have HRO1 : Aside0 (RowsOk rows (i + 1)) := ⟨by omega, fun k hk => by
            by_cases e : k = i
            · rw [e]; exact ⟨h20, hux⟩
            · exact HRO.out.2 k (by omega)⟩
          have HF := Aside0.mk (bkAt_fine HRO.out i (Nat.le_refl _))
          have hCb := (Kd.R_reads' HS.out.row).2
          have CA := Aside0.mk (dapply_any A6 A1 c6 c1 (bkAt rows i) (rows.getD i []) wr hCb.2 hCb.1 hC1 hl1 HF.out.2 (by omega) (fun l hl => by have := (HF.out.1 l hl).2; have := HL.out; omega) (fun l hl e he => (HF.out.1 l hl).1.sorted.1 e he) hux)
          rw [← bkAt_succ rows i hil] at CA
          obtain ⟨vb, hvb, hRb⟩ := HS.out.books
          have c5 := blk_cell_ hvb 0
          have HVB := Aside0.mk hvb
          have HRB := Aside0.mk hRb
          have wrapI : wrap64 ((i : Int) + 1) = ((i + 1 : Nat) : Int) := by unfold wrap64; have := HL.out; omega
          have HBL : Aside0 ((bksTo rows i).length ≤ 10) := ⟨by rw [bksTo_length]; have := HL.out; omega⟩
          have HBS := Aside0.mk (bksTo_succ rows i)
          have HFN : Aside0 (∀ k, wr.heap.size ≤ k → Fnc b bx k) := ⟨fun k hk => by
            have h1 := lt_of_heap HS.out.good.e1
            have h2 := lt_of_heap hvb
            exact ⟨by omega, by omega, by omega⟩⟩
          clear hil hCb hC1 hl1 h20 hux hvb hRb HRO q1 f1
          replace p1 := eq_true p1
          replace c := eq_true c
          generalize rows.getD i [] = cs at hx CA t1 t2
          generalize hb1 : bkAt rows (i + 1) = bk1 at CA HBS
          generalize hb0 : (bkAt rows i).length = n6 at CA
          clear hb0
          generalize hbs : bksTo rows i = bks at HRB HBS HBL
          go_wp2_with (first
            | (go_at_call 9; (with_reducible refine (CA.out).mono ?_); rintro e w1 ⟨v1, rfl, hr1, hbl1⟩; obtain ⟨A7, c7, e7⟩ := Kd.R_slice hr1; subst e7; have HR1 := Aside0.mk hr1; have HB1 := Aside0.mk hbl1; have hvb1 := (hbl1.block _ (lt_of_heap HVB.out)).trans HVB.out; have c51 := blk_cell_ hvb1 0; have HVB1 := Aside0.mk hvb1; have HBB := Aside0.mk (below_step HS.out.good.below hbl1); clear c5 hvb1 hr1 hbl1)
            | ((with_reducible refine gate_builtin (b := .append) (xs := #[.tmp 33, .tmp 35]) rfl ?_); at_builtin; refine Kd.R_append (Kd.slice 31 (Kd.slice 68 PDelta.k68)) (w0 := w) (W := w1) w.heap.size rfl (.tmp 33) (.tmp 35) 24 25 (.slice none 0 0) 24 rfl Try.underlying24 info_entriess rfl (by decide) (by decide) vb bks bk1 [.slice A7 bk1.length c7] (Fnc b bx) (fun k => wr.heap.size ≤ k) rfl rfl
                ⟨_, rfl, Kd.R_lower (Kd.R_mono (Kd.R_bound HR1.out) (fun k hk => hk.2.1)) HS.out.good.below.size⟩ (fun k hk => ⟨HFN.out k hk, fun e => by have := Kd.R_lt HRB.out k e.symm; omega⟩) (fun k hk => HFN.out k (Nat.le_trans HB1.out.size hk)) (Kd.R_below HRB.out HB1.out) HBB.out HBB.out.size (by have := HBL.out; omega) ?_
               intro v9 w9 hR9 hB9 hg9 hat9
               obtain ⟨A9, c9, e9⟩ := Kd.R_slice hR9
               subst e9
               have HR9 := Aside0.mk hR9
               have HB9 := Aside0.mk hB9
               have HG9 := Aside0.mk hg9
               have hvb9 := blk_grown HVB1.out hg9 (Kd.R_ne (Kd.R_below HRB.out HB1.out) HVB1.out (by decide))
               have c59 := blk_cell_ hvb9 0
               have f59 := blk_frozen hvb9 0
               have HVB9 := Aside0.mk hvb9
               clear hR9 hB9 hg9 hat9 c51 hvb9))
          go_roundg (gk - 1)
          case measure => have := HI.out; have := HIL.out; omega
          case rel =>
            refine ⟨i + 1, A7, c7, by first | rfl | (simp; done) | rw [wrapI], by rw [hb1], ⟨by have := HI.out; have := HIL.out; omega⟩, HRO1, ⟨?_⟩⟩
            have hbr := Kd.R_below HRB.out HB1.out
            have hr7 : Kd.R (Kd.slice 68 PDelta.k68) 31 w9 w.heap.size (Fnc b bx) (.slice A7 bk1.length c7) bk1 :=
              Kd.R_over' (Kd.R_lower (Kd.R_mono (Kd.R_bound HR1.out) (fun k hk => HFN.out k hk.2.1)) HS.out.good.below.size) (fun k hk => Kd.R_typed hbr k hk) (fun q hq => by
                have : q = 31 ∨ q = 68 := by
                  rcases List.mem_cons.1 hq with h | h
                  · exact .inl h
                  · rcases List.mem_cons.1 h with h | h
                    · exact .inr h
                    · exact absurd h (by rw [kE_E]; simp)
                rcases this with rfl | rfl <;> decide) HG9.out
            have hG1 := HS.out.good.step HB1.out
            have e0 := blk_grown hG1.e0 HG9.out (Kd.R_ne hbr hG1.e0 (by decide))
            have e1 := blk_grown hG1.e1 HG9.out (Kd.R_ne hbr hG1.e1 (by decide))
            have hz := HZ.out
            refine ⟨⟨?_, (Below.heap_setCell _ _ _ _ (by simp only; omega)).trans e0, (Below.heap_setCell _ _ _ _ (by simp only; omega)).trans e1⟩, ?_, _, set_at HVB9.out 0 _, ?_⟩
            · exact HB9.out.trans (((Keeps.refl (fun k => k ≠ bx) _).setCell (fun h => absurd rfl h) _).below (fun k hk => by omega) HB9.out.size)
            · rw [hb1]
              exact Kd.R_far hr7 (p := ⟨bx, 0, none⟩) (fun k hk => hk.2.2) _
            · rw [HBS.out]
              have h := Kd.R_far HR9.out (p := ⟨bx, 0, none⟩) (fun k hk => hk.2.2) (.slice A9 (bks ++ [bk1]).length c9)
              rw [List.length_append] at h
              exact h
        · have t1 : decide (((rows.getD i []).length : Int) > 20) = true := decide_eq_true (by omega)
          have t2 : decide (20 < (rows.getD i []).length) = true := decide_eq_true (by omega)
          have hG := HS.out.good
          have HG := Aside0.mk hG
          clear hG HS hux h20 hC1 hl1 hil
          replace p1 := eq_true p1
          replace c := eq_true c
          generalize rows.getD i [] = cs at hx t1 t2
          go_wp2_with fail
          have hr' := set_at HG.out.e1 0 (.bool true)
          have hcell := blk_cell_ hr' 0
          refine ⟨.bool true, by simp [results, Try.results3, go_sem, hcell], rfl, ?_⟩
          exact HG.out.below.trans (((Keeps.refl (fun k => k ≠ b + 1) _).setCell (fun h => absurd rfl h) _).below (fun k hk => by have := HZ.out; omega) HG.out.below.size)
      · have hio : i = rows.length := by have := HI.out; omega
        subst hio
        have c1 : ((rows.length : Int) < (rows.length : Int)) = False := eq_false (by omega)
        have c2 : (rows.length < rows.length) = False := eq_false (by omega)
        have c0' := blk_cell_ HS.out.good.e0 0
        have f0' := blk_frozen HS.out.good.e0 0
        have hand := i64_and15 most
        have hr0 : 0 ≤ most % 16 := Int.emod_nonneg _ (by decide)
        have hr1 : most % 16 < 16 := Int.emod_lt_of_pos _ (by decide)
        obtain ⟨mn, hmn⟩ : ∃ mn : Nat, (mn : Int) = 1 + most % 16 := ⟨(1 + most % 16).toNat, by omega⟩
        have HMN := Aside0.mk (show 1 ≤ mn ∧ mn ≤ 16 by omega)
        have HMV := Aside0.mk hmn
        clear hmn c
        go_upto_region 18 with fail
        rw [← HMV.out]
        obtain ⟨zs, hzs⟩ : ∃ zs, zs = wr.heap.size := ⟨_, rfl⟩
        rw [← hzs]
        obtain ⟨Wm, hWm⟩ : ∃ Wm, Wm = wr.setCell ⟨b, 0, none⟩ (.int .i64 (mn : Int)) := ⟨_, rfl⟩
        have hsm : Wm.heap.size = zs := by rw [hWm]; simp [World.setCell, hzs]
        have hz := HZ.out
        have hkm : Keeps (fun k => k ≠ b) wr Wm := by rw [hWm]; exact (Keeps.refl _ _).setCell (fun h => absurd rfl h) _
        have hGm : DG w b mn Wm := ⟨HS.out.good.below.trans (hkm.below (fun k hk => by omega) HS.out.good.below.size), by rw [hWm]; exact set_at HS.out.good.e0 0 _, hkm.at_ HS.out.good.e1 (by omega)⟩
        obtain ⟨vb, hvb, hRb⟩ := HS.out.books
        have hvbm := hkm.at_ hvb (show bx ≠ b by omega)
        have hRm : Kd.R (Kd.slice 31 (Kd.slice 68 PDelta.k68)) 25 Wm w.heap.size (Fnc b bx) vb (bksTo rows rows.length) := Kd.R_step hRb (fun k hk hlt => hkm.block k hk.1 hlt)
        obtain ⟨W6, hW6⟩ : ∃ W6, W6 = allocs Wm [.cells #[.int .i64 0] 3, .cells #[] 31, .cells #[.slice (some ⟨zs + 1, 0, none⟩) 0 0] 25] := ⟨_, rfl⟩
        change Code.wp _ _ _ _ (allocs (wr.setCell ⟨b, 0, none⟩ (.int .i64 (mn : Int))) [_, _, _])
        rw [← hWm, ← hW6]
        have hB6 : Below Wm.heap.size Wm W6 := by rw [hW6]; exact (allocs_keeps (fun _ => True) Wm _).below (fun _ _ => trivial) (Nat.le_refl _)
        have g0 : W6.heap[zs]? = some (.cells #[.int .i64 0] 3 (0, 0)) := by rw [hW6, ← hsm]; exact allocs_at _ _ 0 _ rfl
        have g1 : W6.heap[zs + 1]? = some (.cells #[] 31 (0, 0)) := by rw [hW6, ← hsm]; exact allocs_at _ _ 1 _ rfl
        have g2 : W6.heap[zs + 2]? = some (.cells #[.slice (some ⟨zs + 1, 0, none⟩) 0 0] 25 (0, 0)) := by rw [hW6, ← hsm]; exact allocs_at _ _ 2 _ rfl
        have hs6 : W6.heap.size = zs + 3 := by rw [hW6, allocs_size, hsm]; rfl
        obtain ⟨Ab, cb, eb, hlb, hCb⟩ := Kd.R_reads hRm
        subst eb
        have q6 := blk_cell_ ((hB6.block _ (lt_of_heap hvbm)).trans hvbm) 0
        have hbz : b + 1 < bx ∧ bx < zs ∧ w.heap.size ≤ b := ⟨hz.1, by rw [← hsm]; exact lt_of_heap hvbm, hz.2.1⟩
        have HBZ := Aside0.mk hbz
        have HSM := Aside0.mk hsm
        clear hW6 hWm hkm hvb hRb HS hand hr0 hr1 c0' f0' hzs
        go_wp2_with (go_at_call 10; refine (dsteps_any _ ⟨_, _, _, rfl⟩ _).mono ?_; rintro e w' ⟨rfl, rfl⟩)
        try rw [show zs + 1 + 1 = zs + 2 from rfl]
        try rw [hs6]
        have hk7 : Below W6.heap.size W6 (W6.alloc (.cells #[.slice Ab (bksTo rows rows.length).length cb] 24)) := below_alloc (Below.refl _ _) _
        have g3 := World.alloc_heap_new W6 (.cells #[.slice Ab (bksTo rows rows.length).length cb] 24)
        have hs7 : (W6.alloc (.cells #[.slice Ab (bksTo rows rows.length).length cb] 24)).heap.size = zs + 4 := by rw [World.size_alloc, hs6]
        rw [hs6] at g3
        generalize W6.alloc (.cells #[.slice Ab (bksTo rows rows.length).length cb] 24) = W7 at hk7 g3 hs7 ⊢
        have hB7 : Below Wm.heap.size Wm W7 := hB6.trans (hk7.mono (by rw [hsm, hs6]; omega))
        have HKM : Aside0 (∀ k, k < zs → W7.heap[k]? = Wm.heap[k]?) := ⟨fun k hk => hB7.block k (by rw [hsm]; exact hk)⟩
        have h07 := (hk7.block _ (lt_of_heap g0)).trans g0
        have h17 := (hk7.block _ (lt_of_heap g1)).trans g1
        have h27 := (hk7.block _ (lt_of_heap g2)).trans g2
        have HG7 := Aside0.mk (hGm.step hB7)
        have HVB7 := Aside0.mk ((hB7.block _ (lt_of_heap hvbm)).trans hvbm)
        have HCB7 := Aside0.mk (Kd.C_below hCb hB7)
        have HLB := Aside0.mk hlb
        have HS7 := Aside0.mk hs7
        have HRK := Aside0.mk hRm
        have hitG := dsteps1_iter Wm W7 Ab cb (bksTo rows rows.length) (zs + 3) (fun k => k < W7.heap.size ∧ ¬ (zs ≤ k ∧ k ≤ zs + 2)) hCb hlb (by rw [bksTo_length]; have := HL.out; omega) (bksTo_ok HRO.out HL.out _ (Nat.le_refl _)) hB7 g3 (fun k hk => ⟨by omega, by omega⟩) ⟨by omega, by omega⟩
        clear g0 g1 g2 g3 hk7 hs6 hs7 hGm hvbm hCb hlb hRm hB6 q6 hB7 hz hsm hbz
        refine (wpIn_wide (n := 0)).1 ?_
        refine range_outerB rfl (enters_of Try.func43 (by kernel_rfl) rfl) chgRel_ok hitG (fun k h => h.1) (fun _ => rfl) (fun k => zs ≤ k ∧ k ≤ zs + 2) (fun k h => ⟨by have := HS7.out; omega, fun h' => h'.2 h⟩)
          (fun pre S W => pre.length < mn ∧ CopyS rows zs pre.length S W)
          (fun pre S W => pre.length = mn ∧ CopyS rows zs pre.length S W)
          ?hI ?hIb ?h0 (fun v n => [(11, v)]) (fun v => []) ?assign ?body ?fin
        case hI =>
          rintro pre S A B ⟨h1, h2⟩ hk
          exact ⟨h1, h2.abide hk⟩
        case hIb =>
          rintro pre S A B ⟨h1, h2⟩ hk
          exact ⟨h1, h2.abide hk⟩
        case h0 => exact ⟨HMN.out.1, ⟨⟨by omega, by omega⟩, ⟨by omega, by omega⟩, ⟨by omega, by omega⟩⟩, h07, _, [], h27, R_empty _ h17 (Nat.zero_le _) ⟨⟨by omega, by omega⟩, by omega, by omega⟩, agree_nil⟩
        case assign =>
          intro l x W K hK
          simp only [encV, allocs, slotsSet, List.zip_toArray, List.zip_cons_cons, List.zip_nil_left, List.zip_nil_right, List.foldl_toArray, List.foldl_cons, List.foldl_nil, List.setIfInBounds_toArray, List.set_cons_succ, List.set_cons_zero] at hK ⊢
          gi_wp2
          exact hK
        case body =>
          rintro l pre x post v S W hx hrel hl0 hlr hSl hS hkW ⟨h1, hc⟩
          obtain ⟨hn, hxd⟩ := steps_at hx
          rw [bksTo_length] at hn
          rw [prevB_bks _ _ _ hn, bksTo_get _ _ _ hn] at hxd
          have hf0 := bkAt_fine HRO.out pre.length (by omega)
          have hf1 := bkAt_fine HRO.out (pre.length + 1) (by omega)
          have hrl := HL.out
          have hxl : x.length ≤ 12800 := by rw [hxd]; have := diff_length (was := bkAt rows pre.length) hf1; omega
          have hxu : ∀ c ∈ x, U64 c.f1.f0 := by rw [hxd]; exact diff_u (fun l hl => (hf1.1 l hl).1)
          obtain ⟨hm, hn_, vc, cbk, hvc, hRc, hag⟩ := hc
          have hag1 : AgreeL (applyL cbk x) (bkAt rows (pre.length + 1)) := by rw [hxd]; exact copy_step HRO.out hn hag
          obtain ⟨Ac, cc, ec, hlc, hCc⟩ := Kd.R_reads hRc
          subst ec
          obtain ⟨Ax, cx, e1, hlx, hCx⟩ := Kd.R_reads hrel
          subst e1
          have hsmall : ∀ l ∈ cbk, l.length ≤ 700000 := by
            intro l hl
            obtain ⟨j, hj, rfl⟩ := List.getElem_of_mem hl
            have e : cbk[j] = atL (bkAt rows pre.length) j := by rw [← hag.at_ j]; simp [atL, List.getD, hj]
            rw [e]
            rcases atL_cases (bkAt rows pre.length) j with h | h
            · have := (hf0.1 _ h).2; omega
            · rw [h]; simp
          have CA := Aside0.mk (dapply_any Ac Ax cc cx cbk x W hCc hlc hCx hlx hag.few (by omega) hsmall (fun l hl e he => (hag.tight l hl).sorted.1 e he) hxu)
          have hbz := HBZ.out
          have hG : DG w b mn W := ⟨HG7.out.below.trans (hkW.below (fun k hk => ⟨by have := HS7.out; omega, by omega⟩) HG7.out.below.size), hkW.at_ HG7.out.e0 ⟨lt_of_heap HG7.out.e0, by omega⟩, hkW.at_ HG7.out.e1 ⟨lt_of_heap HG7.out.e1, by omega⟩⟩
          have HKW : Aside0 (∀ k, k < zs → W.heap[k]? = Wm.heap[k]?) := ⟨fun k hk => (hkW.block k ⟨by have := HS7.out; omega, by omega⟩ (by have := HS7.out; omega)).trans (HKM.out k hk)⟩
          have hvbW := hkW.at_ HVB7.out ⟨lt_of_heap HVB7.out, by omega⟩
          have HM := Aside0.mk hm
          have HN := Aside0.mk hn_
          have HN2 := Aside0.mk hn
          have HVC := Aside0.mk hvc
          have HAG := Aside0.mk hag1
          have HGW := Aside0.mk hG
          have HVW := Aside0.mk hvbW
          have H1 := Aside0.mk h1
          have HF1 := Aside0.mk hf1
          have q20 := blk_cell_ hvc 0
          have HZW := Aside0.mk (show zs + 2 < W.heap.size from lt_of_heap hvc)
          clear hx hrel hl0 hlr hSl hS hkW hxl hxu hsmall hCc hlc hCx hlx hag hag1 hf0 hf1 hRc hvc hn_ hm hG hvbW hxd h1 hn hbz
          generalize applyL cbk x = cb1 at CA HAG
          obtain ⟨n, hnn⟩ : ∃ n, n = pre.length := ⟨_, rfl⟩
          have HNN := Aside0.mk hnn
          rw [← hnn] at HN HN2 HAG H1 HF1
          clear hnn
          generalize cbk.length = cl at CA q20
          simp only [encV, allocs, slotsSet, List.zip_toArray, List.zip_cons_cons, List.zip_nil_left, List.zip_nil_right, List.foldl_toArray, List.foldl_cons, List.foldl_nil, List.setIfInBounds_toArray, List.set_cons_succ, List.set_cons_zero]
          gi_wp2_with fail
          refine ⟨trivial, rfl, (callsIn_wide (n := 0)).2 (CA.out.mono ?_)⟩
          rintro e w1 ⟨v1, rfl, hr1, hb1⟩
          obtain ⟨A1, c1', e7⟩ := Kd.R_slice hr1
          subst e7
          have hvc1 := (hb1.block _ (lt_of_heap HVC.out)).trans HVC.out
          have q2 := blk_cell_ hvc1 0
          have f2 := blk_frozen hvc1 0
          obtain ⟨W8, hW8⟩ : ∃ W8, W8 = w1.setCell ⟨zs + 2, 0, none⟩ (.slice A1 cb1.length c1') := ⟨_, rfl⟩
          have hother : ∀ k, k ≠ zs + 2 → W8.heap[k]? = w1.heap[k]? := fun k hk => by rw [hW8]; exact Below.heap_setCell _ _ _ _ (by simpa using hk)
          have hsz8 : W8.heap.size = w1.heap.size := by rw [hW8]; simp [World.setCell]
          have h8c : W8.heap[zs + 2]? = some (.cells #[.slice A1 cb1.length c1'] 25 (0, 0)) := by rw [hW8]; exact set_at hvc1 0 _
          have hR8 : Kd.R (Kd.slice 68 PDelta.k68) 31 W8 W.heap.size (fun k => W.heap.size ≤ k) (.slice A1 cb1.length c1') cb1 :=
            Kd.R_step (Kd.R_mono (Kd.R_bound hr1) (fun k hk => hk.2.1)) (fun k hk _ => hother k (by have := HZW.out; omega))
          have hlow : ∀ k, k < W.heap.size → k ≠ zs + 2 → W8.heap[k]? = W.heap[k]? := fun k hk hne => (hother k hne).trans (hb1.block k hk)
          have h8b : W8.heap[bx]? = some (.cells #[.slice Ab (bksTo rows rows.length).length cb] 24 (0, 0)) := (hlow _ (lt_of_heap HVW.out) (by have := HBZ.out; omega)).trans HVW.out
          have h8n : W8.heap[zs]? = some (.cells #[.int .i64 (n : Nat)] 3 (0, 0)) := (hlow _ (lt_of_heap HN.out) (by omega)).trans HN.out
          have h8m : W8.heap[b]? = some (.cells #[.int .i64 (mn : Nat)] 3 (0, 0)) := (hlow _ (lt_of_heap HGW.out.e0) (by have := HBZ.out; omega)).trans HGW.out.e0
          have hRB8 : Kd.R (Kd.slice 31 (Kd.slice 68 PDelta.k68)) 25 W8 w.heap.size (fun _ => True) (.slice Ab (bksTo rows rows.length).length cb) (bksTo rows rows.length) :=
            Kd.R_mono (Kd.R_step (Kd.R_bound HRK.out) (fun k hk _ => by
              have hk2 : k < zs := by rw [← HSM.out]; exact hk.2.2.1
              exact (hlow k (by have := HZW.out; omega) (by omega)).trans (HKW.out k hk2))) (fun _ _ => trivial)
          obtain ⟨adn, An, cn, e2, hx2, hln, hCn⟩ := at_Bk (Kd.R_reads' hRB8).2.2 n (by rw [bksTo_length]; exact HN2.out)
          subst e2
          rw [bksTo_get _ _ _ HN2.out] at hx2 hln hCn
          have hC1 := (Kd.R_reads' hR8)
          have hkS : Keeps (fun k => ¬ S k) W W8 := by rw [hW8]; exact (Keeps.of_all (S := fun k => ¬ S k) hb1).setCell (fun h => absurd HM.out.2.2 h) _
          have i8 := blk_cell_ h8b 0
          have j8 := blk_cell_ h8n 0
          have m0 : (0 : Int) ≤ (n : Int) := by omega
          have m1 : (n : Int) < ((bksTo rows rows.length).length : Int) := by rw [bksTo_length]; have := HN2.out; omega
          have HS8 : Aside0 (W.heap.size ≤ W8.heap.size) := ⟨by rw [hsz8]; exact hb1.size⟩
          have HC8 := Aside0.mk h8c
          have HN8 := Aside0.mk h8n
          have HMB := Aside0.mk h8m
          have HR8 := Aside0.mk hR8
          have HCn := Aside0.mk hCn
          have HC1 := Aside0.mk hC1.2
          have HKS := Aside0.mk hkS
          have HLN := Aside0.mk hln
          have HBL : Aside0 ((bkAt rows (n + 1)).length ≤ 64 ∧ ∀ l ∈ bkAt rows (n + 1), l.length ≤ 1000) := ⟨HF1.out.2, fun l hl => by have := (HF1.out.1 l hl).2; have := HL.out; have := HN2.out; omega⟩
          have HNM := Aside0.mk (show n ≤ 16 from by have := H1.out; have := HMN.out; omega)
          clear h8c h8n h8m h8b hR8 hCn hC1 hkS hln hRB8 hlow hother hsz8 hr1 hb1 hvc1 h07 h17 h27 hrl HVB7 HCB7 HRK HVW HKW HVC CA hitG HF1 c1 c2
          replace m0 := eq_true m0
          replace m1 := eq_true m1
          obtain ⟨bk1, hbk1⟩ : ∃ bk1, bk1 = bkAt rows (n + 1) := ⟨_, rfl⟩
          rw [← hbk1] at HAG HCn HLN HBL hx2
          have HBK := Aside0.mk hbk1
          clear hbk1
          subst hW8
          gi_wp2_with fail
          clear q2 f2 i8 j8 hx2 m0 m1 q20
          generalize w1.setCell ⟨zs + 2, 0, none⟩ (.slice A1 cb1.length c1') = W8 at HS8 HC8 HN8 HMB HR8 HC1 HKS HCn ⊢
          gi_loopg [53] bk1.length (fun m v53 W5 => ∃ j : Nat, v53 = .int .i64 j ∧ Aside0 (j + m = bk1.length) ∧ Aside0 (Below W8.heap.size W8 W5))
          case atStart => exact ⟨0, rfl, ⟨by omega⟩, ⟨Below.refl _ _⟩⟩
          case round =>
            obtain ⟨j, rfl, HJ, HB5⟩ := hrel
            have q2 := blk_cell_ ((HB5.out.block _ (lt_of_heap HC8.out)).trans HC8.out) 0
            by_cases cj : (j : Int) < (bk1.length : Int)
            · have p1 : (0 : Int) ≤ (j : Int) := by omega
              have hjl : j < bk1.length := by omega
              have HJL := Aside0.mk hjl
              obtain ⟨ad6, A6', c6', e6, hz6, hl6, hC6⟩ := PDelta.at_L3 (Kd.C_below HCn.out HB5.out) (j : Int) p1 cj
              subst e6
              rw [Int.toNat_natCast] at hz6
              have hr6 : PDelta.rd_L3 bk1 (j : Int) = atL bk1 j := by rw [rd_L3_get _ _ hjl]; simp [atL, List.getD, hjl]
              rw [hr6] at hz6 hl6 hC6
              have hlen6 : (atL bk1 j).length ≤ 1000 := HBL.out.2 _ (atL_mem hjl)
              have wrapI : wrap64 ((j : Int) + 1) = ((j + 1 : Nat) : Int) := by have := HBL.out.1; unfold wrap64; omega
              by_cases ck : (j : Int) < (cb1.length : Int)
              · have hkl : j < cb1.length := by omega
                obtain ⟨ad7, A7, c7, e7, hz7, hl7, hC7⟩ := PDelta.at_L3 (Kd.C_below HC1.out.2 HB5.out) (j : Int) p1 ck
                subst e7
                rw [Int.toNat_natCast] at hz7
                have hr7 : PDelta.rd_L3 cb1 (j : Int) = atL bk1 j := by rw [← HAG.out.at_ j, rd_L3_get _ _ hkl]; simp [atL, List.getD, hkl]
                rw [hr7] at hz7 hl7 hC7
                have CS := Aside0.mk (PDelta.saleroomref11_Same.calls _ A7 c7 (atL bk1 j) A6' c6' (atL bk1 j) true _ hC7 hl7 hC6 hl6 (sameE_f (atL bk1 j) (by omega)))
                have t1 : decide ((j : Int) ≥ (cb1.length : Int)) = false := decide_eq_false (by omega)
                have t2 : decide (cb1.length ≤ j) = false := decide_eq_false (by omega)
                clear hr6 hr7 hjl hkl hC6 hC7 hl6 hl7 hlen6
                generalize atL bk1 j = es at hz6 hz7 CS
                replace p1 := eq_true p1
                replace cj := eq_true cj
                replace ck := eq_true ck
                gi_wp2_with fail
                refine ⟨trivial, rfl, (callsIn_wide (n := 0)).2 (CS.out.mono ?_)⟩
                rintro e W6 ⟨rfl, hd6⟩
                have q26 := pw_cell_below hd6.below q2
                have HB6 := Aside0.mk (below_step HB5.out hd6.below)
                clear CS hd6 hz6 hz7 q2 HB5
                gi_wp2_with fail
                gi_roundg (gk - 1)
                case measure => have := HJ.out; have := HJL.out; omega
                case rel => exact ⟨j + 1, by first | rfl | (simp; done) | rw [wrapI], ⟨by have := HJ.out; have := HJL.out; omega⟩, HB6⟩
              · have t1 : decide ((j : Int) ≥ (cb1.length : Int)) = true := decide_eq_true (by omega)
                have t2 : decide (cb1.length ≤ j) = true := decide_eq_true (by omega)
                have t3 : ((j : Int) < (cb1.length : Int)) = False := eq_false ck
                have t4 : (j < cb1.length) = False := eq_false (by omega)
                have he : atL bk1 j = [] := by rw [← HAG.out.at_ j]; exact atL_ge (by omega)
                rw [he] at hz6
                clear hr6 hjl hC6 hl6 hlen6 he ck
                replace p1 := eq_true p1
                replace cj := eq_true cj
                gi_wp2_with fail
                refine ⟨trivial, ?_⟩
                gi_wp2_with fail
                gi_roundg (gk - 1)
                case measure => have := HJ.out; have := HJL.out; omega
                case rel => exact ⟨j + 1, by first | rfl | (simp; done) | rw [wrapI], ⟨by have := HJ.out; have := HJL.out; omega⟩, HB5⟩
            · have c1 : (j < bk1.length) = False := eq_false (by omega)
              have c2 : ((j : Int) < (bk1.length : Int)) = False := eq_false cj
              have h3 := (HB5.out.block _ (lt_of_heap HN8.out)).trans HN8.out
              have h4 := (HB5.out.block _ (lt_of_heap HC8.out)).trans HC8.out
              have h5 := (HB5.out.block _ (lt_of_heap HMB.out)).trans HMB.out
              have j5 := blk_cell_ h3 0
              have f5 := blk_frozen h3 0
              have hbz := HBZ.out
              have hw : wrap64 ((n : Int) + 1) = ((n + 1 : Nat) : Int) := by have := HNM.out; unfold wrap64; omega
              obtain ⟨n1, hn1⟩ : ∃ n1, n1 = n + 1 := ⟨_, rfl⟩
              rw [← hn1] at hw
              have hc5 : ∀ u, (wr.setCell ⟨zs, 0, none⟩ u).cell? ⟨b, 0, none⟩ = some (.int .i64 (mn : Int)) := fun u => blk_cell_ ((Below.heap_setCell _ _ _ _ (by simp only; omega)).trans h5) 0
              have HN1 := Aside0.mk hn1
              have HFIN : Aside0 (∀ u, ∃ S' : Nat → Prop, (∀ k, S' k → S k ∨ (W.heap.size ≤ k ∧ k < (wr.setCell ⟨zs, 0, none⟩ u).heap.size)) ∧ Keeps (fun k => ¬ S k) W (wr.setCell ⟨zs, 0, none⟩ u) ∧ (u = .int .i64 (n1 : Int) → CopyS rows zs n1 S' (wr.setCell ⟨zs, 0, none⟩ u))) := ⟨fun u => by
                have hsz : (wr.setCell ⟨zs, 0, none⟩ u).heap.size = wr.heap.size := by simp [World.setCell]
                refine ⟨fun k => S k ∨ (W.heap.size ≤ k ∧ k < wr.heap.size), fun k h => by rw [hsz]; exact h, (HKS.out.trans (Keeps.of_all HB5.out)).setCell (fun h => absurd HM.out.1 h) _, fun hu => ?_⟩
                subst hu
                refine ⟨⟨.inl HM.out.1, .inl HM.out.2.1, .inl HM.out.2.2⟩, set_at h3 0 _, _, cb1, (Below.heap_setCell _ _ _ _ (by simp only; omega)).trans h4, ?_, ?_⟩
                · have hr := Kd.R_bound (Kd.R_below HR8.out HB5.out)
                  have hr2 := Kd.R_far (p := ⟨zs, 0, none⟩) hr (fun k hk => by have := hk.1; have := HZW.out; simp only; omega) (.int .i64 (n1 : Int))
                  exact Kd.R_lower (Kd.R_mono hr2 (fun k hk => ⟨.inr ⟨hk.1, hk.2.2.1⟩, by have := hk.1; have := HZW.out; omega, by have := hk.1; have := HZW.out; omega⟩)) (Nat.zero_le _)
                · rw [hn1, ← HBK.out]; exact HAG.out⟩
              have HPL : Aside0 ((pre ++ [x]).length = n1) := ⟨by rw [List.length_append, hn1, HNN.out]; rfl⟩
              clear h3 h4 h5 hbz hn1 q2
              by_cases cm : n1 = mn
              · have hc6 : ∀ u, (wr.setCell ⟨zs, 0, none⟩ u).cell? ⟨b, 0, none⟩ = some (.int .i64 (n1 : Int)) := fun u => by rw [cm]; exact hc5 u
                have HCM := Aside0.mk cm
                clear cm hc5
                gi_wp2_with fail
                obtain ⟨S', s1, s2, s3⟩ := HFIN.out (.int .i64 (n1 : Int))
                exact ⟨S', s1, s2, rfl, by rw [HPL.out]; exact HCM.out, by rw [HPL.out]; exact s3 rfl⟩
              · have t1 : decide (n1 = mn) = false := decide_eq_false cm
                have t2 : ((n1 : Int) == (mn : Int)) = false := by rw [beq_eq_false_iff_ne]; omega
                have HCM := Aside0.mk cm
                clear cm
                gi_wp2_with fail
                obtain ⟨S', s1, s2, s3⟩ := HFIN.out (.int .i64 (n1 : Int))
                exact ⟨S', s1, s2, by rw [HPL.out]; have := HCM.out; have := H1.out; have := HN1.out; omega, by rw [HPL.out]; exact s3 rfl⟩
        case fin =>
          rintro d pre S W hd hSd hK hS hkW hend
          have hbz := HBZ.out
          have hlx : (stepsL (bksTo rows rows.length)).length = rows.length := by
            have : (stepsL (bksTo rows rows.length)).length = (bksTo rows rows.length).length := stepsTo_length _ _
            rw [this, bksTo_length]
          obtain ⟨q, hq, h3⟩ : ∃ q : Nat, (q : Int) = min (mn : Int) (rows.length : Int) ∧ W.heap[zs]? = some (.cells #[.int .i64 (q : Int)] 3 (0, 0)) := by
            rcases hend with ⟨rfl, h1, h2⟩ | ⟨hp, h1, h2⟩
            · exact ⟨_, by omega, h2.n_⟩
            · have := hp.length_le
              exact ⟨_, by omega, h2.n_⟩
          have hdz : W7.heap.size ≤ d := hd
          have hG : DG w b mn W := ⟨HG7.out.below.trans (hkW.below (fun k hk => ⟨by have := HS7.out; omega, by omega⟩) HG7.out.below.size), hkW.at_ HG7.out.e0 ⟨lt_of_heap HG7.out.e0, by omega⟩, hkW.at_ HG7.out.e1 ⟨lt_of_heap HG7.out.e1, by omega⟩⟩
          have hvbW := hkW.at_ HVB7.out ⟨lt_of_heap HVB7.out, by omega⟩
          rw [bksTo_length] at hvbW
          have c3 := blk_cell_ hG.e0 0
          have c4 := blk_cell_ hG.e1 0
          have f4 := blk_frozen hG.e1 0
          have c5 := blk_cell_ hvbW 0
          have ci := blk_cell_ h3 0
          have HE := Aside0.mk (show DG w b mn W ∧ W.heap[d]? = some (.deferred (some [])) from ⟨hG, hK⟩)
          have HDZ := Aside0.mk (show b + 1 ≠ d ∧ w.heap.size ≤ d from by have := HS7.out; omega)
          clear hend hkW hS hK hG hvbW hdz hbz h3 hitG h07 h17 h27 hd hSd hlx c1 c2
          generalize rows.length = L at hq c5 ⊢
          rcases Nat.lt_or_ge L mn with h | h
          · have e : q = L := by omega
            subst e
            clear hq
            go_wp2_with fail
            have hk9 : Keeps (fun k => k ≠ b + 1 ∧ k ≠ d) W ((W.setCell ⟨b + 1, 0, none⟩ (.bool true)).putObj d (.deferred none)) :=
              ((Keeps.refl _ _).setCell (fun h => absurd rfl h.1) _).putObj (fun h => absurd rfl h.2) _
            have hd' : (W.setCell ⟨b + 1, 0, none⟩ (.bool true)).heap[d]? = some (.deferred (some [])) := (Below.heap_setCell _ _ _ _ (by have := HDZ.out.1; simp only; omega)).trans HE.out.2
            have hr' : ((W.setCell ⟨b + 1, 0, none⟩ (.bool true)).putObj d (.deferred none)).heap[b + 1]? = some (.cells #[.bool true] 4 (0, 0)) :=
              (World.putObj_heap_other (by have := HDZ.out.1; omega)).trans (set_at HE.out.1.e1 0 _)
            have hcell := blk_cell_ hr' 0
            refine ⟨by simp, .inl ⟨_, _, rfl, run_takeDeferred hd', ?_⟩⟩
            refine ⟨.bool true, by simp [results, Try.results3, go_sem, hcell], rfl, ?_⟩
            exact HE.out.1.below.trans (hk9.below (fun k hk => ⟨by have := HBW.out; omega, by have := HDZ.out.2; omega⟩) HE.out.1.below.size)
          · have e : q = mn := by omega
            rw [e] at ci
            replace h : ¬ L < mn := by omega
            clear hq e
            go_wp2_with fail
            have hk9 : Keeps (fun k => k ≠ b + 1 ∧ k ≠ d) W ((W.setCell ⟨b + 1, 0, none⟩ (.bool true)).putObj d (.deferred none)) :=
              ((Keeps.refl _ _).setCell (fun h => absurd rfl h.1) _).putObj (fun h => absurd rfl h.2) _
            have hd' : (W.setCell ⟨b + 1, 0, none⟩ (.bool true)).heap[d]? = some (.deferred (some [])) := (Below.heap_setCell _ _ _ _ (by have := HDZ.out.1; simp only; omega)).trans HE.out.2
            have hr' : ((W.setCell ⟨b + 1, 0, none⟩ (.bool true)).putObj d (.deferred none)).heap[b + 1]? = some (.cells #[.bool true] 4 (0, 0)) :=
              (World.putObj_heap_other (by have := HDZ.out.1; omega)).trans (set_at HE.out.1.e1 0 _)
            have hcell := blk_cell_ hr' 0
            refine ⟨by simp, .inl ⟨_, _, rfl, run_takeDeferred hd', ?_⟩⟩
            refine ⟨.bool true, by simp [results, Try.results3, go_sem, hcell], rfl, ?_⟩
            exact HE.out.1.below.trans (hk9.below (fun k hk => ⟨by have := HBW.out; omega, by have := HDZ.out.2; omega⟩) HE.out.1.below.size)
  · have t1 : decide ((rows.length : Int) > 10) = true := decide_eq_true (by omega)
    have t2 : decide (10 < rows.length) = true := decide_eq_true (by omega)
    clear hl
    go_wp2_with fail
    have hr' := set_at HG.out.e1 0 (.bool true)
    have hcell := blk_cell_ hr' 0
    refine ⟨.bool true, by simp [results, Try.results3, go_sem, hcell], rfl, ?_⟩
    exact HG.out.below.trans (((Keeps.refl (fun k => k ≠ b + 1) _).setCell (fun h => absurd rfl h) _).below (fun k hk => by have := HBW.out; omega) HG.out.below.size)
end Go.Proofs.Ytafhdamdkefpkaa

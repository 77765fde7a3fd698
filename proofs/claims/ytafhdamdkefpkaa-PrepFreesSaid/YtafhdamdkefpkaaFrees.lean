/- The law PrepFrees returns true: its walk. -/
import Derived.Test.YtafhdamdkefpkaaAlive
import Derived.Test.YtafhdamdkefpkaaPlFrees
import Derived.Test.YtafhdamdkefpkaaKitC
import Derived.Test.YtafhdamdkefpkaaQuietR
import Derived.Test.YtafhdamdkefpkaaPPrepx1
import Derived.Deep.QuietTactic
import Derived.Deep.DeepCutAuto
import Derived.BigQuiet
import Derived.Sort.BigQuietIn
import Derived.Sort.CutIn
import Derived.Shelf.RegionOpen
namespace Go.Proofs.Ytafhdamdkefpkaa
open Go.RowKit Go.Proofs.YtafhdamdkefpkaaW.PrintWords Go.Proofs.YtafhdamdkefpkaaW.PrintLast Go.Proofs.YtafhdamdkefpkaaW.PrintMore Go.Proofs.Ytafhdamdkefpkaa.PPrep
attribute [local go_sem] max2_int min2_int max_two min_two Oper.semAt_some
attribute [local go_sem high] eqA40
set_option linter.unusedVariables false
set_option linter.unusedSimpArgs false

/-- The law's boxes: the bids, how many are asked for, the answer. -/
structure FrG (w : World) (A0 : Option Addr) (n c0 : Nat) (b : Nat) (mv : Int) (W : World) : Prop where
  below : Below w.heap.size w W
  e3 : W.heap[b]? = some (.cells #[.slice A0 n c0] 37 (0, 0))
  e5 : W.heap[b + 1]? = some (.cells #[.int .i64 mv] 3 (0, 0))
  e6 : W.heap[b + 2]? = some (.cells #[.bool false] 4 (0, 0))
theorem FrG.step {w : World} {A0 : Option Addr} {n c0 b : Nat} {mv : Int} {W W' : World} (h : FrG w A0 n c0 b mv W) (hb : Below W.heap.size W W') : FrG w A0 n c0 b mv W' :=
  ⟨below_step h.below hb, (hb.block _ (lt_of_heap h.e3)).trans h.e3, (hb.block _ (lt_of_heap h.e5)).trans h.e5, (hb.block _ (lt_of_heap h.e6)).trans h.e6⟩

theorem R_empty (W : World) : Kd.R (Kd.int .i64) 3 (W.alloc (.cells #[] 3)) W.heap.size (fun k => k = W.heap.size) (.slice (some ⟨W.heap.size, 0, none⟩) 0 0) [] := by
  refine Kd.R_of_own (enc := Value.int .i64) ?_ (fun k hk => by simpa [Value.ownBlock] using hk.symm)
  exact own_lit_of (enc := Value.int .i64) W W.heap.size 3 [] (Nat.le_refl _) (by simp)

set_option maxRecDepth 100000 in
set_option maxHeartbeats 4000000 in
theorem frees_any (A0 : Option Addr) (c0 : Nat) (xs : List S40) (free most : Int) (w : World) (hC : Kd.C k40 w A0 xs.length xs) (hc0 : xs.length ≤ c0) (hl : xs.length ≤ 60) (hu : ∀ x ∈ xs, U64B x) (hf : 0 ≤ free ∧ free < 18446744073709551616) :
    Calls Try.prog 5 #[.slice A0 xs.length c0, .int .u64 free, .int .i64 most] w fun e w' => e = .returned (.bool true) ∧ Below w.heap.size w w' := by
  have hu40 := Try.underlying40
  have HC := Aside0.mk hC
  have HU := Aside0.mk hu
  have HF := Aside0.mk hf
  have hff := Aside0.mk hf
  have clen : decide ((xs.length : Int) > 60) = false := decide_eq_false (by omega)
  have HL := Aside0.mk hl
  clear hC hu hf
  refine (callsIn_wide (n := 0)).1 ?_
  refine callsIn_of_wp_marks Try.func5 rfl trivial ?_ rfl
  simp only [Try.ntmps5, List.size_toArray, List.length_cons, List.length_nil, Nat.reduceAdd, Nat.reduceSub, Array.replicate_succ, Array.replicate_zero, List.push_toArray, List.append_toArray, List.nil_append, List.cons_append]
  refine wpIn_wide.2 ?_
  go_wp2_with fail
  obtain ⟨W1, hW1⟩ : ∃ W1, W1 = allocs w [.cells #[.slice A0 xs.length c0] 37, .cells #[.int .i64 most] 3, .cells #[.bool false] 4] := ⟨_, rfl⟩
  have hG : FrG w A0 xs.length c0 w.heap.size most W1 := by
    rw [hW1]
    exact ⟨(allocs_keeps (fun _ => True) w _).below (fun _ _ => trivial) (Nat.le_refl _), allocs_at _ w 0 _ rfl, allocs_at _ w 1 _ rfl, allocs_at _ w 2 _ rfl⟩
  change Calls _ _ _ (allocs w [_, _, _]) _
  rw [← hW1]
  clear hW1
  obtain ⟨b, hb⟩ : ∃ b, b = w.heap.size := ⟨_, rfl⟩
  rw [← hb] at hG ⊢
  rw [show b + 1 + 1 = b + 2 from rfl]
  have HBW := Aside0.mk hb
  clear hb
  refine (saleroomlaw14_alive.calls true W1 rfl).mono ?_
  rintro e W2 ⟨rfl, hb2⟩
  have HG := Aside0.mk (hG.step hb2)
  clear hG hb2
  have c3 := blk_cell_ HG.out.e3 0
  have c5 := blk_cell_ HG.out.e5 0
  have HCW := Aside0.mk (Kd.C_below HC.out HG.out.below)
  have CB := Aside0.mk (best_any A0 c0 xs free W2 HCW.out hc0 (by omega))
  generalize hbf : bestF (freeL xs free) = bf at CB
  obtain ⟨bb, ok⟩ := bf
  have hrb := rbestTo_spec xs free xs.length
  rw [show freeTo xs free xs.length = freeL xs free from rfl, hbf] at hrb
  obtain ⟨kr, hkr⟩ := (rbest_f xs HU.out (by omega) free HF.out).rounds
  have CR := Aside0.mk (fun W h => saleroomref14_Best.calls kr A0 c0 xs free _ W h hc0 hkr)
  generalize rbestTo xs free xs.length = at_ at CR hrb
  have HRB := Aside0.mk hrb
  have HBF := Aside0.mk hbf
  clear hkr hrb hbf
  go_wp2_with fail
  refine CB.out.mono ?_
  rintro e W3 ⟨rfl, hb3⟩
  have HG3 := Aside0.mk (HG.out.step hb3)
  have HC3 := Aside0.mk (Kd.C_below HCW.out hb3)
  clear HG HCW hb3 CB c3 c5
  have r3 : (W3.alloc (.cells #[.int .u64 bb.f0, .int .i64 bb.f1] 40)).cell? ⟨b, 0, none⟩ = some (.slice A0 xs.length c0) := pw_cell_below (below_alloc (Below.refl _ _) _) (blk_cell_ HG3.out.e3 0)
  go_wp2_with fail
  clear r3
  have h7 := World.alloc_heap_new W3 (.cells #[.int .u64 bb.f0, .int .i64 bb.f1] 40)
  have hb4 : Below W3.heap.size W3 (W3.alloc (.cells #[.int .u64 bb.f0, .int .i64 bb.f1] 40)) := below_alloc (Below.refl _ _) _
  generalize W3.alloc (.cells #[.int .u64 bb.f0, .int .i64 bb.f1] 40) = W4 at h7 hb4 ⊢
  have HG4 := Aside0.mk (HG3.out.step hb4)
  have HC4 := Aside0.mk (Kd.C_below HC3.out hb4)
  obtain ⟨b7, hb7⟩ : ∃ b7, b7 = W3.heap.size := ⟨_, rfl⟩
  rw [← hb7] at h7 ⊢
  have HB7 := Aside0.mk (show b + 2 < b7 from by rw [hb7]; exact lt_of_heap HG3.out.e6)
  have H7 := Aside0.mk h7
  clear HG3 HC3 hb4 hb7 h7
  refine (CR.out _ HC4.out).mono ?_
  rintro e W5 ⟨rfl, hd5⟩
  have hb5 := hd5.below
  have HG5 := Aside0.mk (HG4.out.step hb5)
  have HC5 := Aside0.mk (Kd.C_below HC4.out hb5)
  have H75 := Aside0.mk ((hb5.block _ (lt_of_heap H7.out)).trans H7.out)
  clear HG4 HC4 hb5 hd5 H7 CR
  go_upto_region 7 with fail
  go_cut [52] from 53 (fun s52 wx => s52 = .bool false ∧ Aside0 (Below W5.heap.size W5 wx))
  case first =>
    have c3 := blk_cell_ HG5.out.e3 0
    have c70 := blk_cell_ H75.out 0
    have c71 := blk_cell_ H75.out 1
    rcases HRB.out with ⟨hat, hbb⟩ | ⟨j, hj, hat, hbb⟩
    · cases hbb
      subst hat
      have g1 : decide ((0 : Int) ≤ -1) = false := by decide
      have g2 : (z40.f0 == (0 : Int)) = true := by decide
      have g3 : (z40.f1 == (0 : Int)) = true := by decide
      go_quiet (fail)
      go_wp2_with fail
      go_meet
      exact ⟨rfl, ⟨(Drawn0.mk ⟨_, rfl⟩).below⟩⟩
    · cases hbb
      subst hat
      have p1 : (0 : Int) ≤ (j : Int) := by omega
      have p2 : (j : Int) < (xs.length : Int) := by omega
      obtain ⟨ad1, e1, hx0, hx1⟩ := at_T40 HC5.out j p1 p2
      cases e1
      rw [Int.toNat_natCast] at hx0 hx1
      have g1 : decide ((0 : Int) ≤ (j : Int)) = true := decide_eq_true p1
      replace p1 := eq_true p1
      replace p2 := eq_true p2
      go_quiet (fail)
      go_wp2_with fail
      go_meet
      exact ⟨rfl, ⟨(Drawn0.mk ⟨_, rfl⟩).below⟩⟩
  case rest =>
    obtain ⟨rfl, HB5⟩ := hcut
    have HG6 := Aside0.mk (HG5.out.step HB5.out)
    have HC6 := Aside0.mk (Kd.C_below HC5.out HB5.out)
    have c5 := blk_cell_ HG6.out.e5 0
    have f5 := blk_frozen HG6.out.e5 0
    have hand := i64_and127 most
    have hr0 : 0 ≤ most % 128 := Int.emod_nonneg _ (by decide)
    have hr1 : most % 128 < 128 := Int.emod_lt_of_pos _ (by decide)
    obtain ⟨mn, hmn⟩ : ∃ mn : Nat, (mn : Int) = 1 + most % 128 := ⟨(1 + most % 128).toNat, by omega⟩
    have HMN := Aside0.mk (show 1 ≤ mn ∧ mn ≤ 128 by omega)
    have HMV := Aside0.mk hmn
    clear HG5 HC5 HB5 H75 HRB HBF hmn
    have CF := Aside0.mk (fun W => pfree_any (.slice A0 xs.length c0) ⟨_, _, _, rfl⟩ free W)
    go_upto_region 11 with fail
    clear c5 f5 hand hr0 hr1
    rw [← HMV.out]
    obtain ⟨zs, hzs⟩ : ∃ zs, zs = wc.heap.size := ⟨_, rfl⟩
    obtain ⟨W7, hW7⟩ : ∃ W7, W7 = allocs (wc.setCell ⟨b + 1, 0, none⟩ (.int .i64 (mn : Int))) [.cells #[] 3, .cells #[] 3, .cells #[.slice (some ⟨zs, 0, none⟩) 0 0] 52] := ⟨_, rfl⟩
    have hss : (wc.setCell ⟨b + 1, 0, none⟩ (.int .i64 (mn : Int))).heap.size = zs := by simp [World.setCell, hzs]
    have hk7 : Keeps (fun k => k ≠ b + 1) wc W7 := by rw [hW7]; exact ((Keeps.refl _ _).setCell (fun h => absurd rfl h) _).trans (allocs_keeps _ _ _)
    have hG7 : FrG w A0 xs.length c0 b mn W7 := by
      refine ⟨HG6.out.below.trans (hk7.below (fun k hk => by have := HBW.out; omega) HG6.out.below.size), hk7.at_ HG6.out.e3 (by omega), ?_, hk7.at_ HG6.out.e6 (by omega)⟩
      rw [hW7]
      exact (allocs_keeps (fun _ => True) _ _).at_ (set_at HG6.out.e5 0 _) trivial
    have gg : W7.heap[zs + 2]? = some (.cells #[.slice (some ⟨zs, 0, none⟩) 0 0] 52 (0, 0)) := by rw [hW7, ← hss]; exact allocs_at _ _ 2 _ rfl
    have hsz7 : W7.heap.size = zs + 3 := by rw [hW7, allocs_size, hss]; rfl
    have hr0 : Kd.R (Kd.int .i64) 3 W7 zs (fun k => k = zs) (.slice (some ⟨zs, 0, none⟩) 0 0) [] := by
      have h1 : Kd.R (Kd.int .i64) 3 ((wc.setCell ⟨b + 1, 0, none⟩ (.int .i64 (mn : Int))).alloc (.cells #[] 3)) zs (fun k => k = zs) (.slice (some ⟨zs, 0, none⟩) 0 0) [] := by
        rw [← hss]
        exact R_empty _
      rw [hW7, allocs, allocs, allocs, allocs]
      exact Kd.R_alloc (Kd.R_alloc h1 _) _
    have hr1 : Kd.R (Kd.int .i64) 3 W7 zs (fun k => k = zs + 1) (.slice (some ⟨zs + 1, 0, none⟩) 0 0) [] := by
      have h1 : Kd.R (Kd.int .i64) 3 (((wc.setCell ⟨b + 1, 0, none⟩ (.int .i64 (mn : Int))).alloc (.cells #[] 3)).alloc (.cells #[] 3)) (zs + 1) (fun k => k = zs + 1) (.slice (some ⟨zs + 1, 0, none⟩) 0 0) [] := by
        have e : ((wc.setCell ⟨b + 1, 0, none⟩ (.int .i64 (mn : Int))).alloc (.cells #[] 3)).heap.size = zs + 1 := by rw [World.size_alloc, hss]
        rw [← e]
        exact R_empty _
      rw [hW7, allocs, allocs, allocs, allocs]
      exact Kd.R_lower (Kd.R_alloc h1 _) (by omega)
    rw [← hzs]
    change Code.wp _ _ _ _ (allocs (wc.setCell ⟨b + 1, 0, none⟩ (.int .i64 (mn : Int))) [_, _, _])
    rw [← hW7]
    have HG7 := Aside0.mk hG7
    have HR0 := Aside0.mk hr0
    have HR1 := Aside0.mk hr1
    have HGG := Aside0.mk gg
    have HZ7 := Aside0.mk hsz7
    have HZB := Aside0.mk (show b + 2 < zs ∧ w.heap.size ≤ zs from by have := lt_of_heap HG6.out.e6; have := HBW.out; omega)
    clear hW7 hss hk7 hG7 gg hsz7 hr0 hr1 hzs HG6 HC6
    have c3 := blk_cell_ HG7.out.e3 0
    go_wp2_with (go_at_call 27; refine (CF.out _).mono ?_; rintro e w' ⟨rfl, rfl⟩)
    obtain ⟨W8, hW8⟩ : ∃ W8, W8 = allocs W7 [.cells #[.slice A0 xs.length c0] 37, .cells #[.int .u64 free] 36] := ⟨_, rfl⟩
    have g1 : W8.heap[zs + 3]? = some (.cells #[.slice A0 xs.length c0] 37 (0, 0)) := by rw [hW8, ← HZ7.out]; exact allocs_at _ _ 0 _ rfl
    have g2 : W8.heap[zs + 4]? = some (.cells #[.int .u64 free] 36 (0, 0)) := by rw [hW8, show zs + 4 = W7.heap.size + 1 from by have := HZ7.out; omega]; exact allocs_at _ _ 1 _ rfl
    have hsz8 : W8.heap.size = zs + 5 := by rw [hW8, allocs_size, HZ7.out]; rfl
    have hk8 : Below W7.heap.size W7 W8 := by rw [hW8]; exact (allocs_keeps (fun _ => True) _ _).below (fun _ _ => trivial) (Nat.le_refl _)
    rw [show W7.heap.size + 1 = zs + 4 from by have := HZ7.out; omega, show W7.heap.size = zs + 3 from HZ7.out, show zs + 1 + 1 = zs + 2 from rfl]
    change Code.wp _ _ _ _ (allocs W7 [_, _])
    rw [← hW8]
    have HG8 := Aside0.mk (HG7.out.step hk8)
    have HR08 := Aside0.mk (Kd.R_below HR0.out hk8)
    have HR18 := Aside0.mk (Kd.R_below HR1.out hk8)
    have h28 := (hk8.block _ (lt_of_heap HGG.out)).trans HGG.out
    have hitF := pfree1_iter w W8 A0 c0 xs free (zs + 3) (zs + 4) (fun k => k < W8.heap.size ∧ k ≠ zs + 2 ∧ k ≠ zs) HC.out hc0 (by have := HL.out; omega) HG8.out.below g1 g2 (fun k hk => ⟨by have := HZB.out; omega, by have := HZB.out; omega, by have := HZB.out; omega⟩) ⟨by omega, by omega, by omega⟩ ⟨by omega, by omega, by omega⟩
    have hfl : (freeL xs free).length ≤ 60 := Nat.le_trans (freeTo_length xs free xs.length) HL.out
    have hfm : ∀ p ∈ freeL xs free, p.1 < xs.length ∧ p.2 = rd_T40 xs (p.1 : Int) := fun p hp => ⟨((freeTo_memF xs free xs.length p).1 hp).1, ((freeTo_memF xs free xs.length p).1 hp).2.1⟩
    have HFL := Aside0.mk hfl
    have HFM := Aside0.mk hfm
    have HZ8 := Aside0.mk hsz8
    clear hW8 g1 g2 hk8 HG7 HR0 HR1 HGG c3 hfl hfm hsz8 CF
    refine (wpIn_wide (n := 0)).1 ?_
    refine range_outerB rfl (enters_of Try.func49 (by kernel_rfl) rfl) eqRel_ok hitF.toR (fun k h => h.1) (fun _ => rfl) (fun k => k = zs + 2 ∨ k = zs) (fun k h => ⟨by have := HZ8.out; omega, fun h' => by have := h'.2; omega⟩)
      (fun pre S W => S (zs + 2) ∧ pre.length < mn ∧ ∃ v, W.heap[zs + 2]? = some (.cells #[v] 52 (0, 0)) ∧ Kd.R (Kd.int .i64) 3 W zs (fun k => S k ∧ k ≠ zs + 2) v (pre.map fun p => (p.1 : Int)))
      (fun pre S W => S (zs + 2) ∧ pre.length = mn ∧ ∃ v, W.heap[zs + 2]? = some (.cells #[v] 52 (0, 0)) ∧ Kd.R (Kd.int .i64) 3 W zs (fun k => S k ∧ k ≠ zs + 2) v (pre.map fun p => (p.1 : Int)))
      ?hI ?hIb ?h0 (fun x n => [(12, .int .i64 (x.1 : Nat)), (13, .pointer (some ⟨n, 0, none⟩))]) (fun x => [.cells #[.int .u64 x.2.f0, .int .i64 x.2.f1] 40]) ?assign ?body ?fin
    case hI =>
      rintro pre S A B ⟨h1, h2, v, h3, h4⟩ hk
      exact ⟨h1, h2, v, hk.at_ h3 (.inl h1), Kd.R_step h4 (fun k h hk' => hk.block k (.inl h.1) hk')⟩
    case hIb =>
      rintro pre S A B ⟨h1, h2, v, h3, h4⟩ hk
      exact ⟨h1, h2, v, hk.at_ h3 (.inl h1), Kd.R_step h4 (fun k h hk' => hk.block k (.inl h.1) hk')⟩
    case h0 => exact ⟨.inl rfl, HMN.out.1, _, h28, Kd.R_mono HR08.out (fun k hk => ⟨.inr hk, by omega⟩)⟩
    case assign =>
      intro l x W K hK
      simp only [encIB, allocs, slotsSet, List.zip_toArray, List.zip_cons_cons, List.zip_nil_left, List.zip_nil_right, List.foldl_toArray, List.foldl_cons, List.foldl_nil, List.setIfInBounds_toArray, List.set_cons_succ, List.set_cons_zero] at hK ⊢
      gi_wp2
      exact hK
    case body =>
      rintro l pre x post x' S W hx hrel hl0 hlr hSl hS hkW ⟨h1, h2, v, h3, h4⟩
      subst hrel
      have hxl : (freeL xs free).length = pre.length + (post.length + 1) := by rw [hx]; simp
      have hpl : pre.length ≤ 60 := by have := HFL.out; omega
      obtain ⟨hxi, hxr⟩ := HFM.out x (by rw [hx]; simp)
      obtain ⟨i, y⟩ := x
      simp only at hxi hxr
      have HY := Aside0.mk hxr
      have hkA : Keeps (fun k => k < W8.heap.size ∧ ¬ (k = zs + 2 ∨ k = zs)) W8 (W.alloc (.cells #[.int .u64 y.f0, .int .i64 y.f1] 40)) := hkW.alloc _
      have hkS : Keeps (fun k => ¬ S k) W (W.alloc (.cells #[.int .u64 y.f0, .int .i64 y.f1] 40)) := (Keeps.refl _ _).alloc _
      have hxb := World.alloc_heap_new W (.cells #[.int .u64 y.f0, .int .i64 y.f1] 40)
      have h5 : (W.alloc (.cells #[.int .u64 y.f0, .int .i64 y.f1] 40)).heap[zs + 2]? = some (.cells #[v] 52 (0, 0)) := (Below.heap_alloc _ _ _ (lt_of_heap h3)).trans h3
      have h6 : Kd.R (Kd.int .i64) 3 (W.alloc (.cells #[.int .u64 y.f0, .int .i64 y.f1] 40)) zs (fun k => S k ∧ k ≠ zs + 2) v (pre.map fun p => (p.1 : Int)) := Kd.R_alloc h4 _
      have hszW : W.heap.size ≤ (W.alloc (.cells #[.int .u64 y.f0, .int .i64 y.f1] 40)).heap.size := by simp
      have hS8 : zs + 5 ≤ W.heap.size := by have := hkW.size; have := HZ8.out; omega
      simp only [encIB, allocs, slotsSet, List.zip_toArray, List.zip_cons_cons, List.zip_nil_left, List.zip_nil_right, List.foldl_toArray, List.foldl_cons, List.foldl_nil, List.setIfInBounds_toArray, List.set_cons_succ, List.set_cons_zero]
      gi_upto_region 14 with fail
      generalize W.alloc (.cells #[.int .u64 y.f0, .int .i64 y.f1] 40) = W9 at hkA hkS hxb h5 h6 hszW ⊢
      obtain ⟨xb, hxbe⟩ : ∃ xb, xb = W.heap.size := ⟨_, rfl⟩
      rw [← hxbe] at hxb ⊢
      have hB9 : Below w.heap.size w W9 := HG8.out.below.trans (hkA.below (fun k hk => ⟨by have := HZ8.out; have := HZB.out; omega, by have := HZB.out; omega⟩) HG8.out.below.size)
      have c3 := blk_cell_ (hkA.at_ HG8.out.e3 ⟨lt_of_heap HG8.out.e3, by have := HZB.out; omega⟩) 0
      have e5 := hkA.at_ HG8.out.e5 ⟨lt_of_heap HG8.out.e5, by have := HZB.out; omega⟩
      have q0 := blk_cell_ hxb 0
      have q1 := blk_cell_ hxb 1
      have p1 : (0 : Int) ≤ (i : Int) := by omega
      have p2 : (i : Int) < (xs.length : Int) := by omega
      obtain ⟨ad1, e1, hx0, hx1⟩ := at_T40 (Kd.C_below HC.out hB9) i p1 p2
      cases e1
      rw [Int.toNat_natCast, ← HY.out] at hx0 hx1
      have n1 : decide ((i : Int) < 0) = false := decide_eq_false (by omega)
      have n2 : decide (xs.length ≤ i) = false := decide_eq_false (by omega)
      have E5 := Aside0.mk e5
      have H5 := Aside0.mk h5
      have H6 := Aside0.mk h6
      have KS := Aside0.mk hkS
      have HS1 := Aside0.mk h1
      have HP2 := Aside0.mk h2
      have HPL := Aside0.mk hpl
      have HXB := Aside0.mk hxb
      have HSZ := Aside0.mk hszW
      have HS8 := Aside0.mk hS8
      have HXE := Aside0.mk hxbe
      have HX := Aside0.mk hx
      have HSS := Aside0.mk hS
      clear e5 h5 h6 hkS h1 h2 hxb hszW hS8 hxbe hx hS hkW hkA hxl h3 h4 hpl hxi hxr hB9 hlr
      replace p1 := eq_true p1
      replace p2 := eq_true p2
      refine quiet_round (by rfl) P_follows (by kernel_rfl) ?_
      repeat (gi_big_quiet_step (fail))
      refine wpQuietIn_nil ?_
      intro _ hw'
      obtain ⟨nq, hw''⟩ := hw'
      subst hw''
      have hbq : Below W9.heap.size W9 (W9.drewN nq) := pw_below_drewN (Below.refl _ _) nq
      generalize W9.drewN nq = Wq at hbq ⊢
      clear c3 q0 q1 hx0 hx1 p1 p2 n1 n2
      have h5q := (hbq.block _ (lt_of_heap H5.out)).trans H5.out
      have h6q := Kd.R_below H6.out hbq
      have e5q := (hbq.block _ (lt_of_heap E5.out)).trans E5.out
      have hxq := (hbq.block _ (lt_of_heap HXB.out)).trans HXB.out
      have ksq : Keeps (fun k => ¬ S k) W Wq := KS.out.trans (Keeps.of_all hbq)
      have hszq : W.heap.size ≤ Wq.heap.size := ksq.size
      have hne : Aside0 (v.ownBlock ≠ some (zs + 2)) := ⟨fun e => (h6q.1 _ e).2 rfl⟩
      have hnb : Aside0 (v.ownBlock ≠ some (b + 1)) := ⟨fun e => by have := Kd.R_base h6q _ e; have := HZB.out; omega⟩
      have H3' : Kd.R (Kd.int .i64) 3 Wq zs (fun k => (S k ∨ Wq.heap.size ≤ k) ∧ k ≠ zs + 2) v (pre.map fun p => (p.1 : Int)) := Kd.R_mono h6q (fun k h => ⟨.inl h.1, h.2⟩)
      have hc := blk_cell_ h5q 0
      have HOWN := Aside0.mk (fun k e => (h6q.1 k e).1)
      have hbz : b + 2 < zs := HZB.out.1
      have H5q := Aside0.mk h5q
      have E5q := Aside0.mk e5q
      have KSq := Aside0.mk ksq
      have H3q := Aside0.mk H3'
      have HSq := Aside0.mk hszq
      obtain ⟨m1, hm1⟩ : ∃ m1, m1 = pre.length + 1 := ⟨_, rfl⟩
      have hml : ((pre.map fun p => (p.1 : Int)) ++ [(i : Int)]).length = m1 := by simp [hm1]
      have HML := Aside0.mk hml
      have HM1 := Aside0.mk hm1
      have hsz0 : zs + 5 ≤ Wq.heap.size := by have := HS8.out; omega
      have hpl2 : (pre.map fun p => (p.1 : Int)).length ≤ 60 := by rw [List.length_map]; exact HPL.out
      clear h5q h6q e5q hxq ksq H3' hszq hml hm1 H5 H6 E5 HXB KS hbq
      by_cases cm : m1 = mn
      · rw [← cm] at E5q
        have HCM := Aside0.mk cm
        clear cm
        gi_wp2_with (gi_at_builtin; refine R_append_in (Kd.int .i64) (W := Wq) zs rfl _ _ 52 3 (.int .i64 0) 8 rfl Try.underlying52 info_int rfl (by decide) (by decide) v (pre.map fun p => (p.1 : Int)) (i : Int) [.int .i64 (i : Int)] _ (fun _ => False) rfl rfl rfl (fun _ h => h.elim) (fun k h => ⟨.inr h, by omega⟩) H3q.out (by omega) (by omega) ?_; intro v1 w1 hR1 hg1 hat1; obtain ⟨A1, c1, e1⟩ := Kd.R_slice hR1; rw [HML.out] at e1; subst e1; have hb1 : w1.heap[zs + 2]? = some (.cells #[v] 52 (0, 0)) := blk_grown H5q.out hg1 (fun e => hne.out e.symm); have hb5 : w1.heap[b + 1]? = some (.cells #[.int .i64 (m1 : Int)] 3 (0, 0)) := blk_grown E5q.out hg1 (fun e => hnb.out e.symm); have hc1 := blk_cell_ hb1 0; have hf1 := blk_frozen hb1 0; have hc5 : ∀ u, (w1.setCell ⟨zs + 2, 0, none⟩ u).cell? ⟨b + 1, 0, none⟩ = some (.int .i64 (m1 : Int)) := fun u => (World.cell?_of_block (w := w1) (w' := w1.setCell ⟨zs + 2, 0, none⟩ u) (Below.heap_setCell _ _ _ _ (by simp only; omega))).trans (blk_cell_ hb5 0); have R1 := Aside0.mk hR1; have G1 := Aside0.mk hg1; have B1 := Aside0.mk hb1; clear hR1 hg1 hat1 hb1 hb5)
        refine ⟨fun k => S k ∨ (W.heap.size ≤ k ∧ k < w1.heap.size), fun k h => ?_, ?_, rfl, .inl HS1.out, by rw [List.length_append, ← HCM.out]; exact HM1.out.symm, .slice A1 m1 c1, set_at B1.out 0 _, ?_⟩
        · rcases h with h | ⟨h, h'⟩
          · exact .inl h
          · exact .inr ⟨h, by simp [World.setCell]; exact h'⟩
        · exact (KSq.out.grown G1.out (fun k e hk => absurd (HOWN.out k e) hk)).setCell (fun h => absurd HS1.out h) _
        · rw [List.map_append]
          refine Kd.R_mono (Kd.R_far (p := ⟨zs + 2, 0, none⟩) (Kd.R_bound R1.out) (fun k h => h.1.2) _) (fun k h => ⟨?_, h.1.2⟩)
          rcases h.1.1 with h' | h'
          · exact .inl h'
          · exact .inr ⟨by have := HSq.out; omega, h.2.2.1⟩
      · have t1 : decide (m1 = mn) = false := decide_eq_false cm
        have t2 : ((m1 : Int) == (mn : Int)) = false := by rw [beq_eq_false_iff_ne]; omega
        have HCM := Aside0.mk cm
        clear cm
        gi_wp2_with (gi_at_builtin; refine R_append_in (Kd.int .i64) (W := Wq) zs rfl _ _ 52 3 (.int .i64 0) 8 rfl Try.underlying52 info_int rfl (by decide) (by decide) v (pre.map fun p => (p.1 : Int)) (i : Int) [.int .i64 (i : Int)] _ (fun _ => False) rfl rfl rfl (fun _ h => h.elim) (fun k h => ⟨.inr h, by omega⟩) H3q.out (by omega) (by omega) ?_; intro v1 w1 hR1 hg1 hat1; obtain ⟨A1, c1, e1⟩ := Kd.R_slice hR1; rw [HML.out] at e1; subst e1; have hb1 : w1.heap[zs + 2]? = some (.cells #[v] 52 (0, 0)) := blk_grown H5q.out hg1 (fun e => hne.out e.symm); have hb5 : w1.heap[b + 1]? = some (.cells #[.int .i64 (mn : Int)] 3 (0, 0)) := blk_grown E5q.out hg1 (fun e => hnb.out e.symm); have hc1 := blk_cell_ hb1 0; have hf1 := blk_frozen hb1 0; have hc5 : ∀ u, (w1.setCell ⟨zs + 2, 0, none⟩ u).cell? ⟨b + 1, 0, none⟩ = some (.int .i64 (mn : Int)) := fun u => (World.cell?_of_block (w := w1) (w' := w1.setCell ⟨zs + 2, 0, none⟩ u) (Below.heap_setCell _ _ _ _ (by simp only; omega))).trans (blk_cell_ hb5 0); have R1 := Aside0.mk hR1; have G1 := Aside0.mk hg1; have B1 := Aside0.mk hb1; clear hR1 hg1 hat1 hb1 hb5)
        refine ⟨fun k => S k ∨ (W.heap.size ≤ k ∧ k < w1.heap.size), fun k h => ?_, ?_, .inl HS1.out, by rw [List.length_append]; have := HCM.out; have := HM1.out; have := HP2.out; simp only [List.length_cons, List.length_nil]; omega, .slice A1 m1 c1, set_at B1.out 0 _, ?_⟩
        · rcases h with h | ⟨h, h'⟩
          · exact .inl h
          · exact .inr ⟨h, by simp [World.setCell]; exact h'⟩
        · exact (KSq.out.grown G1.out (fun k e hk => absurd (HOWN.out k e) hk)).setCell (fun h => absurd HS1.out h) _
        · rw [List.map_append]
          refine Kd.R_mono (Kd.R_far (p := ⟨zs + 2, 0, none⟩) (Kd.R_bound R1.out) (fun k h => h.1.2) _) (fun k h => ⟨?_, h.1.2⟩)
          rcases h.1.1 with h' | h'
          · exact .inl h'
          · exact .inr ⟨by have := HSq.out; omega, h.2.2.1⟩
    case fin =>
      rintro d pre S W hd hSd hK hS hkW hend
      have hgot : ∃ v, W.heap[zs + 2]? = some (.cells #[v] 52 (0, 0)) ∧ Kd.R (Kd.int .i64) 3 W zs (fun k => S k ∧ k ≠ zs + 2) v (wantTo xs free mn xs.length) := by
        rcases hend with ⟨rfl, h1, h2, v, h3, h4⟩ | ⟨hp, h1, h2, v, h3, h4⟩
        · refine ⟨v, h3, ?_⟩
          unfold wantTo
          rw [List.take_of_length_le (by rw [List.length_map]; exact Nat.le_of_lt h2)]
          exact h4
        · refine ⟨v, h3, ?_⟩
          unfold wantTo
          rw [← List.map_take, ← h2, show freeTo xs free xs.length = freeL xs free from rfl, ← List.prefix_iff_eq_take.1 hp]
          exact h4
      obtain ⟨v, hv1, hv2⟩ := hgot
      have hW8 : zs + 5 ≤ W.heap.size := by have := hkW.size; have := HZ8.out; omega
      have hG : FrG w A0 xs.length c0 b mn W := ⟨HG8.out.below.trans (hkW.below (fun k hk => ⟨by have := HZ8.out; have := HZB.out; omega, by have := HZB.out; omega⟩) HG8.out.below.size),
        hkW.at_ HG8.out.e3 ⟨lt_of_heap HG8.out.e3, by have := HZB.out; omega⟩, hkW.at_ HG8.out.e5 ⟨lt_of_heap HG8.out.e5, by have := HZB.out; omega⟩, hkW.at_ HG8.out.e6 ⟨lt_of_heap HG8.out.e6, by have := HZB.out; omega⟩⟩
      have hR1 : Kd.R (Kd.int .i64) 3 W zs (fun k => k = zs + 1) (.slice (some ⟨zs + 1, 0, none⟩) 0 0) [] := Kd.R_step HR18.out (fun k hk hlt => hkW.block k ⟨hlt, by omega⟩ hlt)
      have hSz : ¬ S (zs + 1) := fun h => by have := (hS _ h).2; have := HZ8.out; omega
      have hdz : W8.heap.size ≤ d := hd
      obtain ⟨A1, c1, e1, -⟩ := Kd.R_reads hv2
      subst e1
      have hown : Kd.R (Kd.int .i64) 3 W zs (fun k => k ≠ zs + 1 ∧ k < W.heap.size) (.slice A1 (wantTo xs free mn xs.length).length c1) (wantTo xs free mn xs.length) := Kd.R_mono (Kd.R_bound hv2) (fun k hk => ⟨fun e => hSz (e ▸ hk.1.1), hk.2.2.1⟩)
      -- what the loop that follows leaves alone
      have HF := Aside0.mk (fun (W' : World) (hk : Keeps (fun k => k < W.heap.size ∧ k ≠ zs + 1) W W') => (show FrG w A0 xs.length c0 b mn W' ∧ W'.heap[zs + 2]? = some (.cells #[.slice A1 (wantTo xs free mn xs.length).length c1] 52 (0, 0)) ∧ W'.heap[d]? = some (.deferred (some [])) ∧
          Kd.R (Kd.int .i64) 3 W' zs (fun k => k ≠ zs + 1 ∧ k < W.heap.size) (.slice A1 (wantTo xs free mn xs.length).length c1) (wantTo xs free mn xs.length) from
        ⟨⟨hG.below.trans (hk.below (fun k h => ⟨by have := hG.below.size; omega, by have := HZB.out; omega⟩) hG.below.size), hk.at_ hG.e3 ⟨lt_of_heap hG.e3, by have := HZB.out; omega⟩, hk.at_ hG.e5 ⟨lt_of_heap hG.e5, by have := HZB.out; omega⟩, hk.at_ hG.e6 ⟨lt_of_heap hG.e6, by have := HZB.out; omega⟩⟩,
          hk.at_ hv1 ⟨lt_of_heap hv1, by omega⟩, hk.at_ hK ⟨lt_of_heap hK, by have := HZ8.out; omega⟩, Kd.R_step hown (fun k h hlt => hk.block k ⟨hlt, h.1⟩ hlt)⟩))
      have HFR := Aside0.mk (show 0 ≤ free ∧ free < 18446744073709551616 from hff.out)
      have HDZ := Aside0.mk (show b + 2 ≠ d ∧ w.heap.size ≤ d from by have := HZ8.out; have := HZB.out; omega)
      have HR1' := Aside0.mk hR1
      have HZS := Aside0.mk hW8
      have HWL := Aside0.mk (show (wantTo xs free mn xs.length).length ≤ 60 by unfold wantTo; rw [List.length_take, List.length_map]; have := HFL.out; unfold freeL at this; omega)
      have c3 := blk_cell_ (HF.out W (Keeps.refl _ _)).1.e3 0
      clear hend hkW hS hK hv1 hv2 hG hR1 hSz hdz hown hd hW8 hSd HR08 HR18 HG8 h28 hitF
      go_wp2_with fail
      clear c3
      go_loopg [11, 89] xs.length (fun n v11 v89 W' => ∃ i : Nat, v89 = .int .i64 i ∧ Aside0 (i + n = xs.length) ∧ Aside0 (Keeps (fun k => k < W.heap.size ∧ k ≠ zs + 1) W W') ∧ Aside0 (Kd.R (Kd.int .i64) 3 W' zs (fun k => k = zs + 1 ∨ W.heap.size ≤ k) v11 (wantTo xs free mn i)))
      case atStart => exact ⟨0, rfl, ⟨by simp⟩, ⟨Keeps.refl _ _⟩, ⟨by rw [show wantTo xs free mn 0 = [] from by simp [wantTo, freeTo]]; exact Kd.R_mono HR1'.out (fun k hk => .inl hk)⟩⟩
      case round =>
        clear HR1'
        obtain ⟨i, rfl, HI, HKW, HRW⟩ := hrel
        by_cases c : (i : Int) < (xs.length : Int)
        · obtain ⟨hG, -, -, -⟩ := HF.out wr HKW.out
          have hlt : i < xs.length := by omega
          have HLT := Aside0.mk hlt
          have c3 := blk_cell_ hG.e3 0
          have c5 := blk_cell_ hG.e5 0
          have p1 : (0 : Int) ≤ (i : Int) := by omega
          obtain ⟨ad1, e1, hx0, hx1⟩ := at_T40 (Kd.C_below HC.out hG.below) i p1 c
          cases e1
          rw [Int.toNat_natCast] at hx0 hx1
          have CW := Aside0.mk (fun W => saleroomref02_Within.calls 140 (rd_T40 xs (i : Int)).f0 free (withinB (rd_T40 xs (i : Int)).f0 free) W (within_f 140 _ _ (Nat.le_refl _) (HU.out _ (rd_mem xs i hlt)) HFR.out))
          have hst := Aside0.mk (wantTo_succ xs free mn i)
          have hwl : (wantTo xs free mn i).length ≤ 60 := by unfold wantTo; rw [List.length_take, List.length_map]; have := freeTo_length xs free i; omega
          obtain ⟨A9, c9, e9, -⟩ := Kd.R_reads HRW.out
          subst e9
          obtain ⟨ws, hws⟩ : ∃ ws, ws = wantTo xs free mn i := ⟨_, rfl⟩
          rw [← hws] at HRW hst hwl ⊢
          obtain ⟨wl, hwl2⟩ : ∃ wl, wl = ws.length := ⟨_, rfl⟩
          have HWL9 := Aside0.mk hwl
          have HWL2 := Aside0.mk hwl2
          rw [← hwl2] at HRW ⊢
          have wrapI : wrap64 ((i : Int) + 1) = ((i + 1 : Nat) : Int) := by unfold wrap64; omega
          clear hG hlt hwl hws hwl2
          generalize rd_T40 xs (i : Int) = y at hx0 hx1 CW hst
          replace p1 := eq_true p1
          replace c := eq_true c
          cases hw : withinB y.f0 free with
          | false =>
            rw [hw] at CW
            have hg : Aside0 (wantTo xs free mn (i + 1) = ws) := ⟨by rw [hst.out, if_neg (fun h => by rw [hw] at h; cases h.1)]⟩
            clear hw
            go_wp2_with (go_at_call 28; (with_reducible refine (CW.out _).mono ?_); rintro e w5 ⟨rfl, hd5⟩; have hb5 := hd5.below; have HK5 := Aside0.mk (HKW.out.trans (Keeps.of_all hb5)); have HR5 := Aside0.mk (Kd.R_below HRW.out hb5); have q5 := pw_cell_below hb5 c5; have HB5 := Aside0.mk (HF.out w5 HK5.out).1.below; have HS5 := Aside0.mk HK5.out.size; clear hb5 hd5)
            go_roundg (gk - 1)
            case measure => have := HI.out; have := HLT.out; omega
            case rel => exact ⟨i + 1, by first | (simp; done) | rw [wrapI], ⟨by have := HI.out; have := HLT.out; omega⟩, HK5, by rw [hg.out]; exact HR5⟩
          | true =>
            rw [hw] at CW
            by_cases cm : wl < mn
            · have hg : Aside0 (wantTo xs free mn (i + 1) = ws ++ [(i : Int)]) := ⟨by rw [hst.out, if_pos ⟨hw, by have := HWL2.out; omega⟩]⟩
              have t1 : decide (wl < mn) = true := decide_eq_true cm
              clear hw
              go_wp2_with (first
                | (go_at_call 28; (with_reducible refine (CW.out _).mono ?_); rintro e w5 ⟨rfl, hd5⟩; have hb5 := hd5.below; have HK5 := Aside0.mk (HKW.out.trans (Keeps.of_all hb5)); have HR5 := Aside0.mk (Kd.R_below HRW.out hb5); have q5 := pw_cell_below hb5 c5; have HB5 := Aside0.mk (HF.out w5 HK5.out).1.below; have HS5 := Aside0.mk HK5.out.size; clear hb5 hd5)
                | ((with_reducible refine gate_builtin (b := .append) (xs := #[.tmp 105, .tmp 107]) rfl ?_); at_builtin; refine Kd.R_append (Kd.int .i64) (w0 := w5) (W := w5) zs rfl (.tmp 105) (.tmp 107) 52 3 (.int .i64 0) 8 rfl Try.underlying52 info_int rfl (by decide) (by decide) (.slice A9 wl c9) ws (i : Int) [.int .i64 (i : Int)] (fun k => k = zs + 1 ∨ W.heap.size ≤ k) (fun _ => False) rfl rfl rfl (fun _ h => h.elim) (fun k hk => .inr (by have := HS5.out; omega)) HR5.out (Below.refl _ _) (by have := HS5.out; have := HZS.out; omega) (by have := HWL9.out; omega) ?_; intro v1 w9 hR9 hB9 hg9 hat9; have HR9 := Aside0.mk hR9; have HG9 := Aside0.mk hg9; clear hR9 hB9 hg9 hat9))
              go_roundg (gk - 1)
              case measure => have := HI.out; have := HLT.out; omega
              case rel => exact ⟨i + 1, by first | (simp; done) | rw [wrapI], ⟨by have := HI.out; have := HLT.out; omega⟩, ⟨HK5.out.grown HG9.out (fun k e hk => by rcases HR5.out.1 k e with h | h; exact absurd h hk.2; omega)⟩, by rw [hg.out]; exact HR9⟩
            · have hg : Aside0 (wantTo xs free mn (i + 1) = ws) := ⟨by rw [hst.out, if_neg (fun h => by have := HWL2.out; omega)]⟩
              have t1 : decide (wl < mn) = false := decide_eq_false cm
              clear hw cm
              go_wp2_with (go_at_call 28; (with_reducible refine (CW.out _).mono ?_); rintro e w5 ⟨rfl, hd5⟩; have hb5 := hd5.below; have HK5 := Aside0.mk (HKW.out.trans (Keeps.of_all hb5)); have HR5 := Aside0.mk (Kd.R_below HRW.out hb5); have q5 := pw_cell_below hb5 c5; have HB5 := Aside0.mk (HF.out w5 HK5.out).1.below; have HS5 := Aside0.mk HK5.out.size; clear hb5 hd5)
              go_roundg (gk - 1)
              case measure => have := HI.out; have := HLT.out; omega
              case rel => exact ⟨i + 1, by first | (simp; done) | rw [wrapI], ⟨by have := HI.out; have := HLT.out; omega⟩, HK5, by rw [hg.out]; exact HR5⟩
        · have c1 : (i < xs.length) = False := eq_false (by omega)
          have c2 : ((i : Int) < (xs.length : Int)) = False := eq_false c
          have hil : i = xs.length := by have := HI.out; omega
          rw [hil] at HRW
          clear c hil
          obtain ⟨hG, hv1, hK, hR2⟩ := HF.out wr HKW.out
          have c10 := blk_cell_ hv1 0
          have f6 := blk_frozen hG.e6 0
          have c6 := blk_cell_ hG.e6 0
          obtain ⟨A9, c9, e9, -⟩ := Kd.R_reads HRW.out
          subst e9
          obtain ⟨ks, hks⟩ := sameInts_f (wantTo xs free mn xs.length) (by have := HWL.out; omega)
          have CS := Aside0.mk (saleroomref01_SameInts.calls ks A1 _ _ A9 _ _ true wr (Kd.R_reads' hR2).2.2 (Kd.R_reads' hR2).2.1 (Kd.R_reads' HRW.out).2.2 (Kd.R_reads' HRW.out).2.1 hks)
          have HE := Aside0.mk (show FrG w A0 xs.length c0 b mn wr ∧ wr.heap[d]? = some (.deferred (some [])) from ⟨hG, hK⟩)
          clear hG hK hR2 hks hv1
          generalize (wantTo xs free mn xs.length).length = wl at CS c10
          go_wp2_with (go_at_call 29; (with_reducible refine (CS.out).mono ?_); rintro e w5 ⟨rfl, hd5⟩; have hb5 := hd5.below; have q6 := pw_cell_below hb5 c6; have g6 : w5.frozen? ⟨b + 2, 0, none⟩ = false := (hb5.frozen (p := ⟨b + 2, 0, none⟩) (lt_of_heap HE.out.1.e6)).trans f6; have HB5 := Aside0.mk hb5; clear hb5 hd5)
          have hk9 : Keeps (fun k => k ≠ b + 2 ∧ k ≠ d) wr ((w5.setCell ⟨b + 2, 0, none⟩ (.bool true)).putObj d (.deferred none)) :=
            ((Keeps.of_all HB5.out).setCell (fun h => absurd rfl h.1) _).putObj (fun h => absurd rfl h.2) _
          have hd' : (w5.setCell ⟨b + 2, 0, none⟩ (.bool true)).heap[d]? = some (.deferred (some [])) := (Below.heap_setCell _ _ _ _ (by have := HDZ.out.1; simp only; omega)).trans ((HB5.out.block _ (lt_of_heap HE.out.2)).trans HE.out.2)
          have hr' : ((w5.setCell ⟨b + 2, 0, none⟩ (.bool true)).putObj d (.deferred none)).heap[b + 2]? = some (.cells #[.bool true] 4 (0, 0)) :=
            (World.putObj_heap_other (by have := HDZ.out.1; omega)).trans (set_at ((HB5.out.block _ (lt_of_heap HE.out.1.e6)).trans HE.out.1.e6) 0 _)
          have hcell := blk_cell_ hr' 0
          refine ⟨by simp, .inl ⟨_, _, rfl, run_takeDeferred hd', ?_⟩⟩
          refine ⟨.bool true, by simp [results, Try.results5, go_sem, hcell], rfl, ?_⟩
          exact HE.out.1.below.trans (hk9.below (fun k hk => ⟨by have := HBW.out; omega, by have := HDZ.out.2; omega⟩) HE.out.1.below.size)
end Go.Proofs.Ytafhdamdkefpkaa

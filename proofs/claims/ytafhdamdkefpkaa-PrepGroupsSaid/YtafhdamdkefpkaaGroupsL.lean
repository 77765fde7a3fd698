/- The law PrepGroups returns true: its walk. -/
import Derived.Test.YtafhdamdkefpkaaAlive
import Derived.Test.YtafhdamdkefpkaaPlFrees
import Derived.Test.YtafhdamdkefpkaaPlCl1
import Derived.Test.YtafhdamdkefpkaaPlGrp4
import Derived.Test.YtafhdamdkefpkaaKitC
import Derived.Test.YtafhdamdkefpkaaQuietR
import Derived.Test.YtafhdamdkefpkaaPPrepx1
import Derived.Test.YtafhdamdkefpkaaPPrepx7
import Derived.Test.YtafhdamdkefpkaaPPrepx8
import Derived.Deep.QuietTactic
import Derived.Deep.DeepCutAuto
import Derived.BigQuiet
import Derived.Sort.BigQuietIn
import Derived.Sort.CutIn
import Derived.Shelf.RegionOpen
namespace Go.Proofs.Ytafhdamdkefpkaa
open Go.RowKit Go.Proofs.YtafhdamdkefpkaaW.PrintWords Go.Proofs.YtafhdamdkefpkaaW.PrintLast Go.Proofs.YtafhdamdkefpkaaW.PrintMore Go.Proofs.Ytafhdamdkefpkaa.PPrep
attribute [local go_sem] max2_int min2_int max_two min_two Oper.semAt_some
set_option linter.unusedVariables false
set_option linter.unusedSimpArgs false

theorem rdL_len (xss : List (List S40)) (hm : ∀ xs ∈ xss, xs.length ≤ 20) (k : Int) : (rd_L3 xss k).length ≤ 20 := by
  unfold rd_L3
  rcases Nat.lt_or_ge k.toNat xss.length with h | h
  · rw [List.getD_eq_getElem?_getD, List.getElem?_eq_getElem h]
    exact hm _ (List.getElem_mem h)
  · rw [List.getD_eq_getElem?_getD, List.getElem?_eq_none h]
    simp

/-- The law's boxes: the bidders, how many are asked for, the answer. -/
structure GrG (w : World) (A0 : Option Addr) (n c0 : Nat) (b : Nat) (mv : Int) (W : World) : Prop where
  below : Below w.heap.size w W
  e2 : W.heap[b]? = some (.cells #[.slice A0 n c0] 34 (0, 0))
  e3 : W.heap[b + 1]? = some (.cells #[.int .i64 mv] 3 (0, 0))
  e4 : W.heap[b + 2]? = some (.cells #[.bool false] 4 (0, 0))
theorem GrG.step {w : World} {A0 : Option Addr} {n c0 b : Nat} {mv : Int} {W W' : World} (h : GrG w A0 n c0 b mv W) (hb : Below W.heap.size W W') : GrG w A0 n c0 b mv W' :=
  ⟨below_step h.below hb, (hb.block _ (lt_of_heap h.e2)).trans h.e2, (hb.block _ (lt_of_heap h.e3)).trans h.e3, (hb.block _ (lt_of_heap h.e4)).trans h.e4⟩

theorem i64_and31 (n : Int) : Go.bits .and .i64 n 31 = n % 32 := by
  have h31 : (BitVec.ofInt 64 31).toNat = 2 ^ 5 - 1 := by decide
  have key : (BitVec.ofInt 64 n &&& BitVec.ofInt 64 31).toNat = (n % ((2 ^ 64 : Nat) : Int)).toNat % 2 ^ 5 := by
    rw [BitVec.toNat_and, BitVec.toNat_ofInt, h31, Nat.and_two_pow_sub_one_eq_mod]
  show IntKind.i64.wrap ((BitVec.ofInt 64 n &&& BitVec.ofInt 64 31).toNat : Nat) = n % 32
  rw [key, IntKind.wrap_i64]
  omega
theorem groups_nat (xss : List (List S40)) (hu : ∀ xs ∈ xss, ∀ x ∈ xs, U64B x) : ∀ g ∈ groupsL xss, ∀ k ∈ g, 0 ≤ k ∧ k < xss.length := by
  have hul : (xss.map uniL).length = xss.length := by simp
  obtain ⟨-, h2, -⟩ := gs_inv xss hu xss.length (Nat.le_refl _)
  intro g hg k hk
  obtain ⟨m, -, -, e⟩ := h2 g hg
  rw [e] at hk
  unfold classL at hk
  obtain ⟨j, hj, rfl⟩ := List.mem_map.1 hk
  have := List.mem_range.1 (List.mem_filter.1 hj).1
  omega
theorem groups_len (xss : List (List S40)) (hu : ∀ xs ∈ xss, ∀ x ∈ xs, U64B x) : ∀ g ∈ groupsL xss, g.length ≤ xss.length := by
  have hul : (xss.map uniL).length = xss.length := by simp
  obtain ⟨-, h2, -⟩ := gs_inv xss hu xss.length (Nat.le_refl _)
  intro g hg
  obtain ⟨m, -, -, e⟩ := h2 g hg
  rw [e]
  unfold classL
  rw [List.length_map]
  refine Nat.le_trans (List.length_filter_le _ _) ?_
  rw [List.length_range]
  omega
set_option maxRecDepth 100000 in
set_option maxHeartbeats 4000000 in
theorem groupsL_any (A0 : Option Addr) (c0 : Nat) (xss : List (List S40)) (most : Int) (w : World) (hC : Kd.C (Kd.slice 40 k40) w A0 xss.length xss) (hc0 : xss.length ≤ c0) (hl : xss.length ≤ 12) (hm : ∀ xs ∈ xss, xs.length ≤ 20) (hu : ∀ xs ∈ xss, ∀ x ∈ xs, U64B x) :
    Calls Try.prog 6 #[.slice A0 xss.length c0, .int .i64 most] w fun e w' => e = .returned (.bool true) ∧ Below w.heap.size w w' := by
  have HC := Aside0.mk hC
  have HU := Aside0.mk hu
  have HL := Aside0.mk hl
  have HM := Aside0.mk hm
  obtain ⟨kf, hkf⟩ := (few_f xss 12 20 (by omega)).rounds
  obtain ⟨kg, hkg⟩ := (rgroups_f xss (by omega) (fun xs h => by have := hm xs h; omega) hu).rounds
  have hfew : (decide (xss.length ≤ 12) && xss.all fun xs => decide (xs.length ≤ 20)) = true := by
    rw [Bool.and_eq_true]
    exact ⟨decide_eq_true hl, List.all_eq_true.2 fun xs h => decide_eq_true (hm xs h)⟩
  rw [hfew] at hkf
  have CFW := Aside0.mk (fun W h => saleroomref14_Few.calls kf A0 c0 xss 12 20 true W h hc0 hkf)
  have CGR := Aside0.mk (fun W h => saleroomref14_Groups.calls kg A0 c0 xss (groupsL xss) W h hc0 hkg)
  clear hC hu hkf hkg hfew hm
  refine (callsIn_wide (n := 0)).1 ?_
  refine callsIn_of_wp_marks Try.func6 rfl trivial ?_ rfl
  simp only [Try.ntmps6, List.size_toArray, List.length_cons, List.length_nil, Nat.reduceAdd, Nat.reduceSub, Array.replicate_succ, Array.replicate_zero, List.push_toArray, List.append_toArray, List.nil_append, List.cons_append]
  refine wpIn_wide.2 ?_
  go_wp2_with fail
  obtain ⟨W1, hW1⟩ : ∃ W1, W1 = allocs w [.cells #[.slice A0 xss.length c0] 34, .cells #[.int .i64 most] 3, .cells #[.bool false] 4] := ⟨_, rfl⟩
  have hG : GrG w A0 xss.length c0 w.heap.size most W1 := by
    rw [hW1]
    exact ⟨(allocs_keeps (fun _ => True) w _).below (fun _ _ => trivial) (Nat.le_refl _), allocs_at _ w 0 _ rfl, allocs_at _ w 1 _ rfl, allocs_at _ w 2 _ rfl⟩
  change Calls _ _ _ (allocs w [_, _, _]) _
  rw [← hW1]
  clear hW1
  obtain ⟨b, hb⟩ : ∃ b, b = w.heap.size := ⟨_, rfl⟩
  rw [← hb] at hG ⊢
  rw [show b + 1 + 1 = b + 2 from rfl]
  have HBW := Aside0.mk hb
  clear hb
  refine (saleroomlaw14_alive.calls true W1 rfl).mono ?_
  rintro e W2 ⟨rfl, hb2⟩
  have HG := Aside0.mk (hG.step hb2)
  clear hG hb2
  have c3 := blk_cell_ HG.out.e2 0
  have HCW := Aside0.mk (Kd.C_below HC.out HG.out.below)
  go_wp2_with fail
  refine (CFW.out _ HCW.out).mono ?_
  rintro e W3 ⟨rfl, hd3⟩
  have hb3 := hd3.below
  have HG3 := Aside0.mk (HG.out.step hb3)
  have HC3 := Aside0.mk (Kd.C_below HCW.out hb3)
  clear HG HCW hb3 hd3 CFW c3
  have c3 := blk_cell_ HG3.out.e2 0
  go_upto_region 5 with fail
  go_cut [5] from 17 (fun v5 wx => ∃ (p : Nat) (Aw : Option Addr) (cw : Nat), v5 = .pointer (some ⟨p, 0, none⟩) ∧ Aside0 (wx.heap[p]? = some (.cells #[.slice Aw (groupsL xss).length cw] 59 (0, 0))) ∧ Aside0 (Below W3.heap.size W3 wx) ∧ Aside0 (W3.heap.size ≤ p) ∧ Aside0 (Kd.R (Kd.slice 3 (Kd.int .i64)) 52 wx W3.heap.size (fun k => k ≠ p) (.slice Aw (groupsL xss).length cw) (groupsL xss)))
  case first =>
    go_wp2_with (go_at_call 30; (with_reducible refine (CGR.out _ ?hx).mono ?_); (case hx => first | exact HC3.out | exact Kd.C_alloc HC3.out _); rintro e w4 ⟨v0, rfl, hS4, hb4⟩; obtain ⟨A4, c4, e4⟩ := Kd.S_slice hS4; subst e4; (try (have z4 := (hb4.block W3.heap.size (by simp)).trans (World.alloc_heap_new W3 _); have z5 := blk_cell_ z4 0; have z6 := blk_frozen z4 0)))
    go_meet
    exact ⟨w4.heap.size, A4, c4, rfl, ⟨World.alloc_heap_new _ _⟩, ⟨below_alloc hb4 _⟩, ⟨hb4.size⟩, ⟨Kd.R_alloc (Kd.R_mono (Kd.R_bound (Kd.S_R hS4)) (fun k hk => by have := hk.2.2.1; omega)) _⟩⟩
  case rest =>
    obtain ⟨p, Aw, cw, rfl, HP, HPB, HPS, HRW⟩ := hcut
    have HG5 := Aside0.mk (HG3.out.step HPB.out)
    have HC5 := Aside0.mk (Kd.C_below HC3.out HPB.out)
    have c5 := blk_cell_ HG5.out.e3 0
    have f5 := blk_frozen HG5.out.e3 0
    have hand := i64_and31 most
    have hr0 : 0 ≤ most % 32 := Int.emod_nonneg _ (by decide)
    have hr1 : most % 32 < 32 := Int.emod_lt_of_pos _ (by decide)
    obtain ⟨mn, hmn⟩ : ∃ mn : Nat, (mn : Int) = 1 + most % 32 := ⟨(1 + most % 32).toNat, by omega⟩
    have HMN := Aside0.mk (show 1 ≤ mn ∧ mn ≤ 32 by omega)
    have HMV := Aside0.mk hmn
    have HPZ := Aside0.mk (show b + 2 < p ∧ w.heap.size ≤ p ∧ p < wc.heap.size from ⟨by have := HPS.out; have := lt_of_heap HG3.out.e4; omega, by have := HPS.out; have := HG3.out.below.size; omega, lt_of_heap HP.out⟩)
    clear c3 hmn
    have CF := Aside0.mk (fun W => pgroups_any (.slice A0 xss.length c0) ⟨_, _, _, rfl⟩ W)
    go_upto_region 9 with fail
    clear c5 f5 hand hr0 hr1
    rw [← HMV.out]
    obtain ⟨zs, hzs⟩ : ∃ zs, zs = wc.heap.size := ⟨_, rfl⟩
    rw [← hzs]
    have hss : (wc.setCell ⟨b + 1, 0, none⟩ (.int .i64 (mn : Int))).heap.size = zs := by simp [World.setCell, hzs]
    obtain ⟨W6, hW6⟩ : ∃ W6, W6 = allocs (wc.setCell ⟨b + 1, 0, none⟩ (.int .i64 (mn : Int))) [.cells #[.int .i64 0] 3, .cells #[.int .u64 0] 36] := ⟨_, rfl⟩
    have hk6 : Keeps (fun k => k ≠ b + 1) wc W6 := by rw [hW6]; exact ((Keeps.refl _ _).setCell (fun h => absurd rfl h) _).trans (allocs_keeps _ _ _)
    have hG6 : GrG w A0 xss.length c0 b mn W6 := by
      refine ⟨HG5.out.below.trans (hk6.below (fun k hk => by have := HBW.out; omega) HG5.out.below.size), hk6.at_ HG5.out.e2 (by omega), ?_, hk6.at_ HG5.out.e4 (by omega)⟩
      rw [hW6]
      exact (allocs_keeps (fun _ => True) _ _).at_ (set_at HG5.out.e3 0 _) trivial
    have g0 : W6.heap[zs]? = some (.cells #[.int .i64 0] 3 (0, 0)) := by rw [hW6, ← hss]; exact allocs_at _ _ 0 _ rfl
    have g1 : W6.heap[zs + 1]? = some (.cells #[.int .u64 0] 36 (0, 0)) := by rw [hW6, ← hss]; exact allocs_at _ _ 1 _ rfl
    have hsz6 : W6.heap.size = zs + 2 := by rw [hW6, allocs_size, hss]; rfl
    have hP6 : W6.heap[p]? = some (.cells #[.slice Aw (groupsL xss).length cw] 59 (0, 0)) := hk6.at_ HP.out (by have := HPZ.out; omega)
    have hR6 : Kd.R (Kd.slice 3 (Kd.int .i64)) 52 W6 W3.heap.size (fun k => k ≠ p ∧ k < zs) (.slice Aw (groupsL xss).length cw) (groupsL xss) :=
      Kd.R_mono (Kd.R_step (Kd.R_mono (Kd.R_bound HRW.out) (ok' := fun k => k ≠ p ∧ k < zs ∧ k ≠ b + 1) (fun k hk => ⟨hk.1, by have := hk.2.2.1; omega, by have := hk.2.1; have := lt_of_heap HG3.out.e4; omega⟩)) (fun k hk hlt => hk6.block k hk.2.2 hlt)) (fun k hk => ⟨hk.1, hk.2.1⟩)
    change Code.wp _ _ _ _ (allocs (wc.setCell ⟨b + 1, 0, none⟩ (.int .i64 (mn : Int))) [_, _])
    rw [← hW6]
    have hpz : b + 2 < p ∧ w.heap.size ≤ p ∧ p < zs := by rw [hzs]; exact HPZ.out
    have HPZ' := Aside0.mk hpz
    clear hW6 hss hk6 HPZ hzs hpz HRW HP
    have c3 := blk_cell_ hG6.e2 0
    go_wp2_with (go_at_call 31; refine (CF.out _).mono ?_; rintro e w' ⟨rfl, rfl⟩)
    try rw [hsz6]
    have hk7 : Below W6.heap.size W6 (W6.alloc (.cells #[.slice A0 xss.length c0] 34)) := below_alloc (Below.refl _ _) _
    have g2 := World.alloc_heap_new W6 (.cells #[.slice A0 xss.length c0] 34)
    have hsz7 : (W6.alloc (.cells #[.slice A0 xss.length c0] 34)).heap.size = zs + 3 := by simp [hsz6]
    rw [hsz6] at g2
    generalize W6.alloc (.cells #[.slice A0 xss.length c0] 34) = W7 at hk7 g2 hsz7 ⊢
    have HG7 := Aside0.mk (hG6.step hk7)
    have h07 := (hk7.block _ (lt_of_heap g0)).trans g0
    have h17 := (hk7.block _ (lt_of_heap g1)).trans g1
    have HP7 := Aside0.mk ((hk7.block _ (lt_of_heap hP6)).trans hP6)
    have HR7 := Aside0.mk (Kd.R_below hR6 hk7)
    have HZ7 := Aside0.mk hsz7
    have hbz : b + 2 < zs ∧ w.heap.size ≤ zs := by have := HPZ'.out; omega
    have HZB := Aside0.mk hbz
    have hwb := HBW.out
    have hitG := pgroups1_iter w W7 A0 c0 xss (zs + 2) (fun k => k < W7.heap.size ∧ ¬ (k = zs ∨ k = zs + 1)) HC.out hc0 (fun xs h => by have := HM.out xs h; omega) (by have := HL.out; omega) HG7.out.below g2 (fun k hk => ⟨by omega, by omega⟩) ⟨by omega, by omega⟩
    clear g0 g1 g2 hP6 hR6 hk7 hsz6 hsz7 hG6 c3 HG3 HG5 HC3 HC5 HPB CF CGR
    refine (wpIn_wide (n := 0)).1 ?_
    refine range_outerB rfl (enters_of Try.func52 (by kernel_rfl) rfl) rowRel_ok hitG (fun k h => h.1) (fun _ => rfl) (fun k => k = zs ∨ k = zs + 1) (fun k h => ⟨by have := HZ7.out; omega, fun h' => h'.2 h⟩)
      (fun pre S W => (S zs ∧ S (zs + 1)) ∧ pre.length < mn ∧ W.heap[zs]? = some (.cells #[.int .i64 (pre.length : Nat)] 3 (0, 0)) ∧ W.heap[zs + 1]? = some (.cells #[.int .u64 (seenU xss pre)] 36 (0, 0)))
      (fun pre S W => (S zs ∧ S (zs + 1)) ∧ pre.length = mn ∧ W.heap[zs]? = some (.cells #[.int .i64 (pre.length : Nat)] 3 (0, 0)) ∧ W.heap[zs + 1]? = some (.cells #[.int .u64 (seenU xss pre)] 36 (0, 0)))
      ?hI ?hIb ?h0 (fun v n => [(8, v)]) (fun v => []) ?assign ?body ?fin
    case hI =>
      rintro pre S A B ⟨h1, h2, h3, h4⟩ hk
      exact ⟨h1, h2, hk.at_ h3 (.inl h1.1), hk.at_ h4 (.inl h1.2)⟩
    case hIb =>
      rintro pre S A B ⟨h1, h2, h3, h4⟩ hk
      exact ⟨h1, h2, hk.at_ h3 (.inl h1.1), hk.at_ h4 (.inl h1.2)⟩
    case h0 => exact ⟨⟨.inl rfl, .inr rfl⟩, HMN.out.1, h07, h17⟩
    case assign =>
      intro l x W K hK
      simp only [encV, allocs, slotsSet, List.zip_toArray, List.zip_cons_cons, List.zip_nil_left, List.zip_nil_right, List.foldl_toArray, List.foldl_cons, List.foldl_nil, List.setIfInBounds_toArray, List.set_cons_succ, List.set_cons_zero] at hK ⊢
      gi_wp2
      exact hK
    case body =>
      rintro l pre x post v S W hx hrel hl0 hlr hSl hS hkW ⟨h1, h2, h3, h4⟩
      have hxl : (groupsL xss).length = pre.length + (post.length + 1) := by rw [hx]; simp
      have hxm : x ∈ groupsL xss := by rw [hx]; simp
      have hpl : pre.length ≤ 32 := by have := HMN.out; omega
      obtain ⟨Ax, cx, e1, hlx, hCx⟩ := Kd.R_reads hrel
      subst e1
      have hG : GrG w A0 xss.length c0 b mn W := ⟨HG7.out.below.trans (hkW.below (fun k hk => ⟨by have := HZ7.out; omega, by omega⟩) HG7.out.below.size), hkW.at_ HG7.out.e2 ⟨lt_of_heap HG7.out.e2, by omega⟩, hkW.at_ HG7.out.e3 ⟨lt_of_heap HG7.out.e3, by omega⟩, hkW.at_ HG7.out.e4 ⟨lt_of_heap HG7.out.e4, by omega⟩⟩
      have hPW := hkW.at_ HP7.out ⟨lt_of_heap HP7.out, by have := HPZ'.out; omega⟩
      have hRW := Kd.R_step HR7.out (fun k hk hlt => hkW.block k ⟨hlt, by omega⟩ hlt)
      have hwL := (Kd.R_reads' hRW).2.2
      have p1 : (0 : Int) ≤ ((pre.length : Nat) : Int) := by omega
      have p2 : ((pre.length : Nat) : Int) < ((groupsL xss).length : Int) := by omega
      obtain ⟨adw, Ay, cy, e2, hy0, hly, hCy⟩ := at_L5 hwL (pre.length : Nat) p1 p2
      subst e2
      have hrd : rd_L5 (groupsL xss) ((pre.length : Nat) : Int) = x := by
        unfold rd_L5
        rw [Int.toNat_natCast, hx, List.getD_eq_getElem?_getD]
        simp
      rw [hrd] at hy0 hly hCy
      rw [Int.toNat_natCast] at hy0
      have hxlen : x.length ≤ 12 := Nat.le_trans (groups_len xss HU.out x hxm) HL.out
      obtain ⟨ks, hks⟩ := sameInts_f x (by omega)
      have CS := Aside0.mk (saleroomref01_SameInts.calls ks Ax cx x Ay cy x true W hCx hlx hCy hly hks)
      have HCX := Aside0.mk hCx
      have HXN := Aside0.mk (groups_nat xss HU.out x hxm)
      have HAP := Aside0.mk (groups_apart xss HU.out hx)
      have HSN := Aside0.mk (seenU_snoc xss pre x)
      have HXL := Aside0.mk hxlen
      have c2 := blk_cell_ hG.e2 0
      have c5 := blk_cell_ hPW 0
      have ci := blk_cell_ h3 0
      have t1 : decide ((groupsL xss).length ≤ pre.length) = false := decide_eq_false (by omega)
      have HGW := Aside0.mk hG
      have H3 := Aside0.mk h3
      have H4 := Aside0.mk h4
      have HS1 := Aside0.mk h1
      have HP2 := Aside0.mk h2
      have HPL := Aside0.mk hpl
      clear hG hPW hRW hwL hCx hCy hx hrel hl0 hlr hSl hS hkW h1 h2 h3 h4 hxl hxm hrd hks hxlen hpl
      simp only [encV, allocs, slotsSet, List.zip_toArray, List.zip_cons_cons, List.zip_nil_left, List.zip_nil_right, List.foldl_toArray, List.foldl_cons, List.foldl_nil, List.setIfInBounds_toArray, List.set_cons_succ, List.set_cons_zero]
      replace p1 := eq_true p1
      replace p2 := eq_true p2
      clear hwb hbz
      gi_wp2_with fail
      refine ⟨trivial, rfl, (callsIn_wide (n := 0)).2 (CS.out.mono ?_)⟩
      rintro e W4 ⟨rfl, hd4⟩
      have hb4 := hd4.below
      have HB4 := Aside0.mk hb4
      clear CS c2 c5 ci hy0 hly hlx p1 p2 t1 hd4 hb4
      gi_wp2_with fail
      gi_loopg [9, 40] x.length (fun n v9 v40 W5 => ∃ j : Nat, v40 = .int .i64 j ∧ v9 = .int .u64 (itU xss (x.take j)) ∧ Aside0 (j + n = x.length) ∧ Aside0 (Below W.heap.size W W5))
      case atStart => exact ⟨0, by simp, by simp [itU], ⟨by simp⟩, HB4⟩
      case round =>
        clear HB4
        obtain ⟨j, rfl, rfl, HJ, HB5⟩ := hrel
        by_cases cj : (j : Int) < (x.length : Int)
        · have p1 : (0 : Int) ≤ (j : Int) := by omega
          have hjl : j < x.length := by omega
          have HJL := Aside0.mk hjl
          have HCx5 := Kd.C_below HCX.out HB5.out
          obtain ⟨ad6, e6, hg0⟩ := ReadsOf.at_ (Kd.reads_of_C (enc := Value.int .i64) (d := (0 : Int)) HCx5) (j : Int) p1 cj
          subst e6
          rw [Int.toNat_natCast, show rdOf 0 x (j : Int) = x.getD j 0 from by simp [rdOf]] at hg0
          obtain ⟨m0, m1⟩ := HXN.out (x.getD j 0) (by simp [List.getD, hjl])
          have HTK := Aside0.mk (itU_take xss x j hjl)
          have hG := HGW.out.step HB5.out
          have c2 := blk_cell_ hG.e2 0
          obtain ⟨ad7, A7, c7, e7, hz0, hlz, hCz⟩ := at_L3 (Kd.C_below HC.out hG.below) (x.getD j 0) m0 m1
          subst e7
          obtain ⟨ku, hku⟩ := (runion_f (rd_L3 xss (x.getD j 0)) (by have := rdL_len xss HM.out (x.getD j 0); omega)).rounds
          have CU := Aside0.mk (saleroomref14_Union.calls ku A7 c7 (rd_L3 xss (x.getD j 0)) _ wr hCz hlz hku)
          have wrapI : wrap64 ((j : Int) + 1) = ((j + 1 : Nat) : Int) := by have := HXL.out; unfold wrap64; omega
          clear hG HCx5 hjl hlz hCz hku
          replace p1 := eq_true p1
          replace cj := eq_true cj
          replace m0 := eq_true m0
          replace m1 := eq_true m1
          generalize x.getD j 0 = kk at hg0 m0 m1 HTK hz0 CU
          generalize uniL (rd_L3 xss kk) = uu at HTK CU
          generalize (rd_L3 xss kk).length = ul at hz0 CU
          generalize itU xss (List.take j x) = it at HTK ⊢
          gi_wp2_with fail
          refine ⟨trivial, rfl, (callsIn_wide (n := 0)).2 (CU.out.mono ?_)⟩
          rintro e W6 ⟨rfl, hd6⟩
          have HB6 := Aside0.mk (below_step HB5.out hd6.below)
          clear CU hd6 hg0 hz0 c2 m0 m1 p1 HB5
          gi_wp2_with fail
          gi_roundg (gk - 1)
          case measure => have := HJ.out; have := HJL.out; omega
          case rel => exact ⟨j + 1, by first | (simp; done) | rw [wrapI], by first | rw [HTK.out] | (simp [HTK.out]; done), ⟨by have := HJ.out; have := HJL.out; omega⟩, HB6⟩
        · have c1 : (j < x.length) = False := eq_false (by omega)
          have c2 : ((j : Int) < (x.length : Int)) = False := eq_false cj
          have hjl : j = x.length := by have := HJ.out; omega
          have hG := HGW.out.step HB5.out
          have h3 := (HB5.out.block _ (lt_of_heap H3.out)).trans H3.out
          have h4 := (HB5.out.block _ (lt_of_heap H4.out)).trans H4.out
          have hap : Go.bits .and .u64 (itU xss (x.take j)) (seenU xss pre) = 0 := by rw [hjl, List.take_length]; exact HAP.out
          have HSN2 := Aside0.mk (show seenU xss (pre ++ [x]) = Go.bits .or .u64 (seenU xss pre) (itU xss (x.take j)) by rw [hjl, List.take_length]; exact HSN.out)
          have c7 := blk_cell_ h4 0
          have f7 := blk_frozen h4 0
          have c6 := blk_cell_ h3 0
          have f6 := blk_frozen h3 0
          have c5 := blk_cell_ hG.e3 0
          obtain ⟨m, hmm⟩ : ∃ m, m = pre.length := ⟨_, rfl⟩
          have hw : wrap64 ((m : Int) + 1) = ((m + 1 : Nat) : Int) := by have := HPL.out; unfold wrap64; omega
          have HME := Aside0.mk hmm
          rw [← hmm] at c6 ⊢
          have HH3 := Aside0.mk h3
          have HH4 := Aside0.mk h4
          have HBW5 := Aside0.mk HB5.out
          clear cj hjl hG h3 h4 hmm HSN HAP
          generalize itU xss (List.take j x) = it at hap HSN2 ⊢
          generalize seenU xss pre = su at hap HSN2 c7
          obtain ⟨m1, hm1⟩ : ∃ m1, m1 = m + 1 := ⟨_, rfl⟩
          rw [← hm1] at hw
          have HM1 := Aside0.mk hm1
          clear hm1
          have hbz := HZB.out.1
          have e3 := HGW.out.step HB5.out |>.e3
          have HSL : Aside0 ((pre ++ [x]).length = m1) := ⟨by rw [List.length_append, HM1.out, HME.out]; rfl⟩
          have HKP := Aside0.mk (fun u u' => ((Keeps.of_all (S := fun k => ¬ S k) HB5.out).setCell (p := ⟨zs + 1, 0, none⟩) (fun h => absurd HS1.out.2 h) u).setCell (p := ⟨zs, 0, none⟩) (fun h => absurd HS1.out.1 h) u')
          have HC0 := Aside0.mk (fun u u' => set_at (i := 0) ((Below.heap_setCell wr ⟨zs + 1, 0, none⟩ u zs (by simp only; omega)).trans HH3.out) u')
          have HC1 := Aside0.mk (fun u u' => (Below.heap_setCell (wr.setCell ⟨zs + 1, 0, none⟩ u) ⟨zs, 0, none⟩ u' (zs + 1) (by simp only; omega)).trans (set_at HH4.out 0 u))
          by_cases cm : m1 = mn
          · rw [← cm] at e3
            have hc5 : ∀ u u', ((wr.setCell ⟨zs + 1, 0, none⟩ u).setCell ⟨zs, 0, none⟩ u').cell? ⟨b + 1, 0, none⟩ = some (.int .i64 (m1 : Int)) := fun u u' => blk_cell_ ((Below.heap_setCell _ _ _ _ (by simp only; omega)).trans ((Below.heap_setCell _ _ _ _ (by simp only; omega)).trans e3)) 0
            have HCM := Aside0.mk cm
            clear cm hbz e3 c5
            gi_wp2_with fail
            exact ⟨S, fun k h => .inl h, HKP.out _ _, rfl, HS1.out, by rw [HSL.out]; exact HCM.out, by rw [HSL.out]; exact HC0.out _ _, by rw [HSN2.out]; exact HC1.out _ _⟩
          · have t1 : decide (m1 = mn) = false := decide_eq_false cm
            have t2 : ((m1 : Int) == (mn : Int)) = false := by rw [beq_eq_false_iff_ne]; omega
            have hc5 : ∀ u u', ((wr.setCell ⟨zs + 1, 0, none⟩ u).setCell ⟨zs, 0, none⟩ u').cell? ⟨b + 1, 0, none⟩ = some (.int .i64 (mn : Int)) := fun u u' => blk_cell_ ((Below.heap_setCell _ _ _ _ (by simp only; omega)).trans ((Below.heap_setCell _ _ _ _ (by simp only; omega)).trans e3)) 0
            have HCM := Aside0.mk cm
            clear cm hbz e3 c5
            gi_wp2_with fail
            exact ⟨S, fun k h => .inl h, HKP.out _ _, HS1.out, by rw [HSL.out]; have := HCM.out; have := HP2.out; have := HM1.out; have := HME.out; omega, by rw [HSL.out]; exact HC0.out _ _, by rw [HSN2.out]; exact HC1.out _ _⟩
    case fin =>
      rintro d pre S W hd hSd hK hS hkW hend
      obtain ⟨q, hq, h3⟩ : ∃ q : Nat, (q : Int) = min (mn : Int) ((groupsL xss).length : Int) ∧ W.heap[zs]? = some (.cells #[.int .i64 (q : Int)] 3 (0, 0)) := by
        rcases hend with ⟨rfl, h1, h2, h3, h4⟩ | ⟨hp, h1, h2, h3, h4⟩
        · exact ⟨_, by omega, h3⟩
        · have := hp.length_le
          exact ⟨_, by omega, h3⟩
      have hdz : W7.heap.size ≤ d := hd
      have hG : GrG w A0 xss.length c0 b mn W := ⟨HG7.out.below.trans (hkW.below (fun k hk => ⟨by have := HZ7.out; omega, by omega⟩) HG7.out.below.size), hkW.at_ HG7.out.e2 ⟨lt_of_heap HG7.out.e2, by omega⟩, hkW.at_ HG7.out.e3 ⟨lt_of_heap HG7.out.e3, by omega⟩, hkW.at_ HG7.out.e4 ⟨lt_of_heap HG7.out.e4, by omega⟩⟩
      have hPW := hkW.at_ HP7.out ⟨lt_of_heap HP7.out, by have := HPZ'.out; omega⟩
      have c3 := blk_cell_ hG.e3 0
      have c4 := blk_cell_ hG.e4 0
      have f4 := blk_frozen hG.e4 0
      have c5 := blk_cell_ hPW 0
      have ci := blk_cell_ h3 0
      have HE := Aside0.mk (show GrG w A0 xss.length c0 b mn W ∧ W.heap[d]? = some (.deferred (some [])) from ⟨hG, hK⟩)
      have HDZ := Aside0.mk (show b + 2 ≠ d ∧ w.heap.size ≤ d from by have := HZ7.out; omega)
      clear hend hkW hS hK hG hPW hdz hwb hbz h3 hitG h07 h17 hd hSd
      generalize (groupsL xss).length = L at hq c5
      rcases Nat.lt_or_ge L mn with h | h
      · have e : q = L := by omega
        subst e
        clear hq
        go_wp2_with fail
        have hk9 : Keeps (fun k => k ≠ b + 2 ∧ k ≠ d) W ((W.setCell ⟨b + 2, 0, none⟩ (.bool true)).putObj d (.deferred none)) :=
          ((Keeps.refl _ _).setCell (fun h => absurd rfl h.1) _).putObj (fun h => absurd rfl h.2) _
        have hd' : (W.setCell ⟨b + 2, 0, none⟩ (.bool true)).heap[d]? = some (.deferred (some [])) := (Below.heap_setCell _ _ _ _ (by have := HDZ.out.1; simp only; omega)).trans HE.out.2
        have hr' : ((W.setCell ⟨b + 2, 0, none⟩ (.bool true)).putObj d (.deferred none)).heap[b + 2]? = some (.cells #[.bool true] 4 (0, 0)) :=
          (World.putObj_heap_other (by have := HDZ.out.1; omega)).trans (set_at HE.out.1.e4 0 _)
        have hcell := blk_cell_ hr' 0
        refine ⟨by simp, .inl ⟨_, _, rfl, run_takeDeferred hd', ?_⟩⟩
        refine ⟨.bool true, by simp [results, Try.results6, go_sem, hcell], rfl, ?_⟩
        exact HE.out.1.below.trans (hk9.below (fun k hk => ⟨by have := HBW.out; omega, by have := HDZ.out.2; omega⟩) HE.out.1.below.size)
      · have e : q = mn := by omega
        rw [e] at ci
        replace h : ¬ L < mn := by omega
        clear hq e
        go_wp2_with fail
        have hk9 : Keeps (fun k => k ≠ b + 2 ∧ k ≠ d) W ((W.setCell ⟨b + 2, 0, none⟩ (.bool true)).putObj d (.deferred none)) :=
          ((Keeps.refl _ _).setCell (fun h => absurd rfl h.1) _).putObj (fun h => absurd rfl h.2) _
        have hd' : (W.setCell ⟨b + 2, 0, none⟩ (.bool true)).heap[d]? = some (.deferred (some [])) := (Below.heap_setCell _ _ _ _ (by have := HDZ.out.1; simp only; omega)).trans HE.out.2
        have hr' : ((W.setCell ⟨b + 2, 0, none⟩ (.bool true)).putObj d (.deferred none)).heap[b + 2]? = some (.cells #[.bool true] 4 (0, 0)) :=
          (World.putObj_heap_other (by have := HDZ.out.1; omega)).trans (set_at HE.out.1.e4 0 _)
        have hcell := blk_cell_ hr' 0
        refine ⟨by simp, .inl ⟨_, _, rfl, run_takeDeferred hd', ?_⟩⟩
        refine ⟨.bool true, by simp [results, Try.results6, go_sem, hcell], rfl, ?_⟩
        exact HE.out.1.below.trans (hk9.below (fun k hk => ⟨by have := HBW.out; omega, by have := HDZ.out.2; omega⟩) HE.out.1.below.size)
end Go.Proofs.Ytafhdamdkefpkaa

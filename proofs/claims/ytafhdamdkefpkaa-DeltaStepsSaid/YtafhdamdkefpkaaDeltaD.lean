/- delta.Diff. -/
import Derived.Test.YtafhdamdkefpkaaDeltaC
import Derived.Test.YtafhdamdkefpkaaRound
namespace Go.Proofs.Ytafhdamdkefpkaa
open Go.RowKit Go.Proofs.YtafhdamdkefpkaaW.PrintWords Go.Proofs.YtafhdamdkefpkaaW.PrintLast Go.Proofs.YtafhdamdkefpkaaW.PrintMore
attribute [local go_sem] max2_int min2_int max_two min_two Oper.semAt_some
set_option linter.unusedVariables false
set_option linter.unusedSimpArgs false
/-- Has a change risen? -/
def risen (bs : List (List PDelta.S68)) (c : PDelta.S76) : Bool := decide (askL (atL bs c.f0.toNat) c.f1.f0 < c.f1.f1)
def diffL (old now : List (List PDelta.S68)) : List PDelta.S76 := (allL (now.map ofL)).filter (risen (old.map ofL))
theorem allTo_mem (bs : List (List PDelta.S68)) : ∀ (n : Nat), n ≤ bs.length → ∀ x ∈ allTo bs n, ∃ i : Nat, i < n ∧ x.f0 = i ∧ x.f1 ∈ atL bs i
  | 0, _, x, hx => by simp [allTo] at hx
  | n + 1, hn, x, hx => by
    rw [allTo] at hx
    rcases List.mem_append.1 hx with h | h
    · obtain ⟨i, h1, h2, h3⟩ := allTo_mem bs n (by omega) x h
      exact ⟨i, by omega, h2, h3⟩
    · obtain ⟨e, he, rfl⟩ := List.mem_map.1 h
      refine ⟨n, by omega, rfl, ?_⟩
      rw [rd_L3_get _ _ (by omega)] at he
      simpa [atL, List.getD, show n < bs.length by omega] using he
theorem info_change : (Try.prog.info? 76).map (fun i => (i.zero, i.size, i.bytes)) = some (some (.agg #[.int .i64 0, .int .u64 0, .int .i64 0]), 3, 24) := by kernel_rfl

set_option maxRecDepth 100000 in
set_option maxHeartbeats 4000000 in
/-- **delta.Diff.** -/
theorem ddiff_any (A0 A1 : Option Addr) (c0 c1 : Nat) (old now : List (List PDelta.S68)) (w : World) (hC0 : Kd.C (Kd.slice 68 PDelta.k68) w A0 old.length old) (hc0 : old.length ≤ c0) (hC1 : Kd.C (Kd.slice 68 PDelta.k68) w A1 now.length now) (hc1 : now.length ≤ c1)
    (hl0 : old.length ≤ 100000) (hl1 : now.length ≤ 100000) (h20 : ∀ b ∈ old, b.length ≤ 900000) (h21 : ∀ b ∈ now, b.length ≤ 900000) (hu0 : ∀ b ∈ old, ∀ e ∈ b, U64 e.f0) (hu1 : ∀ b ∈ now, ∀ e ∈ b, U64 e.f0) (hal : (allL (now.map ofL)).length ≤ 1000000) :
    Calls Try.prog 32 #[.slice A0 old.length c0, .slice A1 now.length c1] w fun e w' => ∃ v : Value, e = .returned v ∧ Kd.R PDelta.k76 76 w' w.heap.size (fun _ => True) v (diffL old now) ∧ Below w.heap.size w w' := by
  have CO0 := Aside0.mk (dopen_any A0 c0 old w hC0 hc0 (by omega) h20 hu0)
  have CO1 := Aside0.mk (fun (W : World) (hb : Below w.heap.size w W) => dopen_any A1 c1 now W (Kd.C_below hC1 hb) hc1 (by omega) h21 hu1)
  have HOL : Aside0 (∀ b ∈ old.map ofL, b.length ≤ 900000) := ⟨fun b hb => by
    obtain ⟨a, ha, rfl⟩ := List.mem_map.1 hb
    have := length_puts a []
    have := h20 a ha
    simp at *
    unfold ofL
    omega⟩
  have HNL : Aside0 (∀ b ∈ now.map ofL, b.length ≤ 900000) := ⟨fun b hb => by
    obtain ⟨a, ha, rfl⟩ := List.mem_map.1 hb
    have := length_puts a []
    have := h21 a ha
    simp at *
    unfold ofL
    omega⟩
  obtain ⟨oldL, hoL⟩ : ∃ oldL, oldL = old.map ofL := ⟨_, rfl⟩
  obtain ⟨nowL, hnL⟩ : ∃ nowL, nowL = now.map ofL := ⟨_, rfl⟩
  have HDL : Aside0 (diffL old now = (allL nowL).filter (risen oldL)) := ⟨by rw [hoL, hnL]; rfl⟩
  have HLL : Aside0 (oldL.length ≤ 100000 ∧ nowL.length ≤ 100000 ∧ (allL nowL).length ≤ 1000000) := ⟨by rw [hoL, hnL]; exact ⟨by simpa using hl0, by simpa using hl1, hal⟩⟩
  rw [← hoL] at CO0 HOL
  rw [← hnL] at CO1 HNL
  clear hC0 hC1 h20 h21 hu0 hu1 hal hoL hnL
  refine (callsIn_wide (n := 0)).1 ?_
  refine callsIn_of_wp_marks Try.func32 rfl trivial ?_ rfl
  simp only [Try.ntmps32, List.size_toArray, List.length_cons, List.length_nil, Nat.reduceAdd, Nat.reduceSub, Array.replicate_succ, Array.replicate_zero, List.push_toArray, List.append_toArray, List.nil_append, List.cons_append]
  refine wpIn_wide.2 ?_
  go_wp2_with (first
    | (go_at_call 40; (with_reducible refine (CO0.out).mono ?_); rintro e w1 ⟨v1, rfl, hk1, hb1⟩; have HK1 := Aside0.mk hk1; have HB1 := Aside0.mk hb1; obtain ⟨Aw, nw, cw, ew⟩ : ∃ A n c, v1 = .slice A n c := (by obtain ⟨ps, -, -, h, -⟩ := hk1; exact R_is_slice h); subst ew; clear hk1 hb1)
    | (go_at_call 40; (with_reducible refine (CO1.out _ (((HB1.out.alloc HB1.out.size _).alloc (Nat.le_trans HB1.out.size (by simp)) _))).mono ?_); rintro e w2 ⟨v2, rfl, hk2, hb2⟩; have HK2 := Aside0.mk hk2; have HB2 := Aside0.mk hb2; clear hk2 hb2)
    | (go_at_call 54; refine ((dall_any _ (by obtain ⟨ps, -, -, h, -⟩ := HK2.out; exact R_is_slice h) _)).mono ?_; rintro e w3 ⟨rfl, rfl⟩))
  -- where the walk stands
  obtain ⟨Wb, hWb⟩ : ∃ Wb, Wb = allocs w1 [.cells #[.slice Aw nw cw] 83, .cells #[.slice none 0 0] 26] := ⟨_, rfl⟩
  have gw : Wb.heap[w1.heap.size]? = some (.cells #[.slice Aw nw cw] 83 (0, 0)) := by rw [hWb]; exact allocs_at _ w1 0 _ rfl
  have go : Wb.heap[w1.heap.size + 1]? = some (.cells #[.slice none 0 0] 26 (0, 0)) := by rw [hWb]; exact allocs_at _ w1 1 _ rfl
  have hsb : Wb.heap.size = w1.heap.size + 2 := by rw [hWb, allocs_size]; rfl
  have hBb : Below w1.heap.size w1 Wb := by rw [hWb]; exact (allocs_keeps (fun _ => True) w1 _).below (fun _ _ => trivial) (Nat.le_refl _)
  have HB2' : Below Wb.heap.size Wb w2 := by rw [hWb]; exact HB2.out
  have HK2' : Book w2 Wb.heap.size v2 nowL := by rw [hWb]; exact HK2.out
  clear hWb HB2 HK2
  obtain ⟨W5, hW5⟩ : ∃ W5, W5 = w2.alloc (.cells #[v2] 83) := ⟨_, rfl⟩
  have gn : W5.heap[w2.heap.size]? = some (.cells #[v2] 83 (0, 0)) := by rw [hW5]; exact World.alloc_heap_new _ _
  have hs5 : W5.heap.size = w2.heap.size + 1 := by rw [hW5, World.size_alloc]
  have hB5 : Below w2.heap.size w2 W5 := by rw [hW5]; exact below_alloc (Below.refl _ _) _
  rw [← hW5]
  clear hW5
  have hs2 : Wb.heap.size ≤ w2.heap.size := HB2'.size
  obtain ⟨bo, hbo⟩ : ∃ bo, bo = w1.heap.size + 1 := ⟨_, rfl⟩
  rw [← hbo] at go ⊢
  have gw5 : W5.heap[w1.heap.size]? = some (.cells #[.slice Aw nw cw] 83 (0, 0)) := (hB5.block _ (by omega)).trans ((HB2'.block _ (by omega)).trans gw)
  have go5 : W5.heap[bo]? = some (.cells #[.slice none 0 0] 26 (0, 0)) := (hB5.block _ (by omega)).trans ((HB2'.block _ (by omega)).trans go)
  have hBK5 : BookIn W5 Wb.heap.size (fun k => Wb.heap.size ≤ k ∧ k < w2.heap.size) v2 nowL := HK2'.inside.step (fun k hk hlt => hB5.block k hlt)
  have hBw : Below w1.heap.size w1 W5 := (hBb.trans (HB2'.mono (by omega))).trans (hB5.mono (by omega))
  have hB05 : Below w.heap.size w W5 := HB1.out.trans (hBw.mono HB1.out.size)
  have hitE := dall1_iter W5 Wb.heap.size (fun k => Wb.heap.size ≤ k ∧ k < w2.heap.size) v2 nowL w2.heap.size (fun k => k < W5.heap.size ∧ k ≠ bo) hBK5 (fun k hk => by have := hk.2; omega) (by have := HLL.out.2.1; omega) (fun b hb => by have := HNL.out b hb; omega) gn (fun k hk => ⟨by have := hk.2; omega, by have := hk.1; omega⟩) ⟨by omega, by omega⟩
  have HSB := Aside0.mk hsb
  have HS5 := Aside0.mk hs5
  have HS2 := Aside0.mk hs2
  have HBO := Aside0.mk hbo
  have HBW := Aside0.mk hBw
  have HB05 := Aside0.mk hB05
  have HGW := Aside0.mk gw5
  have hbo5 : bo < W5.heap.size := by omega
  have HS1 := Aside0.mk HB1.out.size
  have HLEN := Aside0.mk (show w1.heap.size + 2 < W5.heap.size ∧ bo = w1.heap.size + 1 ∧ w.heap.size ≤ w1.heap.size from ⟨by omega, hbo, HB1.out.size⟩)
  clear gw go hsb hBb HB2' HK2' gn hs5 hB5 hs2 hbo gw5 hBK5 hBw hB05
  refine (wpIn_wide (n := 0)).1 ?_
  refine range_outerU rfl (enters_of Try.func82 (by kernel_rfl) rfl) eqRel_ok hitE.toR (fun k h => h.1) (fun _ => rfl) (fun k => k = bo) (fun k h => ⟨by omega, fun h' => h'.2 h⟩)
    (fun pre S W => S bo ∧ ∃ v, W.heap[bo]? = some (.cells #[v] 26 (0, 0)) ∧ Kd.R PDelta.k76 76 W bo (fun k => S k ∧ k ≠ bo) v (pre.filter (risen oldL)))
    (fun _ _ _ _ => False) ?hI ?hIx ?h0 (fun x n => [(7, .pointer (some ⟨n, 0, none⟩))]) (fun x => [.cells #[.int .i64 x.f0, .int .u64 x.f1.f0, .int .i64 x.f1.f1] 76]) ?assign ?body ?done ?stop
  case hI =>
    rintro pre S A B ⟨h1, v, h2, h3⟩ hk
    exact ⟨h1, v, hk.at_ h2 (.inl h1), Kd.R_step h3 (fun k h hk' => hk.block k (.inl h.1) hk')⟩
  case hIx => rintro c pre S A B h; exact h.elim
  case h0 => exact ⟨rfl, _, go5, Kd.R_nil _ _ _ _ _⟩
  case assign =>
    intro l x W K hK
    simp only [encC, allocs, slotsSet, List.zip_toArray, List.zip_cons_cons, List.zip_nil_left, List.zip_nil_right, List.foldl_toArray, List.foldl_cons, List.foldl_nil, List.setIfInBounds_toArray, List.set_cons_succ, List.set_cons_zero] at hK ⊢
    gi_wp2
    exact hK
  case body =>
    rintro l pre x post b' S W hx hrel hl0 hlr hSl hS hkW ⟨h1, v, h2, h3⟩
    subst hrel
    obtain ⟨i, hi, hxi, hxm⟩ := allTo_mem nowL _ (Nat.le_refl _) x (by have : x ∈ allL nowL := by rw [hx]; simp
                                                                       exact this)
    have hpl : (pre.filter (risen oldL)).length ≤ 1000000 := by
      have h := HLL.out.2.2
      rw [hx, List.length_append] at h
      have := List.length_filter_le (risen oldL) pre
      omega
    have hsW : W5.heap.size ≤ W.heap.size := hkW.size
    have hstep : Aside0 ((pre ++ [x]).filter (risen oldL) = pre.filter (risen oldL) ++ (if askL (atL oldL i) x.f1.f0 < x.f1.f1 then [x] else [])) := ⟨by
      rw [List.filter_append, List.filter_cons, List.filter_nil]
      unfold risen
      rw [hxi, Int.toNat_natCast]
      by_cases h : askL (atL oldL i) x.f1.f0 < x.f1.f1 <;> simp [h]⟩
    have hkb : Book W w.heap.size (.slice Aw nw cw) oldL := HK1.out.step (fun k hk => (hkW.block k ⟨by have := HLEN.out; omega, fun e => by have := HLEN.out; omega⟩ (by have := HLEN.out; omega)).trans (HBW.out.block k hk))
    have hgw : W.heap[w1.heap.size]? = some (.cells #[.slice Aw nw cw] 83 (0, 0)) := hkW.at_ HGW.out ⟨by have := HLEN.out; omega, fun e => by have := HLEN.out; omega⟩
    have hal : ∀ b, atL oldL i = b → b.length ≤ 1000000000 := by
      intro b hb
      by_cases h : i < oldL.length
      · have := HOL.out (atL oldL i) (by simp [atL, List.getD, h])
        rw [hb] at this; omega
      · have : atL oldL i = [] := by simp [atL, List.getD, show oldL.length ≤ i by omega]
        rw [this] at hb; rw [← hb]; simp
    simp only [encC, allocs, slotsSet, List.zip_toArray, List.zip_cons_cons, List.zip_nil_left, List.zip_nil_right, List.foldl_toArray, List.foldl_cons, List.foldl_nil, List.setIfInBounds_toArray, List.set_cons_succ, List.set_cons_zero]
    have k0 : Keeps (fun k => ¬ S k) W (W.alloc (.cells #[.int .i64 x.f0, .int .u64 x.f1.f0, .int .i64 x.f1.f1] 76)) := (Keeps.refl _ _).alloc _
    have hb0 : Below W.heap.size W (W.alloc (.cells #[.int .i64 x.f0, .int .u64 x.f1.f0, .int .i64 x.f1.f1] 76)) := below_alloc (Below.refl _ _) _
    have e9 := World.alloc_heap_new W (.cells #[.int .i64 x.f0, .int .u64 x.f1.f0, .int .i64 x.f1.f1] 76)
    have hs9 : (W.alloc (.cells #[.int .i64 x.f0, .int .u64 x.f1.f0, .int .i64 x.f1.f1] 76)).heap.size = W.heap.size + 1 := World.size_alloc _ _
    generalize W.alloc (.cells #[.int .i64 x.f0, .int .u64 x.f1.f0, .int .i64 x.f1.f1] 76) = W9 at k0 hb0 e9 hs9 ⊢
    have hgw9 := (hb0.block _ (lt_of_heap hgw)).trans hgw
    have CA := Aside0.mk (fun (W' : World) (hb : Below W9.heap.size W9 W') => dat_any (.slice Aw nw cw) oldL i W' w.heap.size ((hkb.below hb0).below hb) (by have := hb.size; have := HLEN.out; omega) (by have := HLL.out.2.1; omega))
    have CK := Aside0.mk (fun (q : Nat) (W' : World) (hst : St W' w.heap.size q (atL oldL i)) => by
      obtain ⟨-, u, hq, hR⟩ := hst
      obtain ⟨A, c, rfl, hlc, hC⟩ := Kd.R_reads hR
      exact ask_any q A c (atL oldL i) x.f1.f0 W' hq hC hlc (hal _ rfl))
    have HK0 := Aside0.mk k0
    have HB0 := Aside0.mk hb0
    have HS := Aside0.mk hS
    have H3 := Aside0.mk h3
    have H2 := Aside0.mk h2
    have HSW := Aside0.mk hsW
    have HPL := Aside0.mk hpl
    have HS9 := Aside0.mk hs9
    have HE9 := Aside0.mk e9
    have n0 := blk_cell_ e9 0
    have n1 := blk_cell_ e9 1
    have n2 := blk_cell_ e9 2
    have nw0 := blk_cell_ hgw9 0
    replace n0 : W9.cell? ⟨W.heap.size, 0, none⟩ = some (.int .i64 i) := by rw [← hxi]; exact n0
    replace n1 : W9.cell? ⟨W.heap.size, 1, none⟩ = some (.int .u64 x.f1.f0) := n1
    replace n2 : W9.cell? ⟨W.heap.size, 2, none⟩ = some (.int .i64 x.f1.f1) := n2
    replace nw0 : W9.cell? ⟨w1.heap.size, 0, none⟩ = some (.slice Aw nw cw) := nw0
    have HXI := Aside0.mk hxi
    clear hx hlr hSl hS hkW h2 h3 hxm hpl hkb hgw hgw9 k0 hb0 e9 hs9 hsW hl0 hal hxi hi
    generalize askL (atL oldL i) x.f1.f0 = r at CK hstep
    gi_wp2_with fail
    refine region_round (fun w' => Aside0 (Below W9.heap.size W9 w') ∧ w'.cell? ⟨W.heap.size, 0, none⟩ = some (.int .i64 i) ∧ w'.cell? ⟨W.heap.size, 1, none⟩ = some (.int .u64 x.f1.f0) ∧ w'.cell? ⟨W.heap.size, 2, none⟩ = some (.int .i64 x.f1.f1) ∧ w'.cell? ⟨w1.heap.size, 0, none⟩ = some (.slice Aw nw cw))
      (by rfl) (by kernel_rfl) (fun ⟨_, _, h⟩ => h) ⟨⟨(Below.refl _ _).drew⟩, n0, n1, n2, nw0⟩ (fun hHeld => ?_)
    refine wpAnyH_take (i := 0) (v := ?_) rfl (by kernel_rfl) (by kernel_rfl) (by kernel_rfl) (fun _ _ _ h => h) (Or.inl ⟨by rfl, ?_⟩) (by assumption) ?_
    rotate_left
    · (intro w hSw; (try dsimp only at hSw); go_simp; first | done | with_reducible rfl)
    try simp only [List.getElem_toArray, List.getElem_cons_zero, List.getElem_cons_succ, Act.put, List.setIfInBounds_toArray, List.set_cons_succ, List.set_cons_zero]
    refine wpAnyH_take (i := 1) (v := ?_) rfl (by kernel_rfl) (by kernel_rfl) (by kernel_rfl) (fun _ _ _ h => h) (Or.inl ⟨by rfl, ?_⟩) (by assumption) ?_
    rotate_left
    · (intro w hSw; (try dsimp only at hSw); go_simp; first | done | with_reducible rfl)
    try simp only [List.getElem_toArray, List.getElem_cons_zero, List.getElem_cons_succ, Act.put, List.setIfInBounds_toArray, List.set_cons_succ, List.set_cons_zero]
    refine wpAnyH_take (i := 2) (v := ?_) rfl (by kernel_rfl) (by kernel_rfl) (by kernel_rfl) (fun _ _ _ h => h) (Or.inl ⟨by rfl, ?_⟩) (by assumption) ?_
    rotate_left
    · (intro w hSw; (try dsimp only at hSw); go_simp; first | done | with_reducible rfl)
    try simp only [List.getElem_toArray, List.getElem_cons_zero, List.getElem_cons_succ, Act.put, List.setIfInBounds_toArray, List.set_cons_succ, List.set_cons_zero]
    refine wpAnyH_take (i := 3) (v := ?_) rfl (by kernel_rfl) (by kernel_rfl) (by kernel_rfl) (fun _ _ _ h => h) (Or.inl ⟨by rfl, ?_⟩) (by assumption) ?_
    rotate_left
    · (intro w hSw; (try dsimp only at hSw); go_simp; first | done | with_reducible rfl)
    try simp only [List.getElem_toArray, List.getElem_cons_zero, List.getElem_cons_succ, Act.put, List.setIfInBounds_toArray, List.set_cons_succ, List.set_cons_zero]
    refine wpAnyH_take (i := 4) (v := ?_) rfl (by kernel_rfl) (by kernel_rfl) (by kernel_rfl) (fun _ _ _ h => h) (Or.inl ⟨by rfl, ?_⟩) (by assumption) ?_
    rotate_left
    · (intro w hSw; (try dsimp only at hSw); go_simp; first | done | with_reducible rfl)
    try simp only [List.getElem_toArray, List.getElem_cons_zero, List.getElem_cons_succ, Act.put, List.setIfInBounds_toArray, List.set_cons_succ, List.set_cons_zero]
    refine wpAnyH_take (i := 5) (v := ?_) rfl (by kernel_rfl) (by kernel_rfl) (by kernel_rfl) (fun _ _ _ h => h) (Or.inl ⟨by rfl, ?_⟩) (by assumption) ?_
    rotate_left
    · (intro w hSw; (try dsimp only at hSw); go_simp; first | done | with_reducible rfl)
    try simp only [List.getElem_toArray, List.getElem_cons_zero, List.getElem_cons_succ, Act.put, List.setIfInBounds_toArray, List.set_cons_succ, List.set_cons_zero]
    refine wpAnyH_take (i := 7) (v := ?_) rfl (by kernel_rfl) (by kernel_rfl) (by kernel_rfl) (fun _ _ _ h => h) (Or.inl ⟨by rfl, ?_⟩) (by assumption) ?_
    rotate_left
    · (intro w hSw; (try dsimp only at hSw); go_simp; first | done | with_reducible rfl)
    try simp only [List.getElem_toArray, List.getElem_cons_zero, List.getElem_cons_succ, Act.put, List.setIfInBounds_toArray, List.set_cons_succ, List.set_cons_zero]
    refine wpAnyH_take (i := 8) (v := ?_) rfl (by kernel_rfl) (by kernel_rfl) (by kernel_rfl) (fun _ _ _ h => h) (Or.inl ⟨by rfl, ?_⟩) (by assumption) ?_
    rotate_left
    · (intro w hSw; (try dsimp only at hSw); go_simp; first | done | with_reducible rfl)
    try simp only [List.getElem_toArray, List.getElem_cons_zero, List.getElem_cons_succ, Act.put, List.setIfInBounds_toArray, List.set_cons_succ, List.set_cons_zero]
    refine wpAnyH_take (i := 9) (v := ?_) rfl (by kernel_rfl) (by kernel_rfl) (by kernel_rfl) (fun _ _ _ h => h) (Or.inl ⟨by rfl, ?_⟩) (by assumption) ?_
    rotate_left
    · (intro w hSw; (try dsimp only at hSw); go_simp; first | done | with_reducible rfl)
    try simp only [List.getElem_toArray, List.getElem_cons_zero, List.getElem_cons_succ, Act.put, List.setIfInBounds_toArray, List.set_cons_succ, List.set_cons_zero]
    refine wpAnyH_ready (rs := [6]) (by kernel_rfl) (by simp) (AllReadyH.cons rfl (fun K hK => ?_) AllReadyH.nil)
    go_simp
    refine (CA.out _ (Below.refl _ _).drew).mono ?_
    rintro e w6 ⟨q, rfl, hst, hb⟩
    have hb6 : Below W9.heap.size W9 w6 := (Below.refl _ _).drew.trans hb
    refine hK.out _ _ (⟨⟨hb6⟩, pw_cell_below hb6 n0, pw_cell_below hb6 n1, pw_cell_below hb6 n2, pw_cell_below hb6 nw0⟩) (fun hHeld => ?_)
    clear hK K
    try simp only [List.getElem_toArray, List.getElem_cons_zero, List.getElem_cons_succ, Act.put, List.setIfInBounds_toArray, List.set_cons_succ, List.set_cons_zero]
    have HST := Aside0.mk hst
    have HB6 := Aside0.mk hb6
    clear hst hb6 hb
    refine wpAnyH_ready (rs := [10]) (by kernel_rfl) (by simp) (AllReadyH.cons rfl (fun K hK => ?_) AllReadyH.nil)
    go_simp
    refine (CK.out q w6 HST.out).mono ?_
    rintro e w7 ⟨rfl, hb⟩
    have hb7 : Below W9.heap.size W9 w7 := HB6.out.trans (hb.mono HB6.out.size)
    refine hK.out _ _ (⟨⟨hb7⟩, pw_cell_below hb7 n0, pw_cell_below hb7 n1, pw_cell_below hb7 n2, pw_cell_below hb7 nw0⟩) (fun hHeld => ?_)
    clear hK K
    try simp only [List.getElem_toArray, List.getElem_cons_zero, List.getElem_cons_succ, Act.put, List.setIfInBounds_toArray, List.set_cons_succ, List.set_cons_zero]
    have m0 := pw_cell_below hb7 n0
    have m1 := pw_cell_below hb7 n1
    have m2 := pw_cell_below hb7 n2
    have HB7 := Aside0.mk hb7
    clear hb7 hb n0 n1 n2 nw0 CA CK HST
    have h27 : w7.heap[bo]? = some (.cells #[v] 26 (0, 0)) := (HB7.out.block _ (by have := lt_of_heap H2.out; have := HS9.out; omega)).trans ((HB0.out.block _ (lt_of_heap H2.out)).trans H2.out)
    have hR7 : Kd.R PDelta.k76 76 w7 bo (fun k => S k ∧ k ≠ bo) v (pre.filter (risen oldL)) := Kd.R_below (Kd.R_below H3.out HB0.out) HB7.out
    have hk7 : Keeps (fun k => ¬ S k) W w7 := HK0.out.trans (Keeps.of_all HB7.out)
    have hs7 : W.heap.size < w7.heap.size := by have := HS9.out; have := HB7.out.size; omega
    have hc7 := blk_cell_ h27 0
    have H27 := Aside0.mk h27
    have HR7 := Aside0.mk hR7
    have HK7 := Aside0.mk hk7
    have HS7 := Aside0.mk hs7
    clear h27 hR7 hk7 hs7
    by_cases hr : r < x.f1.f1
    · have t1 : decide (x.f1.f1 > r) = true := decide_eq_true hr
      rw [if_pos hr] at hstep
      clear hr
      refine wpAnyH_take (i := 11) (v := ?_) rfl (by kernel_rfl) (by kernel_rfl) (by kernel_rfl) (fun _ _ _ h => h) (Or.inl ⟨by rfl, ?_⟩) (by assumption) ?_
      rotate_left
      · (intro w hSw; (try dsimp only at hSw); go_simp; first | done | with_reducible rfl)
      try simp only [List.getElem_toArray, List.getElem_cons_zero, List.getElem_cons_succ, Act.put, List.setIfInBounds_toArray, List.set_cons_succ, List.set_cons_zero]
      refine wpAnyH_done (by kernel_rfl) ?_ _
      have hne : Aside0 (v.ownBlock ≠ some bo) := ⟨fun e => (HR7.out.1 _ e).2 rfl⟩
      have HR7' : Kd.R PDelta.k76 76 w7 bo (fun k => (S k ∨ w7.heap.size ≤ k) ∧ k ≠ bo) v (pre.filter (risen oldL)) := Kd.R_mono HR7.out (fun k h => ⟨.inl h.1, h.2⟩)
      have HR7A := Aside0.mk HR7'
      have HBL := Aside0.mk (lt_of_heap H27.out)
      clear HR7'
      generalize pre.filter (risen oldL) = ys at HR7 HR7A hstep HPL H3
      gi_wp2_with (gi_at_builtin; refine R_append_in PDelta.k76 (W := w7) bo rfl _ _ 26 76 (.agg #[.int .i64 0, .int .u64 0, .int .i64 0]) 24 rfl Try.underlying26 info_change rfl (by decide) (by decide) v ys x [.int .i64 i, .int .u64 x.f1.f0, .int .i64 x.f1.f1] _ (fun _ => False) rfl rfl (by rw [← HXI.out]; exact PDelta.k76_mkM _ _ _ x) (fun _ h => h.elim) (fun k h => ⟨.inr h, by have := HBL.out; omega⟩) HR7A.out (by have := HBL.out; omega) (by have := HPL.out; omega) ?_; intro v8 w8 hR8 hg8 hat8; obtain ⟨A8, n8, c8, e8⟩ := R_is_slice hR8; subst e8; have hb8 : w8.heap[bo]? = some (.cells #[v] 26 (0, 0)) := blk_grown H27.out hg8 (fun e => hne.out e.symm); have hc8 := blk_cell_ hb8 0; have hf8 := blk_frozen hb8 0; have R8 := Aside0.mk hR8; have G8 := Aside0.mk hg8; have B8 := Aside0.mk hb8; clear hR8 hg8 hat8 hb8)
      have hd : ∀ u, Keeps (fun k => ¬ S k) W (w8.setCell ⟨bo, 0, none⟩ u) := fun u =>
        (HK7.out.grown G8.out (fun k e hk => absurd (HR7.out.1 k e).1 hk)).setCell (fun h => absurd h1 h) _
      refine ⟨fun k => S k ∨ (W.heap.size ≤ k ∧ k < w8.heap.size), fun k h => ?_, hd _, .inl h1, _, set_at B8.out 0 _, ?_⟩
      · rcases h with h | ⟨h, h'⟩
        · exact .inl h
        · exact .inr ⟨h, by simp [World.setCell]; exact h'⟩
      · rw [hstep.out]
        refine Kd.R_mono (Kd.R_far (p := ⟨bo, 0, none⟩) (Kd.R_bound R8.out) (fun k h => h.1.2) _) (fun k h => ⟨?_, h.1.2⟩)
        rcases h.1.1 with h' | h'
        · exact .inl h'
        · exact .inr ⟨by have := HS7.out; omega, h.2.2.1⟩
    · have t1 : decide (x.f1.f1 > r) = false := decide_eq_false hr
      rw [if_neg hr, List.append_nil] at hstep
      clear hr
      refine wpAnyH_take (i := 11) (v := ?_) rfl (by kernel_rfl) (by kernel_rfl) (by kernel_rfl) (fun _ _ _ h => h) (Or.inl ⟨by rfl, ?_⟩) (by assumption) ?_
      rotate_left
      · (intro w hSw; (try dsimp only at hSw); go_simp; first | done | with_reducible rfl)
      try simp only [List.getElem_toArray, List.getElem_cons_zero, List.getElem_cons_succ, Act.put, List.setIfInBounds_toArray, List.set_cons_succ, List.set_cons_zero]
      refine wpAnyH_done (by kernel_rfl) ?_ _
      gi_wp2_with fail
      exact ⟨S, fun k h => .inl h, HK7.out, h1, v, H27.out, by rw [hstep.out]; exact HR7.out⟩
  case stop => rintro d c pre S W _ _ _ _ _ _ h; exact h.elim
  case done =>
    rintro d S W hd hSd hK hS hkW ⟨h1, v, h2, h3⟩
    have c2 := blk_cell_ h2 0
    have HK := Aside0.mk hK
    have HKW := Aside0.mk hkW
    have HD := Aside0.mk hd
    have H3 := Aside0.mk h3
    obtain ⟨A9, n9, c9, e9⟩ := R_is_slice h3
    subst e9
    clear hS hkW h2 hK h1 hd h3
    go_wp2_with fail
    refine ⟨by simp, .inl ⟨_, _, rfl, run_takeDeferred HK.out, ?_⟩⟩
    refine ⟨_, results_tmp rfl _ _ _, _, rfl, ?_, ?_⟩
    · rw [HDL.out]
      exact Kd.R_mono (Kd.R_lower (Kd.R_step H3.out (fun k h _ => World.putObj_heap_other (fun e => hSd (e ▸ h.1)))) (by have := HLEN.out; omega)) (fun _ _ => trivial)
    · have hk9 : Keeps (fun k => k < w.heap.size) W5 (W.putObj d (.deferred none)) := (Keeps.mono HKW.out (fun k h hlt => ⟨hlt, by have := HLEN.out; omega⟩)).putObj (fun h => by have := HLEN.out; have := HD.out; omega) _
      exact HB05.out.trans (hk9.below (fun k hk => hk) HB05.out.size)
end Go.Proofs.Ytafhdamdkefpkaa

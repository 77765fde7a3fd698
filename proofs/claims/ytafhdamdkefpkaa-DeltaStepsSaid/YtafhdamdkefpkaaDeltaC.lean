/- book.all: all entries with their bidders, one by one. -/
import Derived.Test.YtafhdamdkefpkaaDeltaB
import Derived.Test.YtafhdamdkefpkaaMarks
namespace Go.Proofs.Ytafhdamdkefpkaa
open Go.RowKit Go.Proofs.YtafhdamdkefpkaaW.PrintWords Go.Proofs.YtafhdamdkefpkaaW.PrintLast Go.Proofs.YtafhdamdkefpkaaW.PrintMore
attribute [local go_sem] max2_int min2_int max_two min_two Oper.semAt_some
set_option linter.unusedVariables false
set_option linter.unusedSimpArgs false
/-- A book whose blocks are among ok's. -/
def BookIn (W : World) (base : Nat) (ok : Nat → Prop) (v : Value) (bs : List (List PDelta.S68)) : Prop :=
  ∃ ps : List Nat, ps.length = bs.length ∧ kP.R 85 W base ok v ps ∧ ∀ (i p : Nat) (b : List PDelta.S68), ps[i]? = some p → bs[i]? = some b → ok p ∧ ∃ u, W.heap[p]? = some (.cells #[u] 87 (0, 0)) ∧ Kd.R PDelta.k68 68 W base ok u b
theorem Book.inside {W : World} {base : Nat} {v : Value} {bs : List (List PDelta.S68)} (h : Book W base v bs) : BookIn W base (fun k => base ≤ k ∧ k < W.heap.size) v bs := by
  obtain ⟨ps, h1, -, h3, h4⟩ := h
  refine ⟨ps, h1, Kd.R_mono (Kd.R_bound h3) (fun k hk => ⟨hk.2.1, hk.2.2.1⟩), fun i p b hp hb => ?_⟩
  obtain ⟨k1, u, k2, k3⟩ := h4 i p b hp hb
  exact ⟨⟨k1, lt_of_heap k2⟩, u, k2, Kd.R_mono (Kd.R_bound k3) (fun k hk => ⟨hk.2.1, hk.2.2.1⟩)⟩
theorem BookIn.step {W W' : World} {base : Nat} {ok : Nat → Prop} {v : Value} {bs : List (List PDelta.S68)} (h : BookIn W base ok v bs) (hk : ∀ k, ok k → k < W.heap.size → W'.heap[k]? = W.heap[k]?) : BookIn W' base ok v bs := by
  obtain ⟨ps, h1, h3, h4⟩ := h
  refine ⟨ps, h1, Kd.R_step h3 hk, fun i p b hp hb => ?_⟩
  obtain ⟨k1, u, k2, k3⟩ := h4 i p b hp hb
  exact ⟨k1, u, (hk p k1 (lt_of_heap k2)).trans k2, Kd.R_step k3 hk⟩
theorem BookIn.at_ {W : World} {base : Nat} {ok : Nat → Prop} {A : Option Addr} {n c : Nat} {bs : List (List PDelta.S68)} (h : BookIn W base ok (.slice A n c) bs) : n = bs.length ∧ ∀ i, i < bs.length → ∃ ad p u, A = some ad ∧ W.cell? (ad.add i) = some (.pointer (some ⟨p, 0, none⟩)) ∧ ok p ∧
    W.heap[p]? = some (.cells #[u] 87 (0, 0)) ∧ Kd.R PDelta.k68 68 W base ok u (PDelta.rd_L3 bs i) := by
  obtain ⟨ps, h1, h3, h4⟩ := h
  obtain ⟨e1, -, hC⟩ := Kd.R_reads' h3
  refine ⟨by omega, fun i hi => ?_⟩
  obtain ⟨ad, e2, hx⟩ := at_P hC i (by omega)
  obtain ⟨k1, u, k2, k3⟩ := h4 i (ps.getD i 0) (PDelta.rd_L3 bs i) (by simp [List.getD, show i < ps.length by omega]) (by rw [rd_L3_get _ _ hi]; exact List.getElem?_eq_getElem hi)
  exact ⟨ad, _, u, e2, hx, k1, k2, k3⟩
/-- All changes of the first i bidders. -/
def allTo (bs : List (List PDelta.S68)) : Nat → List PDelta.S76
  | 0 => []
  | i + 1 => allTo bs i ++ (PDelta.rd_L3 bs (i : Nat)).map (fun e => ⟨i, e⟩)
def allL (bs : List (List PDelta.S68)) : List PDelta.S76 := allTo bs bs.length
theorem allTo_pre (bs : List (List PDelta.S68)) (i d : Nat) : ∃ post, allTo bs (i + d) = allTo bs i ++ post := by
  induction d with
  | zero => exact ⟨[], by simp⟩
  | succ d ih =>
    obtain ⟨p, hp⟩ := ih
    exact ⟨p ++ (PDelta.rd_L3 bs ((i + d : Nat) : Int)).map (fun e => ⟨((i + d : Nat) : Int), e⟩), by rw [← Nat.add_assoc, allTo, hp, List.append_assoc]⟩
theorem allL_split (bs : List (List PDelta.S68)) {i : Nat} (h : i < bs.length) {pre post : List PDelta.S68} {x : PDelta.S68} (hx : PDelta.rd_L3 bs (i : Nat) = pre ++ x :: post) : ∃ post', allL bs = (allTo bs i ++ pre.map (fun e => (⟨i, e⟩ : PDelta.S76))) ++ ⟨i, x⟩ :: post' := by
  obtain ⟨p, hp⟩ := allTo_pre bs (i + 1) (bs.length - (i + 1))
  rw [show i + 1 + (bs.length - (i + 1)) = bs.length from by omega, allTo, hx] at hp
  exact ⟨post.map (fun e => (⟨i, e⟩ : PDelta.S76)) ++ p, by unfold allL; rw [hp]; simp⟩
def encC (x : PDelta.S76) : Array Value := #[.agg #[.int .i64 x.f0, .int .u64 x.f1.f0, .int .i64 x.f1.f1]]

theorem dall_any (v : Value) (hv : ∃ A n c, v = .slice A n c) (w : World) : Calls Try.prog 54 #[v] w fun e w' =>
    e = .returned (.func (.func 82) #[] #[.pointer (some ⟨w.heap.size, 0, none⟩)]) ∧ w' = w.alloc (.cells #[v] 83) := by
  obtain ⟨A, n, c, rfl⟩ := hv
  go_enter Try.func54, Try.ntmps54
  go_wp2
  go_ret
  exact ⟨rfl, rfl⟩

set_option maxRecDepth 100000 in
set_option maxHeartbeats 4000000 in
theorem dall1_iter (W0 : World) (base : Nat) (ok : Nat → Prop) (v : Value) (bs : List (List PDelta.S68)) (b0 : Nat) (D : Nat → Prop) (hBk : BookIn W0 base ok v bs) (hok : ∀ k, ok k → k < W0.heap.size) (hl : bs.length ≤ 1000000) (hl2 : ∀ b ∈ bs, b.length ≤ 1000000000)
    (h0 : W0.heap[b0]? = some (.cells #[v] 83 (0, 0))) (hD : ∀ k, ok k → D k) (hD0 : D b0) :
    Iter Try.prog 82 #[.pointer (some ⟨b0, 0, none⟩)] encC (allL bs) D W0 := by
  intro l S0 J Jx W hW hS0 hSD hJ hJx hY hj0
  obtain ⟨A, n, c, rfl⟩ : ∃ A n c, v = .slice A n c := by
    obtain ⟨ps, -, h, -⟩ := hBk
    exact R_is_slice h
  obtain rfl := hBk.at_.1
  have hw : ∀ S2 W2, YCore S0 W S2 W2 → W2.cell? ⟨b0, 0, none⟩ = some (.slice A bs.length c) ∧ BookIn W2 base ok (.slice A bs.length c) bs ∧ (∀ k, ok k → ¬ S2 k) ∧ W0.heap.size ≤ W2.heap.size := by
    intro S2 W2 h2
    have k0 := hW.at_ h0 hD0
    have hsz := hW.size
    refine ⟨blk_cell_ (h2.keeps.at_ k0 ⟨lt_of_heap k0, fun h => hSD _ h hD0⟩) 0, hBk.step (fun k hk hlt => (h2.keeps.block k ⟨Nat.lt_of_lt_of_le hlt hW.size, fun h => hSD _ h (hD k hk)⟩ (Nat.lt_of_lt_of_le hlt hW.size)).trans (hW.block k (hD k hk) hlt)), fun k hk hs => ?_, by have := h2.keeps.size; omega⟩
    rcases (h2.own k hs).2 with h | h
    · exact hSD k h (hD k hk)
    · have := hok k hk; omega
  have HW := Aside0.mk hw
  have HOK := Aside0.mk hok
  have HL2 := Aside0.mk hl2
  have huE := Try.underlying68
  have HY := Aside0.mk (fun pre x post S W1 hx hj (hc : YCore S0 W S W1) => hY pre x post S W1 hx hj hc.keeps hc.own)
  have HJ := Aside0.mk (fun pre S (A B : World) (hb : Below A.heap.size A B) (hj : J pre S A) => hJ pre S A B hj (Keeps.of_all hb))
  have HJA := Aside0.mk hJ
  have HJX := Aside0.mk hJx
  have HS0 := Aside0.mk (YCore.start hS0)
  have HJ0 := Aside0.mk hj0
  have HNS := Aside0.mk (show ¬ S0 W.heap.size from fun h => Nat.lt_irrefl _ (hS0 _ h))
  clear hY hj0 hJ hJx hw h0 hD hD0 hW hS0 hSD hBk hl2 hok
  refine (callsIn_wide (n := 0)).1 ?_
  refine callsIn_of_wp_marks Try.func82 rfl trivial ?_ rfl
  simp only [Try.ntmps82, List.size_toArray, List.length_cons, List.length_nil, Nat.reduceAdd, Nat.reduceSub, Array.replicate_succ, Array.replicate_zero, List.push_toArray, List.append_toArray, List.nil_append, List.cons_append]
  obtain ⟨q0, -, -, -⟩ := HW.out S0 W HS0.out
  have q0' : ∀ o, (W.alloc o).cell? ⟨b0, 0, none⟩ = some (.slice A bs.length c) := fun o => pw_cell_below (below_alloc (Below.refl _ _) o) q0
  gi_wp2_with fail
  clear q0 q0'
  have HH0 : Aside0 (Holds [(W.heap.size, .cells #[.func (.yield l) #[] #[]] 106 (0, 0))] S0 (W.alloc (.cells #[.func (.yield l) #[] #[]] 106))) := ⟨(Holds.nil _ _).cons (World.alloc_heap_new _ _) HNS.out⟩
  have HC0 := Aside0.mk (HS0.out.step (below_alloc (Below.refl _ _) (.cells #[.func (.yield l) #[] #[]] 106)))
  have HJ0' := Aside0.mk (HJ.out _ _ _ _ (below_alloc (Below.refl _ _) (.cells #[.func (.yield l) #[] #[]] 106)) HJ0.out)
  clear HJ0 HS0 HNS
  refine wpIn_loop_ghost_k (fun k' a' w' => ∃ (ds : List Deferred) (u3 u4 u5 u6 u9 u10 u11 u12 u13 u14 u15 u16 u17 u18 u19 u20 u21 u22 u23 u24 u25 u26 : Value), (∃ (i : Nat) (S : Nat → Prop), u9 = .int .i64 i ∧ Aside0 (i + k' = bs.length) ∧ Aside0 (YCore S0 W S w') ∧ Aside0 (J (allTo bs i) S w') ∧
      Aside0 (Holds [(W.heap.size, .cells #[.func (.yield l) #[] #[]] 106 (0, 0))] S w') ∧ Aside0 (Marks W.heap.size ds w') ∧ Aside0 (MarksFree ds S)) ∧ a' = { tmps := #[.func (.yield l) #[] #[], .pointer (some ⟨b0, 0, none⟩), .pointer (some ⟨W.heap.size, 0, none⟩), u3, u4, u5, u6, .slice A bs.length c, .int .i64 bs.length, u9, u10, u11, u12, u13, u14, u15, u16, u17, u18, u19, u20, u21, u22, u23, u24, u25, u26], defers := ds }) bs.length ?start ?round
  case start =>
    (repeat apply Exists.intro)
    refine ⟨?_, rfl⟩
    exact ⟨0, S0, rfl, ⟨by simp⟩, HC0, HJ0', HH0, ⟨trivial⟩, ⟨fun d hd => by simp at hd⟩⟩
  case round =>
    intro gk a wr hinv Jr Kr hJr hKr
    obtain ⟨ds, u3, u4, u5, u6, u9, u10, u11, u12, u13, u14, u15, u16, u17, u18, u19, u20, u21, u22, u23, u24, u25, u26, ⟨i, S, rfl, HI, HCo, HJi, HHo, HM, HMF⟩, rfl⟩ := hinv
    clear HC0 HJ0' HH0
    by_cases c : (i : Int) < (bs.length : Int)
    · obtain ⟨q0, hB, hSw, hsw⟩ := HW.out S wr HCo.out
      have p1 : (0 : Int) ≤ (i : Int) := by omega
      have HIL := Aside0.mk (show i < bs.length by omega)
      obtain ⟨ad, p, up, e1, hx, hpk, hq, hRq⟩ := hB.at_.2 i HIL.out
      cases e1
      have wrapI : wrap64 ((i : Int) + 1) = ((i + 1 : Nat) : Int) := by unfold wrap64; omega
      have hlx : (PDelta.rd_L3 bs i).length ≤ 1000000000 := HL2.out _ (by rw [rd_L3_get _ _ HIL.out]; exact List.getElem_mem _)
      have CE := Aside0.mk (fun W => eents_any p W)
      have HPK := Aside0.mk hpk
      have HQ := Aside0.mk hq
      have HRQ := Aside0.mk hRq
      have HSW := Aside0.mk hSw
      have HSZ := Aside0.mk hsw
      have HLX := Aside0.mk hlx
      clear hB hSw hsw q0 hlx hpk hq hRq
      replace p1 := eq_true p1
      replace c := eq_true c
      gi_wp2_with fail
      refine ⟨trivial, rfl, (callsIn_wide (n := 0)).2 ((CE.out _).mono ?_)⟩
      rintro e w' ⟨rfl, rfl⟩
      gi_wp2_with fail
      obtain ⟨W9, hW9⟩ : ∃ W9, W9 = allocs wr [.cells #[.int .i64 i] 3, .cells #[.pointer (some ⟨p, 0, none⟩)] 85] := ⟨_, rfl⟩
      have gi : W9.heap[wr.heap.size]? = some (.cells #[.int .i64 i] 3 (0, 0)) := by rw [hW9]; exact allocs_at _ wr 0 _ rfl
      have gp : W9.heap[wr.heap.size + 1]? = some (.cells #[.pointer (some ⟨p, 0, none⟩)] 85 (0, 0)) := by rw [hW9]; exact allocs_at _ wr 1 _ rfl
      have hsz : W9.heap.size = wr.heap.size + 2 := by rw [hW9, allocs_size]; rfl
      have hB9 : Below wr.heap.size wr W9 := by rw [hW9]; exact (allocs_keeps (fun _ => True) wr _).below (fun _ _ => trivial) (Nat.le_refl _)
      change Code.wpIn _ _ _ _ _ _ (allocs wr [_, _])
      rw [← hW9]
      clear hW9
      have hSlt : ∀ k, S k → k < wr.heap.size := fun k hk => (HCo.out.own k hk).1
      have HO9 : Holds [(wr.heap.size, .cells #[.int .i64 i] 3 (0, 0)), (W.heap.size, .cells #[.func (.yield l) #[] #[]] 106 (0, 0))] S W9 := (HHo.out.step hB9).cons gi (fun h => Nat.lt_irrefl _ (hSlt _ h))
      have HC9 := HCo.out.step hB9
      have HJ9 := HJ.out _ _ _ _ hB9 HJi.out
      have HM9 : Marks W.heap.size ds W9 := HM.out.step (fun d hd r hr hlt => hB9.block r hlt)
      obtain ⟨xs, hxs⟩ : ∃ xs, xs = PDelta.rd_L3 bs (i : Int) := ⟨_, rfl⟩
      have hRq := HRQ.out
      rw [← hxs] at hRq HLX
      obtain ⟨A1, c1, rfl⟩ := Kd.R_slice hRq
      have hok9 : ∀ k, ok k → k < W9.heap.size ∧ ¬ S k := fun k hk => ⟨by have := HOK.out k hk; have := HSZ.out; omega, HSW.out k hk⟩
      have hitE := eents1_iter W9 base ok A1 c1 xs p (wr.heap.size + 1) (fun k => k < W9.heap.size ∧ ¬ S k) (Kd.R_below hRq hB9) HLX.out ((hB9.block _ (lt_of_heap HQ.out)).trans HQ.out) gp hok9 (hok9 p HPK.out) ⟨by omega, fun h => by have := hSlt _ h; omega⟩
      have HSP := Aside0.mk (fun (pre post : List PDelta.S68) (x : PDelta.S68) (h : xs = pre ++ x :: post) => allL_split bs (i := i) HIL.out (pre := pre) (post := post) (x := x) (by rw [← hxs]; exact h))
      have HST2 : Aside0 (allTo bs (i + 1) = allTo bs i ++ xs.map (fun e => (⟨i, e⟩ : PDelta.S76))) := ⟨by rw [hxs]; rfl⟩
      have hWW9 : W.heap.size ≤ W9.heap.size := by have := HCo.out.keeps.size; omega
      have hO9lt : ∀ k o, (k, o) ∈ [(wr.heap.size, Obj.cells #[Value.int IntKind.i64 i] 3 (0, 0)), (W.heap.size, Obj.cells #[Value.func (.yield l) #[] #[]] 106 (0, 0))] → k < W9.heap.size := fun k o h => lt_of_heap (HO9 k o h).1
      have hM9lt : ∀ d ∈ ds, ∀ r, d.target = .collected r → r < W9.heap.size := fun d hd r hr => (HM9.lt d hd r hr).1
      have HSZ9 := Aside0.mk hsz
      have HOL := Aside0.mk hO9lt
      have HML := Aside0.mk hM9lt
      have HWW := Aside0.mk hWW9
      have HB9 := Aside0.mk hB9
      have HSL := Aside0.mk hSlt
      clear hxs hsz gi gp hRq hok9 hB9 hO9lt hM9lt hWW9 hSlt HRQ HQ
      refine range_outerU rfl (enters_of Try.func110 (by kernel_rfl) rfl) eqRel_ok hitE.toR (fun k h => h.1) (fun _ => rfl) S (fun k h => ⟨by have := HSL.out k h; have := HSZ9.out; omega, fun h' => h'.2 h⟩)
        (fun pre S' W' => J (allTo bs i ++ pre.map (fun e => (⟨i, e⟩ : PDelta.S76))) S' W' ∧ YCore S0 W S' W' ∧ Holds [(wr.heap.size, .cells #[.int .i64 i] 3 (0, 0)), (W.heap.size, .cells #[.func (.yield l) #[] #[]] 106 (0, 0))] S' W' ∧ Marks W.heap.size ds W' ∧ MarksFree ds S')
        (fun c pre S' W' => c = .ret ∧ Jx (allTo bs i ++ pre.map (fun e => (⟨i, e⟩ : PDelta.S76))) S' W' ∧ YCore S0 W S' W' ∧ Marks W.heap.size ds W' ∧ MarksFree ds S') ?hI ?hIx ?h0
        (fun x n => [(5, .int .u64 x.f0), (6, .int .i64 x.f1)]) (fun x => []) ?assign ?body ?done ?stop
      case hI =>
        rintro pre S' A B ⟨h1, h2, h3, h4, h5⟩ hk
        exact ⟨HJA.out _ _ _ _ h1 (hk.mono (fun k h _ => by rcases h with h | h; exact .inl h; exact .inr (by have := HWW.out; omega))), h2.abide HWW.out hk, h3.abide HOL.out hk, h4.step (fun d hd r hr hlt => hk.block r (.inr (HML.out d hd r hr)) hlt), h5⟩
      case hIx =>
        rintro c pre S' A B ⟨h0, h1, h2, h4, h5⟩ hk
        exact ⟨h0, HJX.out _ _ _ _ h1 (hk.mono (fun k h _ => by rcases h with h | h; exact .inl h; exact .inr (by have := HWW.out; omega))), h2.abide HWW.out hk, h4.step (fun d hd r hr hlt => hk.block r (.inr (HML.out d hd r hr)) hlt), h5⟩
      case h0 => exact ⟨by simpa using HJ9, HC9, HO9, HM9, HMF.out⟩
      case assign =>
        intro l' x W' K hK
        simp only [encE2, allocs, slotsSet, List.zip_toArray, List.zip_cons_cons, List.zip_nil_left, List.zip_nil_right, List.foldl_toArray, List.foldl_cons, List.foldl_nil, List.setIfInBounds_toArray, List.set_cons_succ, List.set_cons_zero] at hK ⊢
        gi_wp2
        exact hK
      case body =>
        rintro l' pre x post b S' W' hx hrel hl0 hlr hSl hS' hkW ⟨h1, h2, h3, h4, h5⟩
        subst hrel
        obtain ⟨post', hpost⟩ := HSP.out pre post x hx
        have HPO := Aside0.mk hpost
        have cy := blk_cell_ (h3.tail.head) 0
        have ci := blk_cell_ h3.head 0
        obtain ⟨fn, tmps, assign, body, hy, hR⟩ := HY.out _ _ post' S' W' hpost h1 h2
        have HR := Aside0.mk hR
        have H2 := Aside0.mk h2
        have H3 := Aside0.mk h3
        have H4 := Aside0.mk h4
        have H5 := Aside0.mk h5
        clear hR hpost hx hlr hSl hS' hkW h1 h2 h3 h4 h5 hl0
        simp only [encE2, allocs, slotsSet, List.zip_toArray, List.zip_cons_cons, List.zip_nil_left, List.zip_nil_right, List.foldl_toArray, List.foldl_cons, List.foldl_nil, List.setIfInBounds_toArray, List.set_cons_succ, List.set_cons_zero]
        change (Instr.yield l #[.agg #[.int .i64 i, .int .u64 x.f0, .int .i64 x.f1]]).run Try.prog _ = _ at hy
        gi_wp2_with fail
        refine ⟨rfl, RoundIn.mono (show RoundIn (Fence.wide.inRound l') 0 _ _ _ _ _ _ _ _ from HR.out 0) ?_⟩
        clear HR hy
        rintro e W3 ⟨S3, hs3, hk3, (⟨rfl, hj3⟩ | ⟨rfl, hx3⟩)⟩
        · have HC3 := Aside0.mk (H2.out.yield hs3 hk3)
          have HH3 := Aside0.mk (H3.out.yield hs3 hk3)
          have HM3 := Aside0.mk (H4.out.yield H5.out hk3)
          have HF3 := Aside0.mk (MarksFree.yield H4.out H5.out hs3)
          have HJ3 := Aside0.mk hj3
          have HS3 := Aside0.mk hs3
          have HK3 := Aside0.mk hk3
          clear hs3 hk3 hj3
          gi_wp2_with fail
          exact ⟨S3, HS3.out, HK3.out, by rw [List.map_append, ← List.append_assoc]; exact HJ3.out, HC3.out, HH3.out, HM3.out, HF3.out⟩
        · have HC3 := Aside0.mk (H2.out.yield hs3 hk3)
          have HM3 := Aside0.mk (H4.out.yield H5.out hk3)
          have HF3 := Aside0.mk (MarksFree.yield H4.out H5.out hs3)
          have HJ3 := Aside0.mk hx3
          have HS3 := Aside0.mk hs3
          have HK3 := Aside0.mk hk3
          clear hs3 hk3 hx3
          gi_wp2_with fail
          exact ⟨S3, HS3.out, HK3.out, rfl, by rw [List.map_append, ← List.append_assoc]; exact HJ3.out, HC3.out, HM3.out, HF3.out⟩
      case done =>
        rintro d S' W' hd hSd hK hS' hkW ⟨h1, h2, h3, h4, h5⟩
        have H1 := Aside0.mk h1
        have H2 := Aside0.mk h2
        have H3 := Aside0.mk h3.tail
        have H4 : Aside0 (Marks W.heap.size ({ target := .collected d, args := #[] } :: ds) W') := ⟨⟨d, rfl, by have := HWW.out; omega, hK, fun d' hd' e => by have := HML.out d' hd' d e; omega, h4⟩⟩
        have H5 : Aside0 (MarksFree ({ target := .collected d, args := #[] } :: ds) S') := ⟨fun d' hd' r hr => by
          rcases List.mem_cons.1 hd' with rfl | hd'
          · injection hr with hr
            subst hr
            exact hSd
          · exact h5 d' hd' r hr⟩
        clear h1 h2 h3 h4 h5 hd hSd hK hS' hkW
        gi_wp2_with fail
        gi_roundg (gk - 1)
        case measure => have := HI.out; have := HIL.out; omega
        case rel => exact ⟨i + 1, S', by first | rfl | (simp; done) | rw [wrapI], ⟨by have := HI.out; have := HIL.out; omega⟩, H2, by rw [HST2.out]; exact H1, H3, H4, H5⟩
      case stop =>
        rintro d c pre S' W' hd hSd hK hS' hkW hpre ⟨rfl, h1, h2, h4, h5⟩
        have H4 : Marks W.heap.size ({ target := .collected d, args := #[] } :: ds) W' := ⟨d, rfl, by have := HWW.out; omega, hK, fun d' hd' e => by have := HML.out d' hd' d e; omega, h4⟩
        have H5 : MarksFree ({ target := .collected d, args := #[] } :: ds) S' := fun d' hd' r hr => by
          rcases List.mem_cons.1 hd' with rfl | hd'
          · injection hr with hr
            subst hr
            exact hSd
          · exact h5 d' hd' r hr
        have HL : Aside0 (∀ tmps : Array Value, LeavesInM Fence.wide 0 Try.prog Try.f82 tmps (fun e W' => (∃ v, e = .returned v) ∧ Keeps (fun k => k < W.heap.size ∧ ¬ S0 k) W W' ∧ ∃ S, (∀ k, S k → k < W'.heap.size ∧ (S0 k ∨ W.heap.size ≤ k)) ∧ (J (allL bs) S W' ∨ ∃ pre, pre <+: allL bs ∧ Jx pre S W')) ({ target := .collected d, args := #[] } :: ds) .returning W') := ⟨fun tmps => leaves_marks H4 (fun W2 hk hs2 => by
          have hfree : ∀ k, S' k ∨ k < W.heap.size → ∀ d' ∈ ({ target := .collected d, args := #[] } : Deferred) :: ds, d'.target ≠ .collected k := fun k hk d' hd' e => by
            rcases hk with hk | hk
            · exact H5 d' hd' k e hk
            · have := (H4.lt d' hd' k e).2; omega
          have hk2 : Keeps (fun k => S' k ∨ k < W.heap.size) W' W2 := hk.mono (fun k h _ => hfree k h)
          have hpre' : ∃ t, allL bs = allTo bs i ++ pre.map (fun e => (⟨i, e⟩ : PDelta.S76)) ++ t := by
            obtain ⟨q, hq⟩ := hpre
            obtain ⟨t, ht⟩ := allTo_pre bs (i + 1) (bs.length - (i + 1))
            rw [show i + 1 + (bs.length - (i + 1)) = bs.length from by have := HIL.out; omega, HST2.out, ← hq] at ht
            exact ⟨q.map (fun e => (⟨i, e⟩ : PDelta.S76)) ++ t, by unfold allL; rw [ht]; simp⟩
          obtain ⟨t, ht⟩ := hpre'
          have hc := h2.abide (B := W.heap.size) (Nat.le_refl _) hk2
          exact ⟨_, results_none rfl _ _ _, ⟨_, rfl⟩, hc.keeps, S', hc.own, .inr ⟨_, ⟨t, ht.symm⟩, HJX.out _ _ _ _ h1 hk2⟩⟩)⟩
        clear h1 h2 h4 h5 hd hSd hK hS' hkW H4 H5 hpre
        gi_wp2_with fail
        exact HL.out _
    · have c1 : (i < bs.length) = False := eq_false (by omega)
      have c2 : ((i : Int) < (bs.length : Int)) = False := eq_false c
      have hil : Aside0 (allTo bs i = allL bs) := ⟨by have := HI.out; unfold allL; rw [show i = bs.length from by omega]⟩
      have HL : Aside0 (∀ tmps : Array Value, LeavesInM Fence.wide 0 Try.prog Try.f82 tmps (fun e W' => (∃ v, e = .returned v) ∧ Keeps (fun k => k < W.heap.size ∧ ¬ S0 k) W W' ∧ ∃ S, (∀ k, S k → k < W'.heap.size ∧ (S0 k ∨ W.heap.size ≤ k)) ∧ (J (allL bs) S W' ∨ ∃ pre, pre <+: allL bs ∧ Jx pre S W')) ds .returning wr) := ⟨fun tmps => leaves_marks HM.out (fun W2 hk hs2 => by
        have hfree : ∀ k, S k ∨ k < W.heap.size → ∀ d' ∈ ds, d'.target ≠ .collected k := fun k hk d' hd' e => by
          rcases hk with hk | hk
          · exact HMF.out d' hd' k e hk
          · have := (HM.out.lt d' hd' k e).2; omega
        have hk2 : Keeps (fun k => S k ∨ k < W.heap.size) wr W2 := hk.mono (fun k h _ => hfree k h)
        have hc := HCo.out.abide (B := W.heap.size) (Nat.le_refl _) hk2
        exact ⟨_, results_none rfl _ _ _, ⟨_, rfl⟩, hc.keeps, S, hc.own, .inl (by rw [← hil.out]; exact HJA.out _ _ _ _ HJi.out hk2)⟩)⟩
      clear c
      gi_wp2_with fail
      exact HL.out _
end Go.Proofs.Ytafhdamdkefpkaa

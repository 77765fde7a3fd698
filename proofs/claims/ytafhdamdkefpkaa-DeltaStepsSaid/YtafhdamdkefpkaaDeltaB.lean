/- delta's books: open, at, lists. -/
import Derived.Test.YtafhdamdkefpkaaDeltaA
namespace Go.Proofs.Ytafhdamdkefpkaa
open Go.RowKit Go.Proofs.YtafhdamdkefpkaaW.PrintWords Go.Proofs.YtafhdamdkefpkaaW.PrintLast Go.Proofs.YtafhdamdkefpkaaW.PrintMore
attribute [local go_sem] max2_int min2_int max_two min_two Oper.semAt_some
set_option linter.unusedVariables false
set_option linter.unusedSimpArgs false
/-- A pointer to a block. -/
def encP (b : Nat) : Value := .pointer (some ⟨b, 0, none⟩)
def kP : Kd Nat := Kd.scalar encP (fun _ => rfl)
theorem kP_mk (w : World) (base : Nat) (ok : Nat → Prop) (b : Nat) : kP.M w base ok b [.pointer (some ⟨b, 0, none⟩)] := rfl
theorem info_pstore : (Try.prog.info? 85).map (fun i => (i.zero, i.size, i.bytes)) = some (some (.pointer none), 1, 8) := by kernel_rfl
theorem info_entries : (Try.prog.info? 31).map (fun i => (i.zero, i.size, i.bytes)) = some (some (.slice none 0 0), 1, 24) := by kernel_rfl
theorem at_P {w : World} {A : Option Addr} {n : Nat} {ps : List Nat} (h : kP.C w A n ps) (i : Nat) (hi : i < n) : ∃ ad, A = some ad ∧ w.cell? (ad.add i) = some (.pointer (some ⟨ps.getD i 0, 0, none⟩)) := by
  obtain ⟨ad, c, e, _, hK, hc⟩ := Kd.C_get h 0 (i : Int) (by omega) (by omega)
  have hK' : c = [encP (ps.getD i 0)] := hK
  subst hK'
  refine ⟨ad, e, ?_⟩
  have := hc 0 _ rfl
  rw [Int.toNat_natCast] at this
  have e1 : i * kP.sz + 0 = i := by show i * 1 + 0 = i; omega
  rw [e1] at this
  exact this
theorem kP_E : kP.E = [] := rfl
theorem kE_E : Kd.E PDelta.k68 = [] := by simp [Kd.E, PDelta.k68, Kd.iso, Kd.pair, Kd.int, Kd.scalar]

/-- A book: a row of pointers to stores. -/
def Book (W : World) (base : Nat) (v : Value) (bs : List (List PDelta.S68)) : Prop :=
  ∃ ps : List Nat, ps.length = bs.length ∧ ps.Nodup ∧ kP.R 85 W base (fun _ => True) v ps ∧ ∀ (i p : Nat) (b : List PDelta.S68), ps[i]? = some p → bs[i]? = some b → St W base p b
theorem Book.step {W W' : World} {base : Nat} {v : Value} {bs : List (List PDelta.S68)} (h : Book W base v bs) (hk : ∀ k, k < W.heap.size → W'.heap[k]? = W.heap[k]?) : Book W' base v bs := by
  obtain ⟨ps, h1, h2, h3, h4⟩ := h
  exact ⟨ps, h1, h2, Kd.R_step h3 (fun k _ hlt => hk k hlt), fun i p b hp hb => (h4 i p b hp hb).step hk⟩
theorem Book.below {W W' : World} {base : Nat} {v : Value} {bs : List (List PDelta.S68)} (h : Book W base v bs) (hb : Below W.heap.size W W') : Book W' base v bs := h.step (fun k hk => hb.block k hk)
/-- Only store q has turned. -/
theorem St.apart {W W' : World} {base q p : Nat} {xs ys : List PDelta.S68} (h : St W base p xs) (hq : St W base q ys) (hne : p ≠ q) (hk : Keeps (fun k => k ≠ q) W W') : St W' base p xs := by
  obtain ⟨h1, v, h2, h3⟩ := h
  obtain ⟨-, u, k2, -⟩ := hq
  refine ⟨h1, v, hk.at_ h2 hne, ?_⟩
  refine Kd.R_mono (Kd.R_step (Kd.R_types h3 k2 ?_) (fun k hok hlt => hk.block k hok.2 hlt)) (fun _ _ => trivial)
  intro t ht
  rw [kE_E] at ht
  simp at ht
  subst ht
  decide
theorem Book.turn {W W' : World} {base q i : Nat} {v : Value} {bs : List (List PDelta.S68)} {b : List PDelta.S68} {ps : List Nat} (hl : ps.length = bs.length) (hn : ps.Nodup) (hR : kP.R 85 W base (fun _ => True) v ps) (hS : ∀ (i p : Nat) (b : List PDelta.S68), ps[i]? = some p → bs[i]? = some b → St W base p b)
    (hi : i < bs.length) (hq : ps[i]? = some q) (hk : Keeps (fun k => k ≠ q) W W') (hb : St W' base q b) : Book W' base v (bs.set i b) := by
  obtain ⟨b0, hb0⟩ : ∃ b0, bs[i]? = some b0 := ⟨_, List.getElem?_eq_getElem hi⟩
  have hq0 := hS i q b0 hq hb0
  refine ⟨ps, by rw [List.length_set]; exact hl, hn, ?_, fun j p c hp hc => ?_⟩
  · obtain ⟨-, u, k2, -⟩ := hq0
    refine Kd.R_mono (Kd.R_step (Kd.R_types hR k2 ?_) (fun k hok hlt => hk.block k hok.2 hlt)) (fun _ _ => trivial)
    intro t ht
    rw [kP_E] at ht
    simp at ht
    subst ht
    decide
  · by_cases e : j = i
    · subst e
      rw [hq] at hp
      injection hp with hp
      subst hp
      rw [List.getElem?_set_self hi] at hc
      injection hc with hc
      subst hc
      exact hb
    · rw [List.getElem?_set_ne (fun h => e h.symm)] at hc
      have hne : p ≠ q := by
        intro h
        subst h
        obtain ⟨hj1, hj2⟩ := List.getElem?_eq_some_iff.1 hp
        obtain ⟨hi1, hi2⟩ := List.getElem?_eq_some_iff.1 hq
        rw [← hi2] at hj2
        rcases Nat.lt_trichotomy j i with c | c | c
        · exact List.pairwise_iff_getElem.1 hn j i hj1 hi1 c hj2
        · exact e c
        · exact List.pairwise_iff_getElem.1 hn i j hi1 hj1 c hj2.symm
      exact (hS j p c hp hc).apart hq0 hne hk
theorem rd_L3_get (xss : List (List PDelta.S68)) (i : Nat) (h : i < xss.length) : PDelta.rd_L3 xss i = xss[i] := by simp [PDelta.rd_L3, List.getD, h]
theorem take_L3 (xss : List (List PDelta.S68)) (i : Nat) (h : i < xss.length) : xss.take (i + 1) = xss.take i ++ [PDelta.rd_L3 xss i] := by
  rw [List.take_add_one, rd_L3_get _ _ h]
  simp [h]
/-- One store more. -/
theorem book_snoc {W w1 : World} {base q : Nat} {v1 : Value} {bs : List (List PDelta.S68)} {b : List PDelta.S68} {ps : List Nat} (hl : ps.length = bs.length) (hn : ps.Nodup) (hS : ∀ (i p : Nat) (b : List PDelta.S68), ps[i]? = some p → bs[i]? = some b → St w1 base p b)
    (hq : St w1 base q b) (hlt : ∀ p ∈ ps, p ≠ q) (hR : kP.R 85 w1 base (fun _ => True) v1 (ps ++ [q])) : Book w1 base v1 (bs ++ [b]) := by
  refine ⟨ps ++ [q], by simp [hl], ?_, hR, fun i p c hp hc => ?_⟩
  · rw [List.nodup_append]
    exact ⟨hn, by simp, fun a ha b hb => by rw [List.mem_singleton.1 hb]; exact hlt a ha⟩
  · rcases Nat.lt_or_ge i ps.length with h | h
    · rw [List.getElem?_append_left h] at hp
      rw [List.getElem?_append_left (by omega)] at hc
      exact hS i p c hp hc
    · rw [List.getElem?_append_right h] at hp
      rw [List.getElem?_append_right (by omega)] at hc
      have h1 := (List.getElem?_eq_some_iff.1 hp).1
      simp at h1
      rw [show i - ps.length = 0 from by omega] at hp
      rw [show i - bs.length = 0 from by omega] at hc
      simp at hp hc
      subst hp hc
      exact hq
theorem ps_lt {W : World} {base : Nat} {bs : List (List PDelta.S68)} {ps : List Nat} (hl : ps.length = bs.length) (hS : ∀ (i p : Nat) (b : List PDelta.S68), ps[i]? = some p → bs[i]? = some b → St W base p b) : ∀ p ∈ ps, p < W.heap.size := by
  intro p hp
  obtain ⟨i, hi, rfl⟩ := List.getElem_of_mem hp
  obtain ⟨-, v, h2, -⟩ := hS i _ _ (List.getElem?_eq_getElem hi) (List.getElem?_eq_getElem (by omega))
  exact lt_of_heap h2

/-- A row that a callee made lies apart from an elder one. -/
theorem slice_fresh {W w1 : World} {base : Nat} {v v1 : Value} {ys : List (List PDelta.S68)} {xs : List PDelta.S68} (h : Kd.R (Kd.slice 68 PDelta.k68) 31 W base (fun _ => True) v ys) (hb : base ≤ W.heap.size) (h1 : Kd.R PDelta.k68 68 w1 W.heap.size (fun _ => True) v1 xs) :
    (Kd.slice 68 PDelta.k68).M w1 base (fun k => W.heap.size ≤ k) xs [v1] ∧ ∀ k, W.heap.size ≤ k → some k ≠ v.ownBlock :=
  ⟨⟨v1, rfl, Kd.R_lower (Kd.R_mono (Kd.R_bound h1) (fun k hk => hk.2.1)) hb⟩, fun k hk e => by have := Kd.R_lt h k e.symm; omega⟩

set_option maxRecDepth 100000 in
set_option maxHeartbeats 4000000 in
/-- **delta.open.** -/
theorem dopen_any (A0 : Option Addr) (c0 : Nat) (bks : List (List PDelta.S68)) (w : World) (hC : Kd.C (Kd.slice 68 PDelta.k68) w A0 bks.length bks) (hc0 : bks.length ≤ c0) (hl : bks.length ≤ 1000000) (hl2 : ∀ b ∈ bks, b.length ≤ 900000) (hu : ∀ b ∈ bks, ∀ e ∈ b, U64 e.f0) :
    Calls Try.prog 40 #[.slice A0 bks.length c0] w fun e w' => ∃ v : Value, e = .returned v ∧ Book w' w.heap.size v (bks.map ofL) ∧ Below w.heap.size w w' := by
  have HC := Aside0.mk hC
  have HU := Aside0.mk hu
  have HL2 := Aside0.mk hl2
  clear hC hu hl2
  go_enter Try.func40, Try.ntmps40
  go_wp2_with fail
  go_loopg [3, 8] bks.length (fun n v3 v8 W => ∃ i : Nat, v8 = .int .i64 i ∧ Aside0 (i + n = bks.length) ∧ Aside0 (Book W w.heap.size v3 ((bks.take i).map ofL)) ∧ Aside0 (Below w.heap.size w W))
  case atStart => exact ⟨0, rfl, ⟨by omega⟩, ⟨[], by simp, by simp, Kd.R_nil _ _ _ _ _, by simp⟩, ⟨Below.refl _ _⟩⟩
  case round =>
    obtain ⟨i, rfl, HI, HBk, HB⟩ := hrel
    by_cases c : (i : Int) < (bks.length : Int)
    · have p1 : (0 : Int) ≤ (i : Int) := by omega
      obtain ⟨ad1, A1, c1, e1, hx0, hl1, hC1⟩ := PDelta.at_L3 (Kd.C_below HC.out HB.out) i p1 c
      cases e1
      rw [Int.toNat_natCast] at hx0
      have HIL := Aside0.mk (show i < bks.length by omega)
      have wrapI : wrap64 ((i : Int) + 1) = ((i + 1 : Nat) : Int) := by unfold wrap64; omega
      have HTK := Aside0.mk (take_L3 bks i HIL.out)
      have hm : PDelta.rd_L3 bks (i : Int) ∈ bks := by rw [rd_L3_get _ _ HIL.out]; exact List.getElem_mem _
      have CO := Aside0.mk (eof_any A1 c1 (PDelta.rd_L3 bks i) wr hC1 hl1 (HL2.out _ hm) (HU.out _ hm))
      generalize PDelta.rd_L3 bks (i : Int) = xs at hx0 CO HTK hl1
      clear hm hC1
      obtain ⟨ps, hps, hnd, hR, hS⟩ := HBk.out
      obtain ⟨A3, c3, rfl, hl3, -⟩ := Kd.R_reads hR
      have HPS := Aside0.mk hps
      have HND := Aside0.mk hnd
      have HR := Aside0.mk hR
      have HS := Aside0.mk hS
      have HPL : Aside0 (ps.length ≤ bks.length) := ⟨by have h3 := hps; rw [List.length_map, List.length_take] at h3; have := HIL.out; omega⟩
      clear hps hnd hR hS hl3
      replace p1 := eq_true p1
      replace c := eq_true c
      go_wp2_with (first
        | (go_at_call 65; refine (CO.out).mono ?_; rintro e w1 ⟨q, rfl, hq, hb⟩; have HQ := Aside0.mk hq; have HB1 := Aside0.mk hb; have HBB := Aside0.mk (below_step HB.out hb); clear hq hb)
        | ((with_reducible refine gate_builtin (b := .append) (xs := #[.tmp 12, .tmp 15]) rfl ?_); at_builtin; refine Kd.R_append kP (w0 := w) (W := w1) w.heap.size rfl (.tmp 12) (.tmp 15) 83 85 (.pointer none) 8 rfl Try.underlying83 info_pstore rfl (by decide) (by decide) (.slice A3 ps.length c3) ps q [.pointer (some ⟨q, 0, none⟩)] (fun _ => True) (fun _ => False) rfl rfl (kP_mk _ _ _ _) (fun _ h => h.elim) (fun _ _ => trivial) (Kd.R_below HR.out HB1.out) HBB.out HBB.out.size (by have := HPL.out; omega) ?_; intro v9 w9 hR9 hB9 hg9 hat9; have HR9 := Aside0.mk hR9; have HB9 := Aside0.mk hB9; have HG9 := Aside0.mk hg9; clear hR9 hB9 hg9 hat9))
      go_roundg (gk - 1)
      case measure => have := HI.out; have := HIL.out; omega
      case rel =>
        refine ⟨i + 1, by first | rfl | (simp; done) | rw [wrapI], ⟨by have := HI.out; have := HIL.out; omega⟩, ⟨?_⟩, HB9⟩
        rw [HTK.out, List.map_append]
        have hne : ∀ (p : Nat) (b : List PDelta.S68), St w1 w.heap.size p b → St w9 w.heap.size p b := by
          intro p b h
          obtain ⟨h1, v, h2, h3⟩ := h
          have hrow := Kd.R_below HR.out HB1.out
          refine ⟨h1, v, blk_grown h2 HG9.out (Kd.R_ne hrow h2 (by decide)), Kd.R_over' h3 (fun k hk => Kd.R_typed hrow k hk) (fun t ht => by rw [kE_E] at ht; simp at ht; subst ht; decide) HG9.out⟩
        refine book_snoc (W := w9) (by have := HPS.out; simpa using this) HND.out (fun j p b hp hb => hne p b ((HS.out j p b hp hb).below HB1.out)) (hne q _ (HQ.out.lower (by have := HB.out.size; omega))) (fun p hp e => ?_) HR9.out
        have h1 := ps_lt (HPS.out) HS.out p hp
        have h2 := HQ.out.1
        omega
    · have c1 : (i < bks.length) = False := eq_false (by omega)
      have c2 : ((i : Int) < (bks.length : Int)) = False := eq_false c
      have hio : bks.take i = bks := List.take_of_length_le (by omega)
      rw [hio] at HBk
      clear c hio
      go_wp2_with fail
      go_ret
      exact ⟨_, rfl, HBk.out, HB.out⟩

/-- A bidder's entries. -/
def atL (bs : List (List PDelta.S68)) (i : Nat) : List PDelta.S68 := bs.getD i []
set_option maxRecDepth 100000 in
set_option maxHeartbeats 4000000 in
/-- **book.at.** -/
theorem dat_any (v : Value) (bs : List (List PDelta.S68)) (i : Nat) (w : World) (base : Nat) (hB : Book w base v bs) (hbase : base ≤ w.heap.size) (hi : i < 9223372036854775808) :
    Calls Try.prog 55 #[v, .int .i64 i] w fun e w' => ∃ q : Nat, e = .returned (.pointer (some ⟨q, 0, none⟩)) ∧ St w' base q (atL bs i) ∧ Below w.heap.size w w' := by
  obtain ⟨ps, hps, hnd, hR, hS⟩ := hB
  obtain ⟨A, c, rfl, hlc, hC⟩ := Kd.R_reads hR
  by_cases hlt : i < ps.length
  · obtain ⟨ad, e1, hx⟩ := at_P hC i hlt
    cases e1
    have HS := Aside0.mk (hS i (ps.getD i 0) (atL bs i) (by simp [List.getD, hlt]) (by simp [atL, List.getD, show i < bs.length by omega]))
    have p1 : (0 : Int) ≤ (i : Int) := by omega
    have p2 : (i : Int) < (ps.length : Int) := by omega
    have t1 : decide ((i : Int) < 0) = false := decide_eq_false (by omega)
    have t2 : decide ((i : Int) ≥ (ps.length : Int)) = false := decide_eq_false (by omega)
    have t3 : decide (ps.length ≤ i) = false := decide_eq_false (by omega)
    generalize ps.getD i 0 = p at hx HS
    clear hR hC hS hps hnd
    go_enter Try.func55, Try.ntmps55
    go_wp2_with fail
    go_ret
    exact ⟨_, rfl, HS.out, Below.refl _ _⟩
  · have t1 : decide ((i : Int) < 0) = false := decide_eq_false (by omega)
    have t2 : decide ((i : Int) ≥ (ps.length : Int)) = true := decide_eq_true (by omega)
    have t3 : decide (ps.length ≤ i) = true := decide_eq_true (by omega)
    have HE : Aside0 (atL bs i = []) := ⟨by simp [atL, List.getD, show bs.length ≤ i by omega]⟩
    clear hR hC hS hps hnd
    go_enter Try.func55, Try.ntmps55
    go_wp2_with fail
    go_ret
    exact ⟨_, rfl, by rw [HE.out]; exact ⟨hbase, _, World.alloc_heap_new _ _, Kd.R_nil _ _ _ _ _⟩, below_alloc (Below.refl _ _) _⟩

set_option maxRecDepth 100000 in
set_option maxHeartbeats 4000000 in
/-- **book.lists.** -/
theorem dlists_any (v : Value) (bs : List (List PDelta.S68)) (w : World) (base : Nat) (hB : Book w base v bs) (hl : bs.length ≤ 1000000) (hl2 : ∀ b ∈ bs, b.length ≤ 1000000000) :
    Calls Try.prog 42 #[v] w fun e w' => ∃ v' : Value, e = .returned v' ∧ Kd.R (Kd.slice 68 PDelta.k68) 31 w' w.heap.size (fun _ => True) v' bs ∧ Below w.heap.size w w' := by
  obtain ⟨ps, hps, hnd, hR, hS⟩ := hB
  obtain ⟨A, c, rfl, hlc, hC⟩ := Kd.R_reads hR
  have HC := Aside0.mk hC
  have HS := Aside0.mk hS
  have HL2 := Aside0.mk hl2
  have HPS := Aside0.mk hps
  clear hR hC hS hps hnd hl2
  go_enter Try.func42, Try.ntmps42
  go_wp2_with fail
  go_loopg [3, 8] ps.length (fun n v3 v8 W => ∃ i : Nat, v8 = .int .i64 i ∧ Aside0 (i + n = ps.length) ∧ Aside0 (Kd.R (Kd.slice 68 PDelta.k68) 31 W w.heap.size (fun _ => True) v3 (bs.take i)) ∧ Aside0 (Below w.heap.size w W))
  case atStart => exact ⟨0, rfl, ⟨by omega⟩, ⟨Kd.R_nil _ _ _ _ _⟩, ⟨Below.refl _ _⟩⟩
  case round =>
    obtain ⟨i, rfl, HI, HR, HB⟩ := hrel
    by_cases c : (i : Int) < (ps.length : Int)
    · have p1 : (0 : Int) ≤ (i : Int) := by omega
      have HIL := Aside0.mk (show i < ps.length by omega)
      have hib : i < bs.length := by rw [← HPS.out]; exact HIL.out
      obtain ⟨ad, e1, hx⟩ := at_P (Kd.C_below HC.out HB.out) i HIL.out
      cases e1
      have wrapI : wrap64 ((i : Int) + 1) = ((i + 1 : Nat) : Int) := by unfold wrap64; omega
      have HTK := Aside0.mk (take_L3 bs i hib)
      have hst := (HS.out i (ps.getD i 0) (PDelta.rd_L3 bs i) (by simp [List.getD, HIL.out]) (by rw [rd_L3_get _ _ hib]; exact List.getElem?_eq_getElem hib)).below HB.out
      have hlx : (PDelta.rd_L3 bs i).length ≤ 1000000000 := HL2.out _ (by rw [rd_L3_get _ _ hib]; exact List.getElem_mem _)
      generalize ps.getD i 0 = p at hx hst
      generalize PDelta.rd_L3 bs (i : Int) = xs at HTK hst hlx
      obtain ⟨-, u, hq, hRx⟩ := hst
      obtain ⟨A1, c1, rfl, hl1, hC1⟩ := Kd.R_reads hRx
      have CL := Aside0.mk (elist_any p A1 c1 xs wr hq hC1 hl1 hlx)
      obtain ⟨A3, c3, e3, hl3, -⟩ := Kd.R_reads HR.out
      subst e3
      have HBL : Aside0 ((bs.take i).length ≤ 1000000) := ⟨by rw [List.length_take]; omega⟩
      clear hq hRx hC1 hl1 hlx hl3
      generalize bs.take i = ys at HR HTK HBL
      replace p1 := eq_true p1
      replace c := eq_true c
      go_wp2_with (first
        | (go_at_call 73; refine (CL.out).mono ?_; rintro e w1 ⟨v1, rfl, hr1, hb⟩; have HM1 := Aside0.mk (slice_fresh HR.out HB.out.size hr1); have HB1 := Aside0.mk hb; have HBB := Aside0.mk (below_step HB.out hb); obtain ⟨A7, n7, c7, e7⟩ := R_is_slice hr1; subst e7; clear hr1 hb)
        | ((with_reducible refine gate_builtin (b := .append) (xs := #[.tmp 12, .tmp 15]) rfl ?_); at_builtin; refine Kd.R_append (Kd.slice 68 PDelta.k68) (w0 := w) (W := w1) w.heap.size rfl (.tmp 12) (.tmp 15) 25 31 (.slice none 0 0) 24 rfl Try.underlying25 info_entries rfl (by decide) (by decide) (.slice A3 ys.length c3) ys xs [.slice A7 n7 c7] (fun _ => True) (fun k => wr.heap.size ≤ k) rfl rfl HM1.out.1 (fun k hk => ⟨trivial, HM1.out.2 k hk⟩) (fun _ _ => trivial) (Kd.R_below HR.out HB1.out) HBB.out HBB.out.size (by have := HBL.out; omega) ?_; intro v9 w9 hR9 hB9 hg9 hat9; have HR9 := Aside0.mk hR9; have HB9 := Aside0.mk hB9; clear hR9 hB9 hg9 hat9))
      go_roundg (gk - 1)
      case measure => have := HI.out; have := HIL.out; omega
      case rel => exact ⟨i + 1, by first | rfl | (simp; done) | rw [wrapI], ⟨by have := HI.out; have := HIL.out; omega⟩, ⟨by rw [HTK.out]; exact HR9.out⟩, HB9⟩
    · have c1 : (i < ps.length) = False := eq_false (by omega)
      have c2 : ((i : Int) < (ps.length : Int)) = False := eq_false c
      have hio : bs.take i = bs := List.take_of_length_le (by have := HPS.out; omega)
      rw [hio] at HR
      clear c hio
      go_wp2_with fail
      go_ret
      exact ⟨_, rfl, HR.out, HB.out⟩
end Go.Proofs.Ytafhdamdkefpkaa

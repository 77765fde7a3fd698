/- delta.Apply. -/
import Derived.Test.YtafhdamdkefpkaaDeltaD
namespace Go.Proofs.Ytafhdamdkefpkaa
open Go.RowKit Go.Proofs.YtafhdamdkefpkaaW.PrintWords Go.Proofs.YtafhdamdkefpkaaW.PrintLast Go.Proofs.YtafhdamdkefpkaaW.PrintMore
attribute [local go_sem] max2_int min2_int max_two min_two Oper.semAt_some
set_option linter.unusedVariables false
set_option linter.unusedSimpArgs false
/-- A book, long enough for bidder i. -/
def longL (bs : List (List PDelta.S68)) (i : Nat) : List (List PDelta.S68) := bs ++ List.replicate (i + 1 - bs.length) []
/-- A change put into a book. -/
def applyC (bs : List (List PDelta.S68)) (c : PDelta.S76) : List (List PDelta.S68) :=
  if c.f0 < 0 ∨ 64 ≤ c.f0 then bs else (longL bs c.f0.toNat).set c.f0.toNat (putL2 (atL (longL bs c.f0.toNat) c.f0.toNat) c.f1.f0 c.f1.f1)
def applyL (old : List (List PDelta.S68)) (cs : List PDelta.S76) : List (List PDelta.S68) := cs.foldl applyC (old.map ofL)
theorem takeC (xs : List PDelta.S76) (i : Nat) (h : i < xs.length) : xs.take (i + 1) = xs.take i ++ [PDelta.rd_T76 xs i] := by
  rw [List.take_add_one]
  simp [PDelta.rd_T76, List.getD, h]
theorem rdC_get (xs : List PDelta.S76) (k : Nat) (h : k < xs.length) : PDelta.rd_T76 xs k = xs[k] := by simp [PDelta.rd_T76, List.getD, h]
theorem applyL_take (bs : List (List PDelta.S68)) (cs : List PDelta.S76) (i : Nat) (h : i < cs.length) : (cs.take (i + 1)).foldl applyC bs = applyC ((cs.take i).foldl applyC bs) (PDelta.rd_T76 cs i) := by
  rw [takeC cs i h, List.foldl_append]
  rfl
/-- What lists of a book are like. -/
def Fine (bs : List (List PDelta.S68)) (n m : Nat) : Prop := (∀ b ∈ bs, TightE b ∧ b.length ≤ n) ∧ bs.length ≤ m
theorem fine_long {bs : List (List PDelta.S68)} {n m : Nat} (h : Fine bs n m) (i : Nat) (hi : i < m) : Fine (longL bs i) n m := by
  refine ⟨fun b hb => ?_, ?_⟩
  · rcases List.mem_append.1 hb with hb | hb
    · exact h.1 b hb
    · rw [List.eq_of_mem_replicate hb]
      exact ⟨tight_nil, by simp⟩
  · unfold longL
    have := h.2
    rw [List.length_append, List.length_replicate]
    omega
theorem long_length (bs : List (List PDelta.S68)) (i : Nat) : i < (longL bs i).length := by
  unfold longL
  rw [List.length_append, List.length_replicate]
  omega
theorem atL_mem {bs : List (List PDelta.S68)} {i : Nat} (h : i < bs.length) : atL bs i ∈ bs := by simp [atL, List.getD, h]
theorem fine_apply {bs : List (List PDelta.S68)} {n m : Nat} (h : Fine bs n m) (hm : 64 ≤ m) (c : PDelta.S76) (hu : U64 c.f1.f0) : Fine (applyC bs c) (n + 1) m := by
  unfold applyC
  split
  · exact ⟨fun b hb => ⟨(h.1 b hb).1, by have := (h.1 b hb).2; omega⟩, h.2⟩
  · have hf := fine_long h c.f0.toNat (by omega)
    have hlt := long_length bs c.f0.toNat
    refine ⟨fun b hb => ?_, by rw [List.length_set]; exact hf.2⟩
    rcases List.mem_or_eq_of_mem_set hb with hb | rfl
    · exact ⟨(hf.1 b hb).1, by have := (hf.1 b hb).2; omega⟩
    · have := hf.1 _ (atL_mem hlt)
      exact ⟨tight_put this.1 hu, by have := length_put (atL (longL bs c.f0.toNat) c.f0.toNat) c.f1.f0 c.f1.f1; omega⟩
theorem fine_take {bs : List (List PDelta.S68)} {n m : Nat} (h : Fine bs n m) (hm : 64 ≤ m) (cs : List PDelta.S76) (hu : ∀ c ∈ cs, U64 c.f1.f0) : ∀ i, i ≤ cs.length → Fine ((cs.take i).foldl applyC bs) (n + i) m
  | 0, _ => by simpa using h
  | i + 1, hi => by
    rw [applyL_take bs cs i (by omega)]
    have := fine_apply (fine_take h hm cs hu i (by omega)) hm (PDelta.rd_T76 cs i) (by rw [rdC_get _ _ (by omega)]; exact hu _ (List.getElem_mem _))
    exact this
theorem fine_open {old : List (List PDelta.S68)} {n : Nat} (h : ∀ b ∈ old, b.length ≤ n) (hu : ∀ b ∈ old, ∀ e ∈ b, U64 e.f0) (m : Nat) (hm : old.length ≤ m) : Fine (old.map ofL) n m := by
  refine ⟨fun b hb => ?_, by simpa using hm⟩
  obtain ⟨a, ha, rfl⟩ := List.mem_map.1 hb
  refine ⟨tight_puts a (hu a ha) tight_nil, ?_⟩
  have := length_puts a []
  have := h a ha
  simp at *
  unfold ofL
  omega

/-- An append to a book's row: one store more. -/
theorem book_append {W w9 : World} {base q : Nat} {v v9 : Value} {bs : List (List PDelta.S68)} {b : List PDelta.S68} {ps : List Nat} (hl : ps.length = bs.length) (hn : ps.Nodup) (hR : kP.R 85 W base (fun _ => True) v ps)
    (hS : ∀ (i p : Nat) (b : List PDelta.S68), ps[i]? = some p → bs[i]? = some b → St W base p b) (hq : St W base q b) (hlt : ∀ p ∈ ps, p ≠ q) (hG : W.grownBy w9 v.ownBlock) (hR9 : kP.R 85 w9 base (fun _ => True) v9 (ps ++ [q])) : Book w9 base v9 (bs ++ [b]) := by
  have hne : ∀ (p : Nat) (b : List PDelta.S68), St W base p b → St w9 base p b := by
    intro p b h
    obtain ⟨h1, v, h2, h3⟩ := h
    exact ⟨h1, v, blk_grown h2 hG (Kd.R_ne hR h2 (by decide)), Kd.R_over' h3 (fun k hk => Kd.R_typed hR k hk) (fun t ht => by rw [kE_E] at ht; simp at ht; subst ht; decide) hG⟩
  exact book_snoc (W := w9) hl hn (fun j p b hp hb => hne p b (hS j p b hp hb)) (hne q _ hq) hlt hR9

set_option maxRecDepth 100000 in
set_option maxHeartbeats 8000000 in
/-- **delta.Apply.** -/
theorem dapply_any (A0 A1 : Option Addr) (c0 c1 : Nat) (old : List (List PDelta.S68)) (cs : List PDelta.S76) (w : World) (hC0 : Kd.C (Kd.slice 68 PDelta.k68) w A0 old.length old) (hc0 : old.length ≤ c0) (hC1 : Kd.C PDelta.k76 w A1 cs.length cs) (hc1 : cs.length ≤ c1)
    (hl0 : old.length ≤ 64) (hl1 : cs.length ≤ 100000) (h20 : ∀ b ∈ old, b.length ≤ 700000) (hu0 : ∀ b ∈ old, ∀ e ∈ b, U64 e.f0) (hu1 : ∀ c ∈ cs, U64 c.f1.f0) :
    Calls Try.prog 9 #[.slice A0 old.length c0, .slice A1 cs.length c1] w fun e w' => ∃ v : Value, e = .returned v ∧ Kd.R (Kd.slice 68 PDelta.k68) 31 w' w.heap.size (fun _ => True) v (applyL old cs) ∧ Below w.heap.size w w' := by
  have CO := Aside0.mk (dopen_any A0 c0 old w hC0 hc0 (by omega) (fun b hb => by have := h20 b hb; omega) hu0)
  have HC1 := Aside0.mk hC1
  have HU1 := Aside0.mk hu1
  have HFI := Aside0.mk (fine_open h20 hu0 64 hl0)
  have huE := Try.underlying68
  have huC := Try.underlying76
  unfold applyL
  generalize old.map ofL = oldL at CO HFI ⊢
  clear hC0 hC1 h20 hu0 hu1
  go_enter Try.func9, Try.ntmps9
  go_wp2_with (go_at_call 40; refine (CO.out).mono ?_; rintro e w1 ⟨v1, rfl, hk1, hb1⟩; have HK1 := Aside0.mk hk1; have HB1 := Aside0.mk hb1; clear hk1 hb1)
  go_loopg [5, 12] cs.length (fun n v5 v12 W => ∃ i : Nat, v12 = .int .i64 i ∧ Aside0 (i + n = cs.length) ∧ Aside0 (Book W w.heap.size v5 ((cs.take i).foldl applyC oldL)) ∧ Aside0 (Below w.heap.size w W))
  case atStart => exact ⟨0, rfl, ⟨by omega⟩, HK1, HB1⟩
  case round =>
    clear HK1 HB1
    obtain ⟨i, rfl, HI, HBk, HB⟩ := hrel
    by_cases c : (i : Int) < (cs.length : Int)
    · have p1 : (0 : Int) ≤ (i : Int) := by omega
      obtain ⟨ad1, e1, hx0, hx1, hx2⟩ := PDelta.at_T76 (Kd.C_below HC1.out HB.out) i p1 c
      cases e1
      rw [Int.toNat_natCast] at hx0 hx1 hx2
      have HIL := Aside0.mk (show i < cs.length by omega)
      have wrapI : wrap64 ((i : Int) + 1) = ((i + 1 : Nat) : Int) := by unfold wrap64; omega
      have HTK := Aside0.mk (applyL_take oldL cs i HIL.out)
      have HXU : Aside0 (U64 (PDelta.rd_T76 cs i).f1.f0) := ⟨by rw [rdC_get _ _ HIL.out]; exact HU1.out _ (List.getElem_mem _)⟩
      have HFB := Aside0.mk (fine_take HFI.out (Nat.le_refl _) cs HU1.out i (by have := HIL.out; omega))
      generalize PDelta.rd_T76 cs i = x at hx0 hx1 hx2 HTK HXU
      generalize (cs.take i).foldl applyC oldL = bs at HBk HTK HFB
      replace p1 := eq_true p1
      replace c := eq_true c
      by_cases hn : x.f0 < 0
      · have t1 : decide (x.f0 < 0) = true := decide_eq_true hn
        have HA : Aside0 (applyC bs x = bs) := ⟨if_pos (.inl hn)⟩
        clear hn
        go_wp2_with fail
        go_roundg (gk - 1)
        case measure => have := HI.out; have := HIL.out; omega
        case rel => exact ⟨i + 1, by first | rfl | (simp; done) | rw [wrapI], ⟨by have := HI.out; have := HIL.out; omega⟩, ⟨by rw [HTK.out, HA.out]; exact HBk.out.below (below_alloc (Below.refl _ _) _)⟩, ⟨below_alloc HB.out _⟩⟩
      · have t1 : decide (x.f0 < 0) = false := decide_eq_false hn
        by_cases hg : 64 ≤ x.f0
        · have t2 : decide (x.f0 ≥ 64) = true := decide_eq_true hg
          have HA : Aside0 (applyC bs x = bs) := ⟨if_pos (.inr hg)⟩
          clear hn hg
          go_wp2_with fail
          go_roundg (gk - 1)
          case measure => have := HI.out; have := HIL.out; omega
          case rel => exact ⟨i + 1, by first | rfl | (simp; done) | rw [wrapI], ⟨by have := HI.out; have := HIL.out; omega⟩, ⟨by rw [HTK.out, HA.out]; exact HBk.out.below (below_alloc (Below.refl _ _) _)⟩, ⟨below_alloc HB.out _⟩⟩
        · have t2 : decide (x.f0 ≥ 64) = false := decide_eq_false hg
          obtain ⟨k, hk⟩ : ∃ k : Nat, x.f0 = k := ⟨x.f0.toNat, by omega⟩
          have hk64 : k < 64 := by omega
          have HA : Aside0 (applyC bs x = (longL bs k).set k (putL2 (atL (longL bs k) k) x.f1.f0 x.f1.f1)) := ⟨by unfold applyC; rw [if_neg (by omega), hk, Int.toNat_natCast]⟩
          rw [hk] at hx0 t1 t2
          clear hn hg hk
          go_wp2_with fail
          obtain ⟨wo, rfl⟩ : ∃ wo : World, wo = wr := ⟨_, rfl⟩
          obtain ⟨gko, rfl⟩ : ∃ gko : Nat, gko = gk := ⟨_, rfl⟩
          have hgc := World.alloc_heap_new wo (.cells #[.int .i64 k, .int .u64 x.f1.f0, .int .i64 x.f1.f1] 76)
          have hbd : Below wo.heap.size wo (wo.alloc (.cells #[.int .i64 k, .int .u64 x.f1.f0, .int .i64 x.f1.f1] 76)) := below_alloc (Below.refl _ _) _
          have hsd : (wo.alloc (.cells #[.int .i64 k, .int .u64 x.f1.f0, .int .i64 x.f1.f1] 76)).heap.size = wo.heap.size + 1 := World.size_alloc _ _
          generalize wo.alloc (.cells #[.int .i64 k, .int .u64 x.f1.f0, .int .i64 x.f1.f1] 76) = Wd at hgc hbd hsd ⊢
          have HGC := Aside0.mk hgc
          have HBD := Aside0.mk hbd
          have HSD := Aside0.mk hsd
          have HBKD := Aside0.mk (HBk.out.below hbd)
          have HK64 := Aside0.mk hk64
          clear hgc hbd hsd hx0 hx1 hx2 hk64
          go_loopg [5] (k + 1) (fun n v5 W => ∃ j : Nat, Aside0 (k + 1 ≤ bs.length + j + n ∧ (j = 0 ∨ bs.length + j ≤ k + 1)) ∧ Aside0 (Book W w.heap.size v5 (bs ++ List.replicate j [])) ∧ Aside0 (W.heap[wo.heap.size]? = some (.cells #[.int .i64 k, .int .u64 x.f1.f0, .int .i64 x.f1.f1] 76 (0, 0))) ∧ Aside0 (Below w.heap.size w W))
          case atStart => exact ⟨0, ⟨by omega⟩, by simpa using HBKD, HGC, ⟨HB.out.trans (HBD.out.mono HB.out.size)⟩⟩
          case round =>
            obtain ⟨j, HJ, HBj, HCC, HBd⟩ := hrel
            clear HBKD HGC
            obtain ⟨ps, hps, hnd, hR, hS⟩ := HBj.out
            obtain ⟨A5, c5, e5, hl5, hC5⟩ := Kd.R_reads hR
            subst e5
            have hlen : ps.length = bs.length + j := by simpa using hps
            have HLN := Aside0.mk hlen
            have hcc := HCC.out
            have n0 : wr.cell? ⟨wo.heap.size, 0, none⟩ = some (.int .i64 k) := blk_cell_ hcc 0
            have n1 : wr.cell? ⟨wo.heap.size, 1, none⟩ = some (.int .u64 x.f1.f0) := blk_cell_ hcc 1
            have n2 : wr.cell? ⟨wo.heap.size, 2, none⟩ = some (.int .i64 x.f1.f1) := blk_cell_ hcc 2
            have HR := Aside0.mk hR
            have HS := Aside0.mk hS
            have HPS := Aside0.mk hps
            have HND := Aside0.mk hnd
            by_cases hle : ps.length ≤ k
            · have t3 : decide ((ps.length : Int) ≤ (k : Int)) = true := decide_eq_true (by omega)
              have t4 : decide (ps.length ≤ k) = true := decide_eq_true hle
              have HLE := Aside0.mk hle
              have HW1 := Aside0.mk (show Below w.heap.size w (wr.alloc (.cells #[.slice none 0 0] 87)) from HBd.out.alloc HBd.out.size _)
              clear hR hS hps hnd hle hlen hcc hl5 hC5
              go_wp2_with ((with_reducible refine gate_builtin (b := .append) (xs := #[.tmp 29, .tmp 32]) rfl ?_); at_builtin; refine Kd.R_append kP (w0 := w) (W := wr.alloc (.cells #[.slice none 0 0] 87)) w.heap.size rfl (.tmp 29) (.tmp 32) 83 85 (.pointer none) 8 rfl Try.underlying83 info_pstore rfl (by decide) (by decide) (.slice A5 ps.length c5) ps wr.heap.size [.pointer (some ⟨wr.heap.size, 0, none⟩)] (fun _ => True) (fun _ => False) rfl (by simp [Act.eval]) (kP_mk _ _ _ _) (fun _ h => h.elim) (fun _ _ => trivial) (Kd.R_alloc HR.out _) HW1.out HW1.out.size (by have := HLE.out; have := HK64.out; omega) ?_; intro v9 w9 hR9 hB9 hg9 hat9; have HR9 := Aside0.mk hR9; have HB9 := Aside0.mk hB9; have HG9 := Aside0.mk hg9; clear hR9 hB9 hg9 hat9)
              go_roundg (gk - 1)
              case measure => have := HJ.out; have := HLE.out; have := HLN.out; omega
              case rel =>
                have hRa := Kd.R_alloc HR.out (.cells #[.slice none 0 0] 87)
                have hblk : (wr.alloc (.cells #[.slice none 0 0] 87)).heap[wo.heap.size]? = some (.cells #[.int .i64 k, .int .u64 x.f1.f0, .int .i64 x.f1.f1] 76 (0, 0)) := (Below.heap_alloc _ _ _ (lt_of_heap HCC.out)).trans HCC.out
                refine ⟨j + 1, ⟨by have := HJ.out; have := HLE.out; have := HLN.out; omega⟩, ⟨?_⟩, ⟨blk_grown hblk HG9.out (Kd.R_ne hRa hblk (by decide))⟩, HB9⟩
                rw [List.replicate_succ', ← List.append_assoc]
                refine book_append HPS.out HND.out hRa (fun i p b hp hb => (HS.out i p b hp hb).below (below_alloc (Below.refl _ _) _)) ⟨by have := HBd.out.size; omega, _, World.alloc_heap_new _ _, Kd.R_nil _ _ _ _ _⟩ (fun p hp e => by have := ps_lt HPS.out HS.out p hp; omega) HG9.out HR9.out
            · have t3 : decide ((ps.length : Int) ≤ (k : Int)) = false := decide_eq_false (by omega)
              have t4 : decide (ps.length ≤ k) = false := decide_eq_false hle
              have hjl : bs ++ List.replicate j [] = longL bs k := by
                unfold longL
                rw [show j = k + 1 - bs.length from by have := HJ.out; omega]
              have hkp : k < ps.length := by omega
              have HKP := Aside0.mk hkp
              obtain ⟨ad, e1, hxk⟩ := at_P hC5 k hkp
              cases e1
              have hst := HS.out k (ps.getD k 0) (atL (longL bs k) k) (by simp [List.getD, hkp]) (by rw [hjl]; simp [atL, List.getD, long_length bs k])
              have HPK := Aside0.mk (show ps[k]? = some (ps.getD k 0) by simp [List.getD, hkp])
              generalize ps.getD k 0 = p at hxk hst HPK
              have hfl := fine_long HFB.out k HK64.out
              have hmem := hfl.1 _ (atL_mem (long_length bs k))
              have CP := Aside0.mk (fun (W : World) (hb : Below wr.heap.size wr W) => eput_any p (atL (longL bs k) k) x.f1.f0 x.f1.f1 W w.heap.size (hst.below hb) (by have := hb.size; have := HBd.out.size; omega) hmem.1.sorted HXU.out (by have := hmem.2; have := HIL.out; omega))
              have hpn : ad.block ≠ p ∧ wo.heap.size ≠ p := by
                obtain ⟨-, u, hq, -⟩ := hst
                refine ⟨fun e => ?_, fun e => ?_⟩
                · obtain ⟨g, cap, eg, -, -, cells, hg⟩ := Kd.R_form HR.out (by omega)
                  injection eg with eg1
                  injection eg1 with eg1
                  rw [eg1] at e
                  simp only at e
                  subst e
                  rw [hg] at hq
                  injection hq with hq
                  injection hq with _ hq
                  exact absurd hq (by decide)
                · subst e
                  rw [HCC.out] at hq
                  injection hq with hq
                  injection hq with _ hq
                  exact absurd hq (by decide)
              have HPN := Aside0.mk hpn
              have HJL := Aside0.mk hjl
              have p3 : (0 : Int) ≤ (k : Int) := by omega
              have p4 : (k : Int) < (ps.length : Int) := by omega
              clear hR hS hps hnd hle hlen hcc hl5 hC5 hst hfl hmem hpn hjl hkp
              replace p3 := eq_true p3
              replace p4 := eq_true p4
              go_wp2_with fail
              go_region_held3 (fun w' => w'.cell? ⟨wo.heap.size, 0, none⟩ = some (.int .i64 k) ∧ w'.cell? ⟨wo.heap.size, 1, none⟩ = some (.int .u64 x.f1.f0) ∧ w'.cell? ⟨wo.heap.size, 2, none⟩ = some (.int .i64 x.f1.f1) ∧ w'.cell? (ad.add k) = some (.pointer (some ⟨p, 0, none⟩))) (go_keep)
                (first
                  | (go_at_call 41; (with_reducible refine (CP.out _ (Below.refl _ _).drew).mono ?_); rintro e w8 ⟨⟨b8, rfl⟩, hs8, hk8⟩; have HS8 := Aside0.mk hs8; have HK8 := Aside0.mk hk8; have q0 := hk8.cell n0 HPN.out.2; have q1 := hk8.cell n1 HPN.out.2; have q2 := hk8.cell n2 HPN.out.2; have q3 := hk8.cell hxk (by rw [add_block]; exact HPN.out.1); clear hs8 hk8))
              go_wp2_with fail
              have hk9 : Keeps (fun k => k ≠ p) wr w8 := ((Keeps.refl _ wr).drew).trans HK8.out
              have hbt := Book.turn HPS.out HND.out HR.out HS.out (i := k) (by have := HPS.out; have := HKP.out; omega) HPK.out hk9 HS8.out
              have hbl : Below w.heap.size w w8 := HBd.out.trans (hk9.below (fun k hk e => by have := HS8.out.1; omega) HBd.out.size)
              rw [HJL.out] at hbt
              have HBT := Aside0.mk hbt
              have HBL := Aside0.mk hbl
              clear hk9 hbt hbl
              go_roundg (gko - 1)
              case measure => have := HI.out; have := HIL.out; omega
              case rel => exact ⟨i + 1, by first | rfl | (simp; done) | rw [wrapI], ⟨by have := HI.out; have := HIL.out; omega⟩, ⟨by rw [HTK.out, HA.out]; exact HBT.out⟩, HBL⟩
    · have c1 : (i < cs.length) = False := eq_false (by omega)
      have c2 : ((i : Int) < (cs.length : Int)) = False := eq_false c
      have hio : cs.take i = cs := List.take_of_length_le (by omega)
      have hile : i ≤ cs.length := by have := HI.out; omega
      have hff := fine_take HFI.out (Nat.le_refl _) cs HU1.out i hile
      rw [hio] at HBk hff
      obtain ⟨bs, hbs⟩ : ∃ bs, bs = cs.foldl applyC oldL := ⟨_, rfl⟩
      rw [← hbs] at HBk hff
      have HBS0 := Aside0.mk hbs
      have CL := Aside0.mk (dlists_any u5 bs wr w.heap.size HBk.out (by have := hff.2; omega) (fun b hb => by have := (hff.1 b hb).2; omega))
      have HBS := Aside0.mk HB.out.size
      clear c hio hff hbs hile
      go_wp2_with (go_at_call 42; refine (CL.out).mono ?_; rintro e w9 ⟨v9, rfl, hr9, hb9⟩; have HR9 := Aside0.mk hr9; have HB9 := Aside0.mk hb9; clear hr9 hb9)
      go_ret
      exact ⟨v9, rfl, by rw [← HBS0.out]; exact Kd.R_lower HR9.out HBS.out, HB.out.trans (HB9.out.mono HBS.out)⟩
end Go.Proofs.Ytafhdamdkefpkaa

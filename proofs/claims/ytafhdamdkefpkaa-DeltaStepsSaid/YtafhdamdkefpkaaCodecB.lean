/- codec: whole numbers of one byte read. -/
import Derived.Test.YtafhdamdkefpkaaCodecA
namespace Go.Proofs.Ytafhdamdkefpkaa
open Go.RowKit Go.Proofs.YtafhdamdkefpkaaW.PrintWords Go.Proofs.YtafhdamdkefpkaaW.PrintLast Go.Proofs.YtafhdamdkefpkaaW.PrintMore
attribute [local go_sem] max2_int min2_int max_two min_two Oper.semAt_some
set_option linter.unusedVariables false
set_option linter.unusedSimpArgs false
/-- What an In still has to read; nothing has gone wrong. -/
def InAt (W : World) (q : Nat) (bs : List Int) : Prop := ∃ A c, W.heap[q]? = some (.cells #[.slice A bs.length c, .int .i64 0] 167 (0, 0)) ∧ bs.length ≤ c ∧ Kd.C (Kd.int IntKind.u8) W A bs.length bs ∧ ∀ ad, A = some ad → ad.block < q
theorem length_one (b : Int) (rest : List Int) (hb : b < 128) (hl : rest.length ≤ 1000000) : PDelta.codec_length.f 3 (b :: rest) = some (1, 0) := by
  unfold PDelta.codec_length.f PDelta.codec_length.l0
  have h1 : (0 : Int) < ((b :: rest).length : Int) := by rw [List.length_cons]; omega
  rw [if_pos h1, if_pos (Int.le_refl 0), if_pos h1, if_neg (by decide), if_neg (by decide)]
  unfold PDelta.codec_length.j1
  have e : rd (b :: rest) 0 = b := rfl
  rw [if_neg (by decide), e, if_neg (by omega)]
  have hw : wrap64 (0 + 1) = 1 := by unfold wrap64; omega
  by_cases h : b = 0
  · rw [if_pos h, if_neg (by decide), hw]
  · rw [if_neg h, hw]

set_option maxRecDepth 100000 in
set_option maxHeartbeats 1600000 in
theorem iUint_one (q : Nat) (b : Int) (rest : List Int) (w : World) (hI : InAt w q (b :: rest)) (hb : 0 ≤ b ∧ b < 128) (ha : Go.bits .and .u8 b 127 = b) (ho : Go.bits .or .u64 0 b = b) (hl : rest.length ≤ 1000000) :
    Calls Try.prog 90 #[.pointer (some ⟨q, 0, none⟩)] w fun e w' => e = .returned (.int .u64 b) ∧ InAt w' q rest ∧ Keeps (fun k => k ≠ q) w w' := by
  obtain ⟨A, c, hq, hlc, hC, hne⟩ := hI
  have hln : (b :: rest).length = rest.length + 1 := rfl
  have CL := Aside0.mk (PDelta.codec_length.calls 3 A c (b :: rest) 1 0 w hC hlc (length_one b rest hb.2 hl))
  have c0 := blk_cell_ hq 0
  have c1 := blk_cell_ hq 1
  have HQ := Aside0.mk hq
  have HC := Aside0.mk hC
  clear hq hC
  go_enter Try.func90, Try.ntmps90
  go_wp2_with (go_at_call 112; refine (CL.out).mono ?_; rintro e w1 ⟨rfl, hd⟩; have hb1 := hd.below; have HB1 := Aside0.mk hb1; have d0 := pw_cell_below hb1 c0; have d1 := pw_cell_below hb1 c1; clear hd hb1)
  have hC1 := Kd.C_below HC.out HB1.out
  obtain ⟨ad, cs, e1, _, hK, hcell⟩ := Kd.C_get hC1 0 0 (Int.le_refl 0) (by rw [hln]; omega)
  subst e1
  have HNE := Aside0.mk (hne ad rfl)
  have hK' : cs = [.int .u8 b] := hK
  subst hK'
  have x0 : w1.cell? (ad.add 0) = some (.int .u8 b) := hcell 0 _ rfl
  rw [show ad.add 0 = ad from by unfold Addr.add; simp] at x0
  have wz : wrap64 (0 + 1) = 1 := by unfold wrap64; omega
  have wm : wrap64 (7 * 0) = 0 := by unfold wrap64; omega
  have HQ1 := Aside0.mk ((HB1.out.block q (lt_of_heap HQ.out)).trans HQ.out)
  have f0 := blk_frozen HQ1.out 0
  have HD := Aside0.mk (Kd.C_drop (m := 1) hC1 (by rw [hln]; omega) hlc)
  have HRL := Aside0.mk (show rest.length + 1 ≤ c by rw [← hln]; exact hlc)
  clear hC1 hcell hK
  by_cases hc1 : c = 1
  · subst hc1
    have HR0 : Aside0 (rest = []) := ⟨List.eq_nil_of_length_eq_zero (by have := HRL.out; omega)⟩
    go_loopg [5, 33] 2 (fun n v5 v33 W => ∃ i : Int, v33 = .int .i64 i ∧ Aside0 (w1 = W) ∧ ((i = 0 ∧ v5 = .int .u64 0 ∧ Aside0 (n = 2)) ∨ (i = 1 ∧ v5 = .int .u64 b)))
    case atStart => exact ⟨0, rfl, ⟨rfl⟩, .inl ⟨rfl, rfl, ⟨rfl⟩⟩⟩
    case round =>
      obtain ⟨i, rfl, HW, (⟨rfl, rfl, HN⟩ | ⟨rfl, rfl⟩)⟩ := hrel
      · obtain rfl := HW.out
        go_wp2_with fail
        go_roundg 1
        case measure => have := HN.out; omega
        case rel => exact ⟨1, rfl, ⟨rfl⟩, .inr ⟨rfl, rfl⟩⟩
      · obtain rfl := HW.out
        go_wp2_with fail
        go_ret
        have hk := HR0.out
        subst hk
        exact ⟨rfl, ⟨_, _, set_at HQ1.out 0 _, Nat.zero_le _, ⟨rfl, Nat.zero_le _, fun h => absurd h (Nat.lt_irrefl 0)⟩, fun a e => by injection e with e; subst e; exact HNE.out⟩, (Keeps.of_all HB1.out).setCell (fun h => absurd rfl h) _⟩
  · go_loopg [5, 33] 2 (fun n v5 v33 W => ∃ i : Int, v33 = .int .i64 i ∧ Aside0 (w1 = W) ∧ ((i = 0 ∧ v5 = .int .u64 0 ∧ Aside0 (n = 2)) ∨ (i = 1 ∧ v5 = .int .u64 b)))
    case atStart => exact ⟨0, rfl, ⟨rfl⟩, .inl ⟨rfl, rfl, ⟨rfl⟩⟩⟩
    case round =>
      obtain ⟨i, rfl, HW, (⟨rfl, rfl, HN⟩ | ⟨rfl, rfl⟩)⟩ := hrel
      · obtain rfl := HW.out
        go_wp2_with fail
        go_roundg 1
        case measure => have := HN.out; omega
        case rel => exact ⟨1, rfl, ⟨rfl⟩, .inr ⟨rfl, rfl⟩⟩
      · obtain rfl := HW.out
        go_wp2_with fail
        go_ret
        have hD := HD.out
        rw [if_neg hc1] at hD
        have hkb : KeepBut w1 (w1.setCell ⟨q, 0, none⟩ (.slice (some ⟨ad.block, ad.off + 1, none⟩) rest.length (c - 1))) q none := ⟨by simp [World.setCell], fun i hi hne _ => Below.heap_setCell _ _ _ _ hne⟩
        have hD2 : Kd.C (Kd.int IntKind.u8) w1 (some ⟨ad.block, ad.off + 1, none⟩) rest.length rest := hD
        exact ⟨rfl, ⟨_, _, set_at HQ1.out 0 _, by have := HRL.out; omega, Kd.C_keep 0 hD2 hkb (fun a e _ => by injection e with e; subst e; exact Nat.ne_of_lt HNE.out), fun a e => by injection e with e; subst e; exact HNE.out⟩, (Keeps.of_all HB1.out).setCell (fun h => absurd rfl h) _⟩

set_option maxRecDepth 100000 in
set_option maxHeartbeats 1600000 in
/-- The number 2 read with a sign. -/
theorem iInt_two (q : Nat) (rest : List Int) (w : World) (hI : InAt w q (4 :: rest)) (hl : rest.length ≤ 1000000) :
    Calls Try.prog 91 #[.pointer (some ⟨q, 0, none⟩)] w fun e w' => e = .returned (.int .i64 2) ∧ InAt w' q rest ∧ Keeps (fun k => k ≠ q) w w' := by
  have C := Aside0.mk (iUint_one q 4 rest w hI (by decide) (by kernel_rfl) (by kernel_rfl) hl)
  clear hI
  go_enter Try.func91, Try.ntmps91
  go_wp2_with (go_at_call 90; refine (C.out).mono ?_; rintro e w1 ⟨rfl, hi, hk⟩; have HI := Aside0.mk hi; have HK := Aside0.mk hk; clear hi hk)
  go_ret
  exact ⟨congrArg (fun z => Ending.returned (.int .i64 z)) (show Go.bits .xor .i64 2 (wrap64 (-wrap64 (Go.bits .and .u64 4 1))) = 2 by kernel_rfl), HI.out, HK.out⟩
theorem InAt.below {W W' : World} {q : Nat} {bs : List Int} (h : InAt W q bs) (hb : Below W.heap.size W W') : InAt W' q bs := by
  obtain ⟨A, c, h1, h2, h3, h4⟩ := h
  exact ⟨A, c, (hb.block q (lt_of_heap h1)).trans h1, h2, Kd.C_below h3 hb, h4⟩
theorem InAt.keeps {W W' : World} {q g : Nat} {bs : List Int} (h : InAt W q bs) (hg : q < g) (hk : Keeps (fun k => k ≠ g) W W') : InAt W' q bs := by
  obtain ⟨A, c, h1, h2, h3, h4⟩ := h
  exact ⟨A, c, hk.at_ h1 (by omega), h2, Kd.C_keep 0 h3 ⟨hk.size, fun i hi hne _ => hk.block i hne hi⟩ (fun a e _ => by have := h4 a e; omega), h4⟩
set_option maxRecDepth 100000 in
set_option maxHeartbeats 1600000 in
theorem iErr_any (q : Nat) (bs : List Int) (w : World) (hI : InAt w q bs) :
    Calls Try.prog 87 #[.pointer (some ⟨q, 0, none⟩)] w fun e w' => e = .returned (.int .i64 0) ∧ w = w' := by
  obtain ⟨A, c, h1, -, -, -⟩ := hI
  have c1 := blk_cell_ h1 1
  clear h1
  go_enter Try.func87, Try.ntmps87
  go_wp2_with fail
  go_ret
  exact ⟨rfl, rfl⟩
set_option maxRecDepth 100000 in
set_option maxHeartbeats 1600000 in
theorem iLeft_any (q : Nat) (bs : List Int) (w : World) (hI : InAt w q bs) :
    Calls Try.prog 88 #[.pointer (some ⟨q, 0, none⟩)] w fun e w' => e = .returned (.int .i64 bs.length) ∧ w = w' := by
  obtain ⟨A, c, h1, -, -, -⟩ := hI
  have c1 := blk_cell_ h1 0
  clear h1
  go_enter Try.func88, Try.ntmps88
  go_wp2_with fail
  go_ret
  exact ⟨rfl, rfl⟩
set_option maxRecDepth 100000 in
set_option maxHeartbeats 1600000 in
theorem cFrom_any (A0 : Option Addr) (c0 : Nat) (bs : List Int) (w : World) (hC : Kd.C (Kd.int IntKind.u8) w A0 bs.length bs) (hc0 : bs.length ≤ c0) (hl : bs.length ≤ 1000000) :
    Calls Try.prog 85 #[.slice A0 bs.length c0] w fun e w' => ∃ q, e = .returned (.pointer (some ⟨q, 0, none⟩)) ∧ w.heap.size ≤ q ∧ InAt w' q bs ∧ Below w.heap.size w w' := by
  have CC := Aside0.mk (bclone_any A0 c0 bs w hC hc0 (by omega))
  clear hC
  go_enter Try.func85, Try.ntmps85
  go_wp2_with (go_at_call 96; refine (CC.out).mono ?_; rintro e w1 ⟨v1, rfl, hR, hB⟩; obtain ⟨A1, c1, e1, hl1, hC1⟩ := Kd.R_reads hR; subst e1; have HR := Aside0.mk hR; have HB := Aside0.mk hB; have HL := Aside0.mk hl1; have HC := Aside0.mk hC1; clear hR hB hl1 hC1)
  go_ret
  refine ⟨_, rfl, HB.out.size, ⟨A1, c1, World.alloc_heap_new _ _, HL.out, Kd.C_alloc HC.out _, fun a e => ?_⟩, below_alloc HB.out _⟩
  subst e
  exact Kd.R_lt HR.out a.block rfl
end Go.Proofs.Ytafhdamdkefpkaa

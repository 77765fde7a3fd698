/- price.Of; delta.open: a book's stores. -/
import Derived.Test.YtafhdamdkefpkaaPlPrice
namespace Go.Proofs.Ytafhdamdkefpkaa
open Go.RowKit Go.Proofs.YtafhdamdkefpkaaW.PrintWords Go.Proofs.YtafhdamdkefpkaaW.PrintLast Go.Proofs.YtafhdamdkefpkaaW.PrintMore
attribute [local go_sem] max2_int min2_int max_two min_two Oper.semAt_some
set_option linter.unusedVariables false
set_option linter.unusedSimpArgs false
theorem putsL_take (xs : List PDelta.S68) (i : Nat) (h : i < xs.length) : putsL [] (xs.take (i + 1)) = putL2 (putsL [] (xs.take i)) (PDelta.rd_T68 xs i).f0 (PDelta.rd_T68 xs i).f1 := by
  rw [takeE xs i h]
  unfold putsL
  rw [List.foldl_append]
  rfl
theorem tight_of (xs : List PDelta.S68) (hu : ∀ e ∈ xs, U64 e.f0) (i : Nat) : TightE (putsL [] (xs.take i)) := tight_puts _ (fun e he => hu e (List.take_subset _ _ he)) tight_nil
theorem length_of (xs : List PDelta.S68) (i : Nat) : (putsL [] (xs.take i)).length ≤ xs.length := by
  have := length_puts (xs.take i) []
  rw [List.length_take] at this
  simp at this
  omega

set_option maxRecDepth 100000 in
set_option maxHeartbeats 4000000 in
/-- **price.Of.** -/
theorem eof_any (A0 : Option Addr) (c0 : Nat) (xs : List PDelta.S68) (w : World) (hC : Kd.C PDelta.k68 w A0 xs.length xs) (hc0 : xs.length ≤ c0) (hl : xs.length ≤ 900000) (hu : ∀ e ∈ xs, U64 e.f0) :
    Calls Try.prog 65 #[.slice A0 xs.length c0] w fun e w' => ∃ q : Nat, e = .returned (.pointer (some ⟨q, 0, none⟩)) ∧ St w' w.heap.size q (ofL xs) ∧ Below w.heap.size w w' := by
  have huE := Try.underlying68
  have HC := Aside0.mk hC
  have HU := Aside0.mk hu
  have HB0 := Aside0.mk (below_alloc (Below.refl w.heap.size w) (.cells #[.slice none 0 0] 87))
  have HS0 : Aside0 (St (w.alloc (.cells #[.slice none 0 0] 87)) w.heap.size w.heap.size (putsL [] (xs.take 0))) := ⟨⟨Nat.le_refl _, _, World.alloc_heap_new _ _, Kd.R_nil _ _ _ _ _⟩⟩
  obtain ⟨p, hp⟩ : ∃ p, p = w.heap.size := ⟨_, rfl⟩
  have HP := Aside0.mk hp
  clear hC hu
  go_enter Try.func65, Try.ntmps65
  go_wp2_with fail
  rw [← hp] at HS0 ⊢
  clear hp
  go_loopg [10] xs.length (fun n v10 W => ∃ i : Nat, v10 = .int .i64 i ∧ Aside0 (i + n = xs.length) ∧ Aside0 (St W w.heap.size p (putsL [] (xs.take i))) ∧ Aside0 (Below w.heap.size w W))
  case atStart => exact ⟨0, rfl, ⟨by omega⟩, by rw [HP.out] at HS0 ⊢; exact HS0, HB0⟩
  case round =>
    clear HS0 HB0
    obtain ⟨i, rfl, HI, HS, HB⟩ := hrel
    by_cases c : (i : Int) < (xs.length : Int)
    · have p1 : (0 : Int) ≤ (i : Int) := by omega
      obtain ⟨ad1, e1, hx0, hx1⟩ := PDelta.at_T68 (Kd.C_below HC.out HB.out) i p1 c
      cases e1
      rw [Int.toNat_natCast] at hx0 hx1
      have HIL := Aside0.mk (show i < xs.length by omega)
      have wrapI : wrap64 ((i : Int) + 1) = ((i + 1 : Nat) : Int) := by unfold wrap64; omega
      have hxu : U64 (PDelta.rd_T68 xs i).f0 := by rw [rdE_get _ _ HIL.out]; exact HU.out _ (List.getElem_mem _)
      have HPT := Aside0.mk (putsL_take xs i HIL.out)
      have CP := Aside0.mk (eput_any p (putsL [] (xs.take i)) (PDelta.rd_T68 xs i).f0 (PDelta.rd_T68 xs i).f1 (wr.alloc (.cells #[.int .u64 (PDelta.rd_T68 xs i).f0, .int .i64 (PDelta.rd_T68 xs i).f1] 68)) w.heap.size (HS.out.below (below_alloc (Below.refl _ _) _)) (by have := HB.out.size; rw [World.size_alloc]; omega) (tight_of xs HU.out i).sorted hxu (by have := length_of xs i; omega))
      have HBA := Aside0.mk (below_alloc HB.out (.cells #[.int .u64 (PDelta.rd_T68 xs i).f0, .int .i64 (PDelta.rd_T68 xs i).f1] 68))
      have HKB : Aside0 (∀ W', Keeps (fun k => k ≠ p) (wr.alloc (.cells #[.int .u64 (PDelta.rd_T68 xs i).f0, .int .i64 (PDelta.rd_T68 xs i).f1] 68)) W' → Below w.heap.size w W') := ⟨fun W' hk => HBA.out.trans (hk.below (fun k hk => by have := HP.out; omega) HBA.out.size)⟩
      generalize PDelta.rd_T68 xs i = x at hx0 hx1 CP HPT HKB hxu HBA
      clear hxu HBA
      replace p1 := eq_true p1
      replace c := eq_true c
      go_wp2_with (go_at_call 41; refine (CP.out).mono ?_; rintro e w1 ⟨⟨b, rfl⟩, hs1, hk1⟩; have HS1 := Aside0.mk hs1; have HB1 := Aside0.mk (HKB.out _ hk1); clear hs1 hk1)
      go_roundg (gk - 1)
      case measure => have := HI.out; have := HIL.out; omega
      case rel => exact ⟨i + 1, by first | rfl | (simp; done) | rw [wrapI], ⟨by have := HI.out; have := HIL.out; omega⟩, ⟨by rw [HPT.out]; exact HS1.out⟩, HB1⟩
    · have c1 : (i < xs.length) = False := eq_false (by omega)
      have c2 : ((i : Int) < (xs.length : Int)) = False := eq_false c
      have hio : xs.take i = xs := List.take_of_length_le (by omega)
      rw [hio] at HS
      clear c hio
      go_wp2_with fail
      go_ret
      exact ⟨p, rfl, HS.out, HB.out⟩
end Go.Proofs.Ytafhdamdkefpkaa

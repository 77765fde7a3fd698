/- Printed by a program of this session (the kit's print, with contracts proved by hand as given): functions as plain Lean functions with a number of rounds, and their contracts. -/
import Derived.Test.YtafhdamdkefpkaaPPrepx0
import Derived.Test.YtafhdamdkefpkaaPPrepx2
namespace Go.Proofs.Ytafhdamdkefpkaa.PPrep
open Go.RowKit Go.Proofs.YtafhdamdkefpkaaW.PrintWords Go.Proofs.YtafhdamdkefpkaaW.PrintLast Go.Proofs.YtafhdamdkefpkaaW.PrintMore
attribute [local go_sem] max2_int min2_int max_two min_two max_three min_three max_four min_four   -- for this text's walks alone
set_option linter.unusedVariables false
set_option linter.unusedSimpArgs false

/-! ### saleroomref14_Best: function 26 -/
def saleroomref14_Best.l0 : Nat → List (S40) → Int → Int → Int → Option (Int)
  | 0, _, _, _, _ => none
  | k + 1, x0, x1, x5, x6 => if x6 < (x0.length : Int) then (if 0 ≤ x6 then ((saleroomref02_Within.f k ((rd_T40 x0 x6).f0) x1).bind fun t230 => (if t230 = true then (if x5 < 0 then (saleroomref14_Best.l0 k x0 x1 x6 (wrap64 (x6 + 1))) else (if 0 ≤ x5 then (if x5 < (x0.length : Int) then (if ((rd_T40 x0 x6).f1) > ((rd_T40 x0 x5).f1) then (saleroomref14_Best.l0 k x0 x1 x6 (wrap64 (x6 + 1))) else (saleroomref14_Best.l0 k x0 x1 x5 (wrap64 (x6 + 1)))) else (none)) else (none))) else (saleroomref14_Best.l0 k x0 x1 x5 (wrap64 (x6 + 1))))) else (none)) else (some x5)
def saleroomref14_Best.f (k : Nat) (l0 : List (S40)) (a1 : Int) : Option (Int) := saleroomref14_Best.l0 k l0 a1 (-1) 0
theorem saleroomref14_Best.mono_l : ∀ k, (∀ y0 y1 y2 y3, LeO (saleroomref14_Best.l0 k y0 y1 y2 y3) (saleroomref14_Best.l0 (k + 1) y0 y1 y2 y3))
  | 0 => fun _ _ _ _ r h => by simp [saleroomref14_Best.l0] at h
  | k + 1 => by
    have ih0 := saleroomref14_Best.mono_l k
    · intro y0 y1 y2 y3
      unfold saleroomref14_Best.l0
      repeat' first
      | (with_reducible exact ih0 _ _ _ _)
      | (with_reducible exact saleroomref02_Within.mono _ _ _)
      | (with_reducible exact LeO.refl _)
      | (with_reducible exact LeO.none _)
      | (with_reducible refine LeO.ite ?_ ?_)
      | (with_reducible refine LeO.bind ?_ (fun _ => ?_))
      | exact ih0 _ _ _ _
      | exact saleroomref02_Within.mono _ _ _
      | exact LeO.none _
      | refine LeO.ite ?_ ?_
      | refine LeO.bind ?_ (fun _ => ?_)
theorem saleroomref14_Best.mono : ∀ a0 a1 k, LeO (saleroomref14_Best.f k a0 a1) (saleroomref14_Best.f (k + 1) a0 a1) := by
  intro a0 a1 k
  have ih0 := saleroomref14_Best.mono_l k
  unfold saleroomref14_Best.f
  repeat' first
      | (with_reducible exact ih0 _ _ _ _)
      | (with_reducible exact saleroomref02_Within.mono _ _ _)
      | (with_reducible exact LeO.refl _)
      | (with_reducible exact LeO.none _)
      | (with_reducible refine LeO.ite ?_ ?_)
      | (with_reducible refine LeO.bind ?_ (fun _ => ?_))
      | exact ih0 _ _ _ _
      | exact saleroomref02_Within.mono _ _ _
      | exact LeO.none _
      | refine LeO.ite ?_ ?_
      | refine LeO.bind ?_ (fun _ => ?_)
set_option maxHeartbeats 8000000 in
set_option maxRecDepth 100000 in
theorem saleroomref14_Best.calls (k : Nat) (A0 : Option Addr) (c0 : Nat) (l0 : List (S40)) (a1 : Int) (r : Int) (w : World) (hr0 : Kd.C k40 w A0 l0.length l0) (hc0 : l0.length ≤ c0) (h : saleroomref14_Best.f k l0 a1 = some r) :
    Calls Try.prog 26 #[.slice A0 l0.length c0, .int .u64 a1] w fun e w' => e = .returned (.int .i64 r) ∧ Drawn0 w w' := by
  have HR0 := Aside0.mk hr0
  have HC0 := Aside0.mk hc0
  clear hr0 hc0
  have H : (saleroomref14_Best.l0 k l0 a1 (-1) 0) = some r := h
  clear h
  have H' := Aside0.mk H
  clear H
  go_enter Try.func26, Try.ntmps26
  go_wp2
  repeat (go_quiet (fail); try go_wp2)
  go_loopg [5, 6] k (fun kq v5 v6 w' => ∃ (x5_1 : Int) (x6_1 : Int), v5 = .int .i64 x5_1 ∧ v6 = .int .i64 x6_1 ∧ Aside0 (saleroomref14_Best.l0 kq l0 a1 x5_1 x6_1 = some r) ∧ Aside0 (kq ≤ k) ∧ Drawn0 w w')
  case atStart => exact ⟨((-1)), (0), (by first | rfl | (simp; done) | (simp [*]; done)), (by first | rfl | (simp; done) | (simp [*]; done)), H', ⟨Nat.le_refl _⟩, by repeat (first | exact Drawn0.refl _ | apply Drawn0.step)⟩
  case round =>
    clear H'
    try clear c2
    try clear p2
    obtain ⟨x5_1, x6_1, rfl, rfl, HA, HK1, ⟨m1, rfl⟩⟩ := hrel
    cases gk with
    | zero => exact absurd HA.out (by simp [saleroomref14_Best.l0])
    | succ k1 =>
      have H := HA.out
      clear HA
      simp only [saleroomref14_Best.l0] at H
      by_cases c3 : x6_1 < (l0.length : Int)
      · rw [if_pos c3] at H
        have c3b0 : decide (x6_1 < (l0.length : Int)) = true := decide_eq_true c3
        clear c3
        by_cases c4 : 0 ≤ x6_1
        · rw [if_pos c4] at H
          have c4b0 : decide (0 ≤ x6_1) = true := decide_eq_true c4
          clear c4
          replace H := Option.bind_eq_some_iff.mp H
          obtain ⟨t230, A50, H⟩ := H
          replace H : (if t230 = true then (if x5_1 < 0 then (saleroomref14_Best.l0 k1 l0 a1 x6_1 (wrap64 (x6_1 + 1))) else (if 0 ≤ x5_1 then (if x5_1 < (l0.length : Int) then (if ((rd_T40 l0 x6_1).f1) > ((rd_T40 l0 x5_1).f1) then (saleroomref14_Best.l0 k1 l0 a1 x6_1 (wrap64 (x6_1 + 1))) else (saleroomref14_Best.l0 k1 l0 a1 x5_1 (wrap64 (x6_1 + 1)))) else (none)) else (none))) else (saleroomref14_Best.l0 k1 l0 a1 x5_1 (wrap64 (x6_1 + 1)))) = some r := H
          have A5 := Aside0.mk A50
          clear A50
          by_cases c6 : t230 = true
          · subst c6
            have H1 : (if x5_1 < 0 then (saleroomref14_Best.l0 k1 l0 a1 x6_1 (wrap64 (x6_1 + 1))) else (if 0 ≤ x5_1 then (if x5_1 < (l0.length : Int) then (if ((rd_T40 l0 x6_1).f1) > ((rd_T40 l0 x5_1).f1) then (saleroomref14_Best.l0 k1 l0 a1 x6_1 (wrap64 (x6_1 + 1))) else (saleroomref14_Best.l0 k1 l0 a1 x5_1 (wrap64 (x6_1 + 1)))) else (none)) else (none))) = some r := by rw [if_pos rfl] at H; exact H
            clear H
            have H := H1
            clear H1
            by_cases c7 : x5_1 < 0
            · rw [if_pos c7] at H
              have c7b0 : decide (x5_1 < 0) = true := decide_eq_true c7
              clear c7
              have H' := Aside0.mk H
              clear H
              have p229 : 0 ≤ (x6_1 : Int) := of_decide_eq_true (by first | (with_reducible assumption) | assumption)
              have q229 : x6_1 < (l0.length : Int) := of_decide_eq_true (by first | (with_reducible assumption) | assumption)
              obtain ⟨ad229, e229, hx229_0, hx229_1⟩ := at_T40 HR0.out x6_1 p229 q229
              cases e229
              replace p229 := eq_true p229
              replace q229 := eq_true q229
              go_wp2_with (first | (go_at_call 28; (with_reducible refine (saleroomref02_Within.calls k1 ((rd_T40 l0 x6_1).f0) a1 true _ A5.out).mono ?_); rintro e w' ⟨rfl, ⟨nd, rfl⟩⟩; (try first | exact ⟨rfl, _, World.drewN_drewN _ _ _⟩ | exact ⟨rfl, _, Eq.trans (World.drewN_drewN _ _ _) (congrArg (World.drewN _) (Nat.add_assoc _ _ _))⟩)))
              repeat (go_quiet (first | (go_at_call 28; (with_reducible refine (saleroomref02_Within.calls k1 ((rd_T40 l0 x6_1).f0) a1 true _ A5.out).mono ?_); rintro e w' ⟨rfl, ⟨nd, rfl⟩⟩; (try first | exact ⟨rfl, _, World.drewN_drewN _ _ _⟩ | exact ⟨rfl, _, Eq.trans (World.drewN_drewN _ _ _) (congrArg (World.drewN _) (Nat.add_assoc _ _ _))⟩))); try go_wp2_with (first | (go_at_call 28; (with_reducible refine (saleroomref02_Within.calls k1 ((rd_T40 l0 x6_1).f0) a1 true _ A5.out).mono ?_); rintro e w' ⟨rfl, ⟨nd, rfl⟩⟩; (try first | exact ⟨rfl, _, World.drewN_drewN _ _ _⟩ | exact ⟨rfl, _, Eq.trans (World.drewN_drewN _ _ _) (congrArg (World.drewN _) (Nat.add_assoc _ _ _))⟩))))
              go_roundg k1
              case measure => have := HK1.out; omega
              case rel => exact ⟨(x6_1), (wrap64 (x6_1 + 1)), (by first | rfl | (simp; done) | (simp [*]; done)), (by first | rfl | (simp; done) | (simp [*]; done)), H', ⟨by have := HK1.out; omega⟩, by repeat (first | exact Drawn0.refl _ | apply Drawn0.step)⟩
            · rw [if_neg c7] at H
              have c7b0 : decide (x5_1 < 0) = false := decide_eq_false c7
              clear c7
              by_cases c8 : 0 ≤ x5_1
              · rw [if_pos c8] at H
                have c8b0 : decide (0 ≤ x5_1) = true := decide_eq_true c8
                clear c8
                by_cases c9 : x5_1 < (l0.length : Int)
                · rw [if_pos c9] at H
                  have c9b0 : decide (x5_1 < (l0.length : Int)) = true := decide_eq_true c9
                  clear c9
                  by_cases c10 : ((rd_T40 l0 x6_1).f1) > ((rd_T40 l0 x5_1).f1)
                  · rw [if_pos c10] at H
                    have c10b0 : decide (((rd_T40 l0 x5_1).f1) < ((rd_T40 l0 x6_1).f1)) = true := decide_eq_true c10
                    clear c10
                    have H' := Aside0.mk H
                    clear H
                    have p229 : 0 ≤ (x6_1 : Int) := of_decide_eq_true (by first | (with_reducible assumption) | assumption)
                    have q229 : x6_1 < (l0.length : Int) := of_decide_eq_true (by first | (with_reducible assumption) | assumption)
                    obtain ⟨ad229, e229, hx229_0, hx229_1⟩ := at_T40 HR0.out x6_1 p229 q229
                    cases e229
                    replace p229 := eq_true p229
                    replace q229 := eq_true q229
                    go_wp2_with (first | (go_at_call 28; (with_reducible refine (saleroomref02_Within.calls k1 ((rd_T40 l0 x6_1).f0) a1 true _ A5.out).mono ?_); rintro e w' ⟨rfl, ⟨nd, rfl⟩⟩; (try first | exact ⟨rfl, _, World.drewN_drewN _ _ _⟩ | exact ⟨rfl, _, Eq.trans (World.drewN_drewN _ _ _) (congrArg (World.drewN _) (Nat.add_assoc _ _ _))⟩); have p231 : 0 ≤ (x6_1 : Int) := of_decide_eq_true (by first | (with_reducible assumption) | assumption); have q231 : x6_1 < (l0.length : Int) := of_decide_eq_true (by first | (with_reducible assumption) | assumption); obtain ⟨ad231, e231, hx231_0, hx231_1⟩ := at_T40 HR0.out x6_1 p231 q231; obtain rfl : ad229 = ad231 := (by injection e231); replace p231 := eq_true p231; replace q231 := eq_true q231; have p232 : 0 ≤ (x5_1 : Int) := of_decide_eq_true (by first | (with_reducible assumption) | assumption); have q232 : x5_1 < (l0.length : Int) := of_decide_eq_true (by first | (with_reducible assumption) | assumption); obtain ⟨ad232, e232, hx232_0, hx232_1⟩ := at_T40 HR0.out x5_1 p232 q232; obtain rfl : ad229 = ad232 := (by injection e232); replace p232 := eq_true p232; replace q232 := eq_true q232))
                    repeat (go_quiet (first | (go_at_call 28; (with_reducible refine (saleroomref02_Within.calls k1 ((rd_T40 l0 x6_1).f0) a1 true _ A5.out).mono ?_); rintro e w' ⟨rfl, ⟨nd, rfl⟩⟩; (try first | exact ⟨rfl, _, World.drewN_drewN _ _ _⟩ | exact ⟨rfl, _, Eq.trans (World.drewN_drewN _ _ _) (congrArg (World.drewN _) (Nat.add_assoc _ _ _))⟩); have p231 : 0 ≤ (x6_1 : Int) := of_decide_eq_true (by first | (with_reducible assumption) | assumption); have q231 : x6_1 < (l0.length : Int) := of_decide_eq_true (by first | (with_reducible assumption) | assumption); obtain ⟨ad231, e231, hx231_0, hx231_1⟩ := at_T40 HR0.out x6_1 p231 q231; obtain rfl : ad229 = ad231 := (by injection e231); replace p231 := eq_true p231; replace q231 := eq_true q231; have p232 : 0 ≤ (x5_1 : Int) := of_decide_eq_true (by first | (with_reducible assumption) | assumption); have q232 : x5_1 < (l0.length : Int) := of_decide_eq_true (by first | (with_reducible assumption) | assumption); obtain ⟨ad232, e232, hx232_0, hx232_1⟩ := at_T40 HR0.out x5_1 p232 q232; obtain rfl : ad229 = ad232 := (by injection e232); replace p232 := eq_true p232; replace q232 := eq_true q232)); try go_wp2_with (first | (go_at_call 28; (with_reducible refine (saleroomref02_Within.calls k1 ((rd_T40 l0 x6_1).f0) a1 true _ A5.out).mono ?_); rintro e w' ⟨rfl, ⟨nd, rfl⟩⟩; (try first | exact ⟨rfl, _, World.drewN_drewN _ _ _⟩ | exact ⟨rfl, _, Eq.trans (World.drewN_drewN _ _ _) (congrArg (World.drewN _) (Nat.add_assoc _ _ _))⟩); have p231 : 0 ≤ (x6_1 : Int) := of_decide_eq_true (by first | (with_reducible assumption) | assumption); have q231 : x6_1 < (l0.length : Int) := of_decide_eq_true (by first | (with_reducible assumption) | assumption); obtain ⟨ad231, e231, hx231_0, hx231_1⟩ := at_T40 HR0.out x6_1 p231 q231; obtain rfl : ad229 = ad231 := (by injection e231); replace p231 := eq_true p231; replace q231 := eq_true q231; have p232 : 0 ≤ (x5_1 : Int) := of_decide_eq_true (by first | (with_reducible assumption) | assumption); have q232 : x5_1 < (l0.length : Int) := of_decide_eq_true (by first | (with_reducible assumption) | assumption); obtain ⟨ad232, e232, hx232_0, hx232_1⟩ := at_T40 HR0.out x5_1 p232 q232; obtain rfl : ad229 = ad232 := (by injection e232); replace p232 := eq_true p232; replace q232 := eq_true q232)))
                    go_roundg k1
                    case measure => have := HK1.out; omega
                    case rel => exact ⟨(x6_1), (wrap64 (x6_1 + 1)), (by first | rfl | (simp; done) | (simp [*]; done)), (by first | rfl | (simp; done) | (simp [*]; done)), H', ⟨by have := HK1.out; omega⟩, by repeat (first | exact Drawn0.refl _ | apply Drawn0.step)⟩
                  · rw [if_neg c10] at H
                    have c10b0 : decide (((rd_T40 l0 x5_1).f1) < ((rd_T40 l0 x6_1).f1)) = false := decide_eq_false c10
                    clear c10
                    have H' := Aside0.mk H
                    clear H
                    have p229 : 0 ≤ (x6_1 : Int) := of_decide_eq_true (by first | (with_reducible assumption) | assumption)
                    have q229 : x6_1 < (l0.length : Int) := of_decide_eq_true (by first | (with_reducible assumption) | assumption)
                    obtain ⟨ad229, e229, hx229_0, hx229_1⟩ := at_T40 HR0.out x6_1 p229 q229
                    cases e229
                    replace p229 := eq_true p229
                    replace q229 := eq_true q229
                    go_wp2_with (first | (go_at_call 28; (with_reducible refine (saleroomref02_Within.calls k1 ((rd_T40 l0 x6_1).f0) a1 true _ A5.out).mono ?_); rintro e w' ⟨rfl, ⟨nd, rfl⟩⟩; (try first | exact ⟨rfl, _, World.drewN_drewN _ _ _⟩ | exact ⟨rfl, _, Eq.trans (World.drewN_drewN _ _ _) (congrArg (World.drewN _) (Nat.add_assoc _ _ _))⟩); have p231 : 0 ≤ (x6_1 : Int) := of_decide_eq_true (by first | (with_reducible assumption) | assumption); have q231 : x6_1 < (l0.length : Int) := of_decide_eq_true (by first | (with_reducible assumption) | assumption); obtain ⟨ad231, e231, hx231_0, hx231_1⟩ := at_T40 HR0.out x6_1 p231 q231; obtain rfl : ad229 = ad231 := (by injection e231); replace p231 := eq_true p231; replace q231 := eq_true q231; have p232 : 0 ≤ (x5_1 : Int) := of_decide_eq_true (by first | (with_reducible assumption) | assumption); have q232 : x5_1 < (l0.length : Int) := of_decide_eq_true (by first | (with_reducible assumption) | assumption); obtain ⟨ad232, e232, hx232_0, hx232_1⟩ := at_T40 HR0.out x5_1 p232 q232; obtain rfl : ad229 = ad232 := (by injection e232); replace p232 := eq_true p232; replace q232 := eq_true q232))
                    repeat (go_quiet (first | (go_at_call 28; (with_reducible refine (saleroomref02_Within.calls k1 ((rd_T40 l0 x6_1).f0) a1 true _ A5.out).mono ?_); rintro e w' ⟨rfl, ⟨nd, rfl⟩⟩; (try first | exact ⟨rfl, _, World.drewN_drewN _ _ _⟩ | exact ⟨rfl, _, Eq.trans (World.drewN_drewN _ _ _) (congrArg (World.drewN _) (Nat.add_assoc _ _ _))⟩); have p231 : 0 ≤ (x6_1 : Int) := of_decide_eq_true (by first | (with_reducible assumption) | assumption); have q231 : x6_1 < (l0.length : Int) := of_decide_eq_true (by first | (with_reducible assumption) | assumption); obtain ⟨ad231, e231, hx231_0, hx231_1⟩ := at_T40 HR0.out x6_1 p231 q231; obtain rfl : ad229 = ad231 := (by injection e231); replace p231 := eq_true p231; replace q231 := eq_true q231; have p232 : 0 ≤ (x5_1 : Int) := of_decide_eq_true (by first | (with_reducible assumption) | assumption); have q232 : x5_1 < (l0.length : Int) := of_decide_eq_true (by first | (with_reducible assumption) | assumption); obtain ⟨ad232, e232, hx232_0, hx232_1⟩ := at_T40 HR0.out x5_1 p232 q232; obtain rfl : ad229 = ad232 := (by injection e232); replace p232 := eq_true p232; replace q232 := eq_true q232)); try go_wp2_with (first | (go_at_call 28; (with_reducible refine (saleroomref02_Within.calls k1 ((rd_T40 l0 x6_1).f0) a1 true _ A5.out).mono ?_); rintro e w' ⟨rfl, ⟨nd, rfl⟩⟩; (try first | exact ⟨rfl, _, World.drewN_drewN _ _ _⟩ | exact ⟨rfl, _, Eq.trans (World.drewN_drewN _ _ _) (congrArg (World.drewN _) (Nat.add_assoc _ _ _))⟩); have p231 : 0 ≤ (x6_1 : Int) := of_decide_eq_true (by first | (with_reducible assumption) | assumption); have q231 : x6_1 < (l0.length : Int) := of_decide_eq_true (by first | (with_reducible assumption) | assumption); obtain ⟨ad231, e231, hx231_0, hx231_1⟩ := at_T40 HR0.out x6_1 p231 q231; obtain rfl : ad229 = ad231 := (by injection e231); replace p231 := eq_true p231; replace q231 := eq_true q231; have p232 : 0 ≤ (x5_1 : Int) := of_decide_eq_true (by first | (with_reducible assumption) | assumption); have q232 : x5_1 < (l0.length : Int) := of_decide_eq_true (by first | (with_reducible assumption) | assumption); obtain ⟨ad232, e232, hx232_0, hx232_1⟩ := at_T40 HR0.out x5_1 p232 q232; obtain rfl : ad229 = ad232 := (by injection e232); replace p232 := eq_true p232; replace q232 := eq_true q232)))
                    go_roundg k1
                    case measure => have := HK1.out; omega
                    case rel => exact ⟨(x5_1), (wrap64 (x6_1 + 1)), (by first | rfl | (simp; done) | (simp [*]; done)), (by first | rfl | (simp; done) | (simp [*]; done)), H', ⟨by have := HK1.out; omega⟩, by repeat (first | exact Drawn0.refl _ | apply Drawn0.step)⟩
                · rw [if_neg c9] at H
                  exact absurd H (by simp)
              · rw [if_neg c8] at H
                exact absurd H (by simp)
          · replace c6 := Bool.eq_false_iff.mpr c6
            subst c6
            have H1 : (saleroomref14_Best.l0 k1 l0 a1 x5_1 (wrap64 (x6_1 + 1))) = some r := by rw [if_neg (show ¬ (false = true) by decide)] at H; exact H
            clear H
            have H := H1
            clear H1
            have H' := Aside0.mk H
            clear H
            have p229 : 0 ≤ (x6_1 : Int) := of_decide_eq_true (by first | (with_reducible assumption) | assumption)
            have q229 : x6_1 < (l0.length : Int) := of_decide_eq_true (by first | (with_reducible assumption) | assumption)
            obtain ⟨ad229, e229, hx229_0, hx229_1⟩ := at_T40 HR0.out x6_1 p229 q229
            cases e229
            replace p229 := eq_true p229
            replace q229 := eq_true q229
            go_wp2_with (first | (go_at_call 28; (with_reducible refine (saleroomref02_Within.calls k1 ((rd_T40 l0 x6_1).f0) a1 false _ A5.out).mono ?_); rintro e w' ⟨rfl, ⟨nd, rfl⟩⟩; (try first | exact ⟨rfl, _, World.drewN_drewN _ _ _⟩ | exact ⟨rfl, _, Eq.trans (World.drewN_drewN _ _ _) (congrArg (World.drewN _) (Nat.add_assoc _ _ _))⟩)))
            repeat (go_quiet (first | (go_at_call 28; (with_reducible refine (saleroomref02_Within.calls k1 ((rd_T40 l0 x6_1).f0) a1 false _ A5.out).mono ?_); rintro e w' ⟨rfl, ⟨nd, rfl⟩⟩; (try first | exact ⟨rfl, _, World.drewN_drewN _ _ _⟩ | exact ⟨rfl, _, Eq.trans (World.drewN_drewN _ _ _) (congrArg (World.drewN _) (Nat.add_assoc _ _ _))⟩))); try go_wp2_with (first | (go_at_call 28; (with_reducible refine (saleroomref02_Within.calls k1 ((rd_T40 l0 x6_1).f0) a1 false _ A5.out).mono ?_); rintro e w' ⟨rfl, ⟨nd, rfl⟩⟩; (try first | exact ⟨rfl, _, World.drewN_drewN _ _ _⟩ | exact ⟨rfl, _, Eq.trans (World.drewN_drewN _ _ _) (congrArg (World.drewN _) (Nat.add_assoc _ _ _))⟩))))
            go_roundg k1
            case measure => have := HK1.out; omega
            case rel => exact ⟨(x5_1), (wrap64 (x6_1 + 1)), (by first | rfl | (simp; done) | (simp [*]; done)), (by first | rfl | (simp; done) | (simp [*]; done)), H', ⟨by have := HK1.out; omega⟩, by repeat (first | exact Drawn0.refl _ | apply Drawn0.step)⟩
        · rw [if_neg c4] at H
          exact absurd H (by simp)
      · rw [if_neg c3] at H
        have c3b0 : decide (x6_1 < (l0.length : Int)) = false := decide_eq_false c3
        clear c3
        obtain rfl := Option.some.inj H
        go_wp2
        repeat (go_quiet (fail); try go_wp2)
        go_ret
        exact ⟨by first | rfl | (simp; done) | (simp [*]; done), by repeat (first | exact Drawn0.refl _ | apply Drawn0.step)⟩

/-! ### saleroomref01_SameInts: function 29 -/
def saleroomref01_SameInts.l0 : Nat → List Int → List Int → Int → Option (Bool)
  | 0, _, _, _ => none
  | k + 1, x0, x1, x5 => if x5 < (x0.length : Int) then (if 0 ≤ x5 then (if x5 < (x1.length : Int) then (if (rd x0 x5) = (rd x1 x5) then (saleroomref01_SameInts.l0 k x0 x1 (wrap64 (x5 + 1))) else (some false)) else (none)) else (none)) else (some true)
def saleroomref01_SameInts.f (k : Nat) (l0 : List Int) (l1 : List Int) : Option (Bool) := if (l0.length : Int) = (l1.length : Int) then (saleroomref01_SameInts.l0 k l0 l1 0) else (some false)
theorem saleroomref01_SameInts.mono_l : ∀ k, (∀ y0 y1 y2, LeO (saleroomref01_SameInts.l0 k y0 y1 y2) (saleroomref01_SameInts.l0 (k + 1) y0 y1 y2))
  | 0 => fun _ _ _ r h => by simp [saleroomref01_SameInts.l0] at h
  | k + 1 => by
    have ih0 := saleroomref01_SameInts.mono_l k
    · intro y0 y1 y2
      unfold saleroomref01_SameInts.l0
      repeat' first
      | (with_reducible exact ih0 _ _ _)
      | (with_reducible exact LeO.refl _)
      | (with_reducible exact LeO.none _)
      | (with_reducible refine LeO.ite ?_ ?_)
      | (with_reducible refine LeO.bind ?_ (fun _ => ?_))
      | exact ih0 _ _ _
      | exact LeO.none _
      | refine LeO.ite ?_ ?_
      | refine LeO.bind ?_ (fun _ => ?_)
theorem saleroomref01_SameInts.mono : ∀ a0 a1 k, LeO (saleroomref01_SameInts.f k a0 a1) (saleroomref01_SameInts.f (k + 1) a0 a1) := by
  intro a0 a1 k
  have ih0 := saleroomref01_SameInts.mono_l k
  unfold saleroomref01_SameInts.f
  repeat' first
      | (with_reducible exact ih0 _ _ _)
      | (with_reducible exact LeO.refl _)
      | (with_reducible exact LeO.none _)
      | (with_reducible refine LeO.ite ?_ ?_)
      | (with_reducible refine LeO.bind ?_ (fun _ => ?_))
      | exact ih0 _ _ _
      | exact LeO.none _
      | refine LeO.ite ?_ ?_
      | refine LeO.bind ?_ (fun _ => ?_)
set_option maxHeartbeats 8000000 in
set_option maxRecDepth 100000 in
theorem saleroomref01_SameInts.calls (k : Nat) (A0 : Option Addr) (c0 : Nat) (l0 : List Int) (A1 : Option Addr) (c1 : Nat) (l1 : List Int) (r : Bool) (w : World) (hr0 : Kd.C (Kd.int .i64) w A0 l0.length l0) (hc0 : l0.length ≤ c0) (hr1 : Kd.C (Kd.int .i64) w A1 l1.length l1) (hc1 : l1.length ≤ c1) (h : saleroomref01_SameInts.f k l0 l1 = some r) :
    Calls Try.prog 29 #[.slice A0 l0.length c0, .slice A1 l1.length c1] w fun e w' => e = .returned (.bool r) ∧ Drawn0 w w' := by
  have HR0 := Aside0.mk hr0
  have HC0 := Aside0.mk hc0
  clear hr0 hc0
  have HR1 := Aside0.mk hr1
  have HC1 := Aside0.mk hc1
  clear hr1 hc1
  have H : (if (l0.length : Int) = (l1.length : Int) then (saleroomref01_SameInts.l0 k l0 l1 0) else (some false)) = some r := h
  clear h
  by_cases c3 : (l0.length : Int) = (l1.length : Int)
  · rw [if_pos c3] at H
    have c3b0 : ((l0.length : Int) == (l1.length : Int)) = true := beq_iff_eq.mpr c3
    have c3b1 : ((l0.length : Int) != (l1.length : Int)) = false := bne_eq_false_iff_eq.mpr c3
    have c3b2 : (l0.length == l1.length) = true := by first | simpa using c3 | (simp at c3 ⊢; omega)
    clear c3
    have H' := Aside0.mk H
    clear H
    go_enter Try.func29, Try.ntmps29
    go_wp2
    repeat (go_quiet (fail); try go_wp2)
    go_loopg [5] k (fun kq v5 w' => ∃ (x5_1 : Int), v5 = .int .i64 x5_1 ∧ Aside0 (saleroomref01_SameInts.l0 kq l0 l1 x5_1 = some r) ∧ Aside0 (kq ≤ k) ∧ Drawn0 w w')
    case atStart => exact ⟨(0), (by first | rfl | (simp; done) | (simp [*]; done)), H', ⟨Nat.le_refl _⟩, by repeat (first | exact Drawn0.refl _ | apply Drawn0.step)⟩
    case round =>
      clear H'
      try clear c1
      try clear c2
      try clear p2
      try clear c3
      try clear c3b0
      try clear c3b1
      try clear c3b2
      obtain ⟨x5_1, rfl, HA, HK1, ⟨m1, rfl⟩⟩ := hrel
      cases gk with
      | zero => exact absurd HA.out (by simp [saleroomref01_SameInts.l0])
      | succ k1 =>
        have H := HA.out
        clear HA
        simp only [saleroomref01_SameInts.l0] at H
        by_cases c4 : x5_1 < (l0.length : Int)
        · rw [if_pos c4] at H
          have c4b0 : decide (x5_1 < (l0.length : Int)) = true := decide_eq_true c4
          clear c4
          by_cases c5 : 0 ≤ x5_1
          · rw [if_pos c5] at H
            have c5b0 : decide (0 ≤ x5_1) = true := decide_eq_true c5
            clear c5
            by_cases c6 : x5_1 < (l1.length : Int)
            · rw [if_pos c6] at H
              have c6b0 : decide (x5_1 < (l1.length : Int)) = true := decide_eq_true c6
              clear c6
              by_cases c7 : (rd l0 x5_1) = (rd l1 x5_1)
              · rw [if_pos c7] at H
                have c7b0 : ((rd l0 x5_1) == (rd l1 x5_1)) = true := beq_iff_eq.mpr c7
                have c7b1 : ((rd l0 x5_1) != (rd l1 x5_1)) = false := bne_eq_false_iff_eq.mpr c7
                clear c7
                have H' := Aside0.mk H
                clear H
                have p233 : 0 ≤ (x5_1 : Int) := of_decide_eq_true (by first | (with_reducible assumption) | assumption)
                have q233 : x5_1 < (l0.length : Int) := of_decide_eq_true (by first | (with_reducible assumption) | assumption)
                obtain ⟨ad233, e233, hx233_0⟩ := Kd.at_int HR0.out x5_1 p233 q233
                cases e233
                replace p233 := eq_true p233
                replace q233 := eq_true q233
                have p234 : 0 ≤ (x5_1 : Int) := of_decide_eq_true (by first | (with_reducible assumption) | assumption)
                have q234 : x5_1 < (l1.length : Int) := of_decide_eq_true (by first | (with_reducible assumption) | assumption)
                obtain ⟨ad234, e234, hx234_0⟩ := Kd.at_int HR1.out x5_1 p234 q234
                cases e234
                replace p234 := eq_true p234
                replace q234 := eq_true q234
                go_wp2
                repeat (go_quiet (fail); try go_wp2)
                go_roundg k1
                case measure => have := HK1.out; omega
                case rel => exact ⟨(wrap64 (x5_1 + 1)), (by first | rfl | (simp; done) | (simp [*]; done)), H', ⟨by have := HK1.out; omega⟩, by repeat (first | exact Drawn0.refl _ | apply Drawn0.step)⟩
              · rw [if_neg c7] at H
                have c7b0 : ((rd l0 x5_1) == (rd l1 x5_1)) = false := beq_eq_false_iff_ne.mpr c7
                have c7b1 : ((rd l0 x5_1) != (rd l1 x5_1)) = true := bne_iff_ne.mpr c7
                obtain rfl := Option.some.inj H
                have p233 : 0 ≤ (x5_1 : Int) := of_decide_eq_true (by first | (with_reducible assumption) | assumption)
                have q233 : x5_1 < (l0.length : Int) := of_decide_eq_true (by first | (with_reducible assumption) | assumption)
                obtain ⟨ad233, e233, hx233_0⟩ := Kd.at_int HR0.out x5_1 p233 q233
                cases e233
                replace p233 := eq_true p233
                replace q233 := eq_true q233
                have p234 : 0 ≤ (x5_1 : Int) := of_decide_eq_true (by first | (with_reducible assumption) | assumption)
                have q234 : x5_1 < (l1.length : Int) := of_decide_eq_true (by first | (with_reducible assumption) | assumption)
                obtain ⟨ad234, e234, hx234_0⟩ := Kd.at_int HR1.out x5_1 p234 q234
                cases e234
                replace p234 := eq_true p234
                replace q234 := eq_true q234
                go_wp2
                repeat (go_quiet (fail); try go_wp2)
                go_ret
                exact ⟨by first | rfl | (simp; done) | (simp [*]; done), by repeat (first | exact Drawn0.refl _ | apply Drawn0.step)⟩
            · rw [if_neg c6] at H
              exact absurd H (by simp)
          · rw [if_neg c5] at H
            exact absurd H (by simp)
        · rw [if_neg c4] at H
          have c4b0 : decide (x5_1 < (l0.length : Int)) = false := decide_eq_false c4
          clear c4
          obtain rfl := Option.some.inj H
          go_wp2
          repeat (go_quiet (fail); try go_wp2)
          go_ret
          exact ⟨by first | rfl | (simp; done) | (simp [*]; done), by repeat (first | exact Drawn0.refl _ | apply Drawn0.step)⟩
  · rw [if_neg c3] at H
    have c3b0 : ((l0.length : Int) == (l1.length : Int)) = false := beq_eq_false_iff_ne.mpr c3
    have c3b1 : ((l0.length : Int) != (l1.length : Int)) = true := bne_iff_ne.mpr c3
    have c3b2 : (l0.length == l1.length) = false := by first | simpa using c3 | (simp at c3 ⊢; omega)
    obtain rfl := Option.some.inj H
    go_enter Try.func29, Try.ntmps29
    go_wp2
    repeat (go_quiet (fail); try go_wp2)
    go_ret
    exact ⟨by first | rfl | (simp; done) | (simp [*]; done), by repeat (first | exact Drawn0.refl _ | apply Drawn0.step)⟩

-- NOT PRINTED: function 5 (saleroomlaw14_PrepFrees)

/-! ### saleroomref02_Apart: function 51 -/
def saleroomref02_Apart.l0 : Nat → Int → Int → Int → Option (Bool)
  | 0, _, _, _ => none
  | k + 1, x0, x1, x5 => if x5 < 64 then ((saleroomref02_Has.f k x0 x5).bind fun t235 => (if t235 = true then ((saleroomref02_Has.f k x1 x5).bind fun t236 => (if t236 = true then (some false) else (saleroomref02_Apart.l0 k x0 x1 (wrap64 (x5 + 1))))) else (saleroomref02_Apart.l0 k x0 x1 (wrap64 (x5 + 1))))) else (some true)
def saleroomref02_Apart.f (k : Nat) (a0 : Int) (a1 : Int) : Option (Bool) := saleroomref02_Apart.l0 k a0 a1 0
theorem saleroomref02_Apart.mono_l : ∀ k, (∀ y0 y1 y2, LeO (saleroomref02_Apart.l0 k y0 y1 y2) (saleroomref02_Apart.l0 (k + 1) y0 y1 y2))
  | 0 => fun _ _ _ r h => by simp [saleroomref02_Apart.l0] at h
  | k + 1 => by
    have ih0 := saleroomref02_Apart.mono_l k
    · intro y0 y1 y2
      unfold saleroomref02_Apart.l0
      repeat' first
      | (with_reducible exact ih0 _ _ _)
      | (with_reducible exact saleroomref02_Has.mono _ _ _)
      | (with_reducible exact LeO.refl _)
      | (with_reducible exact LeO.none _)
      | (with_reducible refine LeO.ite ?_ ?_)
      | (with_reducible refine LeO.bind ?_ (fun _ => ?_))
      | exact ih0 _ _ _
      | exact saleroomref02_Has.mono _ _ _
      | exact LeO.none _
      | refine LeO.ite ?_ ?_
      | refine LeO.bind ?_ (fun _ => ?_)
theorem saleroomref02_Apart.mono : ∀ a0 a1 k, LeO (saleroomref02_Apart.f k a0 a1) (saleroomref02_Apart.f (k + 1) a0 a1) := by
  intro a0 a1 k
  have ih0 := saleroomref02_Apart.mono_l k
  unfold saleroomref02_Apart.f
  repeat' first
      | (with_reducible exact ih0 _ _ _)
      | (with_reducible exact saleroomref02_Has.mono _ _ _)
      | (with_reducible exact LeO.refl _)
      | (with_reducible exact LeO.none _)
      | (with_reducible refine LeO.ite ?_ ?_)
      | (with_reducible refine LeO.bind ?_ (fun _ => ?_))
      | exact ih0 _ _ _
      | exact saleroomref02_Has.mono _ _ _
      | exact LeO.none _
      | refine LeO.ite ?_ ?_
      | refine LeO.bind ?_ (fun _ => ?_)
set_option maxHeartbeats 8000000 in
set_option maxRecDepth 100000 in
theorem saleroomref02_Apart.calls (k : Nat) (a0 : Int) (a1 : Int) (r : Bool) (w : World) (h : saleroomref02_Apart.f k a0 a1 = some r) :
    Calls Try.prog 51 #[.int .u64 a0, .int .u64 a1] w fun e w' => e = .returned (.bool r) ∧ Drawn0 w w' := by
  have H : (saleroomref02_Apart.l0 k a0 a1 0) = some r := h
  clear h
  have H' := Aside0.mk H
  clear H
  go_enter Try.func51, Try.ntmps51
  go_wp2
  go_loopg [5] k (fun kq v5 w' => ∃ (x5_1 : Int), v5 = .int .i64 x5_1 ∧ Aside0 (saleroomref02_Apart.l0 kq a0 a1 x5_1 = some r) ∧ Aside0 (kq ≤ k) ∧ Drawn0 w w')
  case atStart => exact ⟨(0), (by first | rfl | (simp; done) | (simp [*]; done)), H', ⟨Nat.le_refl _⟩, by repeat (first | exact Drawn0.refl _ | apply Drawn0.step)⟩
  case round =>
    clear H'
    try clear p2
    obtain ⟨x5_1, rfl, HA, HK1, ⟨m1, rfl⟩⟩ := hrel
    cases gk with
    | zero => exact absurd HA.out (by simp [saleroomref02_Apart.l0])
    | succ k1 =>
      have H := HA.out
      clear HA
      simp only [saleroomref02_Apart.l0] at H
      by_cases c3 : x5_1 < 64
      · rw [if_pos c3] at H
        have c3b0 : decide (x5_1 < 64) = true := decide_eq_true c3
        clear c3
        replace H := Option.bind_eq_some_iff.mp H
        obtain ⟨t235, A40, H⟩ := H
        replace H : (if t235 = true then ((saleroomref02_Has.f k1 a1 x5_1).bind fun t236 => (if t236 = true then (some false) else (saleroomref02_Apart.l0 k1 a0 a1 (wrap64 (x5_1 + 1))))) else (saleroomref02_Apart.l0 k1 a0 a1 (wrap64 (x5_1 + 1)))) = some r := H
        have A4 := Aside0.mk A40
        clear A40
        by_cases c5 : t235 = true
        · subst c5
          have H1 : ((saleroomref02_Has.f k1 a1 x5_1).bind fun t236 => (if t236 = true then (some false) else (saleroomref02_Apart.l0 k1 a0 a1 (wrap64 (x5_1 + 1))))) = some r := by rw [if_pos rfl] at H; exact H
          clear H
          have H := H1
          clear H1
          replace H := Option.bind_eq_some_iff.mp H
          obtain ⟨t236, A60, H⟩ := H
          replace H : (if t236 = true then (some false) else (saleroomref02_Apart.l0 k1 a0 a1 (wrap64 (x5_1 + 1)))) = some r := H
          have A6 := Aside0.mk A60
          clear A60
          by_cases c7 : t236 = true
          · subst c7
            have H1 : (some false) = some r := by rw [if_pos rfl] at H; exact H
            clear H
            have H := H1
            clear H1
            obtain rfl := Option.some.inj H
            go_wp2_with (first | ((with_reducible refine gate_callee (f := 50) rfl ?_); refine goesL_ (some 12) rfl rfl Try.func50 (by kernel_rfl) rfl #[.int .u64 a0, .int .i64 x5_1] rfl (by (try simp only [List.map_toArray, List.map_cons, List.map_nil]); first | done | rfl | (simp only [List.length_drop, List.length_take]; rfl)) ?_; (with_reducible refine (saleroomref02_Has.calls k1 a0 x5_1 true _ A4.out).mono ?_); rintro e w' ⟨rfl, ⟨nd, rfl⟩⟩; refine ⟨_, rfl, ?_⟩) | (go_at_call 50; (with_reducible refine (saleroomref02_Has.calls k1 a1 x5_1 true _ A6.out).mono ?_); rintro e w' ⟨rfl, ⟨nd, rfl⟩⟩))
            go_ret
            exact ⟨by first | rfl | (simp; done) | (simp [*]; done), by repeat (first | exact Drawn0.refl _ | apply Drawn0.step)⟩
          · replace c7 := Bool.eq_false_iff.mpr c7
            subst c7
            have H1 : (saleroomref02_Apart.l0 k1 a0 a1 (wrap64 (x5_1 + 1))) = some r := by rw [if_neg (show ¬ (false = true) by decide)] at H; exact H
            clear H
            have H := H1
            clear H1
            have H' := Aside0.mk H
            clear H
            go_wp2_with (first | ((with_reducible refine gate_callee (f := 50) rfl ?_); refine goesL_ (some 12) rfl rfl Try.func50 (by kernel_rfl) rfl #[.int .u64 a0, .int .i64 x5_1] rfl (by (try simp only [List.map_toArray, List.map_cons, List.map_nil]); first | done | rfl | (simp only [List.length_drop, List.length_take]; rfl)) ?_; (with_reducible refine (saleroomref02_Has.calls k1 a0 x5_1 true _ A4.out).mono ?_); rintro e w' ⟨rfl, ⟨nd, rfl⟩⟩; refine ⟨_, rfl, ?_⟩) | (go_at_call 50; (with_reducible refine (saleroomref02_Has.calls k1 a1 x5_1 false _ A6.out).mono ?_); rintro e w' ⟨rfl, ⟨nd, rfl⟩⟩))
            go_roundg k1
            case measure => have := HK1.out; omega
            case rel => exact ⟨(wrap64 (x5_1 + 1)), (by first | rfl | (simp; done) | (simp [*]; done)), H', ⟨by have := HK1.out; omega⟩, by repeat (first | exact Drawn0.refl _ | apply Drawn0.step)⟩
        · replace c5 := Bool.eq_false_iff.mpr c5
          subst c5
          have H1 : (saleroomref02_Apart.l0 k1 a0 a1 (wrap64 (x5_1 + 1))) = some r := by rw [if_neg (show ¬ (false = true) by decide)] at H; exact H
          clear H
          have H := H1
          clear H1
          have H' := Aside0.mk H
          clear H
          go_wp2_with (first | ((with_reducible refine gate_callee (f := 50) rfl ?_); refine goesL_ (some 12) rfl rfl Try.func50 (by kernel_rfl) rfl #[.int .u64 a0, .int .i64 x5_1] rfl (by (try simp only [List.map_toArray, List.map_cons, List.map_nil]); first | done | rfl | (simp only [List.length_drop, List.length_take]; rfl)) ?_; (with_reducible refine (saleroomref02_Has.calls k1 a0 x5_1 false _ A4.out).mono ?_); rintro e w' ⟨rfl, ⟨nd, rfl⟩⟩; refine ⟨_, rfl, ?_⟩))
          go_roundg k1
          case measure => have := HK1.out; omega
          case rel => exact ⟨(wrap64 (x5_1 + 1)), (by first | rfl | (simp; done) | (simp [*]; done)), H', ⟨by have := HK1.out; omega⟩, by repeat (first | exact Drawn0.refl _ | apply Drawn0.step)⟩
      · rw [if_neg c3] at H
        have c3b0 : decide (x5_1 < 64) = false := decide_eq_false c3
        clear c3
        obtain rfl := Option.some.inj H
        go_wp2
        go_ret
        exact ⟨by first | rfl | (simp; done) | (simp [*]; done), by repeat (first | exact Drawn0.refl _ | apply Drawn0.step)⟩

end Go.Proofs.Ytafhdamdkefpkaa.PPrep

/- Plain: the reference's One is the program's. -/
import Derived.Test.YtafhdamdkefpkaaPPrepx4
import Derived.Test.YtafhdamdkefpkaaPlSet
namespace Go.Proofs.Ytafhdamdkefpkaa
open Go.RowKit Go.Proofs.YtafhdamdkefpkaaW.PrintWords Go.Proofs.YtafhdamdkefpkaaW.PrintLast Go.Proofs.YtafhdamdkefpkaaW.PrintMore Go.Proofs.Ytafhdamdkefpkaa.PPrep
set_option linter.unusedVariables false
set_option linter.unusedSimpArgs false

theorem rright_f (x : S40) : saleroomref14_Right.f x.f0 x.f1 = some (rightB x) := right_f x
theorem rd_nat (xs : List S40) (i : Nat) (h : i < xs.length) : rd_T40 xs (i : Int) = xs[i] := by simp [rd_T40, List.getD, h]
theorem rd_mem (xs : List S40) (i : Nat) (h : i < xs.length) : rd_T40 xs (i : Int) ∈ xs := by rw [rd_nat xs i h]; exact List.getElem_mem h

def DomR (xs : List S40) (i : Nat) (b0 b1 : Int) (j : Nat) : Prop := j ≠ i ∧ rightB (rd_T40 xs (j : Int)) = true ∧ withinB (rd_T40 xs (j : Int)).f0 b0 = true ∧ ¬ (rd_T40 xs (j : Int)).f1 < b1
def OkR (xs : List S40) (i : Nat) (b0 b1 : Int) (j : Nat) : Prop := ((rd_T40 xs (j : Int)).f0 = b0 ∧ (rd_T40 xs (j : Int)).f1 = b1) ∧ i < j
def RestR (xs : List S40) (i : Nat) (b0 b1 : Int) (j : Nat) : Prop := ∀ j', j ≤ j' → j' < xs.length → DomR xs i b0 b1 j' → OkR xs i b0 b1 j'
theorem restR_step {xs : List S40} {i : Nat} {b0 b1 : Int} {j : Nat} (h : j < xs.length) : RestR xs i b0 b1 j ↔ (DomR xs i b0 b1 j → OkR xs i b0 b1 j) ∧ RestR xs i b0 b1 (j + 1) := by
  constructor
  · exact fun k => ⟨k j (Nat.le_refl _) h, fun j' h1 h2 => k j' (by omega) h2⟩
  · rintro ⟨k1, k2⟩ j' h1 h2
    rcases Nat.lt_or_ge j j' with h3 | h3
    · exact k2 j' h3 h2
    · rw [show j' = j from by omega]; exact k1

theorem one_l1 (xs out : List S40) (i : Nat) (b0 b1 : Int) (r : List S40) (hu : ∀ x ∈ xs, U64B x) (hb0 : 0 ≤ b0 ∧ b0 < 18446744073709551616) (hn : xs.length ≤ 1000000) : ∀ (d j : Nat) (keep : Bool), j + d = xs.length →
    (keep = true ∧ RestR xs i b0 b1 j → Ev (fun k => saleroomref14_One.l2 k xs out (i : Int) [] false 0 b0 b1) r) →
    (¬ (keep = true ∧ RestR xs i b0 b1 j) → Ev (fun k => saleroomref14_One.l0 k xs out (wrap64 ((i : Int) + 1))) r) →
    Ev (fun k => saleroomref14_One.l1 k xs out (i : Int) keep (j : Int) b0 b1) r := by
  intro d
  induction d with
  | zero =>
    intro j keep h hT hF
    refine Ev.step (fun k => by simp only [saleroomref14_One.l1]; rfl) ?_
    simp only [if_neg (show ¬ ((j : Int) < (xs.length : Int)) from by omega)]
    refine Ev.step (fun k => by simp only [saleroomref14_One.j2]; rfl) ?_
    simp only [Bool.false_eq_true, if_false]
    have hR : RestR xs i b0 b1 j := fun j' h1 h2 => by omega
    cases keep with
    | true => simp only [if_true]; exact hT ⟨rfl, hR⟩
    | false => simp only [Bool.false_eq_true, if_false]; exact hF (fun h => by cases h.1)
  | succ d ih =>
    intro j keep h hT hF
    have hj : j < xs.length := by omega
    refine Ev.step (fun k => by simp only [saleroomref14_One.l1]; rfl) ?_
    simp only [if_pos (show ((j : Int) < (xs.length : Int)) from by omega)]
    refine Ev.step (fun k => by simp only [saleroomref14_One.j2]; rfl) ?_
    cases keep with
    | false =>
      simp only [Bool.false_eq_true, if_false]
      exact hF (fun h => by cases h.1)
    | true =>
      simp only [if_true, if_pos (show (0 : Int) ≤ (j : Int) from by omega), if_pos (show ((j : Int) < (xs.length : Int)) from by omega), wrapN j (by omega)]
      rw [restR_step hj] at hT hF
      -- what remains when this one does not matter
      have skip : ¬ DomR xs i b0 b1 j → Ev (fun k => saleroomref14_One.l1 k xs out (i : Int) true ((j + 1 : Nat) : Int) b0 b1) r := fun hD =>
        ih (j + 1) true (by omega) (fun h => hT ⟨rfl, fun h' => absurd h' hD, h.2⟩) (fun h => hF (fun h' => h ⟨rfl, h'.2.2⟩))
      by_cases e : (j : Int) = (i : Int)
      · simp only [if_pos e]
        exact skip (fun h => h.1 (by omega))
      · simp only [if_neg e, rright_f, Option.bind_some]
        cases hr : rightB (rd_T40 xs (j : Int)) with
        | false =>
          simp only [Bool.false_eq_true, if_false]
          exact skip (fun h => by have h' := h.2.1; rw [hr] at h'; exact absurd h' (by decide))
        | true =>
          simp only [if_true]
          refine Ev.bind (a := withinB (rd_T40 xs (j : Int)).f0 b0) ⟨140, fun k hk => within_f k _ _ hk (hu _ (rd_mem xs j hj)) hb0⟩ ?_
          cases hw : withinB (rd_T40 xs (j : Int)).f0 b0 with
          | false =>
            simp only [Bool.false_eq_true, if_false]
            exact skip (fun h => by have h' := h.2.2.1; rw [hw] at h'; exact absurd h' (by decide))
          | true =>
            simp only [if_true]
            by_cases c : (rd_T40 xs (j : Int)).f1 < b1
            · simp only [if_pos c]
              exact skip (fun h => h.2.2.2 c)
            · simp only [if_neg c]
              have hD : DomR xs i b0 b1 j := ⟨by omega, hr, hw, c⟩
              by_cases ce : ((rd_T40 xs (j : Int)).f0 == b0 && ((rd_T40 xs (j : Int)).f1 == b1)) = true
              · have ce' : (rd_T40 xs (j : Int)).f0 = b0 ∧ (rd_T40 xs (j : Int)).f1 = b1 := by simpa using ce
                simp only [ce, if_true]
                refine ih (j + 1) _ (by omega) (fun h => hT ⟨rfl, fun _ => ⟨ce', by have := of_decide_eq_true h.1; omega⟩, h.2⟩) (fun h => hF (fun h' => h ⟨?_, h'.2.2⟩))
                have := (h'.2.1 hD).2
                exact decide_eq_true (by omega)
              · have ce' : ((rd_T40 xs (j : Int)).f0 == b0 && ((rd_T40 xs (j : Int)).f1 == b1)) = false := by simpa using ce
                simp only [ce', Bool.false_eq_true, if_false]
                refine ih (j + 1) _ (by omega) (fun h => by cases h.1) (fun _ => hF (fun h' => ?_))
                have := (h'.2.1 hD).1
                exact ce (by simp [this])

/-- A bid put in order. -/
def insR (b : S40) : List S40 → List S40
  | [] => [b]
  | c :: l => if scmp b.f0.toNat c.f0.toNat < 0 then b :: c :: l else c :: insR b l
theorem insR_length (b : S40) (l : List S40) : (insR b l).length = l.length + 1 := by
  induction l with
  | nil => rfl
  | cons c l ih => unfold insR; split <;> simp [ih]
theorem insR_mem (b : S40) (l : List S40) (x : S40) : x ∈ insR b l ↔ x = b ∨ x ∈ l := by
  induction l with
  | nil => simp [insR]
  | cons c l ih =>
    unfold insR
    split
    · simp
    · simp only [List.mem_cons, ih]
      constructor
      · rintro (h | h | h)
        · exact .inr (.inl h)
        · exact .inl h
        · exact .inr (.inr h)
      · rintro (h | h | h)
        · exact .inr (.inl h)
        · exact .inl h
        · exact .inr (.inr h)

theorem drop_rd (xs : List S40) (j : Nat) (h : j < xs.length) : xs.drop j = rd_T40 xs (j : Int) :: xs.drop (j + 1) := by
  rw [rd_nat xs j h]; exact List.drop_eq_getElem_cons h
theorem one_l2 (xs out : List S40) (i : Nat) (b0 b1 : Int) (r : List S40) (hb0 : 0 ≤ b0 ∧ b0 < 18446744073709551616) (hu : ∀ x ∈ out, U64B x) (hn : out.length ≤ 1000000) : ∀ (d j : Nat) (acc : List S40) (done : Bool), j + d = out.length → acc.length ≤ 2 * j + 2 →
    Ev (fun k => saleroomref14_One.l0 k xs (acc ++ (if done then out.drop j else insR ⟨b0, b1⟩ (out.drop j))) (wrap64 ((i : Int) + 1))) r →
    Ev (fun k => saleroomref14_One.l2 k xs out (i : Int) acc done (j : Int) b0 b1) r := by
  intro d
  induction d with
  | zero =>
    intro j acc done h ha hE
    refine Ev.step (fun k => by simp only [saleroomref14_One.l2]; rfl) ?_
    have hd : out.drop j = [] := List.drop_eq_nil_of_le (by omega)
    simp only [if_neg (show ¬ ((j : Int) < (out.length : Int)) from by omega)]
    rw [hd] at hE
    cases done with
    | true => simpa using hE
    | false =>
      simp only [Bool.false_eq_true, if_false, if_pos (show acc.length < 8796093022208 from by omega)]
      simpa [insR] using hE
  | succ d ih =>
    intro j acc done h ha hE
    have hj : j < out.length := by omega
    refine Ev.step (fun k => by simp only [saleroomref14_One.l2]; rfl) ?_
    simp only [if_pos (show ((j : Int) < (out.length : Int)) from by omega), if_pos (show (0 : Int) ≤ (j : Int) from by omega), if_pos (show acc.length < 8796093022208 from by omega), wrapN j (by omega)]
    rw [drop_rd out j hj] at hE
    cases done with
    | true =>
      simp only [if_true] at hE ⊢
      refine ih (j + 1) _ true (by omega) (by simp; omega) ?_
      simpa using hE
    | false =>
      simp only [Bool.false_eq_true, if_false] at hE ⊢
      obtain ⟨c, hcf, hc⟩ := cmp_f 140 b0 (rd_T40 out (j : Int)).f0 (Nat.le_refl _) hb0 (hu _ (rd_mem out j hj))
      have hEc : Ev (fun k => saleroomref02_Cmp.f k b0 (rd_T40 out (j : Int)).f0) c := by
        refine ⟨140, fun k hk => ?_⟩
        have h1 := at_rounds (fun k => saleroomref02_Cmp.mono b0 (rd_T40 out (j : Int)).f0 k) hk hcf
        exact h1
      refine Ev.bind (a := c) hEc ?_
      unfold insR at hE
      by_cases h1 : c < 0
      · have h2 := hc.1 h1
        rw [if_pos h2] at hE
        simp only [if_pos h1, Option.bind_some]
        simp only [if_pos (show (acc ++ [(⟨b0, b1⟩ : S40)]).length < 8796093022208 from by simp; omega)]
        refine ih (j + 1) _ true (by omega) (by simp; omega) ?_
        simpa using hE
      · have h2 : ¬ scmp b0.toNat (rd_T40 out (j : Int)).f0.toNat < 0 := fun h => h1 (hc.2 h)
        rw [if_neg h2] at hE
        simp only [if_neg h1]
        refine ih (j + 1) _ false (by omega) (by simp; omega) ?_
        simpa using hE

def KeepR (xs : List S40) (i : Nat) : Prop := rightB (rd_T40 xs (i : Int)) = true ∧ RestR xs i (rd_T40 xs (i : Int)).f0 (rd_T40 xs (i : Int)).f1 0
open Classical in
/-- The reference's clean bids of the first i. -/
noncomputable def refTo (xs : List S40) : Nat → List S40
  | 0 => []
  | i + 1 => if KeepR xs i then insR (rd_T40 xs (i : Int)) (refTo xs i) else refTo xs i
theorem refTo_length (xs : List S40) (i : Nat) : (refTo xs i).length ≤ i := by
  induction i with
  | zero => simp [refTo]
  | succ i ih =>
    unfold refTo
    split
    · rw [insR_length]; omega
    · omega
theorem refTo_mem (xs : List S40) (i : Nat) (x : S40) : x ∈ refTo xs i ↔ ∃ j, j < i ∧ KeepR xs j ∧ x = rd_T40 xs (j : Int) := by
  induction i with
  | zero => simp [refTo]
  | succ i ih =>
    unfold refTo
    split
    · rename_i h
      rw [insR_mem, ih]
      constructor
      · rintro (rfl | ⟨j, h1, h2, h3⟩)
        · exact ⟨i, by omega, h, rfl⟩
        · exact ⟨j, by omega, h2, h3⟩
      · rintro ⟨j, h1, h2, h3⟩
        by_cases e : j = i
        · subst e; exact .inl h3
        · exact .inr ⟨j, by omega, h2, h3⟩
    · rename_i h
      rw [ih]
      constructor
      · rintro ⟨j, h1, h2, h3⟩; exact ⟨j, by omega, h2, h3⟩
      · rintro ⟨j, h1, h2, h3⟩
        by_cases e : j = i
        · subst e; exact absurd h2 h
        · exact ⟨j, by omega, h2, h3⟩
theorem one_l0 (xs : List S40) (hu : ∀ x ∈ xs, U64B x) (hn : xs.length ≤ 1000000) : ∀ (d i : Nat), i + d = xs.length →
    Ev (fun k => saleroomref14_One.l0 k xs (refTo xs i) (i : Int)) (refTo xs xs.length) := by
  intro d
  induction d with
  | zero =>
    intro i h
    refine Ev.step (fun k => by simp only [saleroomref14_One.l0]; rfl) ?_
    simp only [if_neg (show ¬ ((i : Int) < (xs.length : Int)) from by omega)]
    rw [show i = xs.length from by omega]
    exact Ev.now _
  | succ d ih =>
    intro i h
    have hi : i < xs.length := by omega
    refine Ev.step (fun k => by simp only [saleroomref14_One.l0]; rfl) ?_
    simp only [if_pos (show ((i : Int) < (xs.length : Int)) from by omega), if_pos (show (0 : Int) ≤ (i : Int) from by omega), rright_f, Option.bind_some]
    have hui := hu _ (rd_mem xs i hi)
    have hut : ∀ x ∈ refTo xs i, U64B x := fun x hx => by
      obtain ⟨j, h1, _, rfl⟩ := (refTo_mem xs i x).1 hx
      exact hu _ (rd_mem xs j (by omega))
    have hlt := refTo_length xs i
    have hnext := ih (i + 1) (by omega)
    rw [refTo] at hnext
    refine one_l1 xs (refTo xs i) i _ _ _ hu hui hn xs.length 0 _ (by omega) (fun hk => ?_) (fun hk => ?_)
    · rw [if_pos (show KeepR xs i from hk)] at hnext
      refine one_l2 xs (refTo xs i) i _ _ _ hui hut (by omega) (refTo xs i).length 0 [] false (by omega) (by simp) ?_
      rw [wrapN i (by omega)]
      simpa using hnext
    · rw [if_neg (show ¬ KeepR xs i from hk)] at hnext
      rw [wrapN i (by omega)]
      exact hnext
theorem refOne_f (xs : List S40) (hu : ∀ x ∈ xs, U64B x) (hn : xs.length ≤ 1000000) : Ev (fun k => saleroomref14_One.f k xs) (refTo xs xs.length) := by
  unfold saleroomref14_One.f
  exact one_l0 xs hu hn xs.length 0 (by omega)

/-! The same list. -/
def ltS (a b : S40) : Prop := scmp a.f0.toNat b.f0.toNat < 0
theorem ltS_iff {a b : S40} : ltS a b ↔ Lib.onesCount a.f0.toNat < Lib.onesCount b.f0.toNat ∨ (Lib.onesCount a.f0.toNat = Lib.onesCount b.f0.toNat ∧ a.f0.toNat < b.f0.toNat) := scmp_neg
theorem insR_sorted (b : S40) (l : List S40) (h : l.Pairwise ltS) (hne : ∀ c ∈ l, c.f0.toNat ≠ b.f0.toNat) : (insR b l).Pairwise ltS := by
  induction l with
  | nil => simp [insR]
  | cons c l ih =>
    have h1 := List.pairwise_cons.1 h
    unfold insR
    split
    · rename_i hlt
      refine List.pairwise_cons.2 ⟨fun x hx => ?_, h⟩
      rcases List.mem_cons.1 hx with rfl | hx
      · exact hlt
      · have h2 := ltS_iff.1 (h1.1 x hx)
        have h3 := ltS_iff.1 (show ltS b c from hlt)
        exact ltS_iff.2 (by omega)
    · rename_i hlt
      refine List.pairwise_cons.2 ⟨fun x hx => ?_, ih h1.2 (fun d hd => hne d (List.mem_cons_of_mem _ hd))⟩
      rcases (insR_mem b l x).1 hx with rfl | hx
      · have h3 : ¬ ltS x c := hlt
        rw [ltS_iff] at h3
        have h4 := hne c List.mem_cons_self
        exact ltS_iff.2 (by omega)
      · exact h1.1 x hx
theorem sorted_unique {l m : List S40} (hl : l.Pairwise ltS) (hm : m.Pairwise ltS) (h : ∀ x, x ∈ l ↔ x ∈ m) : l = m := by
  have irr : ∀ x, ¬ ltS x x := fun x h => by rw [ltS_iff] at h; omega
  have nd : ∀ {l : List S40}, l.Pairwise ltS → l.Nodup := fun h => h.imp (fun {a b} hab e => by subst e; exact irr _ hab)
  have hp : l.Perm m := (List.perm_ext_iff_of_nodup (nd hl) (nd hm)).2 h
  refine List.Perm.eq_of_pairwise (le := fun a b => a = b ∨ ltS a b) (fun a b _ _ h1 h2 => ?_) (hl.imp .inr) (hm.imp .inr) hp
  rcases h1 with h1 | h1
  · exact h1
  · rcases h2 with h2 | h2
    · exact h2.symm
    · rw [ltS_iff] at h1 h2; omega

theorem withinB_iff {x y : Int} (hx : 0 ≤ x ∧ x < 18446744073709551616) (hy : 0 ≤ y ∧ y < 18446744073709551616) : withinB x y = true ↔ ∀ j, x.toNat.testBit j = true → y.toNat.testBit j = true := by
  obtain ⟨a, rfl⟩ := Int.eq_ofNat_of_zero_le hx.1
  obtain ⟨b, rfl⟩ := Int.eq_ofNat_of_zero_le hy.1
  exact withinB_nat a b (by omega) (by omega)
theorem withinB_refl {x : Int} (hx : 0 ≤ x ∧ x < 18446744073709551616) : withinB x x = true := (withinB_iff hx hx).2 (fun _ h => h)
theorem withinB_trans {x y z : Int} (hx : 0 ≤ x ∧ x < 18446744073709551616) (hy : 0 ≤ y ∧ y < 18446744073709551616) (hz : 0 ≤ z ∧ z < 18446744073709551616) (h1 : withinB x y = true) (h2 : withinB y z = true) : withinB x z = true :=
  (withinB_iff hx hz).2 (fun j h => (withinB_iff hy hz).1 h2 j ((withinB_iff hx hy).1 h1 j h))
/-- A set within another one stands ahead of it. -/
theorem within_ahead {a b : Nat} (ha : a < 18446744073709551616) (hb : b < 18446744073709551616) (h : ∀ j, a.testBit j = true → b.testBit j = true) (hne : a ≠ b) : Lib.onesCount a < Lib.onesCount b := by
  unfold Lib.onesCount
  rw [popAux_bits, popAux_bits]
  have hs : ∀ n, ((List.range n).filter fun j => a.testBit j).length ≤ ((List.range n).filter fun j => b.testBit j).length ∧ ((∃ j, j < n ∧ a.testBit j ≠ b.testBit j) → ((List.range n).filter fun j => a.testBit j).length < ((List.range n).filter fun j => b.testBit j).length) := by
    intro n
    induction n with
    | zero => exact ⟨by simp, fun ⟨j, h, _⟩ => by omega⟩
    | succ n ih =>
      rw [List.range_succ, List.filter_append, List.filter_append, List.length_append, List.length_append]
      have hn := h n
      refine ⟨?_, ?_⟩
      · cases ea : a.testBit n <;> cases eb : b.testBit n <;> simp_all <;> omega
      · rintro ⟨j, hj, hjn⟩
        by_cases e : j = n
        · subst e
          have := ih.1
          cases ea : a.testBit j <;> cases eb : b.testBit j <;> simp_all <;> omega
        · have := ih.2 ⟨j, by omega, hjn⟩
          cases ea : a.testBit n <;> cases eb : b.testBit n <;> simp_all <;> omega
  refine (hs 64).2 ?_
  apply Classical.byContradiction
  intro hno
  refine hne (Nat.eq_of_testBit_eq (fun j => ?_))
  rcases Nat.lt_or_ge j 64 with hj | hj
  · apply Classical.byContradiction
    exact fun h' => hno ⟨j, hj, h'⟩
  · rw [testBit_hi ha hj, testBit_hi hb hj]

/-- b is one of the bids, right, and none other of them has as much of no more. -/
def Und (xs : List S40) (b : S40) : Prop := b ∈ xs ∧ rightB b = true ∧ ∀ c ∈ xs, rightB c = true → withinB c.f0 b.f0 = true → b.f1 ≤ c.f1 → c = b
theorem mem_rd {xs : List S40} {x : S40} (h : x ∈ xs) : ∃ j, j < xs.length ∧ rd_T40 xs (j : Int) = x := by
  obtain ⟨j, hj, e⟩ := List.getElem_of_mem h
  exact ⟨j, hj, by rw [rd_nat xs j hj, e]⟩
theorem mem_first {xs : List S40} {x : S40} (h : x ∈ xs) : ∃ j, j < xs.length ∧ rd_T40 xs (j : Int) = x ∧ ∀ i, i < j → rd_T40 xs (i : Int) ≠ x := by
  obtain ⟨j, hj, e⟩ := mem_rd h
  induction j using Nat.strongRecOn with
  | ind j ih =>
    by_cases hh : ∃ i, i < j ∧ rd_T40 xs (i : Int) = x
    · obtain ⟨i, hi, ei⟩ := hh
      exact ih i hi (by omega) ei
    · exact ⟨j, hj, e, fun i hi he => hh ⟨i, hi, he⟩⟩
theorem S40.ext_ {a b : S40} (h0 : a.f0 = b.f0) (h1 : a.f1 = b.f1) : a = b := by cases a; cases b; simp_all
theorem ref_und {xs : List S40} (hu : ∀ x ∈ xs, U64B x) (x : S40) : x ∈ refTo xs xs.length ↔ Und xs x := by
  rw [refTo_mem]
  constructor
  · rintro ⟨j, hj, ⟨hr, hk⟩, rfl⟩
    refine ⟨rd_mem xs j hj, hr, fun c hc hrc hw hp => ?_⟩
    obtain ⟨i, hi, rfl⟩ := mem_rd hc
    by_cases e : i = j
    · rw [e]
    · have := (hk i (Nat.zero_le _) hi ⟨e, hrc, hw, by omega⟩).1
      exact S40.ext_ this.1 this.2
  · rintro ⟨hx, hr, hd⟩
    obtain ⟨j, hj, rfl, hf⟩ := mem_first hx
    refine ⟨j, hj, ⟨hr, fun i _ hi hD => ?_⟩, rfl⟩
    have e := hd _ (rd_mem xs i hi) hD.2.1 hD.2.2.1 (by have := hD.2.2.2; omega)
    refine ⟨by rw [e]; exact ⟨rfl, rfl⟩, ?_⟩
    apply Classical.byContradiction
    intro hn
    have := hD.1
    exact hf i (by omega) e
theorem ref_sorted {xs : List S40} (hu : ∀ x ∈ xs, U64B x) : ∀ i, i ≤ xs.length → (refTo xs i).Pairwise ltS := by
  intro i
  induction i with
  | zero => intro _; simp [refTo]
  | succ i ih =>
    intro hi
    unfold refTo
    split
    · rename_i hk
      refine insR_sorted _ _ (ih (by omega)) (fun c hc e => ?_)
      obtain ⟨j, hj, hkj, rfl⟩ := (refTo_mem xs i c).1 hc
      have uj := hu _ (rd_mem xs j (by omega))
      have ui := hu _ (rd_mem xs i (by omega))
      have e0 : (rd_T40 xs (j : Int)).f0 = (rd_T40 xs (i : Int)).f0 := by unfold U64B at uj ui; omega
      have w1 : withinB (rd_T40 xs (j : Int)).f0 (rd_T40 xs (i : Int)).f0 = true := by rw [e0]; exact withinB_refl ui
      have w2 : withinB (rd_T40 xs (i : Int)).f0 (rd_T40 xs (j : Int)).f0 = true := by rw [e0]; exact withinB_refl ui
      by_cases c : (rd_T40 xs (j : Int)).f1 < (rd_T40 xs (i : Int)).f1
      · have := (hkj.2 i (Nat.zero_le _) (by omega) ⟨by omega, hk.1, w2, by omega⟩).1.2
        omega
      · have h1 := hk.2 j (Nat.zero_le _) (by omega) ⟨by omega, hkj.1, w1, c⟩
        have := h1.2
        omega
    · exact ih (by omega)
end Go.Proofs.Ytafhdamdkefpkaa

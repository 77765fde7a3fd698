/- Plain: who belongs together; prep.group gives it; the reference's marks give it; the groups are the same, and apart. -/
import Derived.Test.YtafhdamdkefpkaaPPrepx8
import Derived.Test.YtafhdamdkefpkaaPlCl1
namespace Go.Proofs.Ytafhdamdkefpkaa
open Go.RowKit Go.Proofs.YtafhdamdkefpkaaW.PrintWords Go.Proofs.YtafhdamdkefpkaaW.PrintLast Go.Proofs.YtafhdamdkefpkaaW.PrintMore Go.Proofs.Ytafhdamdkefpkaa.PPrep
set_option linter.unusedVariables false
set_option linter.unusedSimpArgs false

def uBit (us : List Int) (i b : Nat) : Prop := (us.getD i 0).toNat.testBit b = true
/-- Two bidders with an item in common. -/
def Adj (us : List Int) (i j : Nat) : Prop := ∃ b, uBit us i b ∧ uBit us j b
inductive Conn (us : List Int) : Nat → Nat → Prop
  | refl (i : Nat) : Conn us i i
  | tail {i j k : Nat} : Conn us i j → Adj us j k → Conn us i k
theorem Adj.symm {us : List Int} {i j : Nat} (h : Adj us i j) : Adj us j i := by obtain ⟨b, h1, h2⟩ := h; exact ⟨b, h2, h1⟩
theorem Conn.trans {us : List Int} {i j k : Nat} (h1 : Conn us i j) (h2 : Conn us j k) : Conn us i k := by
  induction h2 with
  | refl => exact h1
  | tail _ ha ih => exact .tail ih ha
theorem Conn.head {us : List Int} {i j k : Nat} (ha : Adj us i j) (h : Conn us j k) : Conn us i k := Conn.trans (.tail (.refl i) ha) h
theorem Conn.symm {us : List Int} {i j : Nat} (h : Conn us i j) : Conn us j i := by
  induction h with
  | refl => exact .refl _
  | tail _ ha ih => exact Conn.head ha.symm ih
theorem uBit_lt {us : List Int} {i b : Nat} (h : uBit us i b) : i < us.length := by
  apply Classical.byContradiction
  intro hn
  unfold uBit at h
  rw [List.getD_eq_getElem?_getD, List.getElem?_eq_none (by omega)] at h
  simp at h
theorem Conn.lt {us : List Int} {i j : Nat} (h : Conn us i j) (hi : i < us.length) : j < us.length := by
  cases h with
  | refl => exact hi
  | tail _ ha => obtain ⟨b, _, h2⟩ := ha; exact uBit_lt h2
/-- Whoever belongs to another one has an item. -/
theorem Conn.bit {us : List Int} {i j : Nat} (h : Conn us i j) (hne : i ≠ j) : (∃ b, uBit us i b) ∧ ∃ b, uBit us j b := by
  have h1 : ∀ {i j : Nat}, Conn us i j → i ≠ j → ∃ b, uBit us j b := by
    intro i j h hne
    cases h with
    | refl => exact absurd rfl hne
    | tail _ ha => obtain ⟨b, _, h2⟩ := ha; exact ⟨b, h2⟩
  exact ⟨h1 h.symm (fun e => hne e.symm), h1 h hne⟩
def UsOk (us : List Int) : Prop := ∀ i, 0 ≤ us.getD i 0 ∧ us.getD i 0 < 18446744073709551616
theorem apartB_iff {x y : Int} (hx : 0 ≤ x ∧ x < 18446744073709551616) (hy : 0 ≤ y ∧ y < 18446744073709551616) : apartB x y = true ↔ ∀ b, ¬ (x.toNat.testBit b = true ∧ y.toNat.testBit b = true) := by
  obtain ⟨a, rfl⟩ := Int.eq_ofNat_of_zero_le hx.1
  obtain ⟨b, rfl⟩ := Int.eq_ofNat_of_zero_le hy.1
  exact apartB_nat a b (by omega) (by omega)
theorem adj_iff {us : List Int} (h : UsOk us) (i j : Nat) : apartB (us.getD i 0) (us.getD j 0) = false ↔ Adj us i j := by
  rw [← Bool.not_eq_true, apartB_iff (h i) (h j)]
  constructor
  · intro hn
    apply Classical.byContradiction
    intro hno
    exact hn (fun b hb => hno ⟨b, hb.1, hb.2⟩)
  · rintro ⟨b, h1, h2⟩ hn
    exact hn b ⟨h1, h2⟩

/-! ### the program's group -/
/-- f: who is in; items: their items. -/
structure GInv (us : List Int) (first : Nat) (f : Int → Bool) (items : Int) : Prop where
  start : f (first : Int) = true
  conn : ∀ j : Nat, j < us.length → f (j : Int) = true → Conn us first j
  rng : 0 ≤ items ∧ items < 18446744073709551616
  bits : ∀ b, items.toNat.testBit b = true ↔ ∃ j : Nat, j < us.length ∧ f (j : Int) = true ∧ uBit us j b
theorem or_int {x y : Int} (hx : 0 ≤ x ∧ x < 18446744073709551616) (hy : 0 ≤ y ∧ y < 18446744073709551616) : (0 ≤ Go.bits .or .u64 x y ∧ Go.bits .or .u64 x y < 18446744073709551616) ∧ ∀ b, (Go.bits .or .u64 x y).toNat.testBit b = (x.toNat.testBit b || y.toNat.testBit b) := by
  obtain ⟨a, rfl⟩ := Int.eq_ofNat_of_zero_le hx.1
  obtain ⟨c, rfl⟩ := Int.eq_ofNat_of_zero_le hy.1
  have ha : a < 18446744073709551616 := by omega
  have hc : c < 18446744073709551616 := by omega
  rw [or_u64 a c ha hc]
  have : a ||| c < 2 ^ 64 := Nat.or_lt_two_pow ha hc
  refine ⟨by omega, fun b => ?_⟩
  simp [Nat.testBit_or]
theorem gStep_inv {us : List Int} (hus : UsOk us) {first : Nat} {st : (Int → Bool) × Int × Bool} (h : GInv us first st.1 st.2.1) {i : Nat} (hi : i < us.length) : GInv us first (gStep us st i).1 (gStep us st i).2.1 := by
  unfold gStep
  split
  · rename_i hc
    rw [Bool.and_eq_true, Bool.not_eq_true', Bool.not_eq_true'] at hc
    obtain ⟨h1, h2⟩ := hc
    obtain ⟨hr, hb⟩ := or_int h.rng (hus i)
    have hci : Conn us first i := by
      have h3 : ¬ apartB (us.getD i 0) st.2.1 = true := by rw [h2]; decide
      rw [apartB_iff (hus i) h.rng] at h3
      apply Classical.byContradiction
      intro hno
      refine h3 (fun b hbb => hno ?_)
      obtain ⟨j, hj, hfj, hjb⟩ := (h.bits b).1 hbb.2
      exact .tail (h.conn j hj hfj) ⟨b, hjb, hbb.1⟩
    refine ⟨?_, fun j hj hfj => ?_, hr, fun b => ?_⟩
    · show (decide ((first : Int) = (i : Int)) || st.1 (first : Int)) = true
      rw [h.start, Bool.or_true]
    · have : decide ((j : Int) = (i : Int)) || st.1 (j : Int) := hfj
      rcases (Bool.or_eq_true _ _).mp this with h3 | h3
      · have : j = i := by have := of_decide_eq_true h3; omega
        rw [this]; exact hci
      · exact h.conn j hj h3
    · show (Go.bits .or .u64 st.2.1 (us.getD i 0)).toNat.testBit b = true ↔ ∃ j : Nat, j < us.length ∧ (decide ((j : Int) = (i : Int)) || st.1 (j : Int)) = true ∧ uBit us j b
      rw [hb, Bool.or_eq_true, h.bits]
      constructor
      · rintro (⟨j, hj, hf, hjb⟩ | h3)
        · exact ⟨j, hj, by rw [hf, Bool.or_true], hjb⟩
        · exact ⟨i, hi, by simp, h3⟩
      · rintro ⟨j, hj, hf, hjb⟩
        rcases (Bool.or_eq_true _ _).mp hf with h3 | h3
        · have : j = i := by have := of_decide_eq_true h3; omega
          rw [this] at hjb
          exact .inr hjb
        · exact .inl ⟨j, hj, h3, hjb⟩
  · exact h
theorem passTo_inv {us : List Int} (hus : UsOk us) {first : Nat} {f : Int → Bool} {items : Int} (h : GInv us first f items) : ∀ i, i ≤ us.length → GInv us first (passTo us (f, items, false) i).1 (passTo us (f, items, false) i).2.1
  | 0, _ => h
  | i + 1, hi => gStep_inv hus (passTo_inv hus h i (by omega)) (by omega)
theorem passTo_flag (us : List Int) (f : Int → Bool) (items : Int) : ∀ i, (passTo us (f, items, false) i).2.2 = false → passTo us (f, items, false) i = (f, items, false) ∧ ∀ j : Nat, j < i → f (j : Int) = true ∨ apartB (us.getD j 0) items = true
  | 0, _ => ⟨rfl, fun j h => by omega⟩
  | i + 1, h => by
    have e : passTo us (f, items, false) (i + 1) = gStep us (passTo us (f, items, false) i) i := rfl
    rw [e] at h ⊢
    unfold gStep at h ⊢
    split at h
    · cases h
    · rename_i hc
      obtain ⟨h1, h2⟩ := passTo_flag us f items i h
      rw [if_neg hc]
      refine ⟨h1, fun j hj => ?_⟩
      rcases Nat.lt_or_ge j i with h3 | h3
      · exact h2 j h3
      · have : j = i := by omega
        subst this
        rw [h1] at hc
        simp only [Bool.and_eq_true, Bool.not_eq_true'] at hc
        cases h3 : f (j : Int)
        · cases h4 : apartB (us.getD j 0) items
          · exact absurd ⟨h3, h4⟩ hc
          · exact .inr rfl
        · exact .inl rfl
theorem gStep_missing {us : List Int} {st : (Int → Bool) × Int × Bool} {i n : Nat} (hi : i < n) : missing n (gStep us st i).1 ≤ missing n st.1 ∧ ((gStep us st i).2.2 = true → st.2.2 = true ∨ missing n (gStep us st i).1 < missing n st.1) := by
  unfold gStep
  split
  · rename_i hc
    rw [Bool.and_eq_true, Bool.not_eq_true'] at hc
    have := missing_put hi hc.1
    exact ⟨by show missing n (fun j => decide (j = (i : Int)) || st.1 j) ≤ _; omega, fun _ => .inr (by show missing n (fun j => decide (j = (i : Int)) || st.1 j) < _; omega)⟩
  · exact ⟨Nat.le_refl _, fun h => .inl h⟩
theorem passTo_missing (us : List Int) (f : Int → Bool) (items : Int) (n : Nat) : ∀ i, i ≤ n → missing n (passTo us (f, items, false) i).1 ≤ missing n f ∧ ((passTo us (f, items, false) i).2.2 = true → missing n (passTo us (f, items, false) i).1 < missing n f)
  | 0, _ => ⟨Nat.le_refl _, fun h => by cases h⟩
  | i + 1, hi => by
    obtain ⟨h1, h2⟩ := passTo_missing us f items n i (by omega)
    obtain ⟨h3, h4⟩ := gStep_missing (us := us) (st := passTo us (f, items, false) i) (show i < n from by omega)
    refine ⟨Nat.le_trans h3 h1, fun h => ?_⟩
    rcases h4 h with h5 | h5
    · exact Nat.lt_of_le_of_lt h3 (h2 h5)
    · exact Nat.lt_of_lt_of_le h5 h1
theorem passes_conn {us : List Int} (hus : UsOk us) {first : Nat} (hf : first < us.length) : ∀ (k : Nat) (f : Int → Bool) (items : Int), GInv us first f items → missing us.length f < k → ∀ j : Nat, j < us.length → (passes us k f items (j : Int) = true ↔ Conn us first j)
  | 0, _, _, _, h => by omega
  | k + 1, f, items, h, hm => by
    intro j hj
    unfold passes
    have hp := passTo_inv hus h us.length (Nat.le_refl _)
    have hmm := passTo_missing us f items us.length us.length (Nat.le_refl _)
    show (if (passTo us (f, items, false) us.length).2.2 then passes us k (passTo us (f, items, false) us.length).1 (passTo us (f, items, false) us.length).2.1 else (passTo us (f, items, false) us.length).1) (j : Int) = true ↔ _
    cases hg : (passTo us (f, items, false) us.length).2.2 with
    | true =>
      simp only [if_true]
      exact passes_conn hus hf k _ _ hp (by have := hmm.2 hg; omega) j hj
    | false =>
      simp only [Bool.false_eq_true, if_false]
      obtain ⟨e, hcl⟩ := passTo_flag us f items us.length hg
      rw [e]
      refine ⟨fun h1 => h.conn j hj h1, fun hc => ?_⟩
      show f (j : Int) = true
      clear hj
      induction hc with
      | refl => exact h.start
      | @tail a c hac had ih =>
        have ha := Conn.lt hac hf
        have hc' : c < us.length := by obtain ⟨b, _, h2⟩ := had; exact uBit_lt h2
        have hfa := ih
        rcases hcl c hc' with h3 | h3
        · exact h3
        · exfalso
          obtain ⟨b, h4, h5⟩ := had
          exact (apartB_iff (hus c) h.rng).1 h3 b ⟨h5, (h.bits b).2 ⟨a, ha, hfa, h4⟩⟩
theorem start_inv {us : List Int} (hus : UsOk us) {first : Nat} (hf : first < us.length) : GInv us first (fun j => decide (j = (first : Int))) (us.getD first 0) := by
  refine ⟨by simp, fun j hj h => ?_, hus first, fun b => ?_⟩
  · have : j = first := by have := of_decide_eq_true h; omega
    rw [this]; exact .refl _
  · constructor
    · exact fun h => ⟨first, hf, by simp, h⟩
    · rintro ⟨j, hj, h, hb⟩
      have : j = first := by have := of_decide_eq_true h; omega
      rw [this] at hb; exact hb
theorem missing_le (n : Nat) (f : Int → Bool) : missing n f ≤ n := by
  unfold missing
  exact Nat.le_trans (List.length_filter_le _ _) (by simp)
open Classical in
/-- Who belongs to one. -/
noncomputable def classL (us : List Int) (i : Nat) : List Int := ((List.range us.length).filter fun k => decide (Conn us i k)).map fun (k : Nat) => (k : Int)
open Classical in
theorem groupL_class {us : List Int} (hus : UsOk us) {first : Nat} (hf : first < us.length) : groupL us first = classL us first := by
  unfold groupL classL
  congr 1
  refine List.filter_congr (fun k hk => ?_)
  have := passes_conn hus hf (us.length + 1) _ _ (start_inv hus hf) (by have := missing_le us.length (fun j => decide (j = (first : Int))); omega) k (List.mem_range.1 hk)
  rw [Bool.eq_iff_iff, this, decide_eq_true_eq]
theorem classL_mem (us : List Int) (i : Nat) (hi : i < us.length) (k : Nat) : (k : Int) ∈ classL us i ↔ Conn us i k := by
  unfold classL
  rw [List.mem_map]
  constructor
  · rintro ⟨j, hj, e⟩
    have : j = k := by omega
    subst this
    simpa using (List.mem_filter.1 hj).2
  · intro h
    exact ⟨k, List.mem_filter.2 ⟨List.mem_range.2 (Conn.lt h hi), by simpa using h⟩, rfl⟩
end Go.Proofs.Ytafhdamdkefpkaa

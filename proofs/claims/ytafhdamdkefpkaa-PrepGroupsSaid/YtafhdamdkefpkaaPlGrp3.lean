/- Plain: the reference's Groups are prep.Groups'; groups have no item in common. -/
import Derived.Test.YtafhdamdkefpkaaPlGrp2
import Derived.Test.YtafhdamdkefpkaaPrepAll
namespace Go.Proofs.Ytafhdamdkefpkaa
open Go.RowKit Go.Proofs.YtafhdamdkefpkaaW.PrintWords Go.Proofs.YtafhdamdkefpkaaW.PrintLast Go.Proofs.YtafhdamdkefpkaaW.PrintMore Go.Proofs.Ytafhdamdkefpkaa.PPrep
set_option linter.unusedVariables false
set_option linter.unusedSimpArgs false

/-- The marked ones among the first n that have a bid. -/
def rgTo (xss : List (List S40)) (mark : List Int) (i n : Nat) : List Int := ((List.range n).filter fun (k : Nat) => decide (rd mark (k : Int) = (i : Int)) && decide (0 < (rd_L3 xss (k : Int)).length)).map fun (k : Nat) => (k : Int)
theorem rgTo_succ (xss : List (List S40)) (mark : List Int) (i n : Nat) : rgTo xss mark i (n + 1) = rgTo xss mark i n ++ (if (decide (rd mark (n : Int) = (i : Int)) && decide (0 < (rd_L3 xss (n : Int)).length)) = true then [(n : Int)] else []) := by
  unfold rgTo
  rw [List.range_succ, List.filter_append, List.map_append]
  congr 1
  rw [List.filter_cons]
  split <;> simp
theorem rgTo_le (xss : List (List S40)) (mark : List Int) (i n : Nat) : (rgTo xss mark i n).length ≤ n := by
  unfold rgTo
  rw [List.length_map]
  exact Nat.le_trans (List.length_filter_le _ _) (by simp)
def rOut (xss : List (List S40)) (mark : List Int) : Nat → List (List Int)
  | 0 => []
  | i + 1 => if (rgTo xss mark i xss.length).length > 0 then rOut xss mark i ++ [rgTo xss mark i xss.length] else rOut xss mark i
theorem rOut_le (xss : List (List S40)) (mark : List Int) (i : Nat) : (rOut xss mark i).length ≤ i := by
  induction i with
  | zero => simp [rOut]
  | succ i ih =>
    unfold rOut
    split
    · rw [List.length_append, List.length_singleton]; omega
    · omega
theorem marks_l5 (xss : List (List S40)) (hn : xss.length ≤ 1000000) (mark : List Int) (hml : mark.length = xss.length) (r : List (List Int)) (i : Nat) (hi : i < xss.length) (out : List (List Int)) (ho : out.length ≤ i)
    (hE : Ev (fun q => saleroomref14_Groups.l4 q xss mark (if (rgTo xss mark i xss.length).length > 0 then out ++ [rgTo xss mark i xss.length] else out) ((i + 1 : Nat) : Int)) r) : ∀ (d k : Nat), k + d = xss.length →
    Ev (fun q => saleroomref14_Groups.l5 q xss mark out (i : Int) (rgTo xss mark i k) (k : Int)) r := by
  intro d
  induction d with
  | zero =>
    intro k h
    refine Ev.step (fun q => by simp only [saleroomref14_Groups.l5]; rfl) ?_
    simp only [if_neg (show ¬ ((k : Int) < (xss.length : Int)) from by omega), wrapM i _ hi (by omega)]
    rw [show k = xss.length from by omega]
    by_cases c : (rgTo xss mark i xss.length).length > 0
    · rw [if_pos c] at hE
      simp only [if_pos (show ((rgTo xss mark i xss.length).length : Int) > 0 from by omega), if_pos (show out.length < 5864062014805 from by omega)]
      exact hE
    · rw [if_neg c] at hE
      simp only [if_neg (show ¬ ((rgTo xss mark i xss.length).length : Int) > 0 from by omega)]
      exact hE
  | succ d ih =>
    intro k h
    have hk : k < xss.length := by omega
    have hle := rgTo_le xss mark i k
    refine Ev.step (fun q => by simp only [saleroomref14_Groups.l5]; rfl) ?_
    simp only [if_pos (show ((k : Int) < (xss.length : Int)) from by omega), if_pos (show (0 : Int) ≤ (k : Int) from by omega), if_pos (show ((k : Int) < (mark.length : Int)) from by omega), wrapM k _ hk (by omega)]
    have hnext := ih (k + 1) (by omega)
    rw [rgTo_succ] at hnext
    by_cases c : rd mark (k : Int) = (i : Int)
    · simp only [if_pos c]
      by_cases c2 : ((rd_L3 xss (k : Int)).length : Int) > 0
      · simp only [if_pos c2, if_pos (show (rgTo xss mark i k).length < 17592186044416 from by omega)]
        rw [if_pos (by rw [decide_eq_true c, decide_eq_true (show 0 < (rd_L3 xss (k : Int)).length from by omega)]; rfl)] at hnext
        exact hnext
      · simp only [if_neg c2]
        rw [if_neg (by rw [decide_eq_false (show ¬ 0 < (rd_L3 xss (k : Int)).length from by omega)]; simp), List.append_nil] at hnext
        exact hnext
    · simp only [if_neg c]
      rw [if_neg (by rw [decide_eq_false c]; simp), List.append_nil] at hnext
      exact hnext
theorem marks_l4 (xss : List (List S40)) (hn : xss.length ≤ 1000000) (mark : List Int) (hml : mark.length = xss.length) : ∀ (d i : Nat), i + d = xss.length →
    Ev (fun q => saleroomref14_Groups.l4 q xss mark (rOut xss mark i) (i : Int)) (rOut xss mark xss.length) := by
  intro d
  induction d with
  | zero =>
    intro i h
    refine Ev.step (fun q => by simp only [saleroomref14_Groups.l4]; rfl) ?_
    simp only [if_neg (show ¬ ((i : Int) < (xss.length : Int)) from by omega)]
    rw [show i = xss.length from by omega]
    exact Ev.now _
  | succ d ih =>
    intro i h
    have hi : i < xss.length := by omega
    refine Ev.step (fun q => by simp only [saleroomref14_Groups.l4]; rfl) ?_
    simp only [if_pos (show ((i : Int) < (xss.length : Int)) from by omega)]
    have hnext := ih (i + 1) (by omega)
    rw [rOut] at hnext
    exact marks_l5 xss hn mark hml _ i hi _ (rOut_le xss mark i) hnext xss.length 0 (by omega)
theorem marks_l0 (xss : List (List S40)) (hn : xss.length ≤ 1000000) (r : List (List Int)) (hE : Ev (fun q => saleroomref14_Groups.l1 q xss ((List.range xss.length).map fun (k : Nat) => (k : Int)) 0) r) : ∀ (d i : Nat), i + d = xss.length →
    Ev (fun q => saleroomref14_Groups.l0 q xss ((List.range i).map fun (k : Nat) => (k : Int)) (i : Int)) r := by
  intro d
  induction d with
  | zero =>
    intro i h
    refine Ev.step (fun q => by simp only [saleroomref14_Groups.l0]; rfl) ?_
    simp only [if_neg (show ¬ ((i : Int) < (xss.length : Int)) from by omega)]
    rw [show i = xss.length from by omega]
    exact hE
  | succ d ih =>
    intro i h
    have hi : i < xss.length := by omega
    refine Ev.step (fun q => by simp only [saleroomref14_Groups.l0]; rfl) ?_
    simp only [if_pos (show ((i : Int) < (xss.length : Int)) from by omega), if_pos (show ((List.range i).map fun (k : Nat) => (k : Int)).length < 17592186044416 from by simp; omega), wrapM i _ hi (by omega)]
    have hnext := ih (i + 1) (by omega)
    rw [List.range_succ, List.map_append] at hnext
    exact hnext

/-! the program's -/
theorem markL_get (seen : List Bool) (g : List Int) (hg : ∀ k ∈ g, 0 ≤ k) (j : Nat) (hj : j < seen.length) : (markL seen g).getD j false = true ↔ seen.getD j false = true ∨ (j : Int) ∈ g := by
  induction g generalizing seen with
  | nil => simp [markL]
  | cons k g ih =>
    have h := ih (seen.set k.toNat true) (fun k hk => hg k (List.mem_cons_of_mem _ hk)) (by simpa using hj)
    have hk := hg k List.mem_cons_self
    show (markL (seen.set k.toNat true) g).getD j false = true ↔ _
    rw [h, List.getD_eq_getElem?_getD, List.getElem?_set, List.getD_eq_getElem?_getD, List.mem_cons]
    by_cases e : k.toNat = j
    · have : (j : Int) = k := by omega
      rw [if_pos e]
      simp [show k.toNat < seen.length from by omega, this]
    · have : ¬ (j : Int) = k := by omega
      rw [if_neg e]
      simp [this]
theorem rdL_getD (xss : List (List S40)) (i : Nat) : rd_L3 xss (i : Int) = xss.getD i [] := by simp [rd_L3]
/-- Whoever has an item has a bid. -/
theorem bit_len (xss : List (List S40)) {i b : Nat} (h : uBit (xss.map uniL) i b) : i < xss.length ∧ 0 < (rd_L3 xss (i : Int)).length := by
  have hi : i < xss.length := by have := uBit_lt h; simpa using this
  refine ⟨hi, ?_⟩
  rw [rdL_nat xss i hi]
  unfold uBit at h
  rw [rd_us xss i hi] at h
  cases hx : xss[i] with
  | nil => rw [hx] at h; simp [uniL] at h
  | cons x xs => simp
open Classical in
theorem groups_eq (xss : List (List S40)) (hu : ∀ xs ∈ xss, ∀ x ∈ xs, U64B x) (mark : List Int) (ho : MOK (xss.map uniL) mark) (hf : ∀ i : Nat, i < xss.length → MFin (xss.map uniL) mark i) : ∀ i, i ≤ xss.length →
    (∀ j : Nat, j < xss.length → ((gsTo xss i).1.getD j false = true ↔ ∃ m : Nat, m < i ∧ 0 < (rd_L3 xss (m : Int)).length ∧ Conn (xss.map uniL) m j)) ∧ (gsTo xss i).2 = rOut xss mark i := by
  have hus := usOk_of hu
  have hul : (xss.map uniL).length = xss.length := by simp
  intro i
  induction i with
  | zero =>
    intro _
    refine ⟨fun j hj => ?_, rfl⟩
    show (List.replicate xss.length false).getD j false = true ↔ _
    rw [List.getD_eq_getElem?_getD, List.getElem?_replicate]
    simp [hj]
  | succ i ih =>
    intro hi
    obtain ⟨h1, h2⟩ := ih (by omega)
    have hil : i < xss.length := by omega
    have hlen := gsTo_length xss i
    obtain ⟨mi, hmi, hci, hmle⟩ := ho.2 i (by omega)
    have hstep : gsTo xss (i + 1) = gsStep xss (gsTo xss i) i := rfl
    have hsi := h1 i hil
    -- what the reference does at i
    have href : 0 < (rgTo xss mark i xss.length).length ↔ 0 < (rd_L3 xss (i : Int)).length ∧ ¬ ∃ m : Nat, m < i ∧ 0 < (rd_L3 xss (m : Int)).length ∧ Conn (xss.map uniL) m i := by
      constructor
      · intro h
        obtain ⟨x, hx⟩ := List.exists_mem_of_length_pos h
        obtain ⟨k, hk, rfl⟩ := List.mem_map.1 hx
        have hkf := (List.mem_filter.1 hk)
        have hkl := List.mem_range.1 hkf.1
        rw [Bool.and_eq_true, decide_eq_true_eq, decide_eq_true_eq] at hkf
        obtain ⟨hk1, hk2⟩ := hkf.2
        obtain ⟨mk, hmk, hck, hmkle⟩ := ho.2 k (by omega)
        have e : mk = i := by omega
        subst e
        refine ⟨?_, ?_⟩
        · by_cases e : mk = k
          · rw [e]; exact hk2
          · obtain ⟨b, hb⟩ := (Conn.bit hck.symm e).1
            exact (bit_len xss hb).2
        · rintro ⟨m, hm1, hm2, hm3⟩
          have := hf k hkl m (hck.trans hm3.symm)
          omega
      · rintro ⟨g1, g2⟩
        have hmin : rd mark (i : Int) = (i : Int) := by
          by_cases e : mi = i
          · rw [hmi, e]
          · exfalso
            obtain ⟨b, hb⟩ := (Conn.bit hci.symm e).1
            exact g2 ⟨mi, by omega, (bit_len xss hb).2, hci.symm⟩
        have : (i : Int) ∈ rgTo xss mark i xss.length := List.mem_map.2 ⟨i, List.mem_filter.2 ⟨List.mem_range.2 hil, by rw [decide_eq_true hmin, decide_eq_true g1]; rfl⟩, rfl⟩
        exact List.length_pos_of_mem this
    by_cases c : (gsTo xss i).1.getD i false = true ∨ (rd_L3 xss (i : Int)).isEmpty = true
    · have hs : gsTo xss (i + 1) = gsTo xss i := by
        rw [hstep]
        unfold gsStep
        rw [if_pos (by rw [Bool.or_eq_true]; exact c)]
      have hno : ¬ 0 < (rgTo xss mark i xss.length).length := by
        rw [href]
        rintro ⟨g1, g2⟩
        rcases c with c | c
        · exact g2 (hsi.1 c)
        · rw [List.isEmpty_iff] at c
          rw [c] at g1
          simp at g1
      rw [hs]
      refine ⟨fun j hj => ?_, ?_⟩
      · rw [h1 j hj]
        constructor
        · rintro ⟨m, k1, k2, k3⟩; exact ⟨m, by omega, k2, k3⟩
        · rintro ⟨m, k1, k2, k3⟩
          rcases Nat.lt_or_ge m i with k4 | k4
          · exact ⟨m, k4, k2, k3⟩
          · have e : m = i := by omega
            subst e
            rcases c with c | c
            · obtain ⟨m', l1, l2, l3⟩ := hsi.1 c
              exact ⟨m', l1, l2, l3.trans k3⟩
            · rw [List.isEmpty_iff] at c
              rw [c] at k2
              simp at k2
      · rw [rOut, if_neg (by omega)]
        exact h2
    · have c1 : (gsTo xss i).1.getD i false = false := by
        cases h : (gsTo xss i).1.getD i false
        · rfl
        · exact absurd (.inl h) c
      have c2 : (rd_L3 xss (i : Int)).isEmpty = false := by
        cases h : (rd_L3 xss (i : Int)).isEmpty
        · rfl
        · exact absurd (.inr h) c
      have hlp : 0 < (rd_L3 xss (i : Int)).length := by
        cases hx : rd_L3 xss (i : Int) with
        | nil => rw [hx] at c2; simp at c2
        | cons x xs => simp
      have hnm : ¬ ∃ m : Nat, m < i ∧ 0 < (rd_L3 xss (m : Int)).length ∧ Conn (xss.map uniL) m i := fun h => by rw [hsi.2 h] at c1; cases c1
      have hs : gsTo xss (i + 1) = (markL (gsTo xss i).1 (groupL (xss.map uniL) i), (gsTo xss i).2 ++ [groupL (xss.map uniL) i]) := by
        rw [hstep]
        unfold gsStep
        rw [if_neg (by rw [c1, c2]; decide)]
      have hcl := groupL_class hus (show i < (xss.map uniL).length by omega)
      have hpos := href.2 ⟨hlp, hnm⟩
      rw [hs]
      refine ⟨fun j hj => ?_, ?_⟩
      · show (markL (gsTo xss i).1 (groupL (xss.map uniL) i)).getD j false = true ↔ _
        rw [markL_get _ _ (fun k hk => (groupL_mem _ _ k hk).1) j (by omega), h1 j hj, hcl, classL_mem _ _ (by omega)]
        constructor
        · rintro (⟨m, k1, k2, k3⟩ | k3)
          · exact ⟨m, by omega, k2, k3⟩
          · exact ⟨i, by omega, hlp, k3⟩
        · rintro ⟨m, k1, k2, k3⟩
          rcases Nat.lt_or_ge m i with k4 | k4
          · exact .inl ⟨m, k4, k2, k3⟩
          · have e : m = i := by omega
            subst e
            exact .inr k3
      · rw [rOut, if_pos hpos]
        show (gsTo xss i).2 ++ [groupL (xss.map uniL) i] = _
        rw [h2, hcl]
        congr 2
        unfold classL rgTo
        rw [hul]
        congr 1
        refine List.filter_congr (fun k hk => ?_)
        have hkl := List.mem_range.1 hk
        rw [Bool.eq_iff_iff, decide_eq_true_eq, Bool.and_eq_true, decide_eq_true_eq, decide_eq_true_eq]
        obtain ⟨mk, hmk, hck, hmkle⟩ := ho.2 k (by omega)
        constructor
        · intro hc
          have hle := hf k hkl i hc.symm
          refine ⟨?_, ?_⟩
          · by_cases e : mk = i
            · rw [hmk, e]
            · exfalso
              obtain ⟨b, hb⟩ := (Conn.bit (hck.symm.trans hc.symm) e).1
              exact hnm ⟨mk, by omega, (bit_len xss hb).2, hck.symm.trans hc.symm⟩
          · by_cases e : i = k
            · rw [← e]; exact hlp
            · obtain ⟨b, hb⟩ := (Conn.bit hc e).2
              exact (bit_len xss hb).2
        · rintro ⟨k1, k2⟩
          have e : mk = i := by omega
          rw [← e]
          exact hck.symm
theorem rgroups_f (xss : List (List S40)) (hn : xss.length ≤ 1000000) (hm : ∀ xs ∈ xss, xs.length ≤ 1000000) (hu : ∀ xs ∈ xss, ∀ x ∈ xs, U64B x) : Ev (fun q => saleroomref14_Groups.f q xss) (groupsL xss) := by
  unfold saleroomref14_Groups.f
  have hul : (xss.map uniL).length = xss.length := by simp
  refine marks_l0 xss hn _ ?_ xss.length 0 (by omega)
  refine marks_l1 xss hn hm hu _ (fun m' h1 h2 => ?_) xss.length 0 _ (by omega) ?_ (by omega)
  · have := marks_l4 xss hn m' (by rw [h1.1, hul]) xss.length 0 (by omega)
    have e := (groups_eq xss hu m' h1 h2 xss.length (Nat.le_refl _)).2
    unfold groupsL
    rw [e]
    exact this
  · refine ⟨by simp, fun i hi => ⟨i, ?_, .refl _, Nat.le_refl _⟩⟩
    have hil : i < xss.length := by omega
    simp [rd, List.getD, hil]
end Go.Proofs.Ytafhdamdkefpkaa

/- Plain: the reference's marks come to the least bidder of each group; its groups are prep.Groups'. -/
import Derived.Test.YtafhdamdkefpkaaPlGrp
namespace Go.Proofs.Ytafhdamdkefpkaa
open Go.RowKit Go.Proofs.YtafhdamdkefpkaaW.PrintWords Go.Proofs.YtafhdamdkefpkaaW.PrintLast Go.Proofs.YtafhdamdkefpkaaW.PrintMore Go.Proofs.Ytafhdamdkefpkaa.PPrep
set_option linter.unusedVariables false
set_option linter.unusedSimpArgs false

/-- The marks are bidders of the group, no later ones. -/
def MOK (us : List Int) (mark : List Int) : Prop := mark.length = us.length ∧ ∀ i : Nat, i < us.length → ∃ j : Nat, rd mark (i : Int) = (j : Int) ∧ Conn us i j ∧ j ≤ i
/-- A mark that is the least one. -/
def MFin (us : List Int) (mark : List Int) (i : Nat) : Prop := ∀ j : Nat, Conn us i j → rd mark (i : Int) ≤ (j : Int)
def MLe (us : List Int) (m' m : List Int) : Prop := ∀ i : Nat, i < us.length → rd m' (i : Int) ≤ rd m (i : Int)
theorem MFin.le {us m m' : List Int} {i : Nat} (h : MFin us m i) (hl : MLe us m' m) (hi : i < us.length) : MFin us m' i := fun j hj => Int.le_trans (hl i hi) (h j hj)
theorem MLe.refl (us m : List Int) : MLe us m m := fun _ _ => Int.le_refl _
theorem MLe.trans {us a b c : List Int} (h1 : MLe us a b) (h2 : MLe us b c) : MLe us a c := fun i hi => Int.le_trans (h1 i hi) (h2 i hi)
theorem rd_set (m : List Int) (i j : Nat) (v : Int) (hi : i < m.length) : rd (m.set i v) (j : Int) = if i = j then v else rd m (j : Int) := by
  unfold rd
  rw [Int.toNat_natCast, List.getD_eq_getElem?_getD, List.getElem?_set, List.getD_eq_getElem?_getD]
  by_cases e : i = j
  · subst e; simp [hi]
  · simp [e]
theorem rd_us (xss : List (List S40)) (i : Nat) (h : i < xss.length) : (xss.map uniL).getD i 0 = uniL xss[i] := by simp [List.getD, h]

theorem usOk_of {xss : List (List S40)} (hu : ∀ xs ∈ xss, ∀ x ∈ xs, U64B x) : UsOk (xss.map uniL) := by
  intro i
  rcases Nat.lt_or_ge i xss.length with h | h
  · rw [rd_us xss i h]; exact uniL_b _ (hu _ (List.getElem_mem h))
  · rw [List.getD_eq_getElem?_getD, List.getElem?_eq_none (by simp; omega)]; decide

section
variable (xss : List (List S40)) (hn : xss.length ≤ 1000000) (hm : ∀ xs ∈ xss, xs.length ≤ 1000000) (hu : ∀ xs ∈ xss, ∀ x ∈ xs, U64B x)
include hn hm hu
theorem marks_l3 (r : List (List Int)) (t : Int) (i : Nat) (hi : i < xss.length) : ∀ (d k : Nat) (mark : List Int), k + d = xss.length → MOK (xss.map uniL) mark →
    (∀ m', MOK (xss.map uniL) m' → MLe (xss.map uniL) m' mark → (∀ a : Nat, k ≤ a → a < xss.length → Adj (xss.map uniL) i a → MFin (xss.map uniL) mark a → MFin (xss.map uniL) m' i) → Ev (fun q => saleroomref14_Groups.l2 q xss m' t (wrap64 ((i : Int) + 1))) r) →
    Ev (fun q => saleroomref14_Groups.l3 q xss mark t (i : Int) (k : Int)) r := by
  have hus := usOk_of hu
  have hul : (xss.map uniL).length = xss.length := by simp
  intro d
  induction d with
  | zero =>
    intro k mark h ho hK
    refine Ev.step (fun q => by simp only [saleroomref14_Groups.l3]; rfl) ?_
    simp only [if_neg (show ¬ ((k : Int) < (xss.length : Int)) from by omega)]
    exact hK mark ho (MLe.refl _ _) (fun a h1 h2 => by omega)
  | succ d ih =>
    intro k mark h ho hK
    have hk : k < xss.length := by omega
    have hml : mark.length = xss.length := by rw [ho.1, hul]
    refine Ev.step (fun q => by simp only [saleroomref14_Groups.l3]; rfl) ?_
    simp only [if_pos (show ((k : Int) < (xss.length : Int)) from by omega), if_pos (show (0 : Int) ≤ (k : Int) from by omega), if_pos (show ((k : Int) < (mark.length : Int)) from by omega), if_pos (show (0 : Int) ≤ (i : Int) from by omega),
      if_pos (show ((i : Int) < (mark.length : Int)) from by omega), if_pos (show ((i : Int) < (xss.length : Int)) from by omega), wrapM k _ hk (by omega), rdL_nat xss i hi, rdL_nat xss k hk]
    have skip : (Adj (xss.map uniL) i k → MFin (xss.map uniL) mark k → MFin (xss.map uniL) mark i) → Ev (fun q => saleroomref14_Groups.l3 q xss mark t (i : Int) ((k + 1 : Nat) : Int)) r := fun hs =>
      ih (k + 1) mark (by omega) ho (fun m' h1 h2 h3 => hK m' h1 h2 (fun a ha1 ha2 ha3 ha4 => by
        rcases Nat.lt_or_ge k a with h5 | h5
        · exact h3 a h5 ha2 ha3 ha4
        · have : a = k := by omega
          subst this
          exact (hs ha3 ha4).le h2 (by omega)))
    by_cases c : rd mark (k : Int) < rd mark (i : Int)
    · simp only [if_pos c]
      refine Ev.bind (runion_f _ (by have := hm _ (List.getElem_mem hi); omega)) ?_
      refine Ev.bind (runion_f _ (by have := hm _ (List.getElem_mem hk); omega)) ?_
      refine Ev.bind (a := apartB (uniL xss[i]) (uniL xss[k])) ⟨140, fun q hq => apart_f q _ _ hq (uniL_b _ (hu _ (List.getElem_mem hi))) (uniL_b _ (hu _ (List.getElem_mem hk)))⟩ ?_
      have had := adj_iff hus i k
      rw [rd_us xss i hi, rd_us xss k hk] at had
      cases ha : apartB (uniL xss[i]) (uniL xss[k]) with
      | true =>
        simp only [if_true]
        exact skip (fun h1 => by rw [had.2 h1] at ha; cases ha)
      | false =>
        simp only [Bool.false_eq_true, if_false, Int.toNat_natCast]
        have hadj := had.1 ha
        obtain ⟨j, hj, hcj, hjk⟩ := ho.2 k (by omega)
        obtain ⟨ji, hji, hcji, hjii⟩ := ho.2 i (by omega)
        have hle : MLe (xss.map uniL) (mark.set i (rd mark (k : Int))) mark := fun a ha => by
          rw [rd_set _ _ _ _ (by omega)]
          split
          · rename_i e; rw [← e]; omega
          · exact Int.le_refl _
        have hok : MOK (xss.map uniL) (mark.set i (rd mark (k : Int))) := by
          refine ⟨by rw [List.length_set]; exact ho.1, fun a ha => ?_⟩
          rw [rd_set _ _ _ _ (by omega)]
          split
          · rename_i e
            rw [← e]
            exact ⟨j, hj, Conn.head hadj hcj, by omega⟩
          · exact ho.2 a ha
        refine ih (k + 1) _ (by omega) hok (fun m' h1 h2 h3 => hK m' h1 (h2.trans hle) (fun a ha1 ha2 ha3 ha4 => ?_))
        rcases Nat.lt_or_ge k a with h5 | h5
        · exact h3 a h5 ha2 ha3 (ha4.le hle (by omega))
        · have : a = k := by omega
          subst this
          have hfi : MFin (xss.map uniL) (mark.set i (rd mark (a : Int))) i := fun b hb => by
            rw [rd_set _ _ _ _ (by omega), if_pos rfl]
            exact ha4 b (Conn.head ha3.symm hb)
          exact hfi.le h2 (by omega)
    · simp only [if_neg c]
      refine skip (fun h1 h2 b hb => ?_)
      have := h2 b (Conn.head h1.symm hb)
      omega
theorem marks_l2 (r : List (List Int)) (t : Nat) (ht : t < xss.length) : ∀ (d i : Nat) (mark : List Int), i + d = xss.length → MOK (xss.map uniL) mark →
    (∀ m', MOK (xss.map uniL) m' → MLe (xss.map uniL) m' mark → (∀ b a : Nat, i ≤ b → b < xss.length → a < xss.length → Adj (xss.map uniL) b a → MFin (xss.map uniL) mark a → MFin (xss.map uniL) m' b) → Ev (fun q => saleroomref14_Groups.l1 q xss m' ((t + 1 : Nat) : Int)) r) →
    Ev (fun q => saleroomref14_Groups.l2 q xss mark (t : Int) (i : Int)) r := by
  have hul : (xss.map uniL).length = xss.length := by simp
  intro d
  induction d with
  | zero =>
    intro i mark h ho hK
    refine Ev.step (fun q => by simp only [saleroomref14_Groups.l2]; rfl) ?_
    simp only [if_neg (show ¬ ((i : Int) < (xss.length : Int)) from by omega), wrapM t _ ht (by omega)]
    exact hK mark ho (MLe.refl _ _) (fun a b h1 h2 => by omega)
  | succ d ih =>
    intro i mark h ho hK
    have hi : i < xss.length := by omega
    refine Ev.step (fun q => by simp only [saleroomref14_Groups.l2]; rfl) ?_
    simp only [if_pos (show ((i : Int) < (xss.length : Int)) from by omega)]
    refine marks_l3 xss hn hm hu r (t : Int) i hi xss.length 0 mark (by omega) ho (fun m1 h1 h2 h3 => ?_)
    rw [wrapM i _ hi (by omega)]
    refine ih (i + 1) m1 (by omega) h1 (fun m' g1 g2 g3 => hK m' g1 (g2.trans h2) (fun b a hb1 hb2 ha hadj hfa => ?_))
    rcases Nat.lt_or_ge i b with h5 | h5
    · exact g3 b a h5 hb2 ha hadj (hfa.le h2 (by omega))
    · have : b = i := by omega
      subst this
      exact (h3 a (Nat.zero_le _) ha hadj hfa).le g2 (by omega)
open Classical in
theorem marks_l1 (r : List (List Int)) (hK : ∀ m', MOK (xss.map uniL) m' → (∀ i : Nat, i < xss.length → MFin (xss.map uniL) m' i) → Ev (fun q => saleroomref14_Groups.l4 q xss m' [] 0) r) : ∀ (d t : Nat) (mark : List Int), t + d = xss.length → MOK (xss.map uniL) mark →
    xss.length ≤ ((List.range xss.length).filter fun i => decide (MFin (xss.map uniL) mark i)).length + d →
    Ev (fun q => saleroomref14_Groups.l1 q xss mark (t : Int)) r := by
  have hul : (xss.map uniL).length = xss.length := by simp
  have all : ∀ m : List Int, xss.length ≤ ((List.range xss.length).filter fun i => decide (MFin (xss.map uniL) m i)).length → ∀ i, i < xss.length → MFin (xss.map uniL) m i := by
    intro m h i hi
    have h1 : ((List.range xss.length).filter fun i => decide (MFin (xss.map uniL) m i)) = List.range xss.length := by
      refine (List.filter_sublist).eq_of_length_le ?_
      simpa using h
    have h2 : i ∈ (List.range xss.length).filter fun i => decide (MFin (xss.map uniL) m i) := by rw [h1]; exact List.mem_range.2 hi
    simpa using (List.mem_filter.1 h2).2
  intro d
  induction d with
  | zero =>
    intro t mark h ho hc
    refine Ev.step (fun q => by simp only [saleroomref14_Groups.l1]; rfl) ?_
    simp only [if_neg (show ¬ ((t : Int) < (xss.length : Int)) from by omega)]
    exact hK mark ho (all mark (by omega))
  | succ d ih =>
    intro t mark h ho hc
    have ht : t < xss.length := by omega
    refine Ev.step (fun q => by simp only [saleroomref14_Groups.l1]; rfl) ?_
    simp only [if_pos (show ((t : Int) < (xss.length : Int)) from by omega)]
    refine marks_l2 xss hn hm hu r t ht xss.length 0 mark (by omega) ho (fun m' h1 h2 h3 => ?_)
    refine ih (t + 1) m' (by omega) h1 ?_
    have mono : ∀ l : List Nat, (∀ i ∈ l, i < xss.length) → (l.filter fun i => decide (MFin (xss.map uniL) mark i)).length ≤ (l.filter fun i => decide (MFin (xss.map uniL) m' i)).length ∧
        ((∃ i ∈ l, MFin (xss.map uniL) m' i ∧ ¬ MFin (xss.map uniL) mark i) → (l.filter fun i => decide (MFin (xss.map uniL) mark i)).length < (l.filter fun i => decide (MFin (xss.map uniL) m' i)).length) := by
      intro l hl
      induction l with
      | nil => exact ⟨Nat.le_refl _, fun ⟨i, hi, _⟩ => by simp at hi⟩
      | cons x l ihl =>
        obtain ⟨k1, k2⟩ := ihl (fun i hi => hl i (List.mem_cons_of_mem _ hi))
        have hx := hl x List.mem_cons_self
        have hxx : MFin (xss.map uniL) mark x → MFin (xss.map uniL) m' x := fun hf => hf.le h2 (by omega)
        rw [List.filter_cons, List.filter_cons]
        by_cases c1 : MFin (xss.map uniL) mark x
        · rw [if_pos (decide_eq_true c1), if_pos (decide_eq_true (hxx c1))]
          refine ⟨by simp only [List.length_cons]; omega, fun ⟨i, hi, g1, g2⟩ => ?_⟩
          rcases List.mem_cons.1 hi with rfl | hi
          · exact absurd c1 g2
          · have := k2 ⟨i, hi, g1, g2⟩; simp only [List.length_cons]; omega
        · by_cases c2 : MFin (xss.map uniL) m' x
          · rw [if_neg (by simpa using c1), if_pos (decide_eq_true c2)]
            exact ⟨by simp only [List.length_cons]; omega, fun _ => by simp only [List.length_cons]; omega⟩
          · rw [if_neg (by simpa using c1), if_neg (by simpa using c2)]
            refine ⟨k1, fun ⟨i, hi, g1, g2⟩ => ?_⟩
            rcases List.mem_cons.1 hi with rfl | hi
            · exact absurd g1 c2
            · exact k2 ⟨i, hi, g1, g2⟩
    obtain ⟨k1, k2⟩ := mono (List.range xss.length) (fun i hi => List.mem_range.1 hi)
    by_cases hall : ∀ i, i < xss.length → MFin (xss.map uniL) mark i
    · have : ((List.range xss.length).filter fun i => decide (MFin (xss.map uniL) mark i)) = List.range xss.length := List.filter_eq_self.2 (fun i hi => decide_eq_true (hall i (List.mem_range.1 hi)))
      rw [this] at k1
      simp only [List.length_range] at k1
      omega
    · have hex : ∃ i, i < xss.length ∧ ¬ MFin (xss.map uniL) mark i := by
        apply Classical.byContradiction
        intro hno
        exact hall (fun i hi => Classical.byContradiction (fun hf => hno ⟨i, hi, hf⟩))
      obtain ⟨i, hi, hnf⟩ := hex
      -- the least of i's group is marked already
      have hmin : ∃ m : Nat, Conn (xss.map uniL) i m ∧ ∀ j : Nat, Conn (xss.map uniL) i j → m ≤ j := by
        have : ∀ n : Nat, (∃ m : Nat, m ≤ n ∧ Conn (xss.map uniL) i m) → ∃ m : Nat, Conn (xss.map uniL) i m ∧ ∀ j : Nat, Conn (xss.map uniL) i j → m ≤ j := by
          intro n
          induction n with
          | zero => rintro ⟨m, h1, h2⟩; exact ⟨m, h2, fun j _ => by omega⟩
          | succ n ihn =>
            rintro ⟨m, h1, h2⟩
            by_cases hh : ∃ m : Nat, m ≤ n ∧ Conn (xss.map uniL) i m
            · exact ihn hh
            · refine ⟨m, h2, fun j hj => ?_⟩
              apply Classical.byContradiction
              intro hn
              exact hh ⟨j, by omega, hj⟩
        exact this i ⟨i, Nat.le_refl _, .refl _⟩
      obtain ⟨m, hcm, hmm⟩ := hmin
      have hml := Conn.lt hcm (by omega)
      have hfm : MFin (xss.map uniL) mark m := by
        intro j hj
        obtain ⟨a, ha, hca, ham⟩ := ho.2 m hml
        have := hmm j (hcm.trans hj)
        omega
      have hedge : ∀ j : Nat, Conn (xss.map uniL) m j → ¬ MFin (xss.map uniL) mark j → ∃ a b : Nat, a < xss.length ∧ b < xss.length ∧ Adj (xss.map uniL) b a ∧ MFin (xss.map uniL) mark a ∧ ¬ MFin (xss.map uniL) mark b := by
        intro j hj
        induction hj with
        | refl => exact fun h => absurd hfm h
        | @tail a b hma hab ihj =>
          intro hnb
          by_cases hfa : MFin (xss.map uniL) mark a
          · have h6 := Conn.lt hma hml
            have h7 := Conn.lt (hma.tail hab) hml
            exact ⟨a, b, by omega, by omega, hab.symm, hfa, hnb⟩
          · exact ihj hfa
      obtain ⟨a, b, ha, hb, hab, hfa, hnb⟩ := hedge i hcm.symm hnf
      have := k2 ⟨b, List.mem_range.2 hb, h3 b a (Nat.zero_le _) hb ha hab hfa, hnb⟩
      omega
end
end Go.Proofs.Ytafhdamdkefpkaa

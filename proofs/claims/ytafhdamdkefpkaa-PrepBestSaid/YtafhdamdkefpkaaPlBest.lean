/- Plain: PrepBest is true. -/
import Derived.Test.YtafhdamdkefpkaaPPrepx6
import Derived.Test.YtafhdamdkefpkaaPlCl1
namespace Go.Proofs.Ytafhdamdkefpkaa
open Go.RowKit Go.Proofs.YtafhdamdkefpkaaW.PrintWords Go.Proofs.YtafhdamdkefpkaaW.PrintLast Go.Proofs.YtafhdamdkefpkaaW.PrintMore Go.Proofs.Ytafhdamdkefpkaa.PPrep
set_option linter.unusedVariables false
set_option linter.unusedSimpArgs false

theorem one_one {xs : List S40} (hu : ∀ x ∈ xs, U64B x) : oneL (oneL xs) = oneL xs := by
  refine sorted_unique (one_sorted (one_U64 hu)) (one_sorted hu) (fun x => ?_)
  rw [one_und (one_U64 hu)]
  constructor
  · exact fun h => h.1
  · intro h
    have hd := (one_und hu x).1 h
    exact ⟨h, hd.2.1, fun c hc hr hw hp => hd.2.2 c ((one_und hu c).1 hc).1 hr hw hp⟩
theorem gfold_right (xs : List S40) : (xs.foldl gstep []).length ≤ (xs.filter rightB).length := by
  suffices h : ∀ l, (xs.foldl gstep l).length ≤ l.length + (xs.filter rightB).length by simpa using h []
  induction xs with
  | nil => intro l; simp
  | cons x xs ih =>
    intro l
    have h1 := ih (gstep l x)
    have h2 := gstep_length l x
    rw [List.foldl_cons, List.filter_cons]
    cases hr : rightB x with
    | true => simp only [if_true, List.length_cons]; omega
    | false =>
      have : gstep l x = l := by unfold gstep; rw [hr]; simp
      rw [this] at h1 ⊢
      simp only [Bool.false_eq_true, if_false]
      exact h1
theorem one_right_length (xs : List S40) : (oneL xs).length ≤ (xs.filter rightB).length := by
  have h := oneFold_length (grL xs) []
  have h2 := gfold_right xs
  unfold oneL
  unfold grL at h ⊢
  rw [List.length_mergeSort, List.length_map] at h
  simp only [List.length_nil] at h
  omega
theorem sorted_rd {l : List S40} (h : l.Pairwise ltS) {i k : Nat} (hi : i < l.length) (hk : k < l.length) (hne : i ≠ k) : rd_T40 l (i : Int) ≠ rd_T40 l (k : Int) := by
  rw [rd_nat l i hi, rd_nat l k hk]
  have key : ∀ (i k : Nat) (hi : i < l.length) (hk : k < l.length), i < k → l[i] ≠ l[k] := by
    intro i k hi hk hlt e
    have := List.pairwise_iff_getElem.1 h i k hi hk hlt
    rw [e, ltS_iff] at this
    omega
  rcases Nat.lt_or_gt_of_ne hne with h1 | h1
  · exact key i k hi hk h1
  · exact fun e => key k i hk hi h1 e.symm

/-! what the best of some is -/
theorem freeTo_mem (xs : List S40) (free : Int) (n : Nat) (p : Nat × S40) : p ∈ freeTo xs free n ↔ p.1 < n ∧ p.2 = rd_T40 xs (p.1 : Int) ∧ withinB p.2.f0 free = true := by
  induction n with
  | zero => simp [freeTo]
  | succ n ih =>
    unfold freeTo
    rw [List.mem_append, ih]
    constructor
    · rintro (⟨h1, h2⟩ | h)
      · exact ⟨by omega, h2⟩
      · split at h
        · rename_i hw
          have e : p = (n, rd_T40 xs (n : Int)) := by simpa using h
          subst e
          exact ⟨by simp, rfl, hw⟩
        · simp at h
    · rintro ⟨h1, h2, h3⟩
      by_cases e : p.1 = n
      · right
        obtain ⟨q, x⟩ := p
        simp only at e h2 h3
        subst e h2
        rw [if_pos h3]
        simp
      · exact .inl ⟨by omega, h2, h3⟩
theorem bestF_spec (l : List (Nat × S40)) : ((bestF l).2 = false ∧ l = [] ∧ (bestF l).1 = z40) ∨ ((bestF l).2 = true ∧ (∃ p ∈ l, p.2 = (bestF l).1) ∧ ∀ p ∈ l, p.2.f1 ≤ (bestF l).1.f1) := by
  refine list_snoc (P := fun l => ((bestF l).2 = false ∧ l = [] ∧ (bestF l).1 = z40) ∨ ((bestF l).2 = true ∧ (∃ p ∈ l, p.2 = (bestF l).1) ∧ ∀ p ∈ l, p.2.f1 ≤ (bestF l).1.f1)) ?_ ?_ l
  · exact .inl ⟨rfl, rfl, rfl⟩
  · intro l p ih
    have e : bestF (l ++ [p]) = bestStep (bestF l) p := by unfold bestF; rw [List.foldl_append]; rfl
    right
    rw [e]
    unfold bestStep
    rcases ih with ⟨h1, rfl, h3⟩ | ⟨h1, ⟨q, hq, hq2⟩, h3⟩
    · rw [h1]
      simp
    · rw [h1]
      by_cases c : p.2.f1 > (bestF l).1.f1
      · rw [if_pos (by simp [c])]
        refine ⟨rfl, ⟨p, by simp, rfl⟩, fun r hr => ?_⟩
        rcases List.mem_append.1 hr with hr | hr
        · have := h3 r hr; show r.2.f1 ≤ p.2.f1; omega
        · have : r = p := by simpa using hr
          rw [this]; exact Int.le_refl _
      · rw [if_neg (by simp; omega)]
        refine ⟨h1, ⟨q, List.mem_append_left _ hq, hq2⟩, fun r hr => ?_⟩
        rcases List.mem_append.1 hr with hr | hr
        · exact h3 r hr
        · have : r = p := by simpa using hr
          rw [this]; omega
/-- Among xs there is a free bid, and p is the greatest price of one. -/
theorem best_price (xs : List S40) (free : Int) : ((bestF (freeL xs free)).2 = false ∧ (bestF (freeL xs free)).1.f1 = 0 ∧ ∀ x ∈ xs, withinB x.f0 free = false) ∨
    ((bestF (freeL xs free)).2 = true ∧ (∃ x ∈ xs, withinB x.f0 free = true ∧ x.f1 = (bestF (freeL xs free)).1.f1) ∧ ∀ x ∈ xs, withinB x.f0 free = true → x.f1 ≤ (bestF (freeL xs free)).1.f1) := by
  have mem : ∀ x ∈ xs, withinB x.f0 free = true → ∃ p ∈ freeL xs free, p.2 = x := by
    intro x hx hw
    obtain ⟨j, hj, e⟩ := mem_rd hx
    exact ⟨(j, x), (freeTo_mem xs free xs.length (j, x)).2 ⟨hj, e.symm, hw⟩, rfl⟩
  rcases bestF_spec (freeL xs free) with ⟨h1, h2, h3⟩ | ⟨h1, ⟨p, hp, hp2⟩, h3⟩
  · refine .inl ⟨h1, by rw [h3]; rfl, fun x hx => ?_⟩
    cases hw : withinB x.f0 free with
    | false => rfl
    | true =>
      obtain ⟨p, hp, _⟩ := mem x hx hw
      rw [h2] at hp
      simp at hp
  · refine .inr ⟨h1, ?_, fun x hx hw => ?_⟩
    · obtain ⟨h4, h5, h6⟩ := (freeTo_mem xs free xs.length p).1 hp
      exact ⟨p.2, by rw [h5]; exact rd_mem xs _ h4, h6, by rw [hp2]⟩
    · obtain ⟨p, hp, e⟩ := mem x hx hw
      have := h3 p hp
      rwa [e] at this
theorem one_best {xs : List S40} (hu : ∀ x ∈ xs, U64B x) (free : Int) (hf : 0 ≤ free ∧ free < 18446744073709551616) :
    (bestF (freeL (oneL xs) free)).2 = (bestF (freeL (xs.filter rightB) free)).2 ∧ (bestF (freeL (oneL xs) free)).1.f1 = (bestF (freeL (xs.filter rightB) free)).1.f1 := by
  have sub : ∀ x ∈ oneL xs, x ∈ xs.filter rightB := fun x hx => by
    obtain ⟨h1, h2, _⟩ := (one_und hu x).1 hx
    exact List.mem_filter.2 ⟨h1, h2⟩
  have dom : ∀ y ∈ xs.filter rightB, withinB y.f0 free = true → ∃ a ∈ oneL xs, withinB a.f0 free = true ∧ y.f1 ≤ a.f1 := by
    intro y hy hw
    obtain ⟨hyx, hyr⟩ := List.mem_filter.1 hy
    have hug : ∀ x ∈ grL xs, U64B x := fun x hx => by
      obtain ⟨⟨y, hy, _, hy0, _⟩, _⟩ := (grL_mem xs x).1 hx
      have := hu y hy
      unfold U64B at this ⊢
      omega
    obtain ⟨p, hp'⟩ : ∃ p, getL y.f0 (xs.foldl gstep []) = some p := by
      cases hg : getL y.f0 (xs.foldl gstep []) with
      | none => exact absurd rfl (((gfold_mx xs).2 y.f0).1 hg y hyx hyr)
      | some p => exact ⟨p, rfl⟩
    have hm := ((gfold_mx xs).1 y.f0 p).1 hp'
    have hgm : (⟨y.f0, p⟩ : S40) ∈ grL xs := (grL_mem xs _).2 hm
    have hcp := hm.2 y hyx hyr rfl
    obtain ⟨a, ha, hd⟩ := oneFold_dom (grL xs) hug _ hgm
    have hd' : withinB a.f0 y.f0 = true ∧ a.f1 ≥ p := by simpa [domB] using hd
    exact ⟨a, ha, withinB_trans (one_U64 hu a ha) (hu y hyx) hf hd'.1 hw, by omega⟩
  rcases best_price (oneL xs) free with ⟨h1, h2, h3⟩ | ⟨h1, ⟨x, hx, hxw, hxp⟩, h3⟩ <;> rcases best_price (xs.filter rightB) free with ⟨g1, g2, g3⟩ | ⟨g1, ⟨y, hy, hyw, hyp⟩, g3⟩
  · exact ⟨by rw [h1, g1], by rw [h2, g2]⟩
  · obtain ⟨a, ha, haw, _⟩ := dom y hy hyw
    rw [h3 a ha] at haw
    cases haw
  · rw [g3 x (sub x hx)] at hxw
    cases hxw
  · obtain ⟨a, ha, haw, hap⟩ := dom y hy hyw
    have k1 := h3 a ha haw
    have k2 := g3 x (sub x hx) hxw
    exact ⟨by rw [h1, g1], by omega⟩

/-! the law -/
theorem best_l3 (c r : List S40) (frees : List Int) (hc : c.length ≤ 60) (hr : r.length ≤ 60) (hn : frees.length ≤ 20) (hb : ∀ f ∈ frees, (bestF (freeL c f)).2 = (bestF (freeL r f)).2 ∧ (bestF (freeL c f)).1.f1 = (bestF (freeL r f)).1.f1) : ∀ (d i : Nat), i + d = frees.length →
    Ev (fun k => saleroomlaw14_PrepBest.l3 k r c frees (frees.length : Int) (i : Int)) true := by
  intro d
  induction d with
  | zero =>
    intro i h
    refine Ev.step (fun k => by simp only [saleroomlaw14_PrepBest.l3]; rfl) ?_
    simp only [if_neg (show ¬ ((i : Int) < (frees.length : Int)) from by omega)]
    exact Ev.now _
  | succ d ih =>
    intro i h
    have hi : i < frees.length := by omega
    refine Ev.step (fun k => by simp only [saleroomlaw14_PrepBest.l3]; rfl) ?_
    simp only [if_pos (show ((i : Int) < (frees.length : Int)) from by omega), if_pos (show (0 : Int) ≤ (i : Int) from by omega), wrapM i _ hi (by omega)]
    have hrd : rd frees (i : Int) = frees[i] := by simp [rd, List.getD, hi]
    have hbi := hb _ (List.getElem_mem hi)
    simp only [hrd, prep_Best.f, if_pos (show c.length ≤ 1000000000 from by omega), if_pos (show r.length ≤ 1000000000 from by omega), Option.bind_some, hbi.1, hbi.2, bne_self_eq_false, Bool.false_eq_true, if_false, if_true]
    exact ih (i + 1) (by omega)
theorem best_l2 (x1 : List Int) (r c : List S40) (i : Nat) (y : List S40) (m : Int) (hi : i < c.length) (hc : c.length ≤ 60) (hno : ∀ k, k < c.length → k ≠ i → Go.bits .andNot .u64 (rd_T40 c (k : Int)).f0 (rd_T40 c (i : Int)).f0 = 0 → ¬ (rd_T40 c (k : Int)).f1 ≥ (rd_T40 c (i : Int)).f1)
    (hE : Ev (fun k => saleroomlaw14_PrepBest.l1 k x1 r c y m (wrap64 ((i : Int) + 1))) true) : ∀ (d j : Nat), j + d = c.length →
    Ev (fun k => saleroomlaw14_PrepBest.l2 k x1 r c (i : Int) y m (i : Int) c (c.length : Int) (j : Int) (rd_T40 c (i : Int)).f0 (rd_T40 c (i : Int)).f1) true := by
  intro d
  induction d with
  | zero =>
    intro j h
    refine Ev.step (fun k => by simp only [saleroomlaw14_PrepBest.l2]; rfl) ?_
    simp only [if_neg (show ¬ ((j : Int) < (c.length : Int)) from by omega)]
    exact hE
  | succ d ih =>
    intro j h
    have hj : j < c.length := by omega
    refine Ev.step (fun k => by simp only [saleroomlaw14_PrepBest.l2]; rfl) ?_
    simp only [if_pos (show ((j : Int) < (c.length : Int)) from by omega), if_pos (show (0 : Int) ≤ (j : Int) from by omega), wrapM j _ hj (by omega)]
    by_cases e : (i : Int) = (j : Int)
    · simp only [if_pos e]
      exact ih (j + 1) (by omega)
    · simp only [if_neg e]
      by_cases e2 : Go.bits .andNot .u64 (rd_T40 c (j : Int)).f0 (rd_T40 c (i : Int)).f0 = 0
      · simp only [if_pos e2, if_neg (hno j hj (by omega) e2)]
        exact ih (j + 1) (by omega)
      · simp only [if_neg e2]
        exact ih (j + 1) (by omega)
theorem best_l1 (x1 : List Int) (r c : List S40) (hc : c.length ≤ 60) (hno : ∀ i k, i < c.length → k < c.length → k ≠ i → Go.bits .andNot .u64 (rd_T40 c (k : Int)).f0 (rd_T40 c (i : Int)).f0 = 0 → ¬ (rd_T40 c (k : Int)).f1 ≥ (rd_T40 c (i : Int)).f1)
    (hE : Ev (fun k => saleroomlaw14_PrepBest.l3 k r c x1 (x1.length : Int) 0) true) : ∀ (d i : Nat), i + d = c.length →
    Ev (fun k => saleroomlaw14_PrepBest.l1 k x1 r c c (c.length : Int) (i : Int)) true := by
  intro d
  induction d with
  | zero =>
    intro i h
    refine Ev.step (fun k => by simp only [saleroomlaw14_PrepBest.l1]; rfl) ?_
    simp only [if_neg (show ¬ ((i : Int) < (c.length : Int)) from by omega)]
    exact hE
  | succ d ih =>
    intro i h
    have hi : i < c.length := by omega
    refine Ev.step (fun k => by simp only [saleroomlaw14_PrepBest.l1]; rfl) ?_
    simp only [if_pos (show ((i : Int) < (c.length : Int)) from by omega), if_pos (show (0 : Int) ≤ (i : Int) from by omega)]
    refine best_l2 x1 r c i c _ hi hc (fun k => hno i k hi) ?_ c.length 0 (by omega)
    rw [wrapM i _ hi (by omega)]
    exact ih (i + 1) (by omega)
theorem best_l0 (xs : List S40) (frees : List Int) (hn : xs.length ≤ 60) (hE : Ev (fun k => (prep_One.f xs).bind fun t209 => (prep_One.f t209).bind fun t212 => (saleroomref14_Same.f k t212 t209).bind fun t215 => if t215 = true then saleroomlaw14_PrepBest.j2 k frees (xs.filter rightB) t209 (decide ((t209.length : Int) > ((xs.filter rightB).length : Int))) else saleroomlaw14_PrepBest.j2 k frees (xs.filter rightB) t209 true) true) : ∀ (d i : Nat), i + d = xs.length →
    Ev (fun k => saleroomlaw14_PrepBest.l0 k xs frees ((xs.take i).filter rightB) xs (xs.length : Int) (i : Int)) true := by
  intro d
  induction d with
  | zero =>
    intro i h
    refine Ev.step (fun k => by simp only [saleroomlaw14_PrepBest.l0]; rfl) ?_
    simp only [if_neg (show ¬ ((i : Int) < (xs.length : Int)) from by omega)]
    rw [List.take_of_length_le (by omega)]
    exact hE
  | succ d ih =>
    intro i h
    have hi : i < xs.length := by omega
    have hfl : ((xs.take i).filter rightB).length ≤ 60 := by
      have h1 := List.length_filter_le rightB (xs.take i)
      rw [List.length_take] at h1
      omega
    refine Ev.step (fun k => by simp only [saleroomlaw14_PrepBest.l0]; rfl) ?_
    simp only [if_pos (show ((i : Int) < (xs.length : Int)) from by omega), if_pos (show (0 : Int) ≤ (i : Int) from by omega), wrapM i _ hi (by omega), right_f, Option.bind_some, if_pos (show ((xs.take i).filter rightB).length < 8796093022208 from by omega)]
    have hnext := ih (i + 1) (by omega)
    rw [rd_take _ _ hi, List.filter_append] at hnext
    cases hr : rightB (rd_T40 xs (i : Int)) with
    | true =>
      rw [List.filter_cons, if_pos hr] at hnext
      simp only [if_true]
      exact hnext
    | false =>
      rw [List.filter_cons, if_neg (by rw [hr]; decide), List.filter_nil, List.append_nil] at hnext
      simp only [Bool.false_eq_true, if_false]
      exact hnext
theorem PrepBest_pure (xs : List S40) (frees : List Int) (hn : xs.length ≤ 9223372036854775807) (hu : ∀ x ∈ xs, U64B x) (hf : ∀ f ∈ frees, 0 ≤ f ∧ f < 18446744073709551616) : ∃ k, saleroomlaw14_PrepBest.f k xs frees = some true := by
  refine Ev.rounds ?_
  unfold saleroomlaw14_PrepBest.f
  have ha : saleroomlaw14_alive.f = some true := rfl
  simp only [ha, Option.bind_some, if_true]
  have yes : Ev (fun k => saleroomlaw14_PrepBest.j0 k xs frees true) true := by
    refine Ev.step (fun k => by simp only [saleroomlaw14_PrepBest.j0]; rfl) ?_
    simp only [if_true]
    exact Ev.now _
  by_cases c1 : (xs.length : Int) > 60
  · simp only [if_pos c1]; exact yes
  · simp only [if_neg c1]
    by_cases c2 : (frees.length : Int) > 20
    · rw [decide_eq_true c2]; exact yes
    · rw [decide_eq_false c2]
      refine Ev.step (fun k => by simp only [saleroomlaw14_PrepBest.j0]; rfl) ?_
      simp only [Bool.false_eq_true, if_false]
      have hlen := one_length xs
      have hlr := one_right_length xs
      have hrl := List.length_filter_le rightB xs
      refine best_l0 xs frees (by omega) ?_ xs.length 0 (by omega)
      have h1 : prep_One.f xs = some (oneL xs) := by unfold prep_One.f; rw [if_pos (okU_iff.2 ⟨by omega, hu⟩)]
      have h2 : prep_One.f (oneL xs) = some (oneL xs) := by unfold prep_One.f; rw [if_pos (okU_iff.2 ⟨by omega, one_U64 hu⟩), one_one hu]
      simp only [h1, h2, Option.bind_some]
      refine Ev.bind (a := true) (same_f _ (by omega)) ?_
      simp only [if_true, show decide (((oneL xs).length : Int) > ((xs.filter rightB).length : Int)) = false from decide_eq_false (by omega)]
      refine Ev.step (fun k => by simp only [saleroomlaw14_PrepBest.j2]; rfl) ?_
      simp only [Bool.false_eq_true, if_false]
      refine best_l1 frees (xs.filter rightB) (oneL xs) (by omega) (fun i k hi hk hne hw hp => ?_) ?_ (oneL xs).length 0 (by omega)
      · have hb := (one_und hu _).1 (rd_mem (oneL xs) i hi)
        have ha := (one_und hu _).1 (rd_mem (oneL xs) k hk)
        have e := hb.2.2 _ ha.1 ha.2.1 (by unfold withinB; exact beq_iff_eq.2 hw) hp
        exact sorted_rd (one_sorted hu) hk hi hne e
      · exact best_l3 (oneL xs) (xs.filter rightB) frees (by omega) (by omega) (by omega) (fun f hff => one_best hu f (hf f hff)) frees.length 0 (by omega)
theorem best_walk (A : Option Addr) (c : Nat) (xs : List S40) (A1 : Option Addr) (c1 : Nat) (fs : List Int) (W : World) (hC : Kd.C k40 W A xs.length xs) (hc : xs.length ≤ c) (hv : ∀ x ∈ xs, WfI .u64 x.f0 ∧ WfI .i64 x.f1) (hC1 : Kd.C (Kd.int .u64) W A1 fs.length fs) (hc1 : fs.length ≤ c1) (hv1 : ∀ x ∈ fs, WfI .u64 x) :
    Calls Try.prog 7 #[.slice A xs.length c, .slice A1 fs.length c1] W fun e w' => e = .returned (.bool true) ∧ Below W.heap.size W w' := by
  obtain ⟨k, hk⟩ := PrepBest_pure xs fs (Kd.C_max hC) (fun x hx => u64_of_wf (hv x hx).1) (fun x hx => u64_of_wf (hv1 x hx))
  exact saleroomlaw14_PrepBest.calls k A c xs A1 c1 fs true W hC hc hC1 hc1 hk
end Go.Proofs.Ytafhdamdkefpkaa

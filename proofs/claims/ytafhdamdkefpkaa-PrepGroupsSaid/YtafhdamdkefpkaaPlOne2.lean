/- Plain: the program's One keeps the same bids in the same order as the reference's. -/
import Derived.Test.YtafhdamdkefpkaaPlOne
import Derived.Test.YtafhdamdkefpkaaPrepAll
namespace Go.Proofs.Ytafhdamdkefpkaa
open Go.RowKit Go.Proofs.YtafhdamdkefpkaaW.PrintWords Go.Proofs.YtafhdamdkefpkaaW.PrintLast Go.Proofs.YtafhdamdkefpkaaW.PrintMore Go.Proofs.Ytafhdamdkefpkaa.PPrep
set_option linter.unusedVariables false
set_option linter.unusedSimpArgs false

theorem getL_put (k x : Int) (s : Int) : ∀ l : List (Int × Int), getL s (putL k x l) = if k = s then some x else getL s l
  | [] => by simp [putL, getL]
  | (k', y) :: l => by
    unfold putL
    by_cases h1 : k < k'
    · rw [if_pos h1]
      simp only [getL]
    · rw [if_neg h1]
      by_cases h2 : k' < k
      · rw [if_pos h2]
        simp only [getL, getL_put k x s l]
        by_cases e : k' = s
        · rw [if_pos e, if_pos e, if_neg (by omega)]
        · rw [if_neg e, if_neg e]
      · have : k = k' := by omega
        subst this
        rw [if_neg h2]
        simp only [getL]
        by_cases e : k = s
        · rw [if_pos e, if_pos e]
        · rw [if_neg e, if_neg e, if_neg e]
theorem getL_mem {l : List (Int × Int)} (h : Rising l) (s p : Int) : (s, p) ∈ l ↔ getL s l = some p := by
  induction l with
  | nil => simp [getL]
  | cons a l ih =>
    obtain ⟨k, y⟩ := a
    have h1 := List.pairwise_cons.1 h
    simp only [getL, List.mem_cons, Prod.mk.injEq]
    by_cases e : k = s
    · rw [if_pos e]
      constructor
      · rintro (⟨h2, h3⟩ | h2)
        · rw [h3]
        · have := h1.1 _ h2; simp only at this; omega
      · intro h2; injection h2 with h2; exact .inl ⟨e.symm, h2.symm⟩
    · rw [if_neg e, ← ih h1.2]
      exact ⟨fun h => h.resolve_left (fun h' => e h'.1.symm), .inr⟩

/-- p is the greatest price of a right bid for s. -/
def Mx (xs : List S40) (s p : Int) : Prop := (∃ x ∈ xs, rightB x = true ∧ x.f0 = s ∧ x.f1 = p) ∧ ∀ x ∈ xs, rightB x = true → x.f0 = s → x.f1 ≤ p
theorem list_snoc {α : Type} {P : List α → Prop} (h0 : P []) (h1 : ∀ l x, P l → P (l ++ [x])) (l : List α) : P l := by
  have : ∀ m : List α, P m.reverse := fun m => by
    induction m with
    | nil => exact h0
    | cons x m ih => rw [List.reverse_cons]; exact h1 _ _ ih
  have h := this l.reverse
  rwa [List.reverse_reverse] at h
theorem gfold_mx (xs : List S40) : (∀ s p, getL s (xs.foldl gstep []) = some p ↔ Mx xs s p) ∧ ∀ s, getL s (xs.foldl gstep []) = none ↔ ∀ x ∈ xs, rightB x = true → x.f0 ≠ s := by
  refine list_snoc (P := fun xs => (∀ s p, getL s (xs.foldl gstep []) = some p ↔ Mx xs s p) ∧ ∀ s, getL s (xs.foldl gstep []) = none ↔ ∀ x ∈ xs, rightB x = true → x.f0 ≠ s) ?_ ?_ xs
  · refine ⟨fun s p => ?_, fun s => ?_⟩
    · simp [getL, Mx]
    · simp [getL]
  · rintro xs b ⟨ih1, ih2⟩
    rw [List.foldl_append, List.foldl_cons, List.foldl_nil]
    generalize xs.foldl gstep [] = L at ih1 ih2
    have mem : ∀ x, x ∈ xs ++ [b] ↔ x ∈ xs ∨ x = b := fun x => by simp
    have put : rightB b = true → (∀ y, getL b.f0 L = some y → y < b.f1) → (∀ s p, getL s (putL b.f0 b.f1 L) = some p ↔ Mx (xs ++ [b]) s p) ∧ ∀ s, getL s (putL b.f0 b.f1 L) = none ↔ ∀ x ∈ xs ++ [b], rightB x = true → x.f0 ≠ s := by
      intro hr hy
      refine ⟨fun s p => ?_, fun s => ?_⟩
      · rw [getL_put]
        by_cases e : b.f0 = s
        · rw [if_pos e]
          have hall : ∀ x ∈ xs, rightB x = true → x.f0 = s → x.f1 ≤ b.f1 := by
            intro x hx hrx hs
            cases hg : getL b.f0 L with
            | none => exact absurd (hs.trans e.symm) ((ih2 b.f0).1 hg x hx hrx)
            | some y => have h1 := ((ih1 b.f0 y).1 hg).2 x hx hrx (hs.trans e.symm); have h2 := hy y hg; omega
          constructor
          · intro h; injection h with h
            subst h
            refine ⟨⟨b, (mem b).2 (.inr rfl), hr, e, rfl⟩, fun x hx hrx hs => ?_⟩
            rcases (mem x).1 hx with hx | rfl
            · exact hall x hx hrx hs
            · exact Int.le_refl _
          · rintro ⟨⟨x, hx, hrx, hs, hp⟩, hm⟩
            have h1 := hm b ((mem b).2 (.inr rfl)) hr e
            rcases (mem x).1 hx with hx | rfl
            · have := hall x hx hrx hs
              rw [show b.f1 = p from by omega]
            · rw [hp]
        · rw [if_neg e, ih1]
          constructor
          · rintro ⟨⟨x, hx, h⟩, hm⟩
            refine ⟨⟨x, (mem x).2 (.inl hx), h⟩, fun x hx hrx hs => ?_⟩
            rcases (mem x).1 hx with hx | rfl
            · exact hm x hx hrx hs
            · exact absurd hs e
          · rintro ⟨⟨x, hx, hrx, hs, hp⟩, hm⟩
            refine ⟨⟨x, ?_, hrx, hs, hp⟩, fun x hx => hm x ((mem x).2 (.inl hx))⟩
            rcases (mem x).1 hx with hx | rfl
            · exact hx
            · exact absurd hs e
      · rw [getL_put]
        by_cases e : b.f0 = s
        · rw [if_pos e]
          exact ⟨fun h => by simp at h, fun h => absurd e (h b ((mem b).2 (.inr rfl)) hr)⟩
        · rw [if_neg e, ih2]
          constructor
          · intro h x hx hrx
            rcases (mem x).1 hx with hx | rfl
            · exact h x hx hrx
            · exact e
          · exact fun h x hx => h x ((mem x).2 (.inl hx))
    have keep : (rightB b = true → ∃ y, getL b.f0 L = some y ∧ b.f1 ≤ y) → (∀ s p, getL s L = some p ↔ Mx (xs ++ [b]) s p) ∧ ∀ s, getL s L = none ↔ ∀ x ∈ xs ++ [b], rightB x = true → x.f0 ≠ s := by
      intro hk
      refine ⟨fun s p => ?_, fun s => ?_⟩
      · rw [ih1]
        constructor
        · rintro ⟨⟨x, hx, h⟩, hm⟩
          refine ⟨⟨x, (mem x).2 (.inl hx), h⟩, fun x hx hrx hs => ?_⟩
          rcases (mem x).1 hx with hx | rfl
          · exact hm x hx hrx hs
          · obtain ⟨y, hy, hle⟩ := hk hrx
            obtain ⟨⟨z, hz, hrz, hz0, hz1⟩, hm2⟩ := (ih1 _ _).1 hy
            have h1 := hm z hz hrz (hz0.trans hs)
            omega
        · rintro ⟨⟨x, hx, hrx, hs, hp⟩, hm⟩
          rcases (mem x).1 hx with hx | rfl
          · exact ⟨⟨x, hx, hrx, hs, hp⟩, fun x hx => hm x ((mem x).2 (.inl hx))⟩
          · obtain ⟨y, hy, hle⟩ := hk hrx
            obtain ⟨⟨z, hz, hrz, hz0, hz1⟩, hm2⟩ := (ih1 _ _).1 hy
            have h1 := hm z ((mem z).2 (.inl hz)) hrz (hz0.trans hs)
            refine ⟨⟨z, hz, hrz, hz0.trans hs, by omega⟩, fun x hx => hm x ((mem x).2 (.inl hx))⟩
      · rw [ih2]
        constructor
        · intro h x hx hrx
          rcases (mem x).1 hx with hx | rfl
          · exact h x hx hrx
          · obtain ⟨y, hy, hle⟩ := hk hrx
            obtain ⟨⟨z, hz, hrz, hz0, hz1⟩, hm2⟩ := (ih1 _ _).1 hy
            exact fun e => h z hz hrz (hz0.trans e)
        · exact fun h x hx => h x ((mem x).2 (.inl hx))
    unfold gstep
    cases hr : rightB b with
    | false => simp only [Bool.false_and, Bool.false_eq_true, if_false]; exact keep (fun h => by rw [hr] at h; cases h)
    | true =>
      simp only [Bool.true_and]
      cases hg : getL b.f0 L with
      | none => simp only [Option.isSome_none, Bool.not_false, Bool.true_or, if_true]; exact put hr (fun y hy => by rw [hg] at hy; cases hy)
      | some y =>
        simp only [Option.isSome_some, Bool.not_true, Bool.false_or, Option.getD_some]
        by_cases c : b.f1 > y
        · rw [if_pos (decide_eq_true c)]; exact put hr (fun z hz => by rw [hg] at hz; injection hz with hz; omega)
        · rw [if_neg (by rw [decide_eq_true_eq]; exact c)]; exact keep (fun _ => ⟨y, hg, by omega⟩)

theorem grL_mem (xs : List S40) (x : S40) : x ∈ grL xs ↔ Mx xs x.f0 x.f1 := by
  unfold grL
  rw [(List.mergeSort_perm _ _).mem_iff, List.mem_map, ← (gfold_mx xs).1, ← getL_mem (gfold_rising xs [] List.Pairwise.nil)]
  constructor
  · rintro ⟨⟨s, p⟩, h, rfl⟩; exact h
  · exact fun h => ⟨_, h, rfl⟩
theorem grL_sorted {xs : List S40} (hu : ∀ x ∈ xs, U64B x) : (grL xs).Pairwise ltS := by
  have h1 : (grL xs).Pairwise (fun a b => leB a b = true) := by
    refine List.pairwise_mergeSort ?_ ?_ _
    · intro a b c h k; rw [leB_iff] at h k ⊢; omega
    · intro a b
      rw [Bool.or_eq_true, leB_iff, leB_iff]; omega
  have h2 : (grL xs).Pairwise (fun a b => a.f0 ≠ b.f0) := by
    unfold grL
    refine (List.mergeSort_perm _ _).symm.pairwise ?_ (fun {a b} h e => h e.symm)
    have hr : ((xs.foldl gstep []) : List (Int × Int)).Pairwise (fun a b => a.1 < b.1) := gfold_rising xs [] List.Pairwise.nil
    refine List.pairwise_map.2 (hr.imp (fun {a b} h => ?_))
    simp only [toS]
    omega
  refine (List.Pairwise.and h1 h2).imp_of_mem (fun {a b} ha hb hab => ?_)
  have e := leB_iff.1 hab.1
  obtain ⟨⟨y, hy, _, hy0, _⟩, _⟩ := (grL_mem xs a).1 ha
  obtain ⟨⟨z, hz, _, hz0, _⟩, _⟩ := (grL_mem xs b).1 hb
  have ua := hu y hy
  have ub := hu z hz
  have hne := hab.2
  unfold U64B at ua ub
  exact ltS_iff.2 (by omega)

theorem oneFold_sub (L : List S40) : (L.foldl oneStep []).Sublist L := by
  refine list_snoc (P := fun L => (L.foldl oneStep []).Sublist L) (by simp) ?_ L
  intro l b ih
  rw [List.foldl_append, List.foldl_cons, List.foldl_nil]
  unfold oneStep
  split
  · exact ih.trans (List.sublist_append_left _ _)
  · exact ih.append (List.Sublist.refl _)
theorem domB_refl {b : S40} (hb : U64B b) : domB b b = true := by
  unfold domB
  rw [withinB_refl hb]
  simp
theorem oneFold_dom (L : List S40) : (∀ x ∈ L, U64B x) → ∀ g ∈ L, ∃ a ∈ L.foldl oneStep [], domB a g = true := by
  refine list_snoc (P := fun L => (∀ x ∈ L, U64B x) → ∀ g ∈ L, ∃ a ∈ L.foldl oneStep [], domB a g = true) (by simp) ?_ L
  intro l b ih hu g hg
  rw [List.foldl_append, List.foldl_cons, List.foldl_nil]
  have ih' := ih (fun x hx => hu x (List.mem_append_left _ hx))
  unfold oneStep
  rcases List.mem_append.1 hg with hg | hg
  · obtain ⟨a, ha, hd⟩ := ih' g hg
    split
    · exact ⟨a, ha, hd⟩
    · exact ⟨a, List.mem_append_left _ ha, hd⟩
  · have e : g = b := by simpa using hg
    subst e
    split
    · rename_i h
      obtain ⟨a, ha, hd⟩ := List.any_eq_true.1 h
      exact ⟨a, ha, hd⟩
    · exact ⟨g, by simp, domB_refl (hu g (List.mem_append_right _ hg))⟩
theorem oneFold_apart (L : List S40) : (L.foldl oneStep []).Pairwise (fun a b => ¬ domB a b = true) := by
  refine list_snoc (P := fun L => (L.foldl oneStep []).Pairwise (fun a b => ¬ domB a b = true)) (by simp) ?_ L
  intro l b ih
  rw [List.foldl_append, List.foldl_cons, List.foldl_nil]
  unfold oneStep
  split
  · exact ih
  · rename_i h
    refine List.pairwise_append.2 ⟨ih, by simp, fun a ha c hc hd => ?_⟩
    have e : c = b := by simpa using hc
    subst e
    exact h (List.any_eq_true.2 ⟨a, ha, hd⟩)

theorem one_und {xs : List S40} (hu : ∀ x ∈ xs, U64B x) (b : S40) : b ∈ oneL xs ↔ Und xs b := by
  have hsub := oneFold_sub (grL xs)
  have hsort := grL_sorted hu
  have hug : ∀ x ∈ grL xs, U64B x := fun x hx => by
    obtain ⟨⟨y, hy, _, hy0, _⟩, _⟩ := (grL_mem xs x).1 hx
    have := hu y hy
    unfold U64B at this ⊢
    omega
  have hgx : ∀ x ∈ grL xs, x ∈ xs ∧ rightB x = true := fun x hx => by
    obtain ⟨⟨y, hy, hr, hy0, hy1⟩, _⟩ := (grL_mem xs x).1 hx
    have e : y = x := S40.ext_ hy0 hy1
    subst e
    exact ⟨hy, hr⟩
  constructor
  · intro hb
    have hbg := hsub.mem hb
    obtain ⟨hbx, hbr⟩ := hgx b hbg
    refine ⟨hbx, hbr, fun c hc hrc hw hp => ?_⟩
    by_cases e : c.f0 = b.f0
    · have := ((grL_mem xs b).1 hbg).2 c hc hrc e
      exact S40.ext_ e (by omega)
    · exfalso
      obtain ⟨p, hp'⟩ : ∃ p, getL c.f0 (xs.foldl gstep []) = some p := by
        cases hg : getL c.f0 (xs.foldl gstep []) with
        | none => exact absurd rfl (((gfold_mx xs).2 c.f0).1 hg c hc hrc)
        | some p => exact ⟨p, rfl⟩
      have hm := ((gfold_mx xs).1 c.f0 p).1 hp'
      have hgm : (⟨c.f0, p⟩ : S40) ∈ grL xs := (grL_mem xs _).2 hm
      have hcp := hm.2 c hc hrc rfl
      obtain ⟨a, ha, hd⟩ := oneFold_dom (grL xs) hug _ hgm
      have hd' : withinB a.f0 c.f0 = true ∧ a.f1 ≥ p := by simpa [domB] using hd
      have ua := hug a (hsub.mem ha)
      have uc := hu c hc
      have ub := hu b hbx
      have hab : domB a b = true := by
        unfold domB
        rw [withinB_trans ua uc ub hd'.1 hw]
        simp
        omega
      have hlt : ltS a b := by
        have h1 := (withinB_iff ua uc).1 hd'.1
        have h2 := (withinB_iff uc ub).1 hw
        have h3 := within_ahead (a := c.f0.toNat) (b := b.f0.toNat) (by unfold U64B at uc; omega) (by unfold U64B at ub; omega) h2 (by unfold U64B at uc ub; omega)
        have h4 : Lib.onesCount a.f0.toNat ≤ Lib.onesCount c.f0.toNat := by
          by_cases e' : a.f0.toNat = c.f0.toNat
          · rw [e']; exact Nat.le_refl _
          · exact Nat.le_of_lt (within_ahead (by unfold U64B at ua; omega) (by unfold U64B at uc; omega) h1 e')
        exact ltS_iff.2 (by omega)
      have hso : (oneL xs).Pairwise (fun a b => ltS a b ∧ ¬ domB a b = true) := List.Pairwise.and (hsort.sublist hsub) (oneFold_apart (grL xs))
      have : ∀ {l : List S40}, l.Pairwise (fun a b => ltS a b ∧ ¬ domB a b = true) → a ∈ l → b ∈ l → False := by
        intro l hl h1 h2
        induction l with
        | nil => simp at h1
        | cons c l ih =>
          have h3 := List.pairwise_cons.1 hl
          rcases List.mem_cons.1 h1 with rfl | h1' <;> rcases List.mem_cons.1 h2 with rfl | h2'
          · rw [ltS_iff] at hlt; omega
          · exact (h3.1 _ h2').2 hab
          · have h4 := (h3.1 _ h1').1
            rw [ltS_iff] at hlt h4; omega
          · exact ih h3.2 h1' h2'
      exact this hso ha hb
  · rintro ⟨hbx, hbr, hd⟩
    have hbg : b ∈ grL xs := (grL_mem xs b).2 ⟨⟨b, hbx, hbr, rfl, rfl⟩, fun x hx hrx e => by
      apply Classical.byContradiction
      intro hn
      have := hd x hx hrx (by rw [e]; exact withinB_refl (hu b hbx)) (by omega)
      subst this
      omega⟩
    obtain ⟨a, ha, hda⟩ := oneFold_dom (grL xs) hug _ hbg
    have hd' : withinB a.f0 b.f0 = true ∧ a.f1 ≥ b.f1 := by simpa [domB] using hda
    obtain ⟨hax, har⟩ := hgx a (hsub.mem ha)
    have := hd a hax har hd'.1 hd'.2
    subst this
    exact ha
theorem one_sorted {xs : List S40} (hu : ∀ x ∈ xs, U64B x) : (oneL xs).Pairwise ltS := (grL_sorted hu).sublist (oneFold_sub _)
theorem one_ref {xs : List S40} (hu : ∀ x ∈ xs, U64B x) : refTo xs xs.length = oneL xs :=
  sorted_unique (ref_sorted hu _ (Nat.le_refl _)) (one_sorted hu) (fun x => by rw [ref_und hu, one_und hu])
theorem one_length (xs : List S40) : (oneL xs).length ≤ xs.length := by
  have h := oneFold_length (grL xs) []
  have h2 := gfold_length xs
  unfold oneL
  unfold grL at h ⊢
  rw [List.length_mergeSort, List.length_map] at h
  simp only [List.length_nil] at h
  omega
theorem one_U64 {xs : List S40} (hu : ∀ x ∈ xs, U64B x) : ∀ x ∈ oneL xs, U64B x := fun x hx => hu x ((one_und hu x).1 hx).1
end Go.Proofs.Ytafhdamdkefpkaa

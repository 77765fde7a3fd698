/- Plain: the items of a group; groups have no item in common. -/
import Derived.Test.YtafhdamdkefpkaaPlGrp3
namespace Go.Proofs.Ytafhdamdkefpkaa
open Go.RowKit Go.Proofs.YtafhdamdkefpkaaW.PrintWords Go.Proofs.YtafhdamdkefpkaaW.PrintLast Go.Proofs.YtafhdamdkefpkaaW.PrintMore Go.Proofs.Ytafhdamdkefpkaa.PPrep
set_option linter.unusedVariables false
set_option linter.unusedSimpArgs false

theorem gs_inv (xss : List (List S40)) (hu : ∀ xs ∈ xss, ∀ x ∈ xs, U64B x) : ∀ i, i ≤ xss.length →
    (∀ j : Nat, j < xss.length → ((gsTo xss i).1.getD j false = true ↔ ∃ m : Nat, m < i ∧ 0 < (rd_L3 xss (m : Int)).length ∧ Conn (xss.map uniL) m j)) ∧
    (∀ g ∈ (gsTo xss i).2, ∃ m : Nat, m < i ∧ 0 < (rd_L3 xss (m : Int)).length ∧ g = classL (xss.map uniL) m) ∧
    (gsTo xss i).2.Pairwise (fun g g' => ∀ k k' : Nat, (k : Int) ∈ g → (k' : Int) ∈ g' → ¬ Conn (xss.map uniL) k k') := by
  have hus := usOk_of hu
  have hul : (xss.map uniL).length = xss.length := by simp
  intro i
  induction i with
  | zero =>
    intro _
    refine ⟨fun j hj => ?_, fun g hg => by simp [gsTo] at hg, by simp [gsTo]⟩
    show (List.replicate xss.length false).getD j false = true ↔ _
    rw [List.getD_eq_getElem?_getD, List.getElem?_replicate]
    simp [hj]
  | succ i ih =>
    intro hi
    obtain ⟨h1, h2, h3⟩ := ih (by omega)
    have hil : i < xss.length := by omega
    have hlen := gsTo_length xss i
    have hstep : gsTo xss (i + 1) = gsStep xss (gsTo xss i) i := rfl
    have hsi := h1 i hil
    by_cases c : (gsTo xss i).1.getD i false = true ∨ (rd_L3 xss (i : Int)).isEmpty = true
    · have hs : gsTo xss (i + 1) = gsTo xss i := by
        rw [hstep]
        unfold gsStep
        rw [if_pos (by rw [Bool.or_eq_true]; exact c)]
      rw [hs]
      refine ⟨fun j hj => ?_, fun g hg => ?_, h3⟩
      · rw [h1 j hj]
        constructor
        · rintro ⟨m, k1, k2, k3⟩; exact ⟨m, by omega, k2, k3⟩
        · rintro ⟨m, k1, k2, k3⟩
          rcases Nat.lt_or_ge m i with k4 | k4
          · exact ⟨m, k4, k2, k3⟩
          · have e : m = i := by omega
            subst e
            rcases c with c | c
            · obtain ⟨m', l1, l2, l3⟩ := hsi.1 c
              exact ⟨m', l1, l2, l3.trans k3⟩
            · rw [List.isEmpty_iff] at c
              rw [c] at k2
              simp at k2
      · obtain ⟨m, k1, k2⟩ := h2 g hg
        exact ⟨m, by omega, k2⟩
    · have c1 : (gsTo xss i).1.getD i false = false := by
        cases h : (gsTo xss i).1.getD i false
        · rfl
        · exact absurd (.inl h) c
      have c2 : (rd_L3 xss (i : Int)).isEmpty = false := by
        cases h : (rd_L3 xss (i : Int)).isEmpty
        · rfl
        · exact absurd (.inr h) c
      have hlp : 0 < (rd_L3 xss (i : Int)).length := by
        cases hx : rd_L3 xss (i : Int) with
        | nil => rw [hx] at c2; simp at c2
        | cons x xs => simp
      have hnm : ¬ ∃ m : Nat, m < i ∧ 0 < (rd_L3 xss (m : Int)).length ∧ Conn (xss.map uniL) m i := fun h => by rw [hsi.2 h] at c1; cases c1
      have hs : gsTo xss (i + 1) = (markL (gsTo xss i).1 (groupL (xss.map uniL) i), (gsTo xss i).2 ++ [groupL (xss.map uniL) i]) := by
        rw [hstep]
        unfold gsStep
        rw [if_neg (by rw [c1, c2]; decide)]
      have hcl := groupL_class hus (show i < (xss.map uniL).length by omega)
      rw [hs]
      refine ⟨fun j hj => ?_, fun g hg => ?_, ?_⟩
      · show (markL (gsTo xss i).1 (groupL (xss.map uniL) i)).getD j false = true ↔ _
        rw [markL_get _ _ (fun k hk => (groupL_mem _ _ k hk).1) j (by omega), h1 j hj, hcl, classL_mem _ _ (by omega)]
        constructor
        · rintro (⟨m, k1, k2, k3⟩ | k3)
          · exact ⟨m, by omega, k2, k3⟩
          · exact ⟨i, by omega, hlp, k3⟩
        · rintro ⟨m, k1, k2, k3⟩
          rcases Nat.lt_or_ge m i with k4 | k4
          · exact .inl ⟨m, k4, k2, k3⟩
          · have e : m = i := by omega
            subst e
            exact .inr k3
      · rcases List.mem_append.1 hg with hg | hg
        · obtain ⟨m, k1, k2⟩ := h2 g hg
          exact ⟨m, by omega, k2⟩
        · have e : g = groupL (xss.map uniL) i := by simpa using hg
          exact ⟨i, by omega, hlp, by rw [e, hcl]⟩
      · refine List.pairwise_append.2 ⟨h3, by simp, fun g hg g' hg' k k' hk hk' hc => ?_⟩
        have e : g' = groupL (xss.map uniL) i := by simpa using hg'
        rw [e, hcl, classL_mem _ _ (by omega)] at hk'
        obtain ⟨m, k1, k2, k3⟩ := h2 g hg
        rw [k3, classL_mem _ _ (by omega)] at hk
        exact hnm ⟨m, k1, k2, (hk.trans hc).trans hk'.symm⟩

/-- The items of some bidders. -/
def itU (xss : List (List S40)) (g : List Int) : Int := g.foldl (fun u k => Go.bits .or .u64 u (uniL (rd_L3 xss k))) 0
def seenU (xss : List (List S40)) (gs : List (List Int)) : Int := gs.foldl (fun u g => Go.bits .or .u64 u (itU xss g)) 0
def R64 (x : Int) : Prop := 0 ≤ x ∧ x < 18446744073709551616
theorem or_fold {α : Type} (f : α → Int) : ∀ (l : List α), (∀ a ∈ l, R64 (f a)) → ∀ (u : Int), R64 u → R64 (l.foldl (fun u a => Go.bits .or .u64 u (f a)) u) ∧
    ∀ b, (l.foldl (fun u a => Go.bits .or .u64 u (f a)) u).toNat.testBit b = true ↔ u.toNat.testBit b = true ∨ ∃ a ∈ l, (f a).toNat.testBit b = true
  | [], _, u, hu => ⟨hu, fun b => by simp⟩
  | a :: l, h, u, hu => by
    obtain ⟨h1, h2⟩ := or_int hu (h a List.mem_cons_self)
    obtain ⟨h3, h4⟩ := or_fold f l (fun x hx => h x (List.mem_cons_of_mem _ hx)) _ h1
    refine ⟨h3, fun b => ?_⟩
    rw [List.foldl_cons, h4, h2, Bool.or_eq_true]
    simp only [List.mem_cons, exists_eq_or_imp, or_assoc]
theorem rdL_u (xss : List (List S40)) (hu : ∀ xs ∈ xss, ∀ x ∈ xs, U64B x) (k : Int) : R64 (uniL (rd_L3 xss k)) := by
  unfold rd_L3
  rcases Nat.lt_or_ge k.toNat xss.length with h | h
  · rw [List.getD_eq_getElem?_getD, List.getElem?_eq_getElem h]
    exact uniL_b _ (hu _ (List.getElem_mem h))
  · rw [List.getD_eq_getElem?_getD, List.getElem?_eq_none h]
    exact ⟨by decide, by decide⟩
theorem itU_ok (xss : List (List S40)) (hu : ∀ xs ∈ xss, ∀ x ∈ xs, U64B x) (g : List Int) : R64 (itU xss g) ∧ ∀ b, (itU xss g).toNat.testBit b = true ↔ ∃ k ∈ g, (uniL (rd_L3 xss k)).toNat.testBit b = true := by
  obtain ⟨h1, h2⟩ := or_fold (fun k => uniL (rd_L3 xss k)) g (fun k _ => rdL_u xss hu k) 0 ⟨by decide, by decide⟩
  exact ⟨h1, fun b => by rw [itU, h2]; simp⟩
theorem seenU_ok (xss : List (List S40)) (hu : ∀ xs ∈ xss, ∀ x ∈ xs, U64B x) (gs : List (List Int)) : R64 (seenU xss gs) ∧ ∀ b, (seenU xss gs).toNat.testBit b = true ↔ ∃ g ∈ gs, ∃ k ∈ g, (uniL (rd_L3 xss k)).toNat.testBit b = true := by
  obtain ⟨h1, h2⟩ := or_fold (fun g => itU xss g) gs (fun g _ => (itU_ok xss hu g).1) 0 ⟨by decide, by decide⟩
  refine ⟨h1, fun b => ?_⟩
  rw [seenU, h2]
  constructor
  · rintro (h | ⟨g, hg, h⟩)
    · simp at h
    · exact ⟨g, hg, ((itU_ok xss hu g).2 b).1 h⟩
  · rintro ⟨g, hg, h⟩
    exact .inr ⟨g, hg, ((itU_ok xss hu g).2 b).2 h⟩
/-- A group's items are none of those ahead of it. -/
theorem groups_apart (xss : List (List S40)) (hu : ∀ xs ∈ xss, ∀ x ∈ xs, U64B x) {pre post : List (List Int)} {g : List Int} (h : groupsL xss = pre ++ g :: post) : Go.bits .and .u64 (itU xss g) (seenU xss pre) = 0 := by
  have hul : (xss.map uniL).length = xss.length := by simp
  obtain ⟨-, h2, h3⟩ := gs_inv xss hu xss.length (Nat.le_refl _)
  have hg : (gsTo xss xss.length).2 = pre ++ g :: post := h
  rw [hg] at h2 h3
  have ha : apartB (itU xss g) (seenU xss pre) = true := by
    rw [apartB_iff (itU_ok xss hu g).1 (seenU_ok xss hu pre).1]
    rintro b ⟨k1, k2⟩
    obtain ⟨k, hk, hkb⟩ := ((itU_ok xss hu g).2 b).1 k1
    obtain ⟨g', hg', k', hk', hkb'⟩ := ((seenU_ok xss hu pre).2 b).1 k2
    have nat : ∀ g'' ∈ pre ++ g :: post, ∀ x ∈ g'', ∃ m : Nat, x = (m : Int) ∧ m < xss.length := by
      intro g'' hg'' x hx
      obtain ⟨m, -, -, e⟩ := h2 g'' hg''
      rw [e] at hx
      unfold classL at hx
      obtain ⟨j, hj, rfl⟩ := List.mem_map.1 hx
      exact ⟨j, rfl, by have := List.mem_range.1 (List.mem_filter.1 hj).1; omega⟩
    obtain ⟨m, rfl, hm⟩ := nat g (by simp) k hk
    obtain ⟨m', rfl, hm'⟩ := nat g' (by simp [hg']) k' hk'
    have hd := (List.pairwise_append.1 h3).2.2 g' hg' g List.mem_cons_self m' m hk' hk
    refine hd (.tail (.refl m') ⟨b, ?_, ?_⟩)
    · unfold uBit; rw [rd_us xss m' hm']; rw [rdL_nat xss m' hm'] at hkb'; exact hkb'
    · unfold uBit; rw [rd_us xss m hm]; rw [rdL_nat xss m hm] at hkb; exact hkb
  unfold apartB at ha
  exact beq_iff_eq.1 ha
theorem itU_take (xss : List (List S40)) (g : List Int) (j : Nat) (h : j < g.length) : itU xss (g.take (j + 1)) = Go.bits .or .u64 (itU xss (g.take j)) (uniL (rd_L3 xss (g.getD j 0))) := by
  unfold itU
  rw [List.take_add_one, List.foldl_append]
  simp [h]
theorem seenU_snoc (xss : List (List S40)) (pre : List (List Int)) (g : List Int) : seenU xss (pre ++ [g]) = Go.bits .or .u64 (seenU xss pre) (itU xss g) := by
  unfold seenU
  rw [List.foldl_append]
  rfl
end Go.Proofs.Ytafhdamdkefpkaa

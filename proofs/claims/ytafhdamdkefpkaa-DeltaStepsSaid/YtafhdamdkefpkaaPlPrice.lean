/- Plain: lists of entries: what is asked, tight lists, an entry put; a tight list is known by what is asked. -/
import Derived.Test.YtafhdamdkefpkaaPriceAll
import Derived.Test.YtafhdamdkefpkaaPlBits
namespace Go.Proofs.Ytafhdamdkefpkaa
open Go.RowKit Go.Proofs.YtafhdamdkefpkaaW.PrintWords Go.Proofs.YtafhdamdkefpkaaW.PrintLast Go.Proofs.YtafhdamdkefpkaaW.PrintMore
set_option linter.unusedVariables false
set_option linter.unusedSimpArgs false

def U64 (s : Int) : Prop := 0 ≤ s ∧ s < 18446744073709551616
theorem wi_refl {a : Int} (ha : U64 a) : withinB a a = true := by
  obtain ⟨n, rfl⟩ := Int.eq_ofNat_of_zero_le ha.1
  exact (withinB_nat n n (by have := ha.2; omega) (by have := ha.2; omega)).2 (fun _ h => h)
theorem wi_trans {a b c : Int} (ha : U64 a) (hb : U64 b) (hc : U64 c) (h : withinB a b = true) (k : withinB b c = true) : withinB a c = true := by
  obtain ⟨n, rfl⟩ := Int.eq_ofNat_of_zero_le ha.1
  obtain ⟨m, rfl⟩ := Int.eq_ofNat_of_zero_le hb.1
  obtain ⟨l, rfl⟩ := Int.eq_ofNat_of_zero_le hc.1
  have h1 : n < 18446744073709551616 := by have := ha.2; omega
  have h2 : m < 18446744073709551616 := by have := hb.2; omega
  have h3 : l < 18446744073709551616 := by have := hc.2; omega
  rw [withinB_nat _ _ h1 h2] at h
  rw [withinB_nat _ _ h2 h3] at k
  rw [withinB_nat _ _ h1 h3]
  exact fun j hj => k j (h j hj)
theorem wi_anti {a b : Int} (ha : U64 a) (hb : U64 b) (h : withinB a b = true) (k : withinB b a = true) : a = b := by
  obtain ⟨n, rfl⟩ := Int.eq_ofNat_of_zero_le ha.1
  obtain ⟨m, rfl⟩ := Int.eq_ofNat_of_zero_le hb.1
  have h1 : n < 18446744073709551616 := by have := ha.2; omega
  have h2 : m < 18446744073709551616 := by have := hb.2; omega
  rw [withinB_nat _ _ h1 h2] at h
  rw [withinB_nat _ _ h2 h1] at k
  have : n = m := Nat.eq_of_testBit_eq (fun j => by
    cases e1 : n.testBit j <;> cases e2 : m.testBit j
    · rfl
    · rw [k j e2] at e1; cases e1
    · rw [h j e1] at e2; cases e2
    · rfl)
  rw [this]

/-! What is asked. -/
theorem entTo_filter (xs : List PDelta.S68) (s : Int) : ∀ i, i ≤ xs.length → entTo xs s i = (xs.take i).filter (fun x => withinB x.f0 s)
  | 0, _ => rfl
  | i + 1, h => by
    rw [entTo, entTo_filter xs s i (by omega), takeE xs i (by omega), List.filter_append, List.filter_cons, List.filter_nil]
theorem entL_filter (xs : List PDelta.S68) (s : Int) : entL xs s = xs.filter (fun x => withinB x.f0 s) := by
  unfold entL
  rw [entTo_filter xs s _ (Nat.le_refl _), List.take_length]
theorem foldl_max (l : List PDelta.S68) : ∀ m : Int, m ≤ l.foldl (fun o e => max o e.f1) m ∧ (∀ x ∈ l, x.f1 ≤ l.foldl (fun o e => max o e.f1) m) ∧ (l.foldl (fun o e => max o e.f1) m = m ∨ ∃ x ∈ l, x.f1 = l.foldl (fun o e => max o e.f1) m) := by
  induction l with
  | nil => exact fun m => ⟨Int.le_refl _, by simp, .inl rfl⟩
  | cons y l ih =>
    intro m
    obtain ⟨h1, h2, h3⟩ := ih (max m y.f1)
    simp only [List.foldl_cons]
    refine ⟨by omega, ?_, ?_⟩
    · intro x hx
      rcases List.mem_cons.1 hx with rfl | hx
      · omega
      · exact h2 x hx
    · rcases h3 with h3 | ⟨x, hx, h3⟩
      · rcases Int.le_total m y.f1 with c | c
        · exact .inr ⟨y, List.mem_cons_self, by rw [h3]; omega⟩
        · exact .inl (by rw [h3]; omega)
      · exact .inr ⟨x, List.mem_cons_of_mem _ hx, h3⟩
/-- m is what is asked of s. -/
def AskIs (xs : List PDelta.S68) (s m : Int) : Prop := 0 ≤ m ∧ (∀ x ∈ xs, withinB x.f0 s = true → x.f1 ≤ m) ∧ (m = 0 ∨ ∃ x ∈ xs, withinB x.f0 s = true ∧ x.f1 = m)
theorem ask_is (xs : List PDelta.S68) (s : Int) : AskIs xs s (askL xs s) := by
  have h := foldl_max (entL xs s) 0
  have e : askL xs s = (entL xs s).foldl (fun o e => max o e.f1) 0 := rfl
  rw [← e] at h
  rw [entL_filter] at h
  refine ⟨h.1, fun x hx hw => h.2.1 x (List.mem_filter.2 ⟨hx, hw⟩), ?_⟩
  rcases h.2.2 with h2 | ⟨x, hx, h2⟩
  · exact .inl h2
  · exact .inr ⟨x, (List.mem_filter.1 hx).1, (List.mem_filter.1 hx).2, h2⟩
theorem AskIs.unique {xs : List PDelta.S68} {s m n : Int} (h : AskIs xs s m) (k : AskIs xs s n) : m = n := by
  have le : ∀ {a b : Int}, AskIs xs s a → AskIs xs s b → a ≤ b := by
    intro a b ha hb
    rcases ha.2.2 with rfl | ⟨x, hx, hw, rfl⟩
    · exact hb.1
    · exact hb.2.1 x hx hw
  exact Int.le_antisymm (le h k) (le k h)
theorem ask_eq {xs : List PDelta.S68} {s m : Int} (h : AskIs xs s m) : askL xs s = m := (ask_is xs s).unique h
theorem ask_nonneg (xs : List PDelta.S68) (s : Int) : 0 ≤ askL xs s := (ask_is xs s).1
theorem ask_mem {xs : List PDelta.S68} {s : Int} {x : PDelta.S68} (hx : x ∈ xs) (hw : withinB x.f0 s = true) : x.f1 ≤ askL xs s := (ask_is xs s).2.1 x hx hw
theorem ask_nil (s : Int) : askL [] s = 0 := rfl

/-! An entry put. -/
theorem mem_insL {es : List PDelta.S68} {s ask : Int} {x : PDelta.S68} : x ∈ insL es s ask ↔ x = ⟨s, ask⟩ ∨ x ∈ es := by
  unfold insL
  constructor
  · intro h
    rcases List.mem_append.1 h with h | h
    · exact .inr ((List.takeWhile_sublist _).mem h)
    · rcases List.mem_cons.1 h with h | h
      · exact .inl h
      · exact .inr ((List.dropWhile_sublist _).mem h)
  · intro h
    rcases h with rfl | h
    · simp
    · rw [← List.takeWhile_append_dropWhile (p := ltE s) (l := es)] at h
      rcases List.mem_append.1 h with h | h
      · exact List.mem_append_left _ h
      · exact List.mem_append_right _ (List.mem_cons_of_mem _ h)
theorem cmpE_total {a b : Int} (ha : U64 a) (hb : U64 b) : cmpE a b < 0 ∨ a = b ∨ cmpE b a < 0 := by
  unfold cmpE
  rw [scmp_neg, scmp_neg]
  have : a.toNat = b.toNat → a = b := fun h => by have := ha.1; have := hb.1; omega
  omega
theorem cmpE_irr {a : Int} : ¬ cmpE a a < 0 := by
  unfold cmpE
  rw [scmp_neg]
  omega
theorem dropWhile_head {α : Type} (p : α → Bool) (l : List α) : ∀ {x : α} {r : List α}, l.dropWhile p = x :: r → p x = false := by
  induction l with
  | nil => intro x r h; cases h
  | cons y l ih =>
    intro x r h
    rw [List.dropWhile_cons] at h
    split at h
    · exact ih h
    · injection h with h1 h2
      subst h1
      simpa using ‹¬ p y = true›
theorem takeWhile_all {α : Type} (p : α → Bool) (l : List α) : ∀ x ∈ l.takeWhile p, p x = true := by
  intro x hx
  have := List.all_takeWhile (p := p) (l := l)
  exact List.all_eq_true.1 this x hx
theorem sorted_ins {es : List PDelta.S68} (h : SortedE es) {s ask : Int} (hs : U64 s) (hn : ∀ e ∈ es, e.f0 ≠ s) : SortedE (insL es s ask) := by
  refine ⟨fun x hx => ?_, ?_⟩
  · rcases mem_insL.1 hx with rfl | hx
    · exact hs
    · exact h.1 x hx
  · have hp := h.2
    rw [← List.takeWhile_append_dropWhile (p := ltE s) (l := es)] at hp
    rw [List.pairwise_append] at hp
    obtain ⟨p1, p2, p3⟩ := hp
    have hd : ∀ e ∈ es.dropWhile (ltE s), cmpE s e.f0 < 0 := by
      cases hD : es.dropWhile (ltE s) with
      | nil => simp
      | cons d r =>
        have h0 : ¬ cmpE d.f0 s < 0 := by
          have := dropWhile_head _ _ hD
          exact of_decide_eq_false this
        have hdm : d ∈ es := (List.dropWhile_sublist (ltE s)).mem (by rw [hD]; exact List.mem_cons_self)
        have h1 : cmpE s d.f0 < 0 := by
          rcases cmpE_total (h.1 d hdm) hs with c | c | c
          · exact absurd c h0
          · exact absurd c (hn d hdm)
          · exact c
        intro e he
        rcases List.mem_cons.1 he with rfl | he
        · exact h1
        · rw [hD] at p2
          exact cmpE_trans h1 ((List.pairwise_cons.1 p2).1 e he)
    have ht : ∀ e ∈ es.takeWhile (ltE s), cmpE e.f0 s < 0 := fun e he => of_decide_eq_true (takeWhile_all (ltE s) es e he)
    unfold insL
    rw [List.pairwise_append, List.pairwise_cons]
    refine ⟨p1, ⟨hd, p2⟩, fun a ha b hb => ?_⟩
    rcases List.mem_cons.1 hb with rfl | hb
    · exact ht a ha
    · exact p3 a ha b hb

/-- A tight list. -/
structure TightE (xs : List PDelta.S68) : Prop where
  sorted : SortedE xs
  some_ : ∀ x ∈ xs, x.f0 ≠ 0
  least : ∀ x ∈ xs, 1 ≤ x.f1
  most : ∀ x ∈ xs, x.f1 ≤ 2199023255552
  apart : ∀ x ∈ xs, ∀ y ∈ xs, withinB x.f0 y.f0 = true → x.f0 ≠ y.f0 → x.f1 < y.f1
theorem tight_nil : TightE [] := ⟨⟨by simp, List.Pairwise.nil⟩, by simp, by simp, by simp, by simp⟩
theorem keep_iff {s ask : Int} {x : PDelta.S68} : keepE s ask x = true ↔ ¬ (withinB s x.f0 = true ∧ x.f1 ≤ ask) := by
  unfold keepE outE
  cases withinB s x.f0 <;> simp
theorem tight_put {xs : List PDelta.S68} (h : TightE xs) {s ask : Int} (hs : U64 s) : TightE (putL2 xs s ask) := by
  by_cases c : s = 0 ∨ 2199023255552 < ask ∨ ask ≤ askL xs s
  · rw [putL2_no c]; exact h
  rw [putL2_yes c]
  have c0 : s ≠ 0 := fun e => c (.inl e)
  have c1 : ask ≤ 2199023255552 := Int.not_lt.1 (fun e => c (.inr (.inl e)))
  have c2 : askL xs s < ask := Int.not_le.1 (fun e => c (.inr (.inr e)))
  have hmem : ∀ {x : PDelta.S68}, x ∈ xs.filter (keepE s ask) → x ∈ xs ∧ ¬ (withinB s x.f0 = true ∧ x.f1 ≤ ask) := fun hx => ⟨(List.mem_filter.1 hx).1, keep_iff.1 (List.mem_filter.1 hx).2⟩
  refine ⟨sorted_ins (h.sorted.filter _) hs (fun e he hes => ?_), ?_, ?_, ?_, ?_⟩
  · obtain ⟨h1, h2⟩ := hmem he
    refine h2 ⟨by rw [hes]; exact wi_refl hs, ?_⟩
    have := ask_mem h1 (by rw [hes]; exact wi_refl hs : withinB e.f0 s = true)
    omega
  · intro x hx
    rcases mem_insL.1 hx with rfl | hx
    · exact c0
    · exact h.some_ x (hmem hx).1
  · intro x hx
    rcases mem_insL.1 hx with rfl | hx
    · have := ask_nonneg xs s
      show 1 ≤ ask
      omega
    · exact h.least x (hmem hx).1
  · intro x hx
    rcases mem_insL.1 hx with rfl | hx
    · exact c1
    · exact h.most x (hmem hx).1
  · intro x hx y hy hw hne
    rcases mem_insL.1 hx with rfl | hx <;> rcases mem_insL.1 hy with rfl | hy
    · exact absurd rfl hne
    · exact Int.not_le.1 (fun e => (hmem hy).2 ⟨hw, e⟩)
    · have := ask_mem (hmem hx).1 hw
      show x.f1 < ask
      have h0 : withinB x.f0 s = true := hw
      have := ask_mem (hmem hx).1 h0
      omega
    · exact h.apart x (hmem hx).1 y (hmem hy).1 hw hne
theorem ask_put {xs : List PDelta.S68} (hu : ∀ x ∈ xs, U64 x.f0) {s ask t : Int} (hs : U64 s) (ht : U64 t) : askL (putL2 xs s ask) t = if s ≠ 0 ∧ ask ≤ 2199023255552 ∧ withinB s t = true then max (askL xs t) ask else askL xs t := by
  by_cases c : s = 0 ∨ 2199023255552 < ask ∨ ask ≤ askL xs s
  · rw [putL2_no c]
    split
    · rename_i k
      have h1 : ask ≤ askL xs s := by
        rcases c with c | c | c
        · exact absurd c k.1
        · omega
        · exact c
      have h2 : askL xs s ≤ askL xs t := by
        rcases (ask_is xs s).2.2 with e | ⟨x, hx, hw, e⟩
        · rw [e]; exact ask_nonneg _ _
        · rw [← e]; exact ask_mem hx (wi_trans (hu x hx) hs ht hw k.2.2)
      omega
    · rfl
  rw [putL2_yes c]
  have c0 : s ≠ 0 := fun e => c (.inl e)
  have c1 : ask ≤ 2199023255552 := Int.not_lt.1 (fun e => c (.inr (.inl e)))
  have c2 : askL xs s < ask := Int.not_le.1 (fun e => c (.inr (.inr e)))
  have hmem : ∀ {x : PDelta.S68}, x ∈ xs.filter (keepE s ask) ↔ x ∈ xs ∧ ¬ (withinB s x.f0 = true ∧ x.f1 ≤ ask) := by
    intro x
    rw [List.mem_filter, keep_iff]
  apply ask_eq
  by_cases hw : withinB s t = true
  · rw [if_pos ⟨c0, c1, hw⟩]
    refine ⟨by have := ask_nonneg xs t; omega, ?_, ?_⟩
    · intro x hx hxt
      rcases mem_insL.1 hx with rfl | hx
      · show ask ≤ _
        omega
      · have := ask_mem (hmem.1 hx).1 hxt
        omega
    · rcases Int.lt_or_le ask (askL xs t) with k | k
      · rcases (ask_is xs t).2.2 with e | ⟨x, hx, hxt, e⟩
        · have := ask_nonneg xs s; omega
        · exact .inr ⟨x, mem_insL.2 (.inr (hmem.2 ⟨hx, fun h => by have := h.2; omega⟩)), hxt, by omega⟩
      · exact .inr ⟨⟨s, ask⟩, mem_insL.2 (.inl rfl), hw, by show ask = _; omega⟩
  · rw [if_neg (fun h => hw h.2.2)]
    refine ⟨ask_nonneg xs t, ?_, ?_⟩
    · intro x hx hxt
      rcases mem_insL.1 hx with rfl | hx
      · exact absurd hxt hw
      · exact ask_mem (hmem.1 hx).1 hxt
    · rcases (ask_is xs t).2.2 with e | ⟨x, hx, hxt, e⟩
      · exact .inl e
      · exact .inr ⟨x, mem_insL.2 (.inr (hmem.2 ⟨hx, fun h => hw (wi_trans hs (hu x hx) ht h.1 hxt)⟩)), hxt, e⟩
theorem length_put (xs : List PDelta.S68) (s ask : Int) : (putL2 xs s ask).length ≤ xs.length + 1 := by
  by_cases c : s = 0 ∨ 2199023255552 < ask ∨ ask ≤ askL xs s
  · rw [putL2_no c]; omega
  rw [putL2_yes c]
  unfold insL
  rw [List.length_append, List.length_cons, ← Nat.add_assoc, ← List.length_append, List.takeWhile_append_dropWhile]
  have := List.length_filter_le (keepE s ask) xs
  omega

/-! A tight list is known by what is asked. -/
theorem tight_mem {xs : List PDelta.S68} (h : TightE xs) (x : PDelta.S68) (hx : U64 x.f0) : x ∈ xs ↔ askL xs x.f0 = x.f1 ∧ 1 ≤ x.f1 ∧ ∀ t, U64 t → withinB t x.f0 = true → t ≠ x.f0 → askL xs t < x.f1 := by
  constructor
  · intro hm
    have h1 := h.least x hm
    refine ⟨ask_eq ⟨by omega, fun y hy hw => ?_, .inr ⟨x, hm, wi_refl hx, rfl⟩⟩, h1, fun t ht hw hne => ?_⟩
    · by_cases e : y.f0 = x.f0
      · have := ask_mem hm (wi_refl hx)
        -- two entries of one set are one
        have : y = x := by
          obtain ⟨i, hi, rfl⟩ := List.getElem_of_mem hy
          obtain ⟨j, hj, rfl⟩ := List.getElem_of_mem hm
          rcases Nat.lt_trichotomy i j with c | c | c
          · have := List.pairwise_iff_getElem.1 h.sorted.2 i j hi hj c
            rw [e] at this
            exact absurd this cmpE_irr
          · subst c; rfl
          · have := List.pairwise_iff_getElem.1 h.sorted.2 j i hj hi c
            rw [e] at this
            exact absurd this cmpE_irr
        rw [this]; exact Int.le_refl _
      · have := h.apart y hy x hm hw e
        omega
    · rcases (ask_is xs t).2.2 with e | ⟨y, hy, hyt, e⟩
      · omega
      · rw [← e]
        refine h.apart y hy x hm (wi_trans (h.sorted.1 y hy) ht hx hyt hw) (fun e' => hne ?_)
        rw [← e']
        rw [← e'] at hw
        exact wi_anti ht (h.sorted.1 y hy) hw hyt
  · rintro ⟨h1, h2, h3⟩
    rcases (ask_is xs x.f0).2.2 with e | ⟨y, hy, hw, e⟩
    · omega
    · by_cases c : y.f0 = x.f0
      · have : y = x := by
          cases y; cases x
          simp only at c e h1
          subst c
          congr 1
          omega
        rw [← this]; exact hy
      · have h4 := h3 y.f0 (h.sorted.1 y hy) hw c
        have := ask_mem hy (wi_refl (h.sorted.1 y hy))
        omega
theorem sorted_ext : ∀ {xs ys : List PDelta.S68}, SortedE xs → SortedE ys → (∀ x, x ∈ xs ↔ x ∈ ys) → xs = ys
  | [], [], _, _, _ => rfl
  | [], y :: ys, _, _, h => absurd ((h y).2 List.mem_cons_self) (by simp)
  | x :: xs, [], _, _, h => absurd ((h x).1 List.mem_cons_self) (by simp)
  | x :: xs, y :: ys, hx, hy, h => by
    have px := List.pairwise_cons.1 hx.2
    have py := List.pairwise_cons.1 hy.2
    have e : x = y := by
      rcases List.mem_cons.1 ((h x).1 List.mem_cons_self) with e | e
      · exact e
      rcases List.mem_cons.1 ((h y).2 List.mem_cons_self) with e2 | e2
      · exact e2.symm
      · exact absurd (cmpE_trans (py.1 x e) (px.1 y e2)) cmpE_irr
    subst e
    congr 1
    refine sorted_ext ⟨fun z hz => hx.1 z (List.mem_cons_of_mem _ hz), px.2⟩ ⟨fun z hz => hy.1 z (List.mem_cons_of_mem _ hz), py.2⟩ (fun z => ?_)
    constructor
    · intro hz
      rcases List.mem_cons.1 ((h z).1 (List.mem_cons_of_mem _ hz)) with e | e
      · subst e; exact absurd (px.1 z hz) cmpE_irr
      · exact e
    · intro hz
      rcases List.mem_cons.1 ((h z).2 (List.mem_cons_of_mem _ hz)) with e | e
      · subst e; exact absurd (py.1 z hz) cmpE_irr
      · exact e
theorem tight_ext {xs ys : List PDelta.S68} (hx : TightE xs) (hy : TightE ys) (h : ∀ t, U64 t → askL xs t = askL ys t) : xs = ys := by
  refine sorted_ext hx.sorted hy.sorted (fun x => ?_)
  constructor
  · intro hm
    have hu : U64 x.f0 := hx.sorted.1 x hm
    obtain ⟨h1, h2, h3⟩ := (tight_mem hx x hu).1 hm
    exact (tight_mem hy x hu).2 ⟨by rw [← h _ hu]; exact h1, h2, fun t ht hw hn => by rw [← h _ ht]; exact h3 t ht hw hn⟩
  · intro hm
    have hu : U64 x.f0 := hy.sorted.1 x hm
    obtain ⟨h1, h2, h3⟩ := (tight_mem hy x hu).1 hm
    exact (tight_mem hx x hu).2 ⟨by rw [h _ hu]; exact h1, h2, fun t ht hw hn => by rw [h _ ht]; exact h3 t ht hw hn⟩

/-! Puts, one behind the other. -/
def putsL (xs es : List PDelta.S68) : List PDelta.S68 := es.foldl (fun l e => putL2 l e.f0 e.f1) xs
def ofL (es : List PDelta.S68) : List PDelta.S68 := putsL [] es
theorem tight_puts (es : List PDelta.S68) (hu : ∀ e ∈ es, U64 e.f0) : ∀ {xs : List PDelta.S68}, TightE xs → TightE (putsL xs es) := by
  induction es with
  | nil => exact fun h => h
  | cons e es ih => exact fun h => ih (fun x hx => hu x (List.mem_cons_of_mem _ hx)) (tight_put h (hu e List.mem_cons_self))
theorem length_puts (es : List PDelta.S68) : ∀ xs : List PDelta.S68, (putsL xs es).length ≤ xs.length + es.length := by
  induction es with
  | nil => exact fun xs => Nat.le_refl _
  | cons e es ih =>
    intro xs
    have h1 := ih (putL2 xs e.f0 e.f1)
    have h2 := length_put xs e.f0 e.f1
    show (putsL (putL2 xs e.f0 e.f1) es).length ≤ _
    simp only [List.length_cons]
    omega
/-- What is asked behind puts: the greatest of what was asked and what was put. -/
theorem ask_puts (es : List PDelta.S68) (hu : ∀ e ∈ es, U64 e.f0) : ∀ {xs : List PDelta.S68}, TightE xs → ∀ t, U64 t →
    askL xs t ≤ askL (putsL xs es) t ∧ (∀ e ∈ es, e.f0 ≠ 0 → e.f1 ≤ 2199023255552 → withinB e.f0 t = true → e.f1 ≤ askL (putsL xs es) t) ∧
      (askL (putsL xs es) t = askL xs t ∨ ∃ e ∈ es, withinB e.f0 t = true ∧ e.f1 = askL (putsL xs es) t) := by
  induction es with
  | nil => exact fun h t ht => ⟨Int.le_refl _, by simp, .inl rfl⟩
  | cons e es ih =>
    intro xs h t ht
    have he := hu e List.mem_cons_self
    obtain ⟨h1, h2, h3⟩ := ih (fun x hx => hu x (List.mem_cons_of_mem _ hx)) (tight_put h (s := e.f0) (ask := e.f1) he) t ht
    have ep : putsL xs (e :: es) = putsL (putL2 xs e.f0 e.f1) es := rfl
    rw [ep]
    have ha := ask_put (xs := xs) (fun x hx => h.sorted.1 x hx) (s := e.f0) (ask := e.f1) he ht
    refine ⟨?_, ?_, ?_⟩
    · have : askL xs t ≤ askL (putL2 xs e.f0 e.f1) t := by rw [ha]; split <;> omega
      omega
    · intro x hx k1 k2 k3
      rcases List.mem_cons.1 hx with rfl | hx
      · rw [if_pos ⟨k1, k2, k3⟩] at ha
        omega
      · exact h2 x hx k1 k2 k3
    · rcases h3 with h3 | ⟨x, hx, k⟩
      · rw [h3, ha]
        split
        · rename_i k
          rcases Int.le_total e.f1 (askL xs t) with c | c
          · exact .inl (by omega)
          · exact .inr ⟨e, List.mem_cons_self, k.2.2, by omega⟩
        · exact .inl rfl
      · exact .inr ⟨x, List.mem_cons_of_mem _ hx, k⟩
/-- A tight list, put into nothing, is the same. -/
theorem of_tight {xs : List PDelta.S68} (h : TightE xs) : ofL xs = xs := by
  have hu : ∀ e ∈ xs, U64 e.f0 := fun e he => h.sorted.1 e he
  refine tight_ext (tight_puts xs hu tight_nil) h (fun t ht => ?_)
  obtain ⟨h1, h2, h3⟩ := ask_puts xs hu tight_nil t ht
  rw [ask_nil] at h1 h3
  refine (ask_eq ⟨h1, fun x hx hw => h2 x hx (h.some_ x hx) (h.most x hx) hw, ?_⟩).symm
  rcases h3 with h3 | ⟨x, hx, hw, e⟩
  · exact .inl h3
  · exact .inr ⟨x, hx, hw, e⟩
/-- **What has risen, put into what was, is what is now**, if nothing fell. -/
theorem puts_risen {was now : List PDelta.S68} (hw : TightE was) (hn : TightE now) (hle : ∀ t, U64 t → askL was t ≤ askL now t) : putsL was (now.filter fun e => decide (askL was e.f0 < e.f1)) = now := by
  have hu : ∀ e ∈ now.filter (fun e => decide (askL was e.f0 < e.f1)), U64 e.f0 := fun e he => hn.sorted.1 e (List.mem_filter.1 he).1
  refine tight_ext (tight_puts _ hu hw) hn (fun t ht => ?_)
  obtain ⟨h1, h2, h3⟩ := ask_puts _ hu hw t ht
  refine (ask_eq ⟨?_, fun x hx hxt => ?_, ?_⟩).symm
  · have := ask_nonneg was t; omega
  · by_cases c : askL was x.f0 < x.f1
    · exact h2 x (List.mem_filter.2 ⟨hx, decide_eq_true c⟩) (hn.some_ x hx) (hn.most x hx) hxt
    · have h4 : askL was x.f0 ≤ askL was t := by
        rcases (ask_is was x.f0).2.2 with e | ⟨y, hy, hyw, e⟩
        · rw [e]; exact ask_nonneg _ _
        · rw [← e]; exact ask_mem hy (wi_trans (hw.sorted.1 y hy) (hn.sorted.1 x hx) ht hyw hxt)
      omega
  · rcases h3 with h3 | ⟨x, hx, hxt, e⟩
    · rcases (ask_is now t).2.2 with e | ⟨y, hy, hyt, e⟩
      · have := hle t ht
        have := ask_nonneg was t
        exact .inl (by omega)
      · -- what is asked now is what was asked
        have h5 := hle t ht
        by_cases c : askL was y.f0 < y.f1
        · have := h2 y (List.mem_filter.2 ⟨hy, decide_eq_true c⟩) (hn.some_ y hy) (hn.most y hy) hyt
          exact .inr ⟨y, hy, hyt, by omega⟩
        · have h4 : askL was y.f0 ≤ askL was t := by
            rcases (ask_is was y.f0).2.2 with e2 | ⟨z, hz, hzw, e2⟩
            · rw [e2]; exact ask_nonneg _ _
            · rw [← e2]; exact ask_mem hz (wi_trans (hw.sorted.1 z hz) (hn.sorted.1 y hy) ht hzw hyt)
          exact .inr ⟨y, hy, hyt, by omega⟩
    · exact .inr ⟨x, (List.mem_filter.1 hx).1, hxt, e⟩
end Go.Proofs.Ytafhdamdkefpkaa

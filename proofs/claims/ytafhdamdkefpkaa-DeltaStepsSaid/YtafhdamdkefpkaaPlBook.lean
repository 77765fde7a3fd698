/- Plain: what has risen between books, applied one behind the other, is the last book. -/
import Derived.Test.YtafhdamdkefpkaaDeltaF
namespace Go.Proofs.Ytafhdamdkefpkaa
open Go.RowKit Go.Proofs.YtafhdamdkefpkaaW.PrintWords Go.Proofs.YtafhdamdkefpkaaW.PrintLast Go.Proofs.YtafhdamdkefpkaaW.PrintMore
set_option linter.unusedVariables false
set_option linter.unusedSimpArgs false
theorem atL_ge {bs : List (List PDelta.S68)} {i : Nat} (h : bs.length ≤ i) : atL bs i = [] := by simp [atL, List.getD, h]
theorem atL_cases (bs : List (List PDelta.S68)) (i : Nat) : atL bs i ∈ bs ∨ atL bs i = [] := by
  by_cases h : i < bs.length
  · exact .inl (atL_mem h)
  · exact .inr (atL_ge (by omega))
theorem atL_long (bs : List (List PDelta.S68)) (n i : Nat) : atL (longL bs n) i = atL bs i := by
  unfold atL longL
  simp only [List.getD, List.getElem?_append]
  split
  · rfl
  · rename_i h
    rw [List.getElem?_replicate, List.getElem?_eq_none (l := bs) (by omega)]
    split <;> rfl
theorem atL_set (bs : List (List PDelta.S68)) (n i : Nat) (l : List PDelta.S68) (h : n < bs.length) : atL (bs.set n l) i = if n = i then l else atL bs i := by
  unfold atL
  simp only [List.getD, List.getElem?_set]
  split
  · rename_i e
    subst e
    simp [h]
  · rfl
theorem atL_applyC (bs : List (List PDelta.S68)) (c : PDelta.S76) (i : Nat) (hi : i < 64) : atL (applyC bs c) i = if c.f0 = (i : Int) then putL2 (atL bs i) c.f1.f0 c.f1.f1 else atL bs i := by
  unfold applyC
  split
  · rw [if_neg (by omega)]
  · rw [atL_set _ _ _ _ (long_length bs c.f0.toNat), atL_long, atL_long]
    by_cases e : c.f0 = (i : Int)
    · rw [if_pos e, if_pos (by omega), show c.f0.toNat = i from by omega]
    · rw [if_neg e, if_neg (by omega)]
def forL (cs : List PDelta.S76) (i : Nat) : List PDelta.S68 := (cs.filter (fun c => decide (c.f0 = (i : Int)))).map (·.f1)
theorem atL_fold (i : Nat) (hi : i < 64) : ∀ (cs : List PDelta.S76) (bs : List (List PDelta.S68)), atL (cs.foldl applyC bs) i = putsL (atL bs i) (forL cs i)
  | [], bs => rfl
  | c :: cs, bs => by
    rw [List.foldl_cons, atL_fold i hi cs, atL_applyC bs c i hi]
    unfold forL
    by_cases e : c.f0 = (i : Int)
    · rw [if_pos e, List.filter_cons_of_pos (by simpa using e)]
      rfl
    · rw [if_neg e, List.filter_cons_of_neg (by simpa using e)]
theorem map_of_tight {bs : List (List PDelta.S68)} (h : ∀ b ∈ bs, TightE b) : bs.map ofL = bs := by
  have := List.map_congr_left (f := ofL) (g := id) (l := bs) (fun b hb => of_tight (h b hb))
  rw [this, List.map_id]
theorem forL_allTo (bs : List (List PDelta.S68)) (i : Nat) : ∀ n, forL (allTo bs n) i = if i < n then PDelta.rd_L3 bs (i : Nat) else []
  | 0 => rfl
  | n + 1 => by
    have ih := forL_allTo bs i n
    have e : forL (allTo bs (n + 1)) i = forL (allTo bs n) i ++ forL ((PDelta.rd_L3 bs (n : Nat)).map (fun e => (⟨n, e⟩ : PDelta.S76))) i := by
      unfold forL
      rw [allTo, List.filter_append, List.map_append]
    rw [e, ih]
    generalize hx : PDelta.rd_L3 bs (n : Nat) = xs
    by_cases c : i = n
    · subst c
      rw [if_neg (Nat.lt_irrefl _), if_pos (Nat.lt_succ_self _), List.nil_append, hx]
      unfold forL
      rw [List.filter_eq_self.2 (by simp), List.map_map]
      simp [Function.comp_def]
    · have : forL (xs.map (fun e => (⟨n, e⟩ : PDelta.S76))) i = [] := by
        unfold forL
        rw [List.filter_eq_nil_iff.2 (by simp; omega), List.map_nil]
      rw [this, List.append_nil]
      by_cases d : i < n
      · rw [if_pos d, if_pos (by omega)]
      · rw [if_neg d, if_neg (by omega)]
theorem forL_all (bs : List (List PDelta.S68)) (i : Nat) : forL (allL bs) i = atL bs i := by
  unfold allL
  rw [forL_allTo]
  by_cases c : i < bs.length
  · rw [if_pos c]
    rw [rd_L3_get _ _ c]
    simp [atL, List.getD, c]
  · rw [if_neg c, atL_ge (by omega)]
theorem forL_diff (was now : List (List PDelta.S68)) (i : Nat) : forL (diffL was now) i = (atL (now.map ofL) i).filter (fun e => decide (askL (atL (was.map ofL) i) e.f0 < e.f1)) := by
  rw [← forL_all (now.map ofL) i]
  unfold forL diffL
  rw [List.filter_map, List.filter_filter, List.filter_filter]
  congr 1
  apply List.filter_congr
  intro c hc
  by_cases e : c.f0 = (i : Int)
  · simp [risen, e]
  · simp [e]
/-- A copy of a book: it may be shorter where the book's lists are none. -/
structure AgreeL (c b : List (List PDelta.S68)) : Prop where
  at_ : ∀ i, atL c i = atL b i
  tight : ∀ l ∈ c, TightE l
  few : c.length ≤ 64
theorem agree_step {c was now : List (List PDelta.S68)} (h : AgreeL c was) (hw : ∀ l ∈ was, TightE l) (hn : ∀ l ∈ now, TightE l) (hnl : now.length ≤ 64) (hle : ∀ i t, U64 t → askL (atL was i) t ≤ askL (atL now i) t)
    (hu : ∀ c ∈ diffL was now, U64 c.f1.f0) : AgreeL (applyL c (diffL was now)) now := by
  have hf : Fine c c.length 64 → True := fun _ => trivial
  have hcm := map_of_tight h.tight
  have hm : ∀ n, ∃ m, n ≤ m := fun n => ⟨n, Nat.le_refl _⟩
  have hfine : ∃ n, Fine c n 64 := by
    clear hf hm hcm
    have : ∃ n, ∀ l ∈ c, l.length ≤ n := by
      clear h
      induction c with
      | nil => exact ⟨0, by simp⟩
      | cons x xs ih =>
        obtain ⟨n, hn⟩ := ih
        exact ⟨max n x.length, fun l hl => by
          rcases List.mem_cons.1 hl with rfl | hl
          · exact Nat.le_max_right _ _
          · exact Nat.le_trans (hn l hl) (Nat.le_max_left _ _)⟩
    obtain ⟨n, hn⟩ := this
    exact ⟨n, fun b hb => ⟨h.tight b hb, hn b hb⟩, h.few⟩
  obtain ⟨n, hfn⟩ := hfine
  have hft := fine_take hfn (Nat.le_refl _) (diffL was now) hu (diffL was now).length (Nat.le_refl _)
  rw [List.take_length] at hft
  have happ : applyL c (diffL was now) = (diffL was now).foldl applyC c := by unfold applyL; rw [hcm]
  rw [happ]
  refine ⟨fun i => ?_, fun l hl => (hft.1 l hl).1, hft.2⟩
  by_cases hi : i < 64
  · rw [atL_fold i hi, forL_diff, map_of_tight hn, map_of_tight hw, h.at_]
    have ht : ∀ {bs : List (List PDelta.S68)}, (∀ l ∈ bs, TightE l) → TightE (atL bs i) := fun {bs} hb => by
      rcases atL_cases bs i with e | e
      · exact hb _ e
      · rw [e]; exact tight_nil
    exact puts_risen (ht hw) (ht hn) (fun t htu => hle i t htu)
  · rw [atL_ge (by have := hft.2; omega), atL_ge (by omega)]
/-- What is asked in a book only rises. -/
theorem apply_rises {was : List (List PDelta.S68)} (hw : ∀ l ∈ was, TightE l) (hl : was.length ≤ 64) (cs : List PDelta.S76) (hu : ∀ c ∈ cs, U64 c.f1.f0) (i : Nat) (t : Int) (ht : U64 t) : askL (atL was i) t ≤ askL (atL (applyL was cs) i) t := by
  unfold applyL
  rw [map_of_tight hw]
  by_cases hi : i < 64
  · rw [atL_fold i hi]
    refine (ask_puts _ ?_ ?_ t ht).1
    · intro e he
      obtain ⟨c, hc, rfl⟩ := List.mem_map.1 he
      exact hu c (List.mem_filter.1 hc).1
    · rcases atL_cases was i with e | e
      · exact hw _ e
      · rw [e]; exact tight_nil
  · rw [atL_ge (bs := was) (by omega), ask_nil]
    exact ask_nonneg _ _
theorem allTo_length (bs : List (List PDelta.S68)) (m : Nat) (h : ∀ b ∈ bs, b.length ≤ m) : ∀ n, n ≤ bs.length → (allTo bs n).length ≤ n * m
  | 0, _ => by simp [allTo]
  | n + 1, hn => by
    rw [allTo, List.length_append, List.length_map, rd_L3_get _ _ (by omega)]
    have h1 := allTo_length bs m h n (by omega)
    have h2 := h bs[n] (List.getElem_mem _)
    rw [Nat.succ_mul]
    omega
/-- The book behind the first k rows. -/
def bkAt (rows : List (List PDelta.S76)) (k : Nat) : List (List PDelta.S68) := (rows.take k).foldl applyL []
def bksTo (rows : List (List PDelta.S76)) (i : Nat) : List (List (List PDelta.S68)) := (List.range i).map (fun k => bkAt rows (k + 1))
theorem bkAt_zero (rows : List (List PDelta.S76)) : bkAt rows 0 = [] := rfl
theorem bkAt_succ (rows : List (List PDelta.S76)) (k : Nat) (h : k < rows.length) : bkAt rows (k + 1) = applyL (bkAt rows k) (rows.getD k []) := by
  unfold bkAt
  rw [List.take_add_one, List.foldl_append]
  simp [List.getD, h]
theorem bksTo_succ (rows : List (List PDelta.S76)) (i : Nat) : bksTo rows (i + 1) = bksTo rows i ++ [bkAt rows (i + 1)] := by
  unfold bksTo
  rw [List.range_succ, List.map_append]
  rfl
theorem bksTo_length (rows : List (List PDelta.S76)) (i : Nat) : (bksTo rows i).length = i := by simp [bksTo]
theorem bksTo_get (rows : List (List PDelta.S76)) (i k : Nat) (h : k < i) : (bksTo rows i).getD k [] = bkAt rows (k + 1) := by simp [bksTo, List.getD, h]
theorem prevB_bks (rows : List (List PDelta.S76)) (i k : Nat) (h : k < i) : prevB (bksTo rows i) k = bkAt rows k := by
  unfold prevB
  split
  · rename_i e; subst e; rfl
  · rw [bksTo_get _ _ _ (by omega), show k - 1 + 1 = k from by omega]
/-- The law's first n rows. -/
def RowsOk (rows : List (List PDelta.S76)) (n : Nat) : Prop := n ≤ rows.length ∧ ∀ k, k < n → (rows.getD k []).length ≤ 20 ∧ ∀ c ∈ rows.getD k [], U64 c.f1.f0
theorem bkAt_fine {rows : List (List PDelta.S76)} {n : Nat} (h : RowsOk rows n) : ∀ k, k ≤ n → Fine (bkAt rows k) (20 * k) 64
  | 0, _ => ⟨by simp [bkAt], by simp [bkAt]⟩
  | k + 1, hk => by
    have ih := bkAt_fine h k (by omega)
    rw [bkAt_succ _ _ (by have := h.1; omega)]
    have hr := h.2 k (by omega)
    unfold applyL
    rw [map_of_tight (fun l hl => (ih.1 l hl).1)]
    have := fine_take ih (Nat.le_refl _) (rows.getD k []) hr.2 _ (Nat.le_refl _)
    rw [List.take_length] at this
    exact ⟨fun b hb => ⟨(this.1 b hb).1, by have := (this.1 b hb).2; omega⟩, this.2⟩
theorem fine_ok {b : List (List PDelta.S68)} {n : Nat} (h : Fine b n 64) (hn : n ≤ 10000) : BookOk b := by
  have hm := map_of_tight (fun l hl => (h.1 l hl).1)
  refine ⟨by have := h.2; omega, fun l hl => by have := (h.1 l hl).2; omega, fun l hl e he => (h.1 l hl).1.sorted.1 e he, ?_⟩
  rw [hm]
  have := allTo_length b n (fun l hl => (h.1 l hl).2) b.length (Nat.le_refl _)
  unfold allL
  have h2 : b.length * n ≤ 64 * n := Nat.mul_le_mul_right _ h.2
  omega
theorem bkAt_ok {rows : List (List PDelta.S76)} {n : Nat} (h : RowsOk rows n) (hl : n ≤ 10) (k : Nat) (hk : k ≤ n) : BookOk (bkAt rows k) := fine_ok (bkAt_fine h k hk) (by omega)
theorem bksTo_ok {rows : List (List PDelta.S76)} {n : Nat} (h : RowsOk rows n) (hl : n ≤ 10) (i : Nat) (hi : i ≤ n) : ∀ b ∈ bksTo rows i, BookOk b := by
  intro b hb
  obtain ⟨k, hk, rfl⟩ := List.mem_map.1 hb
  have := List.mem_range.1 hk
  exact bkAt_ok h hl _ (by omega)
theorem diff_u {was now : List (List PDelta.S68)} (hn : ∀ l ∈ now, TightE l) : ∀ c ∈ diffL was now, U64 c.f1.f0 := by
  intro c hc
  unfold diffL at hc
  rw [map_of_tight hn] at hc
  obtain ⟨i, h1, -, h3⟩ := allTo_mem now now.length (Nat.le_refl _) c (List.mem_filter.1 hc).1
  exact (hn _ (atL_mem h1)).sorted.1 _ h3
theorem diff_length {was now : List (List PDelta.S68)} {n : Nat} (h : Fine now n 64) : (diffL was now).length ≤ 64 * n := by
  unfold diffL
  rw [map_of_tight (fun l hl => (h.1 l hl).1)]
  refine Nat.le_trans (List.length_filter_le _ _) ?_
  have := allTo_length now n (fun l hl => (h.1 l hl).2) now.length (Nat.le_refl _)
  unfold allL
  have h2 : now.length * n ≤ 64 * n := Nat.mul_le_mul_right _ h.2
  omega
/-- **The copy keeps step.** -/
theorem copy_step {rows : List (List PDelta.S76)} {n : Nat} (h : RowsOk rows n) {c : List (List PDelta.S68)} {k : Nat} (hk : k < n) (hc : AgreeL c (bkAt rows k)) : AgreeL (applyL c (diffL (bkAt rows k) (bkAt rows (k + 1)))) (bkAt rows (k + 1)) := by
  have f0 := bkAt_fine h k (by omega)
  have f1 := bkAt_fine h (k + 1) (by omega)
  have hr := h.2 k hk
  refine agree_step hc (fun l hl => (f0.1 l hl).1) (fun l hl => (f1.1 l hl).1) f1.2 (fun i t ht => ?_) (diff_u (fun l hl => (f1.1 l hl).1))
  rw [bkAt_succ _ _ (by have := h.1; omega)]
  exact apply_rises (fun l hl => (f0.1 l hl).1) f0.2 _ hr.2 i t ht
theorem agree_nil : AgreeL [] [] := ⟨fun _ => rfl, by simp, by simp⟩
end Go.Proofs.Ytafhdamdkefpkaa

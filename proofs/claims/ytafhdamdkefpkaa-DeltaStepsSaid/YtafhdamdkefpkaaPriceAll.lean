/- Laws over any program: 'copy' and 'clear' at elements of any size, cell by cell; the append of zeros to a row that has no room. price.Store: the entries whose sets lie within another one, one by one; what is asked for a set. price.Store.Ask: what is asked for a set. slices.Clone of entries; price.Store.List. The closures of price.Store.Put; the binary search over entries. The binary search over entries. The first entry that is left out. price.Store.Entries: the entries one by one. slices.DeleteFunc at entries, by the closure of price.Store.Put. slices.Insert of one entry. price.Store.Put: a store of entries that are known as a list. -/
import Derived.Test.YtafhdamdkefpkaaWMore
import Derived.Test.YtafhdamdkefpkaaKitAll
import Derived.Lib.AppendZerosOnto
import Derived.Lib.Overlaps
import Derived.Deep.RegionLaw
import Derived.Test.YtafhdamdkefpkaaPrepAll
import Derived.Test.YtafhdamdkefpkaaPDeltax0
import Derived.Sort.LoopGhostIn
import Derived.Test.YtafhdamdkefpkaaSortAll
import Derived.Shelf.RegionOpenPlain
namespace Go.Proofs.Ytafhdamdkefpkaa
open Go.RowKit Go.Proofs.YtafhdamdkefpkaaW.PrintWords Go.Proofs.YtafhdamdkefpkaaW.PrintLast Go.Proofs.YtafhdamdkefpkaaW.PrintMore
set_option linter.unusedVariables false
section
variable {P : Program}
/-- Block g is a row of plain cells. -/
def RowIs (W : World) (g : Nat) (e : TypeId) (cur : List Value) : Prop := W.heap[g]? = some (.cells cur.toArray e (0, 0))
theorem RowIs.cell {W : World} {g : Nat} {e : TypeId} {cur : List Value} (h : RowIs W g e cur) {j : Nat} {v : Value} (hj : cur[j]? = some v) : W.cell? ⟨g, j, none⟩ = some v := by
  rw [cell_of_row W g j _ e (0, 0) h]
  simpa using hj
theorem RowIs.set {W : World} {g : Nat} {e : TypeId} {cur : List Value} (h : RowIs W g e cur) (o : Nat) (cs : List Value) (hl : o + cs.length ≤ cur.length) : RowIs (W.setCells g o cs) g e (cur.take o ++ cs ++ cur.drop (o + cs.length)) := by
  obtain ⟨cur', h1, h2, h3⟩ := setCells_row cs o W cur.toArray h (by simpa using hl)
  unfold RowIs
  rw [h1]
  rw [← h3]
theorem setCells_grown (g : Nat) (o : Nat) (cs : List Value) (W : World) : W.grownBy (W.setCells g o cs) (some g) := by
  obtain ⟨s1, s2, s3, s4⟩ := setCells_same g cs o W
  exact ⟨s1, s2, s3, by rw [s4]; exact Nat.le_refl _, fun k _ hk => setCells_far cs o k (fun e => hk (by rw [e]))⟩
theorem grown_below {B g : Nat} {W W' : World} (h : W.grownBy W' (some g)) (hg : B ≤ g) (hB : B ≤ W.heap.size) : Below B W W' :=
  ⟨h.os, h.tape, h.output, h.size, fun k hk => h.block k (by omega) (fun e => by injection e with e; omega)⟩
/-- copy: the cells cs go over. -/
theorem run_copy_sz (w : World) (dT sT ty elem : TypeId) (g o dLen dCap : Nat) (a : Addr) (sLen sCap sz m : Nat) (cs cur : List Value) (e : TypeId)
    (hu : P.underlying dT = some (.slice elem)) (hs : (P.info? elem).map (·.size) = some sz) (hm : Nat.min sLen dLen = m) (hn : cs.length = m * sz)
    (hsrc : ∀ j v, cs[j]? = some v → w.cell? (a.add j) = some v) (hg : RowIs w g e cur) (hfit : o + cs.length ≤ cur.length) (h1 : ∀ v ∈ cs, v.oneCell' = true) :
    (Builtin.copy_ #[dT, sT] ty #[.slice (some ⟨g, o, none⟩) dLen dCap, .slice (some a) sLen sCap]).run P w = .ok (goInt m) (w.setCells g o cs) := by
  have hl := run_loadCells_list (P := P) w a cs hsrc
  have hst := run_storeCells_cells (P := P) g o cs 0 w (fun j hj => by rw [cell_of_row w g _ _ e (0, 0) hg]; simp; omega) (fun j _ => blk_frozen hg _) h1
  rw [hn] at hl
  cases hq : P.info? elem with
  | none => simp [hq] at hs
  | some i =>
    have hi : i.size = sz := by simpa [hq] using hs
    simp [Builtin.copy_, run_underlying hu, Builtin.lenOf, Builtin.firstCells, sizeOf, typeInfo, hq, hi, hm, hl, hst]
/-- clear: n elements are zeros then. -/
theorem run_clear_sz (w : World) (t e ty : TypeId) (i : TypeInfo) (z : Value) (ht : P.underlying t = some (.slice e)) (hi : P.info? e = some i) (hz : i.zero = some z) (g o n c sz : Nat) (cur : List Value) (e' : TypeId) (hn : 0 < n)
    (hg : RowIs w g e' cur) (hzs : z.cells.size = sz) (hfit : o + n * sz ≤ cur.length) (h1 : ∀ u ∈ (Builtin.zeroCells z.cells n).toList, u.oneCell' = true) :
    (Builtin.clear_ #[t] ty #[.slice (some ⟨g, o, none⟩) n c]).run P w = .ok (.tuple #[]) (w.setCells g o (Builtin.zeroCells z.cells n).toList) := by
  have hl : (Builtin.zeroCells z.cells n).toList.length = n * sz := by rw [Array.length_toList, size_zeroCells, hzs]
  have hst := run_storeCells_cells (P := P) g o (Builtin.zeroCells z.cells n).toList 0 w (fun j hj => by rw [cell_of_row w g _ _ e' (0, 0) hg]; simp; omega) (fun j _ => blk_frozen hg _) h1
  simp only [Nat.add_zero] at hst
  obtain ⟨m, rfl⟩ : ∃ m, n = m + 1 := ⟨n - 1, by omega⟩
  simp [Builtin.clear_, run_underlying ht, zeroValue, typeInfo, hi, hz, hst]
end
section
variable {P : Program} {ops : Array Oper} {rest : List Oper} {o : Oper} {a : Act} {Q : Exit → Act → World → Prop} {K : Act → World → Prop} {w w' : World} {v' : Value}
theorem wpList_copy_by (hgd : o.guard = none) (d s : Operand) (t t' : TypeId) (ho : o.op = .call { callee := .builtin .copy, args := #[d, s], argTypes := #[t, t'] }) (v u : Value) (hd : a.eval d = v) (hs : a.eval s = u)
    (hr : (Builtin.copy_ #[t, t'] o.type #[v, u]).run P w = .ok v' w') (h : wpList P ops Q rest (a.put o.dst v') w') : wpList P ops Q (o :: rest) a w := by
  refine wpList_plain hgd fun K hK => ?_
  unfold Oper.wp execOp
  simp only [ho, resolve, invoke, builtin, Sem.run_bind, Sem.run_pure, Result.andThen_ok, List.map_toArray, List.map_cons, List.map_nil, hd, hs, hr]
  exact hK _ _ h
theorem step_copy_by {E : Prop} (hg : o.guard = none) (d x : Operand) (dT sT : TypeId) (hop : o.op = Op.call { callee := Callee.builtin Builtin.copy, args := #[d, x], argTypes := #[dT, sT] })
    (v u : Value) (hd : a.eval d = v) (hx : a.eval x = u) (hr : (Builtin.copy_ #[dT, sT] o.type #[v, u]).run P w = .ok v' w') (hK : K (a.put o.dst v') w') :
    if Region.wanted o (yielded ops a.tmps) = true then Oper.wp P o a w K Q else E := by
  have hw : Region.wanted o (yielded ops a.tmps) = true := by simp [Region.wanted, hg]
  rw [if_pos hw]
  unfold Oper.wp execOp
  simp only [hop, resolve, invoke, builtin, Sem.run_bind, Sem.run_pure, Result.andThen_ok, List.map_toArray, List.map_cons, List.map_nil, hd, hx, hr]
  exact hK
theorem wpList_clear_by (hgd : o.guard = none) (s : Operand) (t : TypeId) (ho : o.op = .call { callee := .builtin .clear, args := #[s], argTypes := #[t] }) (v : Value) (hs : a.eval s = v)
    (hr : (Builtin.clear_ #[t] o.type #[v]).run P w = .ok v' w') (h : wpList P ops Q rest (a.put o.dst v') w') : wpList P ops Q (o :: rest) a w := by
  refine wpList_plain hgd fun K hK => ?_
  unfold Oper.wp execOp
  simp only [ho, resolve, invoke, builtin, Sem.run_bind, Sem.run_pure, Result.andThen_ok, List.map_toArray, List.map_cons, List.map_nil, hs, hr]
  exact hK _ _ h
end
/-- A row of the call's own, opened: its cells. -/
theorem own_open {W : World} {base : Nat} {e : TypeId} {sz n : Nat} {v : Value} {xs : List Value} (h : W.ownsRow base e sz v n xs) (hp : 0 < n) :
    ∃ g cap cur, v = .slice (some ⟨g, 0, none⟩) n cap ∧ base ≤ g ∧ RowIs W g e cur ∧ n ≤ cap ∧ cap ≤ maxLen ∧ cur.length = cap * sz ∧ cur.take (n * sz) = xs := by
  rcases h.2 with ⟨rfl, rfl⟩ | ⟨g, cap, cur, h1, h2, h3, h4, h5, h6, h7⟩
  · omega
  · exact ⟨g, cap, cur.toList, h1, h2, by simpa [RowIs] using h3, h4, h5, by simpa using h6, h7⟩
theorem own_shut {W : World} {base : Nat} {e : TypeId} {sz n g cap : Nat} {cur xs : List Value} (h2 : base ≤ g) (h3 : RowIs W g e cur) (h4 : n ≤ cap) (h5 : cap ≤ maxLen) (h6 : cur.length = cap * sz) (h7 : cur.take (n * sz) = xs) :
    W.ownsRow base e sz (.slice (some ⟨g, 0, none⟩) n cap) n xs :=
  ⟨by rw [← h7, List.length_take, h6]; exact Nat.min_eq_left (Nat.mul_le_mul_right _ h4), .inr ⟨g, cap, cur.toArray, rfl, h2, h3, h4, h5, by simpa using h6, by simpa using h7⟩⟩

theorem R_is_slice {α : Type} {d : Kd α} {e : Nat} {w : World} {base : Nat} {ok : Nat → Prop} {v : Value} {xs : List α} (h : Kd.R d e w base ok v xs) : ∃ A n c, v = .slice A n c := by
  obtain ⟨A, c, e⟩ := Kd.R_slice h
  exact ⟨A, _, c, e⟩
/-- Elements whose cells are known without the world. -/
structure Flat {α : Type} (d : Kd α) (f : α → List Value) : Prop where
  lay : ∀ w base ok x, d.M w base ok x (f x)
  read : ∀ {w base ok x cs}, d.M w base ok x cs → cs = f x
section
variable {α : Type} {d : Kd α} {f : α → List Value}
theorem Flat.len (h : Flat d f) (x : α) : (f x).length = d.sz := d.K_len (d.K_of_M (h.lay default 0 (fun _ => True) x))
theorem Flat.one (h : Flat d f) (x : α) : ∀ u ∈ f x, u.oneCell' = true := d.K_one (d.K_of_M (h.lay default 0 (fun _ => True) x))
theorem Flat.lens (h : Flat d f) (xs : List α) : (xs.flatMap f).length = xs.length * d.sz := by
  induction xs with
  | nil => simp
  | cons x xs ih => rw [List.flatMap_cons, List.length_append, ih, h.len, List.length_cons, Nat.succ_mul, Nat.add_comm]
theorem Flat.ones (h : Flat d f) (xs : List α) : ∀ u ∈ xs.flatMap f, u.oneCell' = true := by
  intro u hu
  obtain ⟨x, _, hx⟩ := List.mem_flatMap.1 hu
  exact h.one x u hx
theorem Flat.takes (h : Flat d f) (xs : List α) (k : Nat) : (xs.flatMap f).take (k * d.sz) = (xs.take k).flatMap f := by
  induction xs generalizing k with
  | nil => simp
  | cons x xs ih =>
    cases k with
    | zero => simp
    | succ k =>
      rw [List.flatMap_cons, List.take_succ_cons, List.flatMap_cons, List.take_append, h.len, Nat.succ_mul, Nat.add_sub_cancel, ih, List.take_of_length_le (by rw [h.len]; omega)]
theorem Flat.drops (h : Flat d f) (xs : List α) (k : Nat) : (xs.flatMap f).drop (k * d.sz) = (xs.drop k).flatMap f := by
  induction xs generalizing k with
  | nil => simp
  | cons x xs ih =>
    cases k with
    | zero => simp
    | succ k =>
      rw [List.flatMap_cons, List.drop_succ_cons, List.drop_append, h.len, Nat.succ_mul, Nat.add_sub_cancel, ih, List.drop_eq_nil_of_le (by rw [h.len]; omega), List.nil_append]
theorem Flat.reps (h : Flat d f) (w : World) (base : Nat) (ok : Nat → Prop) (xs : List α) : Reps (d.M w base ok) d.sz xs (xs.flatMap f) := by
  refine ⟨h.lens xs, fun j p hj => ?_⟩
  rw [h.drops]
  have hj' := List.getElem?_eq_some_iff.1 hj
  obtain ⟨hlt, rfl⟩ := hj'
  rw [List.drop_eq_getElem_cons hlt, List.flatMap_cons, List.take_append_of_le_length (by rw [h.len]; omega), List.take_of_length_le (by rw [h.len]; omega)]
  exact h.lay _ _ _ _
theorem Flat.of_reps (h : Flat d f) {w : World} {base : Nat} {ok : Nat → Prop} : ∀ (xs : List α) {cs : List Value}, Reps (d.M w base ok) d.sz xs cs → cs = xs.flatMap f
  | [], cs, hr => List.eq_nil_of_length_eq_zero (by rw [hr.1]; simp)
  | x :: xs, cs, hr => by
    have h0 := h.read (hr.2 0 x rfl)
    rw [Nat.zero_mul, List.drop_zero] at h0
    have h1 : Reps (d.M w base ok) d.sz xs (cs.drop d.sz) := by
      refine ⟨by rw [List.length_drop, hr.1, List.length_cons, Nat.succ_mul, Nat.add_sub_cancel], fun j p hj => ?_⟩
      have := hr.2 (j + 1) p (by simpa using hj)
      rwa [Nat.succ_mul, Nat.add_comm, ← List.drop_drop] at this
    rw [List.flatMap_cons, ← h0, ← Flat.of_reps h xs h1, List.take_append_drop]
/-- A row of flat elements, opened. -/
theorem Flat.open_ (h : Flat d f) {e : Nat} {W : World} {base : Nat} {ok : Nat → Prop} {v : Value} {xs : List α} (hR : d.R e W base ok v xs) (hp : 0 < xs.length) :
    ∃ g cap cur, v = .slice (some ⟨g, 0, none⟩) xs.length cap ∧ base ≤ g ∧ ok g ∧ RowIs W g e cur ∧ xs.length ≤ cap ∧ cap ≤ maxLen ∧ cur.length = cap * d.sz ∧ cur.take (xs.length * d.sz) = xs.flatMap f := by
  obtain ⟨h0, inner, ho, hr⟩ := hR
  obtain ⟨g, cap, cur, rfl, h2, h3, h4, h5, h6, h7⟩ := own_open ho hp
  exact ⟨g, cap, cur, rfl, h2, h0 g rfl, h3, h4, h5, h6, by rw [h7]; exact h.of_reps xs hr⟩
theorem Flat.shut (h : Flat d f) {e : Nat} {W : World} {base : Nat} {ok : Nat → Prop} {xs : List α} {g cap : Nat} {cur : List Value} (h2 : base ≤ g) (hok : ok g) (h3 : RowIs W g e cur) (h4 : xs.length ≤ cap) (h5 : cap ≤ maxLen) (h6 : cur.length = cap * d.sz)
    (h7 : cur.take (xs.length * d.sz) = xs.flatMap f) : d.R e W base ok (.slice (some ⟨g, 0, none⟩) xs.length cap) xs :=
  ⟨fun k hk => by
    have : g = k := by simpa [Value.ownBlock] using hk
    subst this
    exact hok, _, own_shut h2 h3 h4 h5 h6 h7, h.reps _ _ _ _⟩
/-- A row of flat elements that is read, from any place of a block on. -/
theorem Flat.reads (h : Flat d f) {e : Nat} {W : World} {xs : List α} {b o : Nat} {cur : List Value} (hb : RowIs W b e cur) (ht : (cur.drop o).take (xs.length * d.sz) = xs.flatMap f) (hn : xs.length ≤ 1000000000) : d.C W (some ⟨b, o, none⟩) xs.length xs := by
  refine ⟨rfl, by omega, fun _ => ⟨_, rfl, fun j p hj => ?_⟩⟩
  have hjl : j < xs.length := (List.getElem?_eq_some_iff.1 hj).1
  have hk := d.K_of_M ((h.reps W 0 (fun _ => True) xs).2 j p hj)
  refine ⟨_, d.K_len hk, hk, fun i u hu => ?_⟩
  have hi : i < d.sz := by
    have := (List.getElem?_eq_some_iff.1 hu).1
    rw [d.K_len hk] at this
    exact this
  rw [List.getElem?_take_of_lt hi, List.getElem?_drop, ← ht, List.getElem?_take_of_lt (by have : j * d.sz + d.sz ≤ xs.length * d.sz := by rw [← Nat.succ_mul]; exact Nat.mul_le_mul_right _ hjl
                                                                                          omega), List.getElem?_drop] at hu
  rw [show (⟨b, o, none⟩ : Addr).add (j * d.sz + i) = ⟨b, o + (j * d.sz + i), none⟩ from Addr.add_lit ..]
  exact hb.cell hu
/-- Where a row is read, its cells are known. -/
theorem Flat.cells (h : Flat d f) {W : World} {A : Addr} {xs : List α} (hs : 0 < d.sz) (hK : ∀ w x cs, d.K w x cs → cs = f x) (hC : d.C W (some A) xs.length xs) : ∀ j v, (xs.flatMap f)[j]? = some v → W.cell? (A.add j) = some v := by
  intro j v hj
  have hjl : j < xs.length * d.sz := by have := (List.getElem?_eq_some_iff.1 hj).1; rwa [h.lens] at this
  have hq : j / d.sz < xs.length := Nat.div_lt_of_lt_mul (by rw [Nat.mul_comm]; exact hjl)
  obtain ⟨ad, e1, hx⟩ := hC.2.2 (Nat.lt_of_le_of_lt (Nat.zero_le _) hq)
  injection e1 with e1
  subst e1
  obtain ⟨c, hcl, hK1, hc⟩ := hx (j / d.sz) _ (List.getElem?_eq_getElem hq)
  have hr := hK _ _ _ hK1
  have hm : j % d.sz < d.sz := Nat.mod_lt _ hs
  have := hc (j % d.sz) v (by
    rw [hr]
    have h2 := (h.reps W 0 (fun _ => True) xs).2 (j / d.sz) _ (List.getElem?_eq_getElem hq)
    rw [← h.read h2, List.getElem?_take_of_lt hm, List.getElem?_drop, Nat.mul_comm, Nat.div_add_mod]
    exact hj)
  rwa [Nat.mul_comm, Nat.div_add_mod] at this
end
end Go.Proofs.Ytafhdamdkefpkaa

namespace Go.Proofs.Ytafhdamdkefpkaa
open Go.RowKit Go.Proofs.YtafhdamdkefpkaaW.PrintWords Go.Proofs.YtafhdamdkefpkaaW.PrintLast Go.Proofs.YtafhdamdkefpkaaW.PrintMore
attribute [local go_sem] max2_int min2_int max_two min_two Oper.semAt_some
set_option linter.unusedVariables false
set_option linter.unusedSimpArgs false

/-- The entries within s among the first i. -/
def entTo (xs : List PDelta.S68) (s : Int) : Nat → List PDelta.S68
  | 0 => []
  | i + 1 => entTo xs s i ++ (if withinB (PDelta.rd_T68 xs i).f0 s then [PDelta.rd_T68 xs i] else [])
def entL (xs : List PDelta.S68) (s : Int) : List PDelta.S68 := entTo xs s xs.length
theorem entTo_pre (xs : List PDelta.S68) (s : Int) (i d : Nat) : ∃ post, entTo xs s (i + d) = entTo xs s i ++ post := by
  induction d with
  | zero => exact ⟨[], by simp⟩
  | succ d ih =>
    obtain ⟨p, hp⟩ := ih
    exact ⟨p ++ (if withinB (PDelta.rd_T68 xs (i + d : Nat)).f0 s then [PDelta.rd_T68 xs (i + d : Nat)] else []), by rw [← Nat.add_assoc, entTo, hp, List.append_assoc]⟩
theorem entL_split (xs : List PDelta.S68) (s : Int) {i : Nat} (h : i < xs.length) (hw : withinB (PDelta.rd_T68 xs i).f0 s = true) : ∃ post, entL xs s = entTo xs s i ++ PDelta.rd_T68 xs i :: post := by
  obtain ⟨p, hp⟩ := entTo_pre xs s (i + 1) (xs.length - (i + 1))
  rw [show i + 1 + (xs.length - (i + 1)) = xs.length from by omega, entTo, if_pos hw] at hp
  exact ⟨p, by unfold entL; rw [hp]; simp⟩
/-- An entry as it is yielded. -/
def encE (x : PDelta.S68) : Array Value := #[.agg #[.int .u64 x.f0, .int .i64 x.f1]]

theorem ewithin_any (q : Nat) (free : Int) (w : World) : Calls Try.prog 84 #[.pointer (some ⟨q, 0, none⟩), .int .u64 free] w fun e w' =>
    e = .returned (.func (.func 111) #[] #[.pointer (some ⟨w.heap.size, 0, none⟩), .pointer (some ⟨w.heap.size + 1, 0, none⟩)]) ∧ w' = (w.alloc (.cells #[.pointer (some ⟨q, 0, none⟩)] 85)).alloc (.cells #[.int .u64 free] 36) := by
  go_enter Try.func84, Try.ntmps84
  go_wp2
  go_ret
  exact ⟨rfl, rfl⟩

set_option maxRecDepth 100000 in
set_option maxHeartbeats 4000000 in
theorem ewithin1_iter (w0 W0 : World) (A0 : Option Addr) (c0 : Nat) (xs : List PDelta.S68) (free : Int) (q b0 b1 : Nat) (D : Nat → Prop) (hC : Kd.C PDelta.k68 w0 A0 xs.length xs) (hc0 : xs.length ≤ c0) (hl : xs.length ≤ 1000000000)
    (hB : Below w0.heap.size w0 W0) (hq : W0.heap[q]? = some (.cells #[.slice A0 xs.length c0] 87 (0, 0))) (h0 : W0.heap[b0]? = some (.cells #[.pointer (some ⟨q, 0, none⟩)] 85 (0, 0))) (h1 : W0.heap[b1]? = some (.cells #[.int .u64 free] 36 (0, 0)))
    (hD : ∀ k, k < w0.heap.size → D k) (hDq : D q) (hD0 : D b0) (hD1 : D b1) :
    Iter Try.prog 111 #[.pointer (some ⟨b0, 0, none⟩), .pointer (some ⟨b1, 0, none⟩)] encE (entL xs free) D W0 := by
  intro l S0 J Jx W hW hS0 hSD hJ hJx hY hj0
  have hw : ∀ S2 W2, YCore S0 W S2 W2 → W2.cell? ⟨q, 0, none⟩ = some (.slice A0 xs.length c0) ∧ W2.cell? ⟨b0, 0, none⟩ = some (.pointer (some ⟨q, 0, none⟩)) ∧ W2.cell? ⟨b1, 0, none⟩ = some (.int .u64 free) ∧ Below w0.heap.size w0 W2 := by
    intro S2 W2 h2
    have kq := hW.at_ hq hDq
    have k0 := hW.at_ h0 hD0
    have k1 := hW.at_ h1 hD1
    refine ⟨blk_cell_ (h2.keeps.at_ kq ⟨lt_of_heap kq, fun h => hSD _ h hDq⟩) 0, blk_cell_ (h2.keeps.at_ k0 ⟨lt_of_heap k0, fun h => hSD _ h hD0⟩) 0, blk_cell_ (h2.keeps.at_ k1 ⟨lt_of_heap k1, fun h => hSD _ h hD1⟩) 0, ?_⟩
    have hWs : w0.heap.size ≤ W.heap.size := Nat.le_trans hB.size hW.size
    exact hB.trans ((hW.below hD hB.size).trans (h2.keeps.below (fun k hk => ⟨by omega, fun h => hSD _ h (hD k hk)⟩) hWs))
  have HW := Aside0.mk hw
  have HC := Aside0.mk hC
  have huE := Try.underlying68
  have HY := Aside0.mk (fun pre x post S W1 hx hj (hc : YCore S0 W S W1) => hY pre x post S W1 hx hj hc.keeps hc.own)
  have HJ := Aside0.mk (fun pre S (A B : World) (hb : Below A.heap.size A B) (hj : J pre S A) => hJ pre S A B hj (Keeps.of_all hb))
  have HS := Aside0.mk (YCore.start hS0)
  have HJ0 := Aside0.mk hj0
  clear hY hj0 hJ hJx hw hC hB h0 h1 hq hDq hD hD0 hD1 hW hS0 hSD
  refine (callsIn_wide (n := 0)).1 ?_
  refine callsIn_of_wp Try.func111 rfl trivial ?_ rfl
  simp only [Try.ntmps111, List.size_toArray, List.length_cons, List.length_nil, Nat.reduceAdd, Nat.reduceSub, Array.replicate_succ, Array.replicate_zero, List.push_toArray, List.append_toArray, List.nil_append, List.cons_append]
  obtain ⟨qq, q0, q1, -⟩ := HW.out S0 W HS.out
  gi_wp2_with fail
  clear q0 q1 qq
  gi_loopg [11] xs.length (fun n v W1 => ∃ (i : Nat) (S : Nat → Prop), v = .int .i64 i ∧ Aside0 (i + n = xs.length) ∧ Aside0 (YCore S0 W S W1) ∧ Aside0 (J (entTo xs free i) S W1))
  case atStart => exact ⟨0, S0, rfl, ⟨by simp⟩, HS, HJ0⟩
  case round =>
    clear HS HJ0
    obtain ⟨i, S, rfl, HI, HCo, HJi⟩ := hrel
    by_cases c : (i : Int) < (xs.length : Int)
    · obtain ⟨qq, q0, q1, hB⟩ := HW.out S wr HCo.out
      have p1 : (0 : Int) ≤ (i : Int) := by omega
      obtain ⟨ad1, e1, hx0, hx1⟩ := PDelta.at_T68 HC.out i p1 c
      cases e1
      rw [Int.toNat_natCast] at hx0 hx1
      replace hx0 := (hB.cell (World.block_lt_of_cell? w0 _ hx0)).trans hx0
      replace hx1 := (hB.cell (World.block_lt_of_cell? w0 _ hx1)).trans hx1
      have hlt : Aside0 (i < xs.length) := ⟨by omega⟩
      have cb := decide_eq_true c
      have wrapI : wrap64 ((i : Int) + 1) = ((i + 1 : Nat) : Int) := by unfold wrap64; omega
      have hstep : Aside0 (entTo xs free (i + 1) = entTo xs free i ++ (if withinB (PDelta.rd_T68 xs i).f0 free then [PDelta.rd_T68 xs i] else [])) := ⟨rfl⟩
      have hsp := Aside0.mk (fun h => entL_split xs free hlt.out h)
      generalize PDelta.rd_T68 xs i = x at hx0 hx1 hstep hsp
      replace p1 := eq_true p1
      replace c := eq_true c
      clear hB
      have r1 : ∀ o, (wr.alloc o).cell? ⟨b1, 0, none⟩ = some (.int .u64 free) := fun o => pw_cell_below (below_alloc (Below.refl _ _) o) q1
      have HC2 := Aside0.mk (HCo.out.step (below_alloc (Below.refl _ _) (.cells #[.int .u64 x.f0, .int .i64 x.f1] 68)))
      have HJ2 := Aside0.mk (HJ.out _ _ _ _ (below_alloc (Below.refl _ _) (.cells #[.int .u64 x.f0, .int .i64 x.f1] 68)) HJi.out)
      cases cw : withinB x.f0 free with
      | false =>
        have CW := within_any x.f0 free (wr.alloc (.cells #[.int .u64 x.f0, .int .i64 x.f1] 68))
        rw [cw] at CW
        rw [cw] at hstep
        clear cw
        have CW := Aside0.mk CW
        gi_wp2_with fail
        refine ⟨trivial, rfl, (callsIn_wide (n := 0)).2 (CW.out.mono ?_)⟩
        rintro e w' ⟨rfl, rfl⟩
        gi_wp2_with fail
        refine ⟨fun _ h => (by cases h), ?_⟩
        gi_wp2_with fail
        gi_roundg (gk - 1)
        case measure => have := HI.out; have := hlt.out; omega
        case rel => exact ⟨i + 1, S, by rw [wrapI], ⟨by have := HI.out; have := hlt.out; omega⟩, HC2, ⟨by have := hstep.out; simp only [Bool.false_eq_true, if_false, List.append_nil] at this; rw [this]; exact HJ2.out⟩⟩
      | true =>
        have CW := within_any x.f0 free (wr.alloc (.cells #[.int .u64 x.f0, .int .i64 x.f1] 68))
        obtain ⟨post, hpost⟩ := hsp.out cw
        rw [cw] at CW
        rw [cw] at hstep
        clear cw
        have CW := Aside0.mk CW
        obtain ⟨fn, tmps, assign, body, hy, hR⟩ := HY.out _ x post S _ hpost HJ2.out HC2.out
        have HR := Aside0.mk hR
        have HPo := Aside0.mk hpost
        clear hR hpost hsp HY
        change (Instr.yield l #[.agg #[.int .u64 x.f0, .int .i64 x.f1]]).run Try.prog _ = _ at hy
        gi_wp2_with fail
        refine ⟨trivial, rfl, (callsIn_wide (n := 0)).2 (CW.out.mono ?_)⟩
        rintro e w' ⟨rfl, rfl⟩
        gi_wp2_with fail
        refine ⟨rfl, (HR.out _).mono ?_⟩
        clear HR hy
        rintro e W3 ⟨S3, hs3, hk3, (⟨rfl, hj3⟩ | ⟨rfl, hx3⟩)⟩
        · have HC3 := Aside0.mk (HC2.out.yield hs3 hk3)
          have HJ3 := Aside0.mk hj3
          clear hs3 hk3 hj3
          gi_wp2_with fail
          gi_roundg (gk - 1)
          case measure => have := HI.out; have := hlt.out; omega
          case rel => exact ⟨i + 1, S3, by rw [wrapI], ⟨by have := HI.out; have := hlt.out; omega⟩, HC3, ⟨by have := hstep.out; simp only [if_true] at this; rw [this]; exact HJ3.out⟩⟩
        · have HC3 := Aside0.mk (HC2.out.yield hs3 hk3)
          have HX3 := Aside0.mk hx3
          clear hs3 hk3 hx3
          gi_wp2_with fail
          refine bodyPost_ret (results_none rfl _ _ _) rfl ?_
          exact ⟨⟨_, rfl⟩, HC3.out.keeps, S3, HC3.out.own, .inr ⟨_, ⟨post, by rw [HPo.out]; simp⟩, HX3.out⟩⟩
    · have c1 : (i < xs.length) = False := eq_false (by omega)
      have c2 : ((i : Int) < (xs.length : Int)) = False := eq_false c
      have hil : Aside0 (entTo xs free i = entL xs free) := ⟨by have := HI.out; unfold entL; rw [show i = xs.length from by omega]⟩
      clear c
      gi_wp2_with fail
      go_end0
      exact ⟨⟨_, rfl⟩, HCo.out.keeps, S, HCo.out.own, .inl (by rw [← hil.out]; exact HJi.out)⟩
end Go.Proofs.Ytafhdamdkefpkaa

namespace Go.Proofs.Ytafhdamdkefpkaa
open Go.RowKit Go.Proofs.YtafhdamdkefpkaaW.PrintWords Go.Proofs.YtafhdamdkefpkaaW.PrintLast Go.Proofs.YtafhdamdkefpkaaW.PrintMore
attribute [local go_sem] max2_int min2_int max_two min_two Oper.semAt_some
set_option linter.unusedVariables false
set_option linter.unusedSimpArgs false

/-- What is asked. -/
def askOf (l : List PDelta.S68) : Int := l.foldl (fun o e => max o e.f1) 0
def askL (xs : List PDelta.S68) (s : Int) : Int := askOf (entL xs s)

set_option maxRecDepth 100000 in
set_option maxHeartbeats 4000000 in
theorem ask_any (q : Nat) (A0 : Option Addr) (c0 : Nat) (xs : List PDelta.S68) (s : Int) (w : World) (hq : w.heap[q]? = some (.cells #[.slice A0 xs.length c0] 87 (0, 0))) (hC : Kd.C PDelta.k68 w A0 xs.length xs) (hc0 : xs.length ≤ c0) (hl : xs.length ≤ 1000000000) :
    Calls Try.prog 56 #[.pointer (some ⟨q, 0, none⟩), .int .u64 s] w fun e w' => e = .returned (.int .i64 (askL xs s)) ∧ Below w.heap.size w w' := by
  have CF := Aside0.mk (fun W => ewithin_any q s W)
  have HC := Aside0.mk hC
  have HQ := Aside0.mk hq
  have hql := lt_of_heap hq
  have HQL := Aside0.mk hql
  clear hC hq hql
  refine (callsIn_wide (n := 0)).1 ?_
  refine callsIn_of_wp_marks Try.func56 rfl trivial ?_ rfl
  simp only [Try.ntmps56, List.size_toArray, List.length_cons, List.length_nil, Nat.reduceAdd, Nat.reduceSub, Array.replicate_succ, Array.replicate_zero, List.push_toArray, List.append_toArray, List.nil_append, List.cons_append]
  refine wpIn_wide.2 ?_
  go_wp2_with (go_at_call 84; refine (CF.out _).mono ?_; rintro e w' ⟨rfl, rfl⟩)
  obtain ⟨W5, hW5⟩ : ∃ W5, W5 = allocs w [.cells #[.int .i64 0] 2, .cells #[.pointer (some ⟨q, 0, none⟩)] 85, .cells #[.int .u64 s] 36] := ⟨_, rfl⟩
  have g0 : W5.heap[w.heap.size]? = some (.cells #[.int .i64 0] 2 (0, 0)) := by rw [hW5]; exact allocs_at _ w 0 _ rfl
  have g1 : W5.heap[w.heap.size + 1]? = some (.cells #[.pointer (some ⟨q, 0, none⟩)] 85 (0, 0)) := by rw [hW5]; exact allocs_at _ w 1 _ rfl
  have g2 : W5.heap[w.heap.size + 1 + 1]? = some (.cells #[.int .u64 s] 36 (0, 0)) := by rw [hW5]; exact allocs_at _ w 2 _ rfl
  have hsz : W5.heap.size = w.heap.size + 3 := by rw [hW5, allocs_size]; rfl
  have hB5 : Below w.heap.size w W5 := by rw [hW5]; exact (allocs_keeps (fun _ => True) w _).below (fun _ _ => trivial) (Nat.le_refl _)
  change Code.wp _ _ _ _ (allocs w [_, _, _])
  rw [← hW5]
  clear hW5
  obtain ⟨b, hb⟩ : ∃ b, b = w.heap.size := ⟨_, rfl⟩
  have HBW := Aside0.mk hb
  have hql := HQL.out
  rw [← hb] at g0 g1 g2 hsz hql ⊢
  have hitE := ewithin1_iter w W5 A0 c0 xs s q (b + 1) (b + 1 + 1) (fun j => j < W5.heap.size ∧ ¬ j = b) HC.out hc0 hl hB5 ((hB5.block _ HQL.out).trans HQ.out) g1 g2 (fun k hk => ⟨by omega, by omega⟩) ⟨by omega, by omega⟩ ⟨by omega, by omega⟩ ⟨by omega, by omega⟩
  have HSZ := Aside0.mk hsz
  have HB5 := Aside0.mk hB5
  clear hb hB5 g1 g2
  refine (wpIn_wide (n := 0)).1 ?_
  refine range_outerU rfl (enters_of Try.func111 (by kernel_rfl) rfl) eqRel_ok hitE.toR (fun k h => h.1) (fun _ => rfl) (fun j => j = b) (fun k h => ⟨by omega, fun h' => h'.2 h⟩)
    (fun pre S W => S b ∧ W.heap[b]? = some (.cells #[.int .i64 (askOf pre)] 2 (0, 0))) (fun _ _ _ _ => False) ?hI ?hIx ?h0 (fun x n => [(6, .pointer (some ⟨n, 0, none⟩))]) (fun x => [.cells #[.int .u64 x.f0, .int .i64 x.f1] 68]) ?assign ?body ?done ?stop
  case hI =>
    rintro pre S A B ⟨h1, h2⟩ hk
    exact ⟨h1, hk.at_ h2 (.inl h1)⟩
  case hIx => rintro c pre S A B h; exact h.elim
  case h0 => exact ⟨rfl, g0⟩
  case assign =>
    intro l x W K hK
    simp only [encE, allocs, slotsSet, List.zip_toArray, List.zip_cons_cons, List.zip_nil_left, List.zip_nil_right, List.foldl_toArray, List.foldl_cons, List.foldl_nil, List.setIfInBounds_toArray, List.set_cons_succ, List.set_cons_zero] at hK ⊢
    gi_wp2
    exact hK
  case body =>
    rintro l pre x post b' S W hx hrel hl0 hlr hSl hS hkW ⟨h1, h2⟩
    subst hrel
    have hsb : b < W.heap.size := lt_of_heap h2
    have hst : askOf (pre ++ [x]) = max (askOf pre) x.f1 := by unfold askOf; rw [List.foldl_append]; rfl
    have HST := Aside0.mk hst
    have HS := Aside0.mk hS
    clear hx hlr hS hkW hst
    simp only [encE, allocs, slotsSet, List.zip_toArray, List.zip_cons_cons, List.zip_nil_left, List.zip_nil_right, List.foldl_toArray, List.foldl_cons, List.foldl_nil, List.setIfInBounds_toArray, List.set_cons_succ, List.set_cons_zero]
    have k0 : Keeps (fun k => ¬ S k) W (W.alloc (.cells #[.int .u64 x.f0, .int .i64 x.f1] 68)) := (Keeps.refl _ _).alloc _
    have e9 := World.alloc_heap_new W (.cells #[.int .u64 x.f0, .int .i64 x.f1] 68)
    have e3 : (W.alloc (.cells #[.int .u64 x.f0, .int .i64 x.f1] 68)).heap[b]? = some (.cells #[.int .i64 (askOf pre)] 2 (0, 0)) := (Below.heap_alloc _ _ _ (lt_of_heap h2)).trans h2
    generalize W.alloc (.cells #[.int .u64 x.f0, .int .i64 x.f1] 68) = W9 at k0 e9 e3 ⊢
    have c1 := blk_cell_ e9 1
    have c2 := blk_cell_ e3 0
    have f2 := blk_frozen e3 0
    have K0 := Aside0.mk k0
    have E3 := Aside0.mk e3
    clear k0 e9 e3 h2 hsb
    generalize askOf pre = a at HST E3 c2
    gi_wp2_with fail
    · exact ⟨S, fun k h => .inl h, K0.out.setCell (fun h => absurd h1 h) _, h1, by rw [HST.out, show max a x.f1 = x.f1 from by omega]; exact set_at E3.out 0 _⟩
    · exact ⟨S, fun k h => .inl h, K0.out.setCell (fun h => absurd h1 h) _, h1, by rw [HST.out, show max a x.f1 = a from by omega]; exact set_at E3.out 0 _⟩
  case stop => rintro d c pre S W h1 h2 h3 h4 h5 h6 h7; exact h7.elim
  case done =>
    rintro d S W hd hSd hK hS hkW ⟨h1, h2⟩
    have c2 := blk_cell_ h2 0
    have HK := Aside0.mk hK
    have HKW := Aside0.mk hkW
    have HSZ2 := Aside0.mk hd
    clear hS hkW h2 hK h1 hd
    go_wp2_with fail
    refine ⟨by simp, .inl ⟨_, _, rfl, run_takeDeferred HK.out, ?_⟩⟩
    refine ⟨.int .i64 (askL xs s), by simp [results, Try.results56, go_sem, askL], rfl, ?_⟩
    have hk9 : Keeps (fun k => k < b) W5 (W.putObj d (.deferred none)) := (Keeps.mono HKW.out (fun k h hlt => ⟨hlt, by omega⟩)).putObj (fun h => by have := HSZ.out; have := HSZ2.out; omega) _
    exact HB5.out.trans (hk9.below (fun k hk => by have := HBW.out; omega) HB5.out.size)
end Go.Proofs.Ytafhdamdkefpkaa

namespace Go.Proofs.Ytafhdamdkefpkaa
open Go.RowKit Go.Proofs.YtafhdamdkefpkaaW.PrintWords Go.Proofs.YtafhdamdkefpkaaW.PrintLast Go.Proofs.YtafhdamdkefpkaaW.PrintMore
attribute [local go_sem] max2_int min2_int max_two min_two Oper.semAt_some
set_option linter.unusedVariables false
set_option linter.unusedSimpArgs false
theorem info_entry : (Try.prog.info? 68).map (fun i => (i.zero, i.size, i.bytes)) = some (some (.agg #[(.int .u64 0), (.int .i64 0)]), 2, 16) := by kernel_rfl
theorem C_none (w : World) (xs : List PDelta.S68) (h : Kd.C PDelta.k68 w none xs.length xs) : xs = [] := by
  rcases Nat.eq_zero_or_pos xs.length with e | e
  · exact List.length_eq_zero_iff.1 e
  · obtain ⟨ad, e1, -⟩ := PDelta.at_T68 h 0 (by omega) (by omega)
    cases e1

/-- A goal that a walk shall leave alone. -/
structure Held (p : Prop) : Prop where
  out : p
theorem held_out {p : Prop} (h : Held p) : p := h.out
theorem nil_row (c0 : Nat) (W : World) : Sem.run Try.prog (binOp .eql 31 (.slice none 0 c0) (.slice none 0 0)) W = .ok (.bool true) W := by kernel_rfl
theorem nil_row2 (ad : Addr) (n c0 : Nat) (W : World) : Sem.run Try.prog (binOp .eql 31 (.slice (some ad) n c0) (.slice none 0 0)) W = .ok (.bool false) W := by kernel_rfl

set_option maxRecDepth 100000 in
set_option maxHeartbeats 1600000 in
theorem eclone_any (A0 : Option Addr) (c0 : Nat) (xs : List PDelta.S68) (w : World) (hC : Kd.C PDelta.k68 w A0 xs.length xs) (hc0 : xs.length ≤ c0) (hl : xs.length ≤ 1000000000) :
    Calls Try.prog 67 #[.slice A0 xs.length c0] w fun e w' => ∃ v : Value, e = .returned v ∧ Kd.R PDelta.k68 68 w' w.heap.size (fun _ => True) v xs ∧ Below w.heap.size w w' := by
  have HC := Aside0.mk hC
  clear hC
  have nq1 := nil_row
  have nq2 := nil_row2
  cases A0 with
  | none =>
    obtain rfl := C_none w xs HC.out
    go_enter Try.func67, Try.ntmps67
    go_wp2_with fail
    go_ret
    exact ⟨_, rfl, Kd.R_nil _ _ _ _ _, Below.refl _ _⟩
  | some ad =>
    go_enter Try.func67, Try.ntmps67
    go_wp2_with (first
      | ((with_reducible refine gate_dst (N := 5) rfl ?_); refine Kd.R_lit PDelta.k68 _ 68 ?hg (N := 5) ?hd (xs := ([] : List PDelta.S68)) (inner := []) (ok := fun _ => True) (okp := fun _ => True) ?hr ?hp (fun _ hk => hk) trivial (Below.refl _ _) (Nat.le_refl _) (by simp) ?_; (case hd => rfl); (case hg => rfl); (case hr => first | (go_simp; done) | (go_simp; rfl)); (case hp => exact (Reps.none _ _)); intro v1 w1 hR hB hg_ hnew_; obtain ⟨A6, c6, rfl⟩ := Kd.R_slice hR; have HR := Aside0.mk (show Kd.R PDelta.k68 68 w1 w.heap.size (fun _ => True) (.slice A6 0 c6) [] from hR); have HB := Aside0.mk hB; have HC1 := Aside0.mk (Kd.C_below HC.out hB); clear hg_ hnew_ hR hB)
      | ((with_reducible refine gate_builtin (b := .append) (xs := #[.tmp 5, .tmp 6]) rfl ?_); at_builtin; refine held_out ?_))
    refine ⟨?_⟩
    refine Kd.R_append_rows PDelta.k68 (Rr := Kd.K PDelta.k68 w1) (w0 := w) (W := w1) w.heap.size rfl (.tmp 5) (.tmp 6) 31 68 (.agg #[.int .u64 0, .int .i64 0]) 16 rfl Try.underlying31 info_entry rfl (by decide) (by decide) (.slice A6 0 c6) [] xs (some ad) xs.length c0 (fun _ => True) (fun _ => False) rfl rfl HR.out HC1.out (fun x cs h => by rw [PDelta.k68_open h]; exact PDelta.k68_mkM _ _ _ _) (fun _ h => h.elim) (fun _ _ => trivial) HB.out HB.out.size (by simp only [List.length_nil]; omega) ?_
    intro v9 w9 hR9 hB9 hg9 hat9
    have HR9 := Aside0.mk hR9
    have HB9 := Aside0.mk hB9
    clear hR9 hB9 hg9 hat9
    go_wp2_with fail
    go_ret
    exact ⟨_, rfl, HR9.out, HB9.out⟩

set_option maxRecDepth 100000 in
set_option maxHeartbeats 1600000 in
theorem elist_any (q : Nat) (A0 : Option Addr) (c0 : Nat) (xs : List PDelta.S68) (w : World) (hq : w.heap[q]? = some (.cells #[.slice A0 xs.length c0] 87 (0, 0))) (hC : Kd.C PDelta.k68 w A0 xs.length xs) (hc0 : xs.length ≤ c0) (hl : xs.length ≤ 1000000000) :
    Calls Try.prog 73 #[.pointer (some ⟨q, 0, none⟩)] w fun e w' => ∃ v : Value, e = .returned v ∧ Kd.R PDelta.k68 68 w' w.heap.size (fun _ => True) v xs ∧ Below w.heap.size w w' := by
  have C := Aside0.mk (eclone_any A0 c0 xs w hC hc0 hl)
  have c := blk_cell_ hq 0
  clear hC hq hl
  go_enter Try.func73, Try.ntmps73
  go_wp2_with (go_at_call 67; refine (C.out).mono ?_; rintro e w1 ⟨v1, rfl, hR, hB⟩; have HR := Aside0.mk hR; have HB := Aside0.mk hB; clear hR hB)
  go_ret
  exact ⟨_, rfl, HR.out, HB.out⟩
end Go.Proofs.Ytafhdamdkefpkaa

namespace Go.Proofs.Ytafhdamdkefpkaa
open Go.RowKit Go.Proofs.YtafhdamdkefpkaaW.PrintWords Go.Proofs.YtafhdamdkefpkaaW.PrintLast Go.Proofs.YtafhdamdkefpkaaW.PrintMore
attribute [local go_sem] max2_int min2_int max_two min_two Oper.semAt_some
set_option linter.unusedVariables false
set_option linter.unusedSimpArgs false

/-- Is an entry left out when ask is put for s? -/
def outE (s ask : Int) (x : PDelta.S68) : Bool := withinB s x.f0 && decide (x.f1 ≤ ask)
set_option maxRecDepth 100000 in
set_option maxHeartbeats 1600000 in
theorem eput1_any (b0 b1 : Nat) (s ask : Int) (x : PDelta.S68) (w : World) (h0 : w.heap[b0]? = some (.cells #[.int .u64 s] 36 (0, 0))) (h1 : w.heap[b1]? = some (.cells #[.int .i64 ask] 2 (0, 0))) :
    Calls Try.prog 68 #[.agg #[.int .u64 x.f0, .int .i64 x.f1], .pointer (some ⟨b0, 0, none⟩), .pointer (some ⟨b1, 0, none⟩)] w fun e w' => e = .returned (.bool (outE s ask x)) ∧ Below w.heap.size w w' := by
  have huE := Try.underlying68
  have r0 : ∀ o, (w.alloc o).cell? ⟨b0, 0, none⟩ = some (.int .u64 s) := fun o => pw_cell_below (below_alloc (Below.refl _ _) o) (blk_cell_ h0 0)
  have r1 : ∀ o, (w.alloc o).cell? ⟨b1, 0, none⟩ = some (.int .i64 ask) := fun o => pw_cell_below (below_alloc (Below.refl _ _) o) (blk_cell_ h1 0)
  have CW := Aside0.mk (fun W => within_any s x.f0 W)
  unfold outE
  clear h0 h1
  cases cw : withinB s x.f0 <;>
  · rw [cw] at CW
    clear cw
    go_enter Try.func68, Try.ntmps68
    go_wp2_with (go_at_call 45; refine ((CW.out _)).mono ?_; rintro e w1 ⟨rfl, rfl⟩)
    go_ret
    first
      | exact ⟨rfl, below_alloc (Below.refl _ _) _⟩
      | exact ⟨by simp, below_alloc (Below.refl _ _) _⟩
/-- A set that a uint64 holds. -/
def U64E (x : PDelta.S68) : Prop := 0 ≤ x.f0 ∧ x.f0 < 18446744073709551616
def cmpE (a b : Int) : Int := scmp a.toNat b.toNat
set_option maxRecDepth 100000 in
set_option maxHeartbeats 1600000 in
theorem eput2_any (x : PDelta.S68) (s : Int) (w : World) (hx : U64E x) (hs : 0 ≤ s ∧ s < 18446744073709551616) :
    Calls Try.prog 70 #[.agg #[.int .u64 x.f0, .int .i64 x.f1], .int .u64 s] w fun e w' => e = .returned (.int .i64 (cmpE x.f0 s)) ∧ Below w.heap.size w w' := by
  have huE := Try.underlying68
  have CW := Aside0.mk (fun W => scmp_any x.f0.toNat s.toNat W (by have := hx.2; have := hx.1; omega) (by omega))
  rw [Int.toNat_of_nonneg hx.1, Int.toNat_of_nonneg hs.1] at CW
  unfold cmpE
  generalize scmp x.f0.toNat s.toNat = r at CW
  go_enter Try.func70, Try.ntmps70
  go_wp2_with (go_at_call 71; refine ((CW.out _)).mono ?_; rintro e w1 ⟨rfl, hb1⟩; have HB1 := Aside0.mk hb1; clear hb1)
  go_ret
  exact ⟨rfl, below_step (below_alloc (Below.refl _ _) _) HB1.out⟩
end Go.Proofs.Ytafhdamdkefpkaa

namespace Go.Proofs.Ytafhdamdkefpkaa
open Go.RowKit Go.Proofs.YtafhdamdkefpkaaW.PrintWords Go.Proofs.YtafhdamdkefpkaaW.PrintLast Go.Proofs.YtafhdamdkefpkaaW.PrintMore
attribute [local go_sem] max2_int min2_int max_two min_two Oper.semAt_some
set_option linter.unusedVariables false
set_option linter.unusedSimpArgs false

/-- Place i parts the entries below s from the others. -/
def PartsAt (xs : List PDelta.S68) (s : Int) (i : Nat) : Prop := i ≤ xs.length ∧ (∀ k : Nat, k < i → cmpE (PDelta.rd_T68 xs k).f0 s < 0) ∧ (∀ k : Nat, i ≤ k → k < xs.length → 0 ≤ cmpE (PDelta.rd_T68 xs k).f0 s)
set_option maxRecDepth 100000 in
set_option maxHeartbeats 1000000 in
theorem ebin_any (A0 : Option Addr) (c0 : Nat) (xs : List PDelta.S68) (s : Int) (w : World) (hC : Kd.C PDelta.k68 w A0 xs.length xs) (hc0 : xs.length ≤ c0) (hl : xs.length ≤ 1000000000) (hu : ∀ k : Nat, k < xs.length → U64E (PDelta.rd_T68 xs k)) (hs : 0 ≤ s ∧ s < 18446744073709551616)
    (hm : ∀ a b : Nat, a < b → b < xs.length → 0 ≤ cmpE (PDelta.rd_T68 xs a).f0 s → 0 ≤ cmpE (PDelta.rd_T68 xs b).f0 s) :
    Calls Try.prog 69 #[.slice A0 xs.length c0, .int .u64 s, .func (.func 70) #[] #[]] w fun e w' => ∃ (i : Nat) (f : Bool), e = .returned (.tuple #[.int .i64 i, .bool f]) ∧ PartsAt xs s i ∧ Below w.heap.size w w' := by
  have huE := Try.underlying68
  have HC := Aside0.mk hC
  have HU := Aside0.mk hu
  have HM := Aside0.mk hm
  have HS := Aside0.mk hs
  have HL := Aside0.mk hl
  clear hC hu hm hs
  go_enter Try.func69, Try.ntmps69
  go_wp2_with fail
  go_loopg [9, 10] xs.length (fun n v9 v10 W => ∃ i j : Nat, v9 = .int .i64 i ∧ v10 = .int .i64 j ∧ Aside0 (i ≤ j ∧ j ≤ xs.length ∧ j ≤ i + n) ∧ Aside0 (∀ k : Nat, k < i → cmpE (PDelta.rd_T68 xs k).f0 s < 0) ∧ Aside0 (∀ k : Nat, j ≤ k → k < xs.length → 0 ≤ cmpE (PDelta.rd_T68 xs k).f0 s) ∧ Aside0 (Below w.heap.size w W))
  case atStart => exact ⟨0, xs.length, rfl, rfl, ⟨by omega⟩, ⟨fun k h => by omega⟩, ⟨fun k h h' => by omega⟩, ⟨Below.refl _ _⟩⟩
  case round =>
    obtain ⟨i, j, rfl, rfl, HIJ, HLO, HHI, HB⟩ := hrel
    by_cases c : (i : Int) < (j : Int)
    · obtain ⟨h, hh⟩ : ∃ h : Nat, h = (i + j) / 2 := ⟨_, rfl⟩
      have hb1 : i ≤ h ∧ h < j := by omega
      have hjl : j ≤ xs.length := HIJ.out.2.1
      have p1 : (0 : Int) ≤ (h : Int) := by omega
      have p2 : (h : Int) < (xs.length : Int) := by omega
      obtain ⟨ad1, e1, hx0, hx1⟩ := PDelta.at_T68 (Kd.C_below HC.out HB.out) h p1 p2
      cases e1
      rw [Int.toNat_natCast] at hx0 hx1
      have CC := Aside0.mk (fun W => eput2_any (PDelta.rd_T68 xs h) s W (HU.out h (by omega)) HS.out)
      have wrapS : wrap64 ((i : Int) + (j : Int)) = (((i + j : Nat)) : Int) := by unfold wrap64; omega
      have wrapH : wrap64 ((h : Int) + 1) = ((h + 1 : Nat) : Int) := by unfold wrap64; omega
      have wrapU : wrap64 (IntKind.u64.wrap ((i : Int) + (j : Int)) / 2) = (h : Int) := by
        rw [IntKind.wrap_u64]
        unfold wrap64
        omega
      have q1 : (0 : Int) ≤ ((i : Int) + (j : Int)) / 2 := by omega
      have q2 : ((i : Int) + (j : Int)) / 2 < (xs.length : Int) := by omega
      have HH := Aside0.mk hh
      have HB1 := Aside0.mk hb1
      clear hjl hb1
      replace p1 := eq_true p1
      replace p2 := eq_true p2
      clear q1 q2
      replace c := eq_true c
      obtain ⟨x, hx⟩ : ∃ x, x = PDelta.rd_T68 xs h := ⟨_, rfl⟩
      rw [← hx] at hx0 hx1 CC
      obtain ⟨r, hr⟩ : ∃ r, r = cmpE x.f0 s := ⟨_, rfl⟩
      rw [← hr] at CC
      have HR : Aside0 (cmpE (PDelta.rd_T68 xs h).f0 s = r) := ⟨by rw [← hx, hr]⟩
      clear hx hr
      clear hh
      by_cases cn : r < 0
      · have HCN := Aside0.mk cn
        have t1 : decide (r < 0) = true := decide_eq_true cn
        clear cn
        go_wp2_with (go_at_call 70; refine ((CC.out _)).mono ?_; rintro e w1 ⟨rfl, hb1⟩; have HB2 := Aside0.mk (below_step HB.out hb1); clear hb1)
        go_roundg (gk - 1)
        case measure => have := HIJ.out; have := HB1.out; omega
        case rel => exact ⟨h + 1, j, by first | rfl | (simp; done) | rw [wrapH], rfl, ⟨by have := HIJ.out; have := HB1.out; omega⟩, ⟨fun k hk => by
            rcases Nat.lt_or_ge k h with e | e
            · exact Int.not_le.1 (fun hc => absurd (HM.out k h e (by have := HIJ.out; have := HB1.out; omega) hc) (by rw [HR.out]; exact Int.not_le.2 HCN.out))
            · rw [show k = h from by omega, HR.out]; exact HCN.out⟩, HHI, HB2⟩
      · have HCN := Aside0.mk (Int.not_lt.1 cn)
        have t1 : decide (r < 0) = false := decide_eq_false cn
        clear cn
        go_wp2_with (go_at_call 70; refine ((CC.out _)).mono ?_; rintro e w1 ⟨rfl, hb1⟩; have HB2 := Aside0.mk (below_step HB.out hb1); clear hb1)
        go_roundg (gk - 1)
        case measure => have := HIJ.out; have := HB1.out; omega
        case rel => exact ⟨i, h, rfl, rfl, ⟨by have := HIJ.out; have := HB1.out; omega⟩, HLO, ⟨fun k hk hkl => by
            rcases Nat.lt_or_ge h k with e | e
            · exact HM.out h k e hkl (by rw [HR.out]; exact HCN.out)
            · rw [show k = h from by omega, HR.out]; exact HCN.out⟩, HB2⟩
    · have hij : i = j := by have := HIJ.out; omega
      have HPA := Aside0.mk (show PartsAt xs s i from ⟨by have := HIJ.out; omega, HLO.out, fun k h1 h2 => HHI.out k (by omega) h2⟩)
      have c1 : (i < j) = False := eq_false (by omega)
      have c2 : ((i : Int) < (j : Int)) = False := eq_false c
      clear c hij
      by_cases d : (i : Int) < (xs.length : Int)
      · have p1 : (0 : Int) ≤ (i : Int) := by omega
        obtain ⟨ad1, e1, hx0, hx1⟩ := PDelta.at_T68 (Kd.C_below HC.out HB.out) i p1 d
        cases e1
        rw [Int.toNat_natCast] at hx0 hx1
        have CC := Aside0.mk (fun W => eput2_any (PDelta.rd_T68 xs i) s W (HU.out i (by omega)) HS.out)
        generalize PDelta.rd_T68 xs i = x at hx0 hx1 CC
        generalize cmpE x.f0 s = r at CC
        replace p1 := eq_true p1
        replace d := eq_true d
        go_wp2_with (go_at_call 70; refine ((CC.out _)).mono ?_; rintro e w1 ⟨rfl, hb1⟩; have HB2 := Aside0.mk (below_step HB.out hb1); clear hb1)
        go_ret2
        exact ⟨i, _, rfl, HPA.out, HB2.out⟩
      · have d1 : decide ((i : Int) < (xs.length : Int)) = false := decide_eq_false d
        have d2 : decide (i < xs.length) = false := decide_eq_false (by omega)
        clear d
        go_wp2_with fail
        go_ret2
        exact ⟨i, _, rfl, HPA.out, HB.out⟩
end Go.Proofs.Ytafhdamdkefpkaa

namespace Go.Proofs.Ytafhdamdkefpkaa
open Go.RowKit Go.Proofs.YtafhdamdkefpkaaW.PrintWords Go.Proofs.YtafhdamdkefpkaaW.PrintLast Go.Proofs.YtafhdamdkefpkaaW.PrintMore
attribute [local go_sem] max2_int min2_int max_two min_two Oper.semAt_some
set_option linter.unusedVariables false
set_option linter.unusedSimpArgs false

/-- r is the place of the first entry that is left out; -1: there is none. -/
def FirstOut (xs : List PDelta.S68) (s ask : Int) (r : Int) : Prop :=
  (r = -1 ∧ ∀ k : Nat, k < xs.length → outE s ask (PDelta.rd_T68 xs k) = false) ∨ ∃ i : Nat, r = i ∧ i < xs.length ∧ outE s ask (PDelta.rd_T68 xs i) = true ∧ ∀ k : Nat, k < i → outE s ask (PDelta.rd_T68 xs k) = false
set_option maxRecDepth 100000 in
set_option maxHeartbeats 1000000 in
theorem eidx_any (A0 : Option Addr) (c0 : Nat) (xs : List PDelta.S68) (b0 b1 : Nat) (s ask : Int) (w : World) (hC : Kd.C PDelta.k68 w A0 xs.length xs) (hc0 : xs.length ≤ c0) (hl : xs.length ≤ 1000000000)
    (h0 : w.heap[b0]? = some (.cells #[.int .u64 s] 36 (0, 0))) (h1 : w.heap[b1]? = some (.cells #[.int .i64 ask] 2 (0, 0))) :
    Calls Try.prog 97 #[.slice A0 xs.length c0, .func (.func 68) #[] #[.pointer (some ⟨b0, 0, none⟩), .pointer (some ⟨b1, 0, none⟩)]] w fun e w' => ∃ r : Int, e = .returned (.int .i64 r) ∧ FirstOut xs s ask r ∧ Below w.heap.size w w' := by
  have huE := Try.underlying68
  have HC := Aside0.mk hC
  have H0 := Aside0.mk h0
  have H1 := Aside0.mk h1
  have HL := Aside0.mk hl
  clear hC h0 h1
  go_enter Try.func97, Try.ntmps97
  go_wp2_with fail
  go_loopg [8] xs.length (fun n v8 W => ∃ i : Nat, v8 = .int .i64 i ∧ Aside0 (i + n = xs.length) ∧ Aside0 (∀ k : Nat, k < i → outE s ask (PDelta.rd_T68 xs k) = false) ∧ Aside0 (Below w.heap.size w W))
  case atStart => exact ⟨0, rfl, ⟨by omega⟩, ⟨fun k h => by omega⟩, ⟨Below.refl _ _⟩⟩
  case round =>
    obtain ⟨i, rfl, HI, HLO, HB⟩ := hrel
    by_cases c : (i : Int) < (xs.length : Int)
    · have p1 : (0 : Int) ≤ (i : Int) := by omega
      obtain ⟨ad1, e1, hx0, hx1⟩ := PDelta.at_T68 (Kd.C_below HC.out HB.out) i p1 c
      cases e1
      rw [Int.toNat_natCast] at hx0 hx1
      have HIL := Aside0.mk (show i < xs.length by omega)
      have wrapI : wrap64 ((i : Int) + 1) = ((i + 1 : Nat) : Int) := by unfold wrap64; omega
      have CC := Aside0.mk (eput1_any b0 b1 s ask (PDelta.rd_T68 xs i) wr ((HB.out.block _ (lt_of_heap H0.out)).trans H0.out) ((HB.out.block _ (lt_of_heap H1.out)).trans H1.out))
      obtain ⟨x, hx⟩ : ∃ x, x = PDelta.rd_T68 xs i := ⟨_, rfl⟩
      rw [← hx] at hx0 hx1 CC
      obtain ⟨r, hr⟩ : ∃ r, r = outE s ask x := ⟨_, rfl⟩
      rw [← hr] at CC
      have HR : Aside0 (outE s ask (PDelta.rd_T68 xs i) = r) := ⟨by rw [← hx, hr]⟩
      clear hx hr
      replace p1 := eq_true p1
      replace c := eq_true c
      cases r with
      | true =>
        go_wp2_with (go_at_call 68; refine (CC.out).mono ?_; rintro e w1 ⟨rfl, hb1⟩; have HB2 := Aside0.mk (below_step HB.out hb1); clear hb1)
        go_ret
        exact ⟨i, rfl, .inr ⟨i, rfl, HIL.out, HR.out, HLO.out⟩, HB2.out⟩
      | false =>
        go_wp2_with (go_at_call 68; refine (CC.out).mono ?_; rintro e w1 ⟨rfl, hb1⟩; have HB2 := Aside0.mk (below_step HB.out hb1); clear hb1)
        go_roundg (gk - 1)
        case measure => have := HI.out; have := HIL.out; omega
        case rel => exact ⟨i + 1, by first | rfl | (simp; done) | rw [wrapI], ⟨by have := HI.out; have := HIL.out; omega⟩, ⟨fun k hk => by
            rcases Nat.lt_or_ge k i with e | e
            · exact HLO.out k e
            · rw [show k = i from by omega]; exact HR.out⟩, HB2⟩
    · have c1 : (i < xs.length) = False := eq_false (by omega)
      have c2 : ((i : Int) < (xs.length : Int)) = False := eq_false c
      have HIE := Aside0.mk (show xs.length ≤ i by omega)
      clear c
      go_wp2_with fail
      go_ret
      exact ⟨-1, rfl, .inl ⟨rfl, fun k hk => HLO.out k (by have := HIE.out; omega)⟩, HB.out⟩
end Go.Proofs.Ytafhdamdkefpkaa

namespace Go.Proofs.Ytafhdamdkefpkaa
open Go.RowKit Go.Proofs.YtafhdamdkefpkaaW.PrintWords Go.Proofs.YtafhdamdkefpkaaW.PrintLast Go.Proofs.YtafhdamdkefpkaaW.PrintMore
attribute [local go_sem] max2_int min2_int max_two min_two Oper.semAt_some
set_option linter.unusedVariables false
set_option linter.unusedSimpArgs false
/-- An entry as it is yielded, in two parts. -/
def encE2 (x : PDelta.S68) : Array Value := #[.int .u64 x.f0, .int .i64 x.f1]
theorem takeE (xs : List PDelta.S68) (i : Nat) (h : i < xs.length) : xs.take (i + 1) = xs.take i ++ [PDelta.rd_T68 xs i] := by
  rw [List.take_add_one]
  simp [PDelta.rd_T68, List.getD, h]
theorem splitE (xs : List PDelta.S68) (i : Nat) (h : i < xs.length) : ∃ post, xs = xs.take i ++ PDelta.rd_T68 xs i :: post :=
  ⟨xs.drop (i + 1), by
    have e := List.take_append_drop (i + 1) xs
    rw [takeE xs i h, List.append_assoc] at e
    exact e.symm⟩

theorem eents_any (q : Nat) (w : World) : Calls Try.prog 83 #[.pointer (some ⟨q, 0, none⟩)] w fun e w' =>
    e = .returned (.func (.func 110) #[] #[.pointer (some ⟨w.heap.size, 0, none⟩)]) ∧ w' = w.alloc (.cells #[.pointer (some ⟨q, 0, none⟩)] 85) := by
  go_enter Try.func83, Try.ntmps83
  go_wp2
  go_ret
  exact ⟨rfl, rfl⟩

set_option maxRecDepth 100000 in
set_option maxHeartbeats 1000000 in
theorem eents1_iter (W0 : World) (base : Nat) (ok : Nat → Prop) (A0 : Option Addr) (c0 : Nat) (xs : List PDelta.S68) (q b0 : Nat) (D : Nat → Prop) (hR : Kd.R PDelta.k68 68 W0 base ok (.slice A0 xs.length c0) xs) (hl : xs.length ≤ 1000000000)
    (hq : W0.heap[q]? = some (.cells #[.slice A0 xs.length c0] 87 (0, 0))) (h0 : W0.heap[b0]? = some (.cells #[.pointer (some ⟨q, 0, none⟩)] 85 (0, 0)))
    (hD : ∀ k, ok k → D k) (hDq : D q) (hD0 : D b0) :
    Iter Try.prog 110 #[.pointer (some ⟨b0, 0, none⟩)] encE2 xs D W0 := by
  intro l S0 J Jx W hW hS0 hSD hJ hJx hY hj0
  have hw : ∀ S2 W2, YCore S0 W S2 W2 → W2.cell? ⟨q, 0, none⟩ = some (.slice A0 xs.length c0) ∧ W2.cell? ⟨b0, 0, none⟩ = some (.pointer (some ⟨q, 0, none⟩)) ∧ Kd.C PDelta.k68 W2 A0 xs.length xs := by
    intro S2 W2 h2
    have kq := hW.at_ hq hDq
    have k0 := hW.at_ h0 hD0
    refine ⟨blk_cell_ (h2.keeps.at_ kq ⟨lt_of_heap kq, fun h => hSD _ h hDq⟩) 0, blk_cell_ (h2.keeps.at_ k0 ⟨lt_of_heap k0, fun h => hSD _ h hD0⟩) 0, ?_⟩
    have h3 := Kd.R_step (w1 := W2) hR (fun k hk hlt => (h2.keeps.block k ⟨Nat.lt_of_lt_of_le hlt hW.size, fun h => hSD _ h (hD k hk)⟩ (Nat.lt_of_lt_of_le hlt hW.size)).trans (hW.block k (hD k hk) hlt))
    exact (Kd.R_reads' h3).2.2
  have HW := Aside0.mk hw
  have huE := Try.underlying68
  have HY := Aside0.mk (fun pre x post S W1 hx hj (hc : YCore S0 W S W1) => hY pre x post S W1 hx hj hc.keeps hc.own)
  have HJ := Aside0.mk (fun pre S (A B : World) (hb : Below A.heap.size A B) (hj : J pre S A) => hJ pre S A B hj (Keeps.of_all hb))
  have HS := Aside0.mk (YCore.start hS0)
  have HJ0 := Aside0.mk hj0
  clear hY hj0 hJ hJx hw hR h0 hq hDq hD hD0 hW hS0 hSD
  refine (callsIn_wide (n := 0)).1 ?_
  refine callsIn_of_wp Try.func110 rfl trivial ?_ rfl
  simp only [Try.ntmps110, List.size_toArray, List.length_cons, List.length_nil, Nat.reduceAdd, Nat.reduceSub, Array.replicate_succ, Array.replicate_zero, List.push_toArray, List.append_toArray, List.nil_append, List.cons_append]
  obtain ⟨qq, q0, -⟩ := HW.out S0 W HS.out
  gi_wp2_with fail
  clear q0 qq
  gi_loopg [10] xs.length (fun n v W1 => ∃ (i : Nat) (S : Nat → Prop), v = .int .i64 i ∧ Aside0 (i + n = xs.length) ∧ Aside0 (YCore S0 W S W1) ∧ Aside0 (J (xs.take i) S W1))
  case atStart => exact ⟨0, S0, rfl, ⟨by simp⟩, HS, by rw [List.take_zero]; exact HJ0⟩
  case round =>
    clear HS HJ0
    obtain ⟨i, S, rfl, HI, HCo, HJi⟩ := hrel
    by_cases c : (i : Int) < (xs.length : Int)
    · obtain ⟨qq, q0, hB⟩ := HW.out S wr HCo.out
      have p1 : (0 : Int) ≤ (i : Int) := by omega
      obtain ⟨ad1, e1, hx0, hx1⟩ := PDelta.at_T68 hB i p1 c
      cases e1
      rw [Int.toNat_natCast] at hx0 hx1
      have hlt : Aside0 (i < xs.length) := ⟨by omega⟩
      have wrapI : wrap64 ((i : Int) + 1) = ((i + 1 : Nat) : Int) := by unfold wrap64; omega
      have hstep := Aside0.mk (takeE xs i hlt.out)
      obtain ⟨post, hpost⟩ := splitE xs i hlt.out
      have HPo := Aside0.mk hpost
      generalize PDelta.rd_T68 xs i = x at hx0 hx1 hstep HPo
      clear hpost hB
      replace p1 := eq_true p1
      replace c := eq_true c
      have HC2 := Aside0.mk (HCo.out.step (below_alloc (Below.refl _ _) (.cells #[.int .u64 x.f0, .int .i64 x.f1] 68)))
      have HJ2 := Aside0.mk (HJ.out _ _ _ _ (below_alloc (Below.refl _ _) (.cells #[.int .u64 x.f0, .int .i64 x.f1] 68)) HJi.out)
      obtain ⟨fn, tmps, assign, body, hy, hR⟩ := HY.out _ x post S _ HPo.out HJ2.out HC2.out
      have HR := Aside0.mk hR
      clear hR HY
      change (Instr.yield l #[.int .u64 x.f0, .int .i64 x.f1]).run Try.prog _ = _ at hy
      gi_wp2_with fail
      refine ⟨rfl, (HR.out _).mono ?_⟩
      clear HR hy
      rintro e W3 ⟨S3, hs3, hk3, (⟨rfl, hj3⟩ | ⟨rfl, hx3⟩)⟩
      · have HC3 := Aside0.mk (HC2.out.yield hs3 hk3)
        have HJ3 := Aside0.mk hj3
        clear hs3 hk3 hj3
        gi_wp2_with fail
        gi_roundg (gk - 1)
        case measure => have := HI.out; have := hlt.out; omega
        case rel => exact ⟨i + 1, S3, by rw [wrapI], ⟨by have := HI.out; have := hlt.out; omega⟩, HC3, ⟨by rw [hstep.out]; exact HJ3.out⟩⟩
      · have HC3 := Aside0.mk (HC2.out.yield hs3 hk3)
        have HX3 := Aside0.mk hx3
        clear hs3 hk3 hx3
        gi_wp2_with fail
        refine bodyPost_ret (results_none rfl _ _ _) rfl ?_
        exact ⟨⟨_, rfl⟩, HC3.out.keeps, S3, HC3.out.own, .inr ⟨_, ⟨post, by have := HPo.out; rw [List.append_assoc]; exact this.symm⟩, HX3.out⟩⟩
    · have c1 : (i < xs.length) = False := eq_false (by omega)
      have c2 : ((i : Int) < (xs.length : Int)) = False := eq_false c
      have hil : Aside0 (xs.take i = xs) := ⟨List.take_of_length_le (by omega)⟩
      clear c
      gi_wp2_with fail
      go_end0
      exact ⟨⟨_, rfl⟩, HCo.out.keeps, S, HCo.out.own, .inl (by rw [hil.out] at HJi; exact HJi.out)⟩
end Go.Proofs.Ytafhdamdkefpkaa

namespace Go.Proofs.Ytafhdamdkefpkaa
open Go.RowKit Go.Proofs.YtafhdamdkefpkaaW.PrintWords Go.Proofs.YtafhdamdkefpkaaW.PrintLast Go.Proofs.YtafhdamdkefpkaaW.PrintMore
attribute [local go_sem] max2_int min2_int max_two min_two Oper.semAt_some
set_option linter.unusedVariables false
set_option linter.unusedSimpArgs false
def flatE (x : PDelta.S68) : List Value := [.int .u64 x.f0, .int .i64 x.f1]
theorem flat_E : Flat PDelta.k68 flatE := ⟨fun w base ok x => PDelta.k68_mkM w base ok x, fun h => PDelta.k68_openM h⟩
def keepE (s ask : Int) (x : PDelta.S68) : Bool := !outE s ask x
theorem FirstOut.unique {xs : List PDelta.S68} {s ask r r' : Int} (h : FirstOut xs s ask r) (h' : FirstOut xs s ask r') : r = r' := by
  rcases h with ⟨rfl, h1⟩ | ⟨i, rfl, h1, h2, h3⟩ <;> rcases h' with ⟨rfl, k1⟩ | ⟨j, rfl, k1, k2, k3⟩
  · rfl
  · rw [h1 j k1] at k2; cases k2
  · rw [k1 i h1] at h2; cases h2
  · rcases Nat.lt_trichotomy i j with c | c | c
    · rw [k3 i c] at h2; cases h2
    · rw [c]
    · rw [h3 j c] at k2; cases k2
theorem firstOut_or (xs : List PDelta.S68) (s ask : Int) : (∀ k : Nat, k < xs.length → outE s ask (PDelta.rd_T68 xs k) = false) ∨ ∃ i : Nat, i < xs.length ∧ outE s ask (PDelta.rd_T68 xs i) = true ∧ ∀ k : Nat, k < i → outE s ask (PDelta.rd_T68 xs k) = false := by
  have key : ∀ n, n ≤ xs.length → (∀ k : Nat, k < n → outE s ask (PDelta.rd_T68 xs k) = false) ∨ ∃ i : Nat, i < xs.length ∧ outE s ask (PDelta.rd_T68 xs i) = true ∧ ∀ k : Nat, k < i → outE s ask (PDelta.rd_T68 xs k) = false := by
    intro n
    induction n with
    | zero => exact fun _ => .inl (fun k h => by omega)
    | succ n ih =>
      intro hn
      rcases ih (by omega) with h | h
      · cases e : outE s ask (PDelta.rd_T68 xs n) with
        | false => exact .inl (fun k hk => by rcases Nat.lt_succ_iff_lt_or_eq.1 hk with c | rfl; exact h k c; exact e)
        | true => exact .inr ⟨n, by omega, e, h⟩
      · exact .inr h
  exact key _ (Nat.le_refl _)
theorem filt_take (xs : List PDelta.S68) (s ask : Int) (j : Nat) (h : j < xs.length) : (xs.take (j + 1)).filter (keepE s ask) = (xs.take j).filter (keepE s ask) ++ (if outE s ask (PDelta.rd_T68 xs j) = true then [] else [PDelta.rd_T68 xs j]) := by
  rw [takeE xs j h, List.filter_append, List.filter_cons, List.filter_nil]
  congr 1
  unfold keepE
  cases outE s ask (PDelta.rd_T68 xs j) <;> rfl
theorem filt_pre (xs : List PDelta.S68) (s ask : Int) (i : Nat) (hi : i ≤ xs.length) (h : ∀ k : Nat, k < i → outE s ask (PDelta.rd_T68 xs k) = false) : (xs.take i).filter (keepE s ask) = xs.take i := by
  induction i with
  | zero => rfl
  | succ i ih => rw [filt_take xs s ask i (by omega), ih (by omega) (fun k hk => h k (by omega)), h i (by omega), takeE xs i (by omega)]; rfl
theorem rdE_drop (xs ys : List PDelta.S68) (j : Nat) (hl : ys.length = xs.length) (h : ys.drop j = xs.drop j) : PDelta.rd_T68 ys j = PDelta.rd_T68 xs j := by
  unfold PDelta.rd_T68
  rw [Int.toNat_natCast, List.getD_eq_getElem?_getD, List.getD_eq_getElem?_getD]
  have := congrArg (fun l => l[0]?) h
  simp only [List.getElem?_drop, Nat.add_zero] at this
  rw [this]

theorem take_set_succ {α : Type} (ys : List α) (k : Nat) (x : α) (h : k < ys.length) : (ys.set k x).take (k + 1) = ys.take k ++ [x] := by
  rw [List.take_add_one, List.take_set_of_le (Nat.le_refl _)]
  simp [h]

set_option maxRecDepth 100000 in
set_option maxHeartbeats 4000000 in
theorem edel_any (v : Value) (xs : List PDelta.S68) (b0 b1 : Nat) (s ask : Int) (w : World) (base : Nat) (hR : Kd.R PDelta.k68 68 w base (fun _ => True) v xs) (hbase : base ≤ w.heap.size) (hb0 : b0 < base) (hb1 : b1 < base) (hl : xs.length ≤ 1000000)
    (h0 : w.heap[b0]? = some (.cells #[.int .u64 s] 36 (0, 0))) (h1 : w.heap[b1]? = some (.cells #[.int .i64 ask] 2 (0, 0))) :
    Calls Try.prog 66 #[v, .func (.func 68) #[] #[.pointer (some ⟨b0, 0, none⟩), .pointer (some ⟨b1, 0, none⟩)]] w fun e w' => ∃ v' : Value, e = .returned v' ∧ Kd.R PDelta.k68 68 w' base (fun _ => True) v' (xs.filter (keepE s ask)) ∧ Below base w w' := by
  obtain ⟨A, c, rfl, hlc, hC⟩ := Kd.R_reads hR
  have huE := Try.underlying68
  rcases firstOut_or xs s ask with hall | ⟨i, hi, ho, hpre⟩
  · have C : Calls Try.prog 97 #[.slice A xs.length c, .func (.func 68) #[] #[.pointer (some ⟨b0, 0, none⟩), .pointer (some ⟨b1, 0, none⟩)]] w fun e w' => e = .returned (.int .i64 (-1)) ∧ Below w.heap.size w w' :=
      (eidx_any A c xs b0 b1 s ask w hC hlc (by omega) h0 h1).mono fun e w' ⟨r, h2, h3, h4⟩ => ⟨by rw [h2, h3.unique (.inl ⟨rfl, hall⟩)], h4⟩
    have C := Aside0.mk C
    have HR := Aside0.mk hR
    have HF := Aside0.mk (by have := filt_pre xs s ask xs.length (Nat.le_refl _) hall; rwa [List.take_length] at this : xs.filter (keepE s ask) = xs)
    clear hR hC hall h0 h1
    go_enter Try.func66, Try.ntmps66
    go_wp2_with (go_at_call 97; refine (C.out).mono ?_; rintro e w1 ⟨rfl, hb⟩; have HB := Aside0.mk hb; clear hb)
    go_ret
    exact ⟨_, rfl, by rw [HF.out]; exact Kd.R_below HR.out HB.out, HB.out.mono (by omega)⟩
  · have C : Calls Try.prog 97 #[.slice A xs.length c, .func (.func 68) #[] #[.pointer (some ⟨b0, 0, none⟩), .pointer (some ⟨b1, 0, none⟩)]] w fun e w' => e = .returned (.int .i64 i) ∧ Below w.heap.size w w' :=
      (eidx_any A c xs b0 b1 s ask w hC hlc (by omega) h0 h1).mono fun e w' ⟨r, h2, h3, h4⟩ => ⟨by rw [h2, h3.unique (.inr ⟨i, rfl, hi, ho, hpre⟩)], h4⟩
    have C := Aside0.mk C
    obtain ⟨g, cap, eA, hbg, -, -⟩ := Kd.R_form hR (by omega)
    injection eA with eA1 eA2 eA3
    subst eA1 eA3
    have HR := Aside0.mk hR
    have HBG := Aside0.mk hbg
    have H0 := Aside0.mk h0
    have H1 := Aside0.mk h1
    have HI := Aside0.mk hi
    have HST : Aside0 ((xs.take (i + 1)).filter (keepE s ask) = xs.take i) := ⟨by rw [filt_take xs s ask i hi, ho, filt_pre xs s ask i (by omega) hpre]; simp⟩
    have hneg : ((i : Int) == -1) = false := by simp
    have wrapI : wrap64 ((i : Int) + 1) = ((i + 1 : Nat) : Int) := by unfold wrap64; omega
    have hW : Aside0 (∀ W, Below base w W → W.heap[b0]? = some (.cells #[.int .u64 s] 36 (0, 0)) ∧ W.heap[b1]? = some (.cells #[.int .i64 ask] 2 (0, 0))) := ⟨fun W h => ⟨(h.block _ hb0).trans h0, (h.block _ hb1).trans h1⟩⟩
    clear hR hC hpre ho h0 h1 hbg hi
    go_enter Try.func66, Try.ntmps66
    go_wp2_with (go_at_call 97; refine (C.out).mono ?_; rintro e w1 ⟨rfl, hb⟩; have HB := Aside0.mk hb; clear hb)
    go_loopg [5, 6] xs.length (fun n v5 v6 W => ∃ (k j : Nat) (ys : List PDelta.S68), v5 = .int .i64 k ∧ v6 = .int .i64 j ∧ Aside0 (k < j ∧ j ≤ xs.length ∧ xs.length ≤ j + n) ∧ Aside0 (ys.length = xs.length ∧ ys.take k = (xs.take j).filter (keepE s ask) ∧ ys.drop j = xs.drop j) ∧
      Aside0 (Kd.R PDelta.k68 68 W base (fun _ => True) (.slice (some ⟨g, 0, none⟩) xs.length c) ys) ∧ Aside0 (Below base w W))
    case atStart => exact ⟨i, i + 1, xs, rfl, by rw [wrapI], ⟨by have := HI.out; omega⟩, ⟨rfl, HST.out.symm, rfl⟩, ⟨Kd.R_below HR.out HB.out⟩, ⟨HB.out.mono hbase⟩⟩
    case round =>
      clear HB HST HI C hneg wrapI
      obtain ⟨k, j, ys, rfl, rfl, HK, HY, HR1, HB1⟩ := hrel
      by_cases hj : (j : Int) < (xs.length : Int)
      · have p1 : (0 : Int) ≤ (j : Int) := by omega
        have HJ := Aside0.mk (show j < xs.length by omega)
        have hyl : ys.length = xs.length := HY.out.1
        have hC1 : Kd.C PDelta.k68 wr (some ⟨g, 0, none⟩) xs.length ys := by have := (Kd.R_reads' HR1.out).2.2; rwa [hyl] at this
        obtain ⟨ad1, e1, hx0, hx1⟩ := PDelta.at_T68 hC1 j p1 hj
        cases e1
        rw [Int.toNat_natCast, rdE_drop xs ys j hyl HY.out.2.2] at hx0 hx1
        have HRD := Aside0.mk (rdE_drop xs ys j hyl HY.out.2.2)
        simp only [add_plain] at hx0 hx1
        have wrapJ : wrap64 ((j : Int) + 1) = ((j + 1 : Nat) : Int) := by unfold wrap64; omega
        have wrapK : wrap64 ((k : Int) + 1) = ((k + 1 : Nat) : Int) := by have := HK.out; unfold wrap64; omega
        have hw := hW.out wr HB1.out
        have CC := Aside0.mk (fun o => eput1_any b0 b1 s ask (PDelta.rd_T68 xs j) (wr.alloc o) ((Below.heap_alloc _ _ _ (lt_of_heap hw.1)).trans hw.1) ((Below.heap_alloc _ _ _ (lt_of_heap hw.2)).trans hw.2))
        have HFT := Aside0.mk (filt_take xs s ask j HJ.out)
        obtain ⟨x, hx⟩ : ∃ x, x = PDelta.rd_T68 xs j := ⟨_, rfl⟩
        rw [← hx] at hx0 hx1 CC HFT HRD
        have HWS := Aside0.mk HB1.out.size
        have HL1 : Aside0 (∀ w1 : World, Below (wr.alloc (.cells #[.int .u64 x.f0, .int .i64 x.f1] 68)).heap.size (wr.alloc (.cells #[.int .u64 x.f0, .int .i64 x.f1] 68)) w1 → Kd.R PDelta.k68 68 w1 base (fun _ => True) (.slice (some ⟨g, 0, none⟩) xs.length c) ys ∧ Below base w w1 ∧ base ≤ w1.heap.size ∧ w1.cell? ⟨wr.heap.size, 0, none⟩ = some (.int .u64 x.f0) ∧ w1.cell? ⟨wr.heap.size, 1, none⟩ = some (.int .i64 x.f1)) := ⟨fun w1 hb => ⟨Kd.R_below (Kd.R_alloc HR1.out _) hb, (HB1.out.alloc (by have := HWS.out; omega) _).trans (hb.mono (by have := HWS.out; rw [World.size_alloc]; omega)), by have h3 := hb.size; have := HWS.out; rw [World.size_alloc] at h3; omega, by
          refine ⟨pw_cell_below hb ?_, pw_cell_below hb ?_⟩
          · exact blk_cell_ (World.alloc_heap_new _ _) 0
          · exact blk_cell_ (World.alloc_heap_new _ _) 1⟩⟩
        have hkl : k < xs.length := by have := HK.out; omega
        have k1 : (0 : Int) ≤ (k : Int) := by omega
        have k2 : (k : Int) < (xs.length : Int) := by omega
        clear hC1 hw hyl hx
        replace p1 := eq_true p1
        replace hj := eq_true hj
        obtain ⟨oo, hoo⟩ : ∃ oo, oo = outE s ask x := ⟨_, rfl⟩
        rw [← hoo] at CC HFT
        clear hoo
        cases oo with
        | true =>
          go_wp2_with (go_at_call 68; refine ((CC.out _)).mono ?_; rintro e w1 ⟨rfl, hb⟩; have HB2 := Aside0.mk (HL1.out _ hb); clear hb)
          go_roundg (gk - 1)
          case measure => have := HK.out; have := HJ.out; omega
          case rel => exact ⟨k, j + 1, ys, rfl, by rw [wrapJ], ⟨by have := HK.out; have := HJ.out; omega⟩, ⟨HY.out.1, by rw [HFT.out]; simp [HY.out.2.1], by have := HY.out.2.2; rw [← List.drop_drop, ← List.drop_drop, this]⟩, ⟨HB2.out.1⟩, ⟨HB2.out.2.1⟩⟩
        | false =>
          go_wp2_with (first
            | (go_at_call 68; refine ((CC.out _)).mono ?_; rintro e w1 ⟨rfl, hb⟩; obtain ⟨hr2, hb2, hs2, q0, q1⟩ := HL1.out _ hb; have HR2 := Aside0.mk hr2; have HB2 := Aside0.mk hb2; have HS2 := Aside0.mk hs2; clear hb hr2 hb2 hs2)
            | ((with_reducible refine gate_ (.store 68 (.tmp 33) (.tmp 32)) rfl ?_); refine held_out ?_))
          refine ⟨?_⟩
          obtain ⟨cc, hcl, -, hcc, -⟩ := Kd.R_elem HR2.out x (k : Int) k1 k2
          refine Kd.R_store PDelta.k68 base rfl rfl 68 (.tmp 33) (.tmp 32) rfl 68 (k : Int) 0 ys x (.agg #[.int .u64 x.f0, .int .i64 x.f1]) [.int .u64 x.f0, .int .i64 x.f1] cc (fun _ => True) (fun _ => False) rfl ?off rfl rfl (by kernel_rfl) (flat_E.one x) HR2.out k1 k2 hcl hcc (Nat.le_refl 2) ?hM (fun _ h => h.elim) HB2.out ?_
          case off => show k * 2 = (k : Int).toNat * 2 + 0; rw [Int.toNat_natCast]; rfl
          case hM =>
            rw [List.take_zero, List.nil_append, List.drop_eq_nil_of_le (by rw [hcl]; exact Nat.le_refl _), List.append_nil]
            exact PDelta.k68_mkM _ _ _ x
          intro w9 hR9 hB9 hg9
          rw [Int.toNat_natCast] at hR9
          have HR9 := Aside0.mk hR9
          have HB9 := Aside0.mk hB9
          clear hR9 hB9 hg9 hcc hcl q0 q1
          go_wp2_with fail
          go_roundg (gk - 1)
          case measure => have := HK.out; have := HJ.out; omega
          case rel => exact ⟨k + 1, j + 1, ys.set k x, by first | (rw [wrapK]; done) | rfl | (simp; done), by rw [wrapJ], ⟨by have := HK.out; have := HJ.out; omega⟩, ⟨by rw [List.length_set]; exact HY.out.1, by rw [HFT.out, ← HY.out.2.1]; exact take_set_succ ys k x (by have := HY.out.1; omega), by have := HY.out.2.2; rw [List.drop_set_of_lt (by have := HK.out; omega), ← List.drop_drop, ← List.drop_drop, this]⟩, HR9, HB9⟩
      · have hjx : j = xs.length := by have := HK.out; omega
        have c1 : (j < xs.length) = False := eq_false (by omega)
        have c2 : ((j : Int) < (xs.length : Int)) = False := eq_false hj
        have HF : Aside0 (ys.take k = xs.filter (keepE s ask)) := ⟨by have := HY.out.2.1; rw [hjx, List.take_length] at this; exact this⟩
        have k1 : (0 : Int) ≤ (k : Int) := by omega
        have k2 : (k : Int) ≤ (xs.length : Int) := by have := HK.out; omega
        have hck : ¬ (c = k) := by have := HK.out; omega
        have HKX := Aside0.mk (show k < xs.length by have := HK.out; omega)
        have k3 : k ≤ xs.length := by have := HKX.out; omega
        have k4 : k ≤ c := by omega
        have HYL := Aside0.mk HY.out.1
        obtain ⟨g', cap', cur, eV, hbg, -, hRow, hle, hcm, hcl, htk⟩ := flat_E.open_ HR1.out (by have := HYL.out; have := HKX.out; omega)
        injection eV with eV1 eV2 eV3
        injection eV1 with eV1
        injection eV1 with eV1
        subst eV1 eV3
        replace hcl : cur.length = c * 2 := hcl
        obtain ⟨i0, hi0, hzz⟩ := Option.map_eq_some_iff.1 info_entry
        simp only [Prod.mk.injEq] at hzz
        have h1z := Kd.reps_one (Kd.reps_zeros (R := Kd.M PDelta.k68 wr 0 (fun _ => True)) (z := .agg #[.int .u64 0, .int .i64 0]) (size := 2) (z0 := (⟨0, 0⟩ : PDelta.S68)) rfl (by decide) (PDelta.k68_mkM _ _ _ _) (xs.length - k)) (by decide) (fun _ _ hp => Kd.K_one PDelta.k68 (Kd.K_of_M PDelta.k68 hp))
        have hfit : k * 2 + (xs.length - k) * 2 ≤ cur.length := by
          rw [hcl]
          have := HYL.out
          omega
        have hclr := fun ty => run_clear_sz (P := Try.prog) wr 31 68 ty i0 _ Try.underlying31 hi0 hzz.1 g (k * 2) (xs.length - k) (c - k) 2 cur 68 (by have := HKX.out; omega) hRow rfl hfit h1z
        have hrow2 := hRow.set (k * 2) (Builtin.zeroCells (Value.agg #[.int .u64 0, .int .i64 0]).cells (xs.length - k)).toList (by rw [Array.length_toList, size_zeroCells]; exact hfit)
        have hgr2 := setCells_grown g (k * 2) (Builtin.zeroCells (Value.agg #[.int .u64 0, .int .i64 0]).cells (xs.length - k)).toList wr
        generalize wr.setCells g (k * 2) (Builtin.zeroCells (Value.agg #[.int .u64 0, .int .i64 0]).cells (xs.length - k)).toList = W9 at hclr hrow2 hgr2
        have HEND : Aside0 (Kd.R PDelta.k68 68 W9 base (fun _ => True) (.slice (some ⟨g, 0, none⟩) k c) (ys.take k) ∧ Below base w W9) := by
          refine ⟨?_, HB1.out.trans (grown_below hgr2 hbg (Nat.le_trans hbase HB1.out.size))⟩
          have hlk : (ys.take k).length = k := by rw [List.length_take]; have := HYL.out; omega
          have := flat_E.shut (e := 68) (W := W9) (base := base) (ok := fun _ => True) (xs := ys.take k) (g := g) (cap := c) hbg trivial hrow2 (by rw [hlk]; exact k4) hcm ?_ ?_
          · rwa [hlk] at this
          · show _ = c * 2
            simp only [List.length_append, List.length_take, List.length_drop, Array.length_toList, size_zeroCells]
            show Nat.min (k * 2) cur.length + (xs.length - k) * 2 + (cur.length - (k * 2 + (xs.length - k) * 2)) = c * 2
            rw [hcl] at hfit ⊢
            rw [show Nat.min (k * 2) (c * 2) = k * 2 from Nat.min_eq_left (by omega)]
            have := HYL.out
            omega
          · rw [hlk]
            have h2 : (cur.take (k * 2)).length = k * 2 := by rw [List.length_take, hcl]; omega
            show List.take (k * 2) _ = _
            rw [List.append_assoc, List.take_append_of_le_length (by rw [h2]; exact Nat.le_refl _), List.take_of_length_le (by rw [h2]; exact Nat.le_refl _)]
            have h3 := congrArg (List.take (k * 2)) htk
            rw [List.take_take] at h3
            have h4 : min (k * 2) (ys.length * Kd.sz PDelta.k68) = k * 2 := by
              show min (k * 2) (ys.length * 2) = k * 2
              have := HYL.out
              omega
            rw [h4] at h3
            rw [h3]
            exact flat_E.takes ys k
        clear eV2
        clear hj hjx hRow hcl htk hi0 hzz h1z hfit hrow2 hgr2 hcm hbg hle
        go_wp2_with fail
        go_ret
        exact ⟨_, rfl, by rw [← HF.out]; exact HEND.out.1, HEND.out.2⟩
end Go.Proofs.Ytafhdamdkefpkaa

namespace Go.Proofs.Ytafhdamdkefpkaa
open Go.RowKit Go.Proofs.YtafhdamdkefpkaaW.PrintWords Go.Proofs.YtafhdamdkefpkaaW.PrintLast Go.Proofs.YtafhdamdkefpkaaW.PrintMore
attribute [local go_sem] max2_int min2_int max_two min_two Oper.semAt_some
set_option linter.unusedVariables false
set_option linter.unusedSimpArgs false
theorem kE_K {w : World} {x : PDelta.S68} {cs : List Value} (h : Kd.K PDelta.k68 w x cs) : cs = flatE x := PDelta.k68_open h

set_option maxRecDepth 100000 in
set_option maxHeartbeats 4000000 in
/-- At the end: an append. -/
theorem eins_end (v : Value) (xs : List PDelta.S68) (x : PDelta.S68) (vb : Nat) (w : World) (base : Nat) (hR : Kd.R PDelta.k68 68 w base (fun _ => True) v xs) (hbase : base ≤ w.heap.size) (hl : xs.length ≤ 1000000)
    (hv : RowIs w vb 68 (flatE x)) :
    Calls Try.prog 72 #[v, .int .i64 xs.length, .slice (some ⟨vb, 0, none⟩) 1 1] w fun e w' => ∃ v' : Value, e = .returned v' ∧ Kd.R PDelta.k68 68 w' base (fun _ => True) v' (xs ++ [x]) ∧ Below base w w' := by
  obtain ⟨A, c, rfl, hlc, hC⟩ := Kd.R_reads hR
  have huE := Try.underlying68
  have HR := Aside0.mk hR
  have HX := Aside0.mk (flat_E.reads (o := 0) (xs := [x]) hv rfl (by simp))
  have p1 : (0 : Int) ≤ (xs.length : Int) := by omega
  clear hR hv hC
  rcases Nat.lt_or_ge xs.length c with hlt | hge
  · have hne : ¬ (c = xs.length) := by omega
    go_enter Try.func72, Try.ntmps72
    go_wp2_with (((with_reducible refine gate_builtin (b := .append) (xs := #[.tmp 23, .tmp 24]) rfl ?_); at_builtin; refine held_out ?_))
    refine ⟨?_⟩
    refine Kd.R_append_rows PDelta.k68 (Rr := Kd.K PDelta.k68 w) (w0 := w) (W := w) base rfl (.tmp 23) (.tmp 24) 31 68 (.agg #[.int .u64 0, .int .i64 0]) 16 rfl Try.underlying31 info_entry rfl (by decide) (by decide) _ xs [x] (some ⟨vb, 0, none⟩) 1 1 (fun _ => True) (fun _ => False) rfl rfl HR.out HX.out (fun x cs h => by rw [PDelta.k68_open h]; exact PDelta.k68_mkM _ _ _ _) (fun _ h => h.elim) (fun _ _ => trivial) (Below.refl _ _) hbase (by omega) ?_
    intro v9 w9 hR9 hB9 hg9 hat9
    have HR9 := Aside0.mk hR9
    have HB9 := Aside0.mk hB9
    clear hR9 hB9 hg9 hat9
    go_wp2_with fail
    go_ret
    exact ⟨_, rfl, HR9.out, HB9.out⟩
  · obtain rfl : c = xs.length := by omega
    go_enter Try.func72, Try.ntmps72
    go_wp2_with (((with_reducible refine gate_builtin (b := .append) (xs := #[.tmp 23, .tmp 24]) rfl ?_); at_builtin; refine held_out ?_))
    refine ⟨?_⟩
    refine Kd.R_append_rows PDelta.k68 (Rr := Kd.K PDelta.k68 w) (w0 := w) (W := w) base rfl (.tmp 23) (.tmp 24) 31 68 (.agg #[.int .u64 0, .int .i64 0]) 16 rfl Try.underlying31 info_entry rfl (by decide) (by decide) _ xs [x] (some ⟨vb, 0, none⟩) 1 1 (fun _ => True) (fun _ => False) rfl rfl HR.out HX.out (fun x cs h => by rw [PDelta.k68_open h]; exact PDelta.k68_mkM _ _ _ _) (fun _ h => h.elim) (fun _ _ => trivial) (Below.refl _ _) hbase (by omega) ?_
    intro v9 w9 hR9 hB9 hg9 hat9
    have HR9 := Aside0.mk hR9
    have HB9 := Aside0.mk hB9
    clear hR9 hB9 hg9 hat9
    go_wp2_with fail
    go_ret
    exact ⟨_, rfl, HR9.out, HB9.out⟩

theorem nmin_is {a b m : Nat} (h : (a ≤ b ∧ m = a) ∨ (b ≤ a ∧ m = b)) : Nat.min a b = m := by
  rcases h with ⟨h, rfl⟩ | ⟨h, rfl⟩
  · exact Nat.min_eq_left h
  · exact Nat.min_eq_right h
theorem overlaps_false (w : World) (g vb j lb cb : Nat) (cur : List Value) (x : PDelta.S68) (hne : vb ≠ g) (hg : RowIs w g 68 cur) (hpos : cur.length ≠ 0) (hv : RowIs w vb 68 (flatE x)) :
    (callFunc 102 #[.slice (some ⟨vb, 0, none⟩) 1 1, .slice (some ⟨g, j, none⟩) lb cb]).run Try.prog w = .ok (.value (.bool false)) w := by
  rw [run_callFunc_extern Try.func102 (by kernel_rfl) (by kernel_rfl) (by kernel_rfl) (e := Extern.SlicesOverlaps.overlaps #[31, 31] #[4]) (by kernel_rfl),
    Lib.run_overlaps_apart w 31 4 68 Try.underlying31 2 Try.sizeOf68 ⟨vb, 0, none⟩ ⟨g, j, none⟩ 1 1 lb cb hne 68 68 2 cur.length (by unfold RowIs at hv; simp [World.shape?, hv, flatE]) (by unfold RowIs at hg; simp [World.shape?, hg]) hpos (blk_frozen hv 0) (blk_frozen hv 2)]
  rfl

/-- The cells of a row behind the two copies of an insertion. -/
theorem ins_cells (cur : List Value) (xs : List PDelta.S68) (x : PDelta.S68) (i c : Nat) (hi : i ≤ xs.length) (hc : xs.length + 1 ≤ c) (hl : cur.length = c * 2) (ht : cur.take (i * 2) = (xs.take i).flatMap flatE) (c1 c2 : List Value)
    (h1 : c1 = cur.take ((i + 1) * 2) ++ (xs.drop i).flatMap flatE ++ cur.drop ((i + 1) * 2 + ((xs.drop i).flatMap flatE).length))
    (h2 : c2 = c1.take (i * 2) ++ flatE x ++ c1.drop (i * 2 + (flatE x).length)) :
    c2.length = c * 2 ∧ c2.take ((xs.take i ++ x :: xs.drop i).length * 2) = (xs.take i ++ x :: xs.drop i).flatMap flatE := by
  have hD : ((xs.drop i).flatMap flatE).length = (xs.length - i) * 2 := by rw [flat_E.lens, List.length_drop]; rfl
  have hA : ((xs.take i).flatMap flatE).length = i * 2 := by rw [flat_E.lens, List.length_take, Nat.min_eq_left hi]; rfl
  have hX : (flatE x).length = 2 := rfl
  have l1 : c1.length = c * 2 := by
    rw [h1]
    simp only [List.length_append, List.length_take, List.length_drop, hD, hl]
    omega
  have t1 : c1.take (i * 2) = (xs.take i).flatMap flatE := by
    rw [h1, List.append_assoc, List.take_append_of_le_length (by rw [List.length_take, hl]; omega), List.take_take, Nat.min_eq_left (by omega), ht]
  have d1 : (c1.drop (i * 2 + 2)).take ((xs.length - i) * 2) = (xs.drop i).flatMap flatE := by
    have e : (cur.take ((i + 1) * 2)).length = i * 2 + 2 := by rw [List.length_take, hl]; omega
    rw [h1, List.append_assoc, List.drop_append_of_le_length (by rw [e]; exact Nat.le_refl _), List.drop_eq_nil_of_le (by rw [e]; exact Nat.le_refl _), List.nil_append, ← hD, List.take_left]
  have hlen : (xs.take i ++ x :: xs.drop i).length = xs.length + 1 := by simp; omega
  refine ⟨by rw [h2]; simp only [List.length_append, List.length_take, List.length_drop, hX, l1]; omega, ?_⟩
  have hP : ((xs.take i).flatMap flatE ++ flatE x).length = i * 2 + 2 := by rw [List.length_append, hA, hX]
  rw [hlen, h2, hX, t1, List.flatMap_append, List.flatMap_cons, ← List.append_assoc, show (xs.length + 1) * 2 = ((xs.take i).flatMap flatE ++ flatE x).length + (xs.length - i) * 2 from by rw [hP]; omega, List.take_length_add_append, d1]

set_option maxRecDepth 100000 in
set_option maxHeartbeats 4000000 in
/-- There is room: in place. -/
theorem eins_shift (g c : Nat) (xs : List PDelta.S68) (i : Nat) (x : PDelta.S68) (vb : Nat) (w : World) (base : Nat) (hR : Kd.R PDelta.k68 68 w base (fun _ => True) (.slice (some ⟨g, 0, none⟩) xs.length c) xs) (hbase : base ≤ w.heap.size) (hl : xs.length ≤ 1000000)
    (hi : i < xs.length) (hroom : xs.length + 1 ≤ c) (hne : vb ≠ g) (hv : RowIs w vb 68 (flatE x)) :
    Calls Try.prog 72 #[.slice (some ⟨g, 0, none⟩) xs.length c, .int .i64 i, .slice (some ⟨vb, 0, none⟩) 1 1] w fun e w' => ∃ v' : Value, e = .returned v' ∧ Kd.R PDelta.k68 68 w' base (fun _ => True) v' (xs.take i ++ x :: xs.drop i) ∧ Below base w w' := by
  have huE := Try.underlying68
  obtain ⟨g', cap', cur, eV, hbg, -, hRow, hle, hcm, hcl, htk⟩ := flat_E.open_ hR (by omega)
  injection eV with eV1 eV2 eV3
  injection eV1 with eV1
  injection eV1 with eV1
  subst eV1 eV3
  clear eV2
  replace hcl : cur.length = c * 2 := hcl
  replace htk : cur.take (xs.length * 2) = xs.flatMap flatE := htk
  have hti : cur.take (i * 2) = (xs.take i).flatMap flatE := by
    rw [← show (xs.flatMap flatE).take (i * 2) = (xs.take i).flatMap flatE from flat_E.takes xs i, ← htk, List.take_take, Nat.min_eq_left (by omega)]
  have hD : ((xs.drop i).flatMap flatE).length = (xs.length - i) * 2 := by rw [flat_E.lens, List.length_drop]; rfl
  have hsz : (Try.prog.info? 68).map (·.size) = some 2 := by kernel_rfl
  have hmx : c ≤ 9223372036854775807 := by have := hcm; unfold maxLen at this; omega
  -- the first copy
  have hcp1 : ∀ ty dc sc, (Builtin.copy_ #[31, 31] ty #[.slice (some ⟨g, (i + 1) * 2, none⟩) (xs.length - i) dc, .slice (some ⟨g, i * 2, none⟩) (xs.length + 1 - i) sc]).run Try.prog w.drew = .ok (goInt (xs.length - i : Nat)) (w.drew.setCells g ((i + 1) * 2) ((xs.drop i).flatMap flatE)) := fun ty dc sc =>
    run_copy_sz w.drew _ _ ty 68 g ((i + 1) * 2) _ dc ⟨g, i * 2, none⟩ _ sc 2 (xs.length - i) _ cur 68 Try.underlying31 hsz (nmin_is (by omega)) hD
      (fun j v hj => by
        rw [Addr.add_lit]
        refine RowIs.cell (e := 68) (cur := cur) hRow ?_
        have hj2 : j < (xs.length - i) * 2 := by have := (List.getElem?_eq_some_iff.1 hj).1; rwa [hD] at this
        have e1 : (xs.drop i).flatMap flatE = (cur.take (xs.length * 2)).drop (i * 2) := by rw [htk]; exact (flat_E.drops xs i).symm
        rw [e1, List.getElem?_drop, List.getElem?_take_of_lt (by omega)] at hj
        exact hj) hRow (by rw [hD, hcl]; omega) (flat_E.ones _)
  have hrow1 : RowIs (w.drew.setCells g ((i + 1) * 2) ((xs.drop i).flatMap flatE)) g 68 _ := RowIs.set (W := w.drew) hRow ((i + 1) * 2) ((xs.drop i).flatMap flatE) (by rw [hD, hcl]; omega)
  have hgr1 := setCells_grown g ((i + 1) * 2) ((xs.drop i).flatMap flatE) w.drew
  obtain ⟨c1, hc1⟩ : ∃ c1, c1 = cur.take ((i + 1) * 2) ++ (xs.drop i).flatMap flatE ++ cur.drop ((i + 1) * 2 + ((xs.drop i).flatMap flatE).length) := ⟨_, rfl⟩
  rw [← hc1] at hrow1
  obtain ⟨W1, hW1⟩ : ∃ W1, W1 = w.drew.setCells g ((i + 1) * 2) ((xs.drop i).flatMap flatE) := ⟨_, rfl⟩
  rw [← hW1] at hcp1 hrow1 hgr1
  have hv1 : RowIs W1 vb 68 (flatE x) := (hgr1.block vb (lt_of_heap hv) (by intro e; injection e with e; exact hne e)).trans hv
  have l1 : c1.length = c * 2 := by rw [hc1]; simp only [List.length_append, List.length_take, List.length_drop, hD, hcl]; omega
  -- the second one
  have hcp2 : ∀ ty dc, (Builtin.copy_ #[31, 31] ty #[.slice (some ⟨g, i * 2, none⟩) (xs.length + 1 - i) dc, .slice (some ⟨vb, 0, none⟩) 1 1]).run Try.prog W1 = .ok (goInt (1 : Nat)) (W1.setCells g (i * 2) (flatE x)) := fun ty dc =>
    run_copy_sz W1 _ _ ty 68 g (i * 2) _ dc ⟨vb, 0, none⟩ _ 1 2 1 _ c1 68 Try.underlying31 hsz (nmin_is (by omega)) rfl
      (fun j v hj => by rw [Addr.add_lit, Nat.zero_add]; exact RowIs.cell hv1 hj) hrow1 (by show i * 2 + 2 ≤ _; rw [l1]; omega) (flat_E.one x)
  have hrow2 := hrow1.set (i * 2) (flatE x) (by show i * 2 + 2 ≤ _; rw [l1]; omega)
  have hgr2 := setCells_grown g (i * 2) (flatE x) W1
  generalize W1.setCells g (i * 2) (flatE x) = W2 at hcp2 hrow2 hgr2
  have HEND : Aside0 (Kd.R PDelta.k68 68 W2 base (fun _ => True) (.slice (some ⟨g, 0, none⟩) (xs.length + 1) c) (xs.take i ++ x :: xs.drop i) ∧ Below base w W2) := by
    obtain ⟨h3, h4⟩ := ins_cells cur xs x i c (by omega) hroom hcl hti c1 _ hc1 rfl
    have hlen : (xs.take i ++ x :: xs.drop i).length = xs.length + 1 := by simp; omega
    have := flat_E.shut (e := 68) (W := W2) (base := base) (ok := fun _ => True) (xs := xs.take i ++ x :: xs.drop i) (g := g) (cap := c) hbg trivial hrow2 (by rw [hlen]; exact hroom) hcm h3 h4
    rw [hlen] at this
    refine ⟨this, ?_⟩
    have b1 : Below base w.drew W1 := grown_below hgr1 hbg hbase
    have b2 : Below base W1 W2 := grown_below hgr2 hbg (by have := hgr1.size; exact Nat.le_trans hbase this)
    exact ((Below.refl _ _).drew.trans b1).trans b2
  have hov := fun lb cb => overlaps_false w g vb ((i + 1) * 2) lb cb cur x hne hRow (by rw [hcl]; omega) hv
  have hw1 : IntKind.i64.wrap ((i : Int) + 1) = (i : Int) + 1 := by rw [IntKind.wrap_i64]; omega
  have hb0 : (0 : Int) ≤ (i : Int) := by omega
  have hb1 : (0 : Int) ≤ (i : Int) + 1 := by omega
  have hin : i ≤ xs.length := by omega
  have htn : ((i : Int) + 1).toNat = i + 1 := by omega
  have hb2 : ¬ (c = i + 1) := by omega
  have hb3 : (i : Int) ≤ (xs.length : Int) + 1 := by omega
  have hb4 : ¬ (c = i) := by omega
  have hz2 : ¬ ((i : Int) = (xs.length : Int)) := by omega
  clear hR hcl htk hti hD hsz hrow1 hgr1 hc1 hv1 l1 hrow2 hgr2 hcm hle hbg hRow hv hW1
  go_enter Try.func72, Try.ntmps72
  go_wp2_with (simp only [hov])
  have mixed : Try.prog.follows .mixedOrders = true := by kernel_rfl
  go_region_law_o (refine step_copy_by rfl _ _ 31 31 rfl _ _ (by simp [Act.eval, Act.put]) (by simp [Act.eval, Act.put]) (hcp1 _ _ _) ?_)
  go_wp2_with fail
  go_ret
  exact ⟨_, rfl, HEND.out.1, HEND.out.2⟩

/-- The cells of a new row behind the two copies of an insertion. -/
theorem grow_cells (row : List Value) (xs : List PDelta.S68) (x : PDelta.S68) (i G : Nat) (hi : i ≤ xs.length) (hG : xs.length + 1 ≤ G) (hl : row.length = G * 2) (ht : row.take (i * 2) = (xs.take i).flatMap flatE) (c1 c2 : List Value)
    (h1 : c1 = row.take (i * 2) ++ flatE x ++ row.drop (i * 2 + (flatE x).length))
    (h2 : c2 = c1.take ((i + 1) * 2) ++ (xs.drop i).flatMap flatE ++ c1.drop ((i + 1) * 2 + ((xs.drop i).flatMap flatE).length)) :
    c2.length = G * 2 ∧ c2.take ((xs.take i ++ x :: xs.drop i).length * 2) = (xs.take i ++ x :: xs.drop i).flatMap flatE := by
  have hD : ((xs.drop i).flatMap flatE).length = (xs.length - i) * 2 := by rw [flat_E.lens, List.length_drop]; rfl
  have hA : ((xs.take i).flatMap flatE).length = i * 2 := by rw [flat_E.lens, List.length_take, Nat.min_eq_left hi]; rfl
  have hX : (flatE x).length = 2 := rfl
  have hP : ((xs.take i).flatMap flatE ++ flatE x).length = (i + 1) * 2 := by rw [List.length_append, hA, hX]; omega
  have l1 : c1.length = G * 2 := by
    rw [h1]
    simp only [List.length_append, List.length_take, List.length_drop, hX, hl]
    omega
  have t1 : c1.take ((i + 1) * 2) = (xs.take i).flatMap flatE ++ flatE x := by
    rw [h1, ht, ← hP, List.take_left]
  have hlen : (xs.take i ++ x :: xs.drop i).length = xs.length + 1 := by simp; omega
  refine ⟨by rw [h2]; simp only [List.length_append, List.length_take, List.length_drop, hD, l1]; omega, ?_⟩
  have hQ : ((xs.take i).flatMap flatE ++ flatE x ++ (xs.drop i).flatMap flatE).length = (xs.length + 1) * 2 := by rw [List.length_append, hP, hD]; omega
  rw [hlen, h2, t1, ← hQ, List.take_left, List.flatMap_append, List.flatMap_cons, List.append_assoc]

set_option maxRecDepth 100000 in
set_option maxHeartbeats 4000000 in
/-- There is no room: a new row. -/
theorem eins_grow (g : Nat) (xs : List PDelta.S68) (i : Nat) (x : PDelta.S68) (vb : Nat) (w : World) (base : Nat) (hR : Kd.R PDelta.k68 68 w base (fun _ => True) (.slice (some ⟨g, 0, none⟩) xs.length xs.length) xs) (hbase : base ≤ w.heap.size) (hl : xs.length ≤ 1000000)
    (hi : i < xs.length) (hv : RowIs w vb 68 (flatE x)) :
    Calls Try.prog 72 #[.slice (some ⟨g, 0, none⟩) xs.length xs.length, .int .i64 i, .slice (some ⟨vb, 0, none⟩) 1 1] w fun e w' => ∃ v' : Value, e = .returned v' ∧ Kd.R PDelta.k68 68 w' base (fun _ => True) v' (xs.take i ++ x :: xs.drop i) ∧ Below base w w' := by
  have huE := Try.underlying68
  obtain ⟨g', cap', cur, eV, hbg, -, hRow, hle, hcm, hcl, htk⟩ := flat_E.open_ hR (by omega)
  injection eV with eV1 eV2 eV3
  injection eV1 with eV1
  injection eV1 with eV1
  subst eV1 eV3
  clear eV2
  replace hcl : cur.length = xs.length * 2 := hcl
  replace htk : cur.take (xs.length * 2) = xs.flatMap flatE := htk
  have hcur : cur = xs.flatMap flatE := by rw [← htk, List.take_of_length_le (by omega)]
  have hD : ((xs.drop i).flatMap flatE).length = (xs.length - i) * 2 := by rw [flat_E.lens, List.length_drop]; rfl
  have hA : ((xs.take i).flatMap flatE).length = i * 2 := by rw [flat_E.lens, List.length_take, Nat.min_eq_left (by omega)]; rfl
  have hsz : (Try.prog.info? 68).map (·.size) = some 2 := by kernel_rfl
  obtain ⟨i0, hi0, hzz⟩ := Option.map_eq_some_iff.1 info_entry
  simp only [Prod.mk.injEq] at hzz
  obtain ⟨hz0, hzs, hzb⟩ := hzz
  have hgw : g < w.heap.size := lt_of_heap hRow
  have hvw : vb < w.heap.size := lt_of_heap hv
  have hkk : (xs.length : Int) + 1 - (i : Int) = ((xs.length + 1 - i : Nat) : Int) := by omega
  have hik : i + (xs.length + 1 - i) = xs.length + 1 := by omega
  have hold : (Builtin.firstCells i0.size i (.slice (some ⟨g, 0, none⟩) i xs.length)).run Try.prog w.drew = .ok ((xs.take i).flatMap flatE).toArray w.drew := by
    rw [hzs]
    refine run_firstCells_some w.drew 2 i ⟨g, 0, none⟩ i xs.length _ hA (fun j v hj => ?_)
    rw [Addr.add_lit, Nat.zero_add]
    refine RowIs.cell (W := w.drew) (e := 68) (cur := cur) hRow ?_
    have hj2 : j < i * 2 := by have := (List.getElem?_eq_some_iff.1 hj).1; rwa [hA] at this
    rw [← show (xs.flatMap flatE).take (i * 2) = (xs.take i).flatMap flatE from flat_E.takes xs i, List.getElem?_take_of_lt hj2] at hj
    rw [hcur]; exact hj
  have hrz : ∀ ty, (Builtin.append_ #[31, 3] ty #[.slice (some ⟨g, 0, none⟩) i xs.length, .int .i64 ((xs.length : Int) + 1 - (i : Int))]).run Try.prog w =
      .ok (.slice (some ⟨w.heap.size, 0, none⟩) (xs.length + 1) (grownCap w (xs.length + 1) xs.length 68)) (w.drew.alloc (.cells (((xs.take i).flatMap flatE).toArray ++ Builtin.zeroCells (Value.agg #[.int .u64 0, .int .i64 0]).cells (xs.length + 1 - i) ++ Builtin.zeroCells (Value.agg #[.int .u64 0, .int .i64 0]).cells (grownCap w (xs.length + 1) xs.length 68 - (xs.length + 1))) 68)) := fun ty => by
    have h := Lib.run_append_grow_zeros w 31 3 ty 68 i0 _ .i64 .i64 Try.underlying31 Try.underlying3 hi0 hz0 (some ⟨g, 0, none⟩) i xs.length _ hold (xs.length + 1 - i) (by omega) (by omega) (by omega) (by omega) (by rw [hzb]; omega) (by rw [hzb, hik]; exact growslice_fits (by omega) (by omega))
    rw [hik] at h
    rw [hkk]
    exact h
  obtain ⟨G, hG⟩ : ∃ G, G = grownCap w (xs.length + 1) xs.length 68 := ⟨_, rfl⟩
  rw [← hG] at hrz
  have hGn : xs.length + 1 ≤ G := by rw [hG]; exact grownCap_ge w _ _ _
  have hGm : G ≤ maxLen := by rw [hG]; exact grownCap_le_maxLen w (xs.length + 1) xs.length 68 (by unfold maxLen; omega)
  have hG63 : G ≤ 9223372036854775807 := by have := hGm; unfold maxLen at this; omega
  obtain ⟨ROW, hROW⟩ : ∃ ROW : Array Value, ROW = ((xs.take i).flatMap flatE).toArray ++ Builtin.zeroCells (Value.agg #[.int .u64 0, .int .i64 0]).cells (xs.length + 1 - i) ++ Builtin.zeroCells (Value.agg #[.int .u64 0, .int .i64 0]).cells (G - (xs.length + 1)) := ⟨_, rfl⟩
  rw [← hROW] at hrz
  have hRl : ROW.toList.length = G * 2 := by
    rw [Array.length_toList, hROW]
    simp only [Array.size_append, size_zeroCells, List.size_toArray, hA]
    show i * 2 + (xs.length + 1 - i) * 2 + (G - (xs.length + 1)) * 2 = G * 2
    omega
  have hRt : ROW.toList.take (i * 2) = (xs.take i).flatMap flatE := by
    rw [hROW, Array.toList_append, Array.toList_append, List.append_assoc, ← hA, List.take_left]
  obtain ⟨h, hh⟩ : ∃ h, h = w.heap.size := ⟨_, rfl⟩
  obtain ⟨W1, hW1⟩ : ∃ W1, W1 = w.drew.alloc (.cells ROW 68) := ⟨_, rfl⟩
  rw [← hW1] at hrz
  have hrow1 : RowIs W1 h 68 ROW.toList := by rw [hW1, hh]; exact World.alloc_heap_new w.drew _
  have hB1 : Below w.heap.size w W1 := by rw [hW1]; exact below_alloc ((Below.refl _ _).drew) _
  have hsz1 : W1.heap.size = w.heap.size + 1 := by rw [hW1, World.size_alloc]; rfl
  have hg1 : RowIs W1 g 68 cur := (hB1.block _ hgw).trans hRow
  have hv1 : RowIs W1 vb 68 (flatE x) := (hB1.block _ hvw).trans hv
  have hcp1 : ∀ ty dc, (Builtin.copy_ #[31, 31] ty #[.slice (some ⟨h, i * 2, none⟩) (xs.length + 1 - i) dc, .slice (some ⟨vb, 0, none⟩) 1 1]).run Try.prog W1 = .ok (goInt (1 : Nat)) (W1.setCells h (i * 2) (flatE x)) := fun ty dc =>
    run_copy_sz W1 _ _ ty 68 h (i * 2) _ dc ⟨vb, 0, none⟩ _ 1 2 1 _ ROW.toList 68 Try.underlying31 hsz (nmin_is (by omega)) rfl
      (fun j v hj => by rw [Addr.add_lit, Nat.zero_add]; exact RowIs.cell hv1 hj) hrow1 (by show i * 2 + 2 ≤ _; rw [hRl]; omega) (flat_E.one x)
  have hrow2 := hrow1.set (i * 2) (flatE x) (by show i * 2 + 2 ≤ _; rw [hRl]; omega)
  have hgr1 := setCells_grown h (i * 2) (flatE x) W1
  obtain ⟨c1, hc1⟩ : ∃ c1, c1 = ROW.toList.take (i * 2) ++ flatE x ++ ROW.toList.drop (i * 2 + (flatE x).length) := ⟨_, rfl⟩
  rw [← hc1] at hrow2
  obtain ⟨W2, hW2⟩ : ∃ W2, W2 = W1.setCells h (i * 2) (flatE x) := ⟨_, rfl⟩
  rw [← hW2] at hcp1 hrow2 hgr1
  have hg2 : RowIs W2 g 68 cur := (hgr1.block g (lt_of_heap hg1) (by intro e; injection e with e; omega)).trans hg1
  have l1 : c1.length = G * 2 := by rw [hc1]; simp only [List.length_append, List.length_take, List.length_drop, hRl]; show _ + 2 + _ = _; simp only [show (flatE x).length = 2 from rfl]; omega
  have hcp2 : ∀ ty dc sc, (Builtin.copy_ #[31, 31] ty #[.slice (some ⟨h, (i + 1) * 2, none⟩) (xs.length - i) dc, .slice (some ⟨g, i * 2, none⟩) (xs.length - i) sc]).run Try.prog W2.drew = .ok (goInt (xs.length - i : Nat)) (W2.drew.setCells h ((i + 1) * 2) ((xs.drop i).flatMap flatE)) := fun ty dc sc =>
    run_copy_sz W2.drew _ _ ty 68 h ((i + 1) * 2) _ dc ⟨g, i * 2, none⟩ _ sc 2 (xs.length - i) _ c1 68 Try.underlying31 hsz (nmin_is (by omega)) hD
      (fun j v hj => by
        rw [Addr.add_lit]
        refine RowIs.cell (W := W2.drew) (e := 68) (cur := cur) hg2 ?_
        rw [← show (xs.flatMap flatE).drop (i * 2) = (xs.drop i).flatMap flatE from flat_E.drops xs i, List.getElem?_drop] at hj
        rw [hcur]; exact hj) hrow2 (by rw [hD, l1]; omega) (flat_E.ones _)
  have hrow3 : RowIs (W2.drew.setCells h ((i + 1) * 2) ((xs.drop i).flatMap flatE)) h 68 _ := RowIs.set (W := W2.drew) hrow2 ((i + 1) * 2) ((xs.drop i).flatMap flatE) (by rw [hD, l1]; omega)
  have hgr2 := setCells_grown h ((i + 1) * 2) ((xs.drop i).flatMap flatE) W2.drew
  generalize W2.drew.setCells h ((i + 1) * 2) ((xs.drop i).flatMap flatE) = W3 at hcp2 hrow3 hgr2
  have HEND : Aside0 (Kd.R PDelta.k68 68 W3 base (fun _ => True) (.slice (some ⟨h, 0, none⟩) (xs.length + 1) G) (xs.take i ++ x :: xs.drop i) ∧ Below base w W3) := by
    obtain ⟨h3, h4⟩ := grow_cells ROW.toList xs x i G (by omega) hGn hRl hRt c1 _ hc1 rfl
    have hlen : (xs.take i ++ x :: xs.drop i).length = xs.length + 1 := by simp; omega
    have := flat_E.shut (e := 68) (W := W3) (base := base) (ok := fun _ => True) (xs := xs.take i ++ x :: xs.drop i) (g := h) (cap := G) (by omega) trivial hrow3 (by rw [hlen]; exact hGn) hGm h3 h4
    rw [hlen] at this
    refine ⟨this, ?_⟩
    have b1 : Below base W1 W2 := grown_below hgr1 (by omega) (by omega)
    have b2 : Below base W2.drew W3 := grown_below hgr2 (by omega) (by have := hgr1.size; show base ≤ W2.heap.size; omega)
    exact ((hB1.mono hbase).trans b1).drew.trans b2
  have hw1 : IntKind.i64.wrap ((i : Int) + 1) = (i : Int) + 1 := by rw [IntKind.wrap_i64]; omega
  have hb0 : (0 : Int) ≤ (i : Int) := by omega
  have hb1 : (0 : Int) ≤ (i : Int) + 1 := by omega
  have hin : i ≤ xs.length := by omega
  have htn : ((i : Int) + 1).toNat = i + 1 := by omega
  have hb2 : ¬ (xs.length = i + 1) ∨ True := .inr trivial
  have hb4 : ¬ (xs.length = i) := by omega
  have hb5 : ¬ (G = i) := by omega
  have hb6 : ¬ (G = i + 1) := by omega
  have hb7 : (i : Int) ≤ (xs.length : Int) + 1 := by omega
  have hb8 : (i : Int) ≤ (xs.length : Int) := by omega
  have hz2 : ¬ ((i : Int) = (xs.length : Int)) := by omega
  have HH := Aside0.mk hh
  clear hR hcl htk hcur hD hA hsz hrow1 hgr1 hc1 hv1 l1 hrow2 hgr2 hcm hle hbg hRow hv hW1 hW2 hrow3 hg1 hg2 hB1 hsz1 hRl hRt hROW hG hGm hi0 hz0 hzs hzb hold hik hkk hgw hvw hb2
  rw [← hh] at hrz
  clear hh
  have mixed : Try.prog.follows .mixedOrders = true := by kernel_rfl
  go_enter Try.func72, Try.ntmps72
  go_wp2_with (at_builtin; refine Lib.wpList_append_run _ rfl _ _ _ _ rfl _ _ rfl rfl _ _ (hrz _) ?_)
  go_region_law_o (refine step_copy_by rfl _ _ 31 31 rfl _ _ (by simp [Act.eval, Act.put]) (by simp [Act.eval, Act.put]) (hcp2 _ _ _) ?_)
  go_wp2_with fail
  go_ret
  exact ⟨_, rfl, HEND.out.1, HEND.out.2⟩

/-- slices.Insert of one entry: at any place, in place or not. -/
theorem eins_any (v : Value) (xs : List PDelta.S68) (i : Nat) (x : PDelta.S68) (vb : Nat) (w : World) (base : Nat) (hR : Kd.R PDelta.k68 68 w base (fun _ => True) v xs) (hbase : base ≤ w.heap.size) (hl : xs.length ≤ 1000000)
    (hi : i ≤ xs.length) (hv : RowIs w vb 68 (flatE x)) (hne : some vb ≠ v.ownBlock) :
    Calls Try.prog 72 #[v, .int .i64 i, .slice (some ⟨vb, 0, none⟩) 1 1] w fun e w' => ∃ v' : Value, e = .returned v' ∧ Kd.R PDelta.k68 68 w' base (fun _ => True) v' (xs.take i ++ x :: xs.drop i) ∧ Below base w w' := by
  rcases Nat.lt_or_ge i xs.length with h | h
  · obtain ⟨g, cap, rfl, -, -, -⟩ := Kd.R_form hR (by omega)
    have hnc := (Kd.R_reads' hR).2.1
    have hne' : vb ≠ g := fun e => hne (by rw [e]; rfl)
    rcases Nat.lt_or_ge xs.length cap with hc | hc
    · exact eins_shift g cap xs i x vb w base hR hbase hl h hc hne' hv
    · obtain rfl : cap = xs.length := by omega
      exact eins_grow g xs i x vb w base hR hbase hl h hv
  · obtain rfl : i = xs.length := by omega
    rw [List.take_length, List.drop_length]
    exact eins_end v xs x vb w base hR hbase hl hv
end Go.Proofs.Ytafhdamdkefpkaa

namespace Go.Proofs.Ytafhdamdkefpkaa
open Go.RowKit Go.Proofs.YtafhdamdkefpkaaW.PrintWords Go.Proofs.YtafhdamdkefpkaaW.PrintLast Go.Proofs.YtafhdamdkefpkaaW.PrintMore
attribute [local go_sem] max2_int min2_int max_two min_two Oper.semAt_some
set_option linter.unusedVariables false
set_option linter.unusedSimpArgs false

/-- Entries in order. -/
def SortedE (xs : List PDelta.S68) : Prop := (∀ x ∈ xs, U64E x) ∧ xs.Pairwise (fun a b => cmpE a.f0 b.f0 < 0)
def ltE (s : Int) (e : PDelta.S68) : Bool := decide (cmpE e.f0 s < 0)
/-- An entry put in its place. -/
def insL (es : List PDelta.S68) (s ask : Int) : List PDelta.S68 := es.takeWhile (ltE s) ++ ⟨s, ask⟩ :: es.dropWhile (ltE s)
/-- What price.Store.Put makes of a list. -/
def putL2 (xs : List PDelta.S68) (s ask : Int) : List PDelta.S68 := if s = 0 ∨ 2199023255552 < ask ∨ ask ≤ askL xs s then xs else insL (xs.filter (keepE s ask)) s ask

theorem cmpE_trans {a b c : Int} (h : cmpE a b < 0) (k : cmpE b c < 0) : cmpE a c < 0 := by
  unfold cmpE at *
  rw [scmp_neg] at *
  omega
theorem rdE_get (xs : List PDelta.S68) (k : Nat) (h : k < xs.length) : PDelta.rd_T68 xs k = xs[k] := by simp [PDelta.rd_T68, List.getD, h]
theorem SortedE.mono {xs : List PDelta.S68} (h : SortedE xs) (s : Int) (a b : Nat) (hab : a < b) (hb : b < xs.length) (h0 : 0 ≤ cmpE (PDelta.rd_T68 xs a).f0 s) : 0 ≤ cmpE (PDelta.rd_T68 xs b).f0 s := by
  rcases Int.lt_or_le (cmpE (PDelta.rd_T68 xs b).f0 s) 0 with hc | hc
  · have h2 := List.pairwise_iff_getElem.1 h.2 a b (by omega) hb hab
    rw [rdE_get _ _ hb] at hc
    rw [rdE_get _ _ (by omega)] at h0
    have := cmpE_trans h2 hc
    omega
  · exact hc
theorem SortedE.filter {xs : List PDelta.S68} (h : SortedE xs) (p : PDelta.S68 → Bool) : SortedE (xs.filter p) := ⟨fun x hx => h.1 x (List.mem_filter.1 hx).1, h.2.filter p⟩
theorem parts_while (s : Int) : ∀ (xs : List PDelta.S68) (i : Nat), PartsAt xs s i → xs.take i = xs.takeWhile (ltE s) ∧ xs.drop i = xs.dropWhile (ltE s)
  | [], i, h => by simp
  | x :: xs, 0, h => by
    have h0 := h.2.2 0 (Nat.le_refl _) (by simp)
    rw [rdE_get _ _ (by simp)] at h0
    have e : ltE s x = false := decide_eq_false (Int.not_lt.2 h0)
    simp [e]
  | x :: xs, i + 1, h => by
    have h0 := h.2.1 0 (by omega)
    rw [rdE_get _ _ (by simp)] at h0
    have e : ltE s x = true := decide_eq_true h0
    have hr : ∀ k : Nat, k < xs.length → PDelta.rd_T68 (x :: xs) ((k + 1 : Nat) : Int) = PDelta.rd_T68 xs k := fun k hk => by rw [rdE_get _ _ (by simpa using hk), rdE_get _ _ hk]; rfl
    have hi : i ≤ xs.length := by have := h.1; simp at this; omega
    obtain ⟨h1, h2⟩ := parts_while s xs i ⟨hi, fun k hk => by have := h.2.1 (k + 1) (by omega); rwa [hr k (by omega)] at this, fun k h1 h2 => by have := h.2.2 (k + 1) (by omega) (by simpa using h2); rwa [hr k h2] at this⟩
    simp [e, h1, h2]

/-- A store at q. -/
def St (W : World) (base q : Nat) (xs : List PDelta.S68) : Prop := base ≤ q ∧ ∃ v, W.heap[q]? = some (.cells #[v] 87 (0, 0)) ∧ Kd.R PDelta.k68 68 W base (fun _ => True) v xs
theorem St.step {W W' : World} {base q : Nat} {xs : List PDelta.S68} (h : St W base q xs) (hk : ∀ k, k < W.heap.size → W'.heap[k]? = W.heap[k]?) : St W' base q xs := by
  obtain ⟨h1, v, h2, h3⟩ := h
  exact ⟨h1, v, (hk q (lt_of_heap h2)).trans h2, Kd.R_step h3 (fun k _ hlt => hk k hlt)⟩
theorem St.below {W W' : World} {base q : Nat} {xs : List PDelta.S68} (h : St W base q xs) (hb : Below W.heap.size W W') : St W' base q xs := h.step (fun k hk => hb.block k hk)
theorem St.lower {W : World} {base base' q : Nat} {xs : List PDelta.S68} (h : St W base q xs) (hb : base' ≤ base) : St W base' q xs := by
  obtain ⟨h1, v, h2, h3⟩ := h
  exact ⟨by omega, v, h2, Kd.R_lower h3 hb⟩
/-- A store into another one. -/
theorem St.other {W : World} {base q q' : Nat} {xs : List PDelta.S68} (h : St W base q xs) (hne : q ≠ q') {c : Array Value} (hq : W.heap[q']? = some (.cells c 87 (0, 0))) (u : Value) : St (W.setCell ⟨q', 0, none⟩ u) base q xs := by
  obtain ⟨h1, v, h2, h3⟩ := h
  exact ⟨h1, v, (Below.heap_setCell W ⟨q', 0, none⟩ u q hne).trans h2, Kd.R_set h3 hq (by intro k hk; simp [Kd.E, PDelta.k68, Kd.iso, Kd.pair, Kd.int, Kd.scalar] at hk; subst hk; decide) 0 u⟩

set_option maxRecDepth 100000 in
set_option maxHeartbeats 4000000 in
theorem eput_no (q : Nat) (xs : List PDelta.S68) (s ask : Int) (w : World) (base : Nat) (hS : St w base q xs) (hl : xs.length ≤ 1000000) (hc : s = 0 ∨ 2199023255552 < ask ∨ ask ≤ askL xs s) :
    Calls Try.prog 41 #[.pointer (some ⟨q, 0, none⟩), .int .u64 s, .int .i64 ask] w fun e w' => e = .returned (.bool false) ∧ Below w.heap.size w w' := by
  obtain ⟨-, v, hq, hR⟩ := hS
  obtain ⟨A, c, rfl, hlc, hC⟩ := Kd.R_reads hR
  have CA := Aside0.mk (fun (W : World) (hb : Below w.heap.size w W) => ask_any q A c xs s W ((hb.block _ (lt_of_heap hq)).trans hq) (Kd.C_below hC hb) hlc (by omega))
  clear hR hC hq
  generalize askL xs s = r at CA hc
  obtain ⟨W5, hW5⟩ : ∃ W5, W5 = allocs w [.cells #[.int .u64 s] 36, .cells #[.int .i64 ask] 2] := ⟨_, rfl⟩
  have g0 : W5.heap[w.heap.size]? = some (.cells #[.int .u64 s] 36 (0, 0)) := by rw [hW5]; exact allocs_at _ w 0 _ rfl
  have g1 : W5.heap[w.heap.size + 1]? = some (.cells #[.int .i64 ask] 2 (0, 0)) := by rw [hW5]; exact allocs_at _ w 1 _ rfl
  have HB5 : Aside0 (Below w.heap.size w W5) := ⟨by rw [hW5]; exact (allocs_keeps (fun _ => True) w _).below (fun _ _ => trivial) (Nat.le_refl _)⟩
  have c0 := blk_cell_ g0 0
  have c1 := blk_cell_ g1 0
  have HW5 := Aside0.mk hW5
  clear g0 g1 hW5
  replace c0 : W5.cell? ⟨w.heap.size, 0, none⟩ = some (.int .u64 s) := c0
  replace c1 : W5.cell? ⟨w.heap.size + 1, 0, none⟩ = some (.int .i64 ask) := c1
  by_cases h1 : s = 0
  · subst h1
    clear hc
    go_enter Try.func41, Try.ntmps41
    go_wp2_with fail
    change Code.wp _ _ _ _ (allocs w [_, _])
    rw [← HW5.out]
    clear HW5
    go_quiet (fail)
    go_wp2_with fail
    go_ret
    exact ⟨rfl, pw_below_drewN HB5.out _⟩
  · have t0 : (s == 0) = false := by simpa using h1
    replace hc := hc.resolve_left h1
    clear h1
    by_cases h2 : 2199023255552 < ask
    · clear hc
      have t1 : decide (ask > 2199023255552) = true := decide_eq_true h2
      go_enter Try.func41, Try.ntmps41
      go_wp2_with fail
      change Code.wp _ _ _ _ (allocs w [_, _])
      rw [← HW5.out]
      clear HW5
      go_quiet (fail)
      go_wp2_with fail
      go_ret
      exact ⟨rfl, pw_below_drewN HB5.out _⟩
    · have t1 : decide (ask > 2199023255552) = false := decide_eq_false h2
      have h3 : ask ≤ r := hc.resolve_left h2
      have t2 : decide (ask ≤ r) = true := decide_eq_true h3
      clear hc h2 h3
      go_enter Try.func41, Try.ntmps41
      go_wp2_with fail
      change Code.wp _ _ _ _ (allocs w [_, _])
      rw [← HW5.out]
      clear HW5
      go_region_held3 (fun w' => w'.cell? ⟨w.heap.size, 0, none⟩ = some (.int .u64 s) ∧ w'.cell? ⟨w.heap.size + 1, 0, none⟩ = some (.int .i64 ask)) (go_keep)
        (first
          | (go_at_call 56; (with_reducible refine (CA.out W5.drew HB5.out.drew).mono ?_); rintro e w1 ⟨rfl, hb1⟩; have HB6 := Aside0.mk (below_step HB5.out.drew hb1); have q0 := pw_cell_below hb1 c0; have q1 := pw_cell_below hb1 c1; clear hb1))
      go_wp2_with fail
      go_ret
      exact ⟨rfl, HB6.out⟩

theorem putL2_no {xs : List PDelta.S68} {s ask : Int} (h : s = 0 ∨ 2199023255552 < ask ∨ ask ≤ askL xs s) : putL2 xs s ask = xs := if_pos h
theorem putL2_yes {xs : List PDelta.S68} {s ask : Int} (h : ¬ (s = 0 ∨ 2199023255552 < ask ∨ ask ≤ askL xs s)) : putL2 xs s ask = insL (xs.filter (keepE s ask)) s ask := if_neg h

set_option maxRecDepth 100000 in
set_option maxHeartbeats 4000000 in
theorem eput_yes (q : Nat) (xs : List PDelta.S68) (s ask : Int) (w : World) (base : Nat) (hS : St w base q xs) (hbase : base ≤ w.heap.size) (hso : SortedE xs) (hs : 0 ≤ s ∧ s < 18446744073709551616) (hl : xs.length ≤ 900000) (hc : ¬ (s = 0 ∨ 2199023255552 < ask ∨ ask ≤ askL xs s)) :
    Calls Try.prog 41 #[.pointer (some ⟨q, 0, none⟩), .int .u64 s, .int .i64 ask] w fun e w' => e = .returned (.bool true) ∧ St w' base q (insL (xs.filter (keepE s ask)) s ask) ∧ Keeps (fun k => k ≠ q) w w' := by
  obtain ⟨hbq, v, hq, hR⟩ := hS
  obtain ⟨A, c, rfl, hlc, hC⟩ := Kd.R_reads hR
  have CA := Aside0.mk (fun (W : World) (hb : Below w.heap.size w W) => ask_any q A c xs s W ((hb.block _ (lt_of_heap hq)).trans hq) (Kd.C_below hC hb) hlc (by omega))
  have CC := Aside0.mk (fun (W : World) (hb : Below w.heap.size w W) => eclone_any A c xs W (Kd.C_below hC hb) hlc (by omega))
  have HQ := Aside0.mk hq
  have HQL := Aside0.mk (lt_of_heap hq)
  have HF := Aside0.mk (List.length_filter_le (keepE s ask) xs)
  have HSO := Aside0.mk (hso.filter (keepE s ask))
  obtain ⟨fl, hfl⟩ : ∃ fl, xs.filter (keepE s ask) = fl := ⟨_, rfl⟩
  rw [hfl] at HF HSO ⊢
  have HFL := Aside0.mk hfl
  clear hfl
  clear hR hC hso
  have h1 : ¬ s = 0 := fun h => hc (.inl h)
  have h2 : ¬ 2199023255552 < ask := fun h => hc (.inr (.inl h))
  have h3 : ¬ ask ≤ askL xs s := fun h => hc (.inr (.inr h))
  generalize askL xs s = r at CA h3
  obtain ⟨W5, hW5⟩ : ∃ W5, W5 = allocs w [.cells #[.int .u64 s] 36, .cells #[.int .i64 ask] 2] := ⟨_, rfl⟩
  have g0 : W5.heap[w.heap.size]? = some (.cells #[.int .u64 s] 36 (0, 0)) := by rw [hW5]; exact allocs_at _ w 0 _ rfl
  have g1 : W5.heap[w.heap.size + 1]? = some (.cells #[.int .i64 ask] 2 (0, 0)) := by rw [hW5]; exact allocs_at _ w 1 _ rfl
  have hsz5 : W5.heap.size = w.heap.size + 2 := by rw [hW5, allocs_size]; rfl
  have HB5 : Aside0 (Below w.heap.size w W5) := ⟨by rw [hW5]; exact (allocs_keeps (fun _ => True) w _).below (fun _ _ => trivial) (Nat.le_refl _)⟩
  have c0 := blk_cell_ g0 0
  have c1 := blk_cell_ g1 0
  have G0 := Aside0.mk g0
  have G1 := Aside0.mk g1
  have HZ5 := Aside0.mk hsz5
  have HW5 := Aside0.mk hW5
  clear g0 g1 hW5 hq hsz5
  replace c0 : W5.cell? ⟨w.heap.size, 0, none⟩ = some (.int .u64 s) := c0
  replace c1 : W5.cell? ⟨w.heap.size + 1, 0, none⟩ = some (.int .i64 ask) := c1
  have t0 : (s == 0) = false := by simpa using h1
  have t1 : decide (ask > 2199023255552) = false := decide_eq_false h2
  have t2 : decide (ask ≤ r) = false := decide_eq_false h3
  have HH1 := Aside0.mk h1
  clear hc h1 h2 h3
  go_enter Try.func41, Try.ntmps41
  go_wp2_with fail
  change Code.wp _ _ _ _ (allocs w [_, _])
  rw [← HW5.out]
  clear HW5
  go_region_held3 (fun w' => w'.cell? ⟨w.heap.size, 0, none⟩ = some (.int .u64 s) ∧ w'.cell? ⟨w.heap.size + 1, 0, none⟩ = some (.int .i64 ask)) (go_keep)
    (first
      | (go_at_call 56; (with_reducible refine (CA.out W5.drew HB5.out.drew).mono ?_); rintro e w6 ⟨rfl, hb1⟩; have HB6 := Aside0.mk (below_step HB5.out.drew hb1); have HB56 := Aside0.mk hb1; have q0 := pw_cell_below hb1 c0; have q1 := pw_cell_below hb1 c1; clear hb1))
  have HQ6 := Aside0.mk ((HB6.out.block _ HQL.out).trans HQ.out)
  have cq := blk_cell_ HQ6.out 0
  have HZ6 := Aside0.mk (show W5.heap.size ≤ w6.heap.size from HB56.out.size)
  have G06 := Aside0.mk (show w6.heap[w.heap.size]? = some (.cells #[.int .u64 s] 36 (0, 0)) from (HB56.out.block _ (lt_of_heap (W := W5.drew) G0.out)).trans G0.out)
  have G16 := Aside0.mk (show w6.heap[w.heap.size + 1]? = some (.cells #[.int .i64 ask] 2 (0, 0)) from (HB56.out.block _ (lt_of_heap (W := W5.drew) G1.out)).trans G1.out)
  clear c0 c1
  go_wp2_with (first
    | (go_at_call 67; refine ((CC.out w6 HB6.out)).mono ?_; rintro e w7 ⟨v7, rfl, hR7, hB7⟩; have HR7 := Aside0.mk hR7; have HB7 := Aside0.mk hB7; clear hR7 hB7)
    | (go_at_call 66; refine (edel_any v7 xs w.heap.size (w.heap.size + 1) s ask w7 w6.heap.size HR7.out HB7.out.size (by have := HZ5.out; have := HZ6.out; omega) (by have := HZ5.out; have := HZ6.out; omega) (by omega) ((HB7.out.block _ (lt_of_heap G06.out)).trans G06.out) ((HB7.out.block _ (lt_of_heap G16.out)).trans G16.out)).mono ?_; rintro e w8 ⟨v8, rfl, hR8, hB8⟩; rw [HFL.out] at hR8; have HR8 := Aside0.mk hR8; have HB8 := Aside0.mk (HB7.out.trans hB8); obtain ⟨A8, c8, e8, hl8, hC8⟩ := Kd.R_reads hR8; subst e8; have HL8 := Aside0.mk hl8; have HC8 := Aside0.mk hC8; have r0 := blk_cell_ ((HB8.out.block _ (lt_of_heap G06.out)).trans G06.out) 0; have r1 := blk_cell_ ((HB8.out.block _ (lt_of_heap G16.out)).trans G16.out) 0; clear hR8 hB8 hl8 hC8)
    | (go_at_call 69; refine (ebin_any A8 c8 fl s w8 HC8.out HL8.out (by have := HF.out; omega) (fun k hk => by rw [rdE_get _ _ hk]; exact HSO.out.1 _ (List.getElem_mem _)) hs (HSO.out.mono s)).mono ?_; rintro e w9 ⟨i9, f9, rfl, hP9, hB9⟩; have HP9 := Aside0.mk hP9; have HR9 := Aside0.mk (Kd.R_below HR8.out hB9); have HB9 := Aside0.mk (HB8.out.trans (hB9.mono (by have := HB8.out.size; omega))); have HZ9 := Aside0.mk (show w6.heap.size ≤ w9.heap.size from Nat.le_trans HB8.out.size hB9.size); have s0 := pw_cell_below hB9 r0; have s1 := pw_cell_below hB9 r1; clear hP9 hB9)
    | (go_at_call 72; refine (eins_any (.slice A8 fl.length c8) fl i9 ⟨s, ask⟩ w9.heap.size (w9.alloc (.cells #[.int .u64 s, .int .i64 ask] 68)) w6.heap.size (Kd.R_alloc HR9.out _) (by have := HZ9.out; rw [World.size_alloc]; omega) (by have := HF.out; omega) HP9.out.1 (World.alloc_heap_new _ _) (Kd.R_ne_new HR9.out 0)).mono ?_; rintro e w10 ⟨v10, rfl, hR10, hB10⟩; have HR10 := Aside0.mk hR10; have HB10 := Aside0.mk ((HB9.out.alloc (by have := HZ9.out; omega) _).trans hB10); have HQ10 := Aside0.mk ((HB10.out.block _ (lt_of_heap HQ6.out)).trans HQ6.out); have cq10 := blk_cell_ HQ10.out 0; have fq10 := blk_frozen HQ10.out 0; obtain ⟨A10, n10, c10, e10⟩ := R_is_slice hR10; subst e10; clear hR10 hB10))
  go_ret
  obtain ⟨h4, h5⟩ := parts_while s fl i9 HP9.out
  have hR10 := HR10.out
  rw [h4, h5] at hR10
  have hbase6 : base ≤ w6.heap.size := Nat.le_trans hbase HB6.out.size
  have hB10 : Below w.heap.size w w10 := HB6.out.trans (HB10.out.mono HB6.out.size)
  refine ⟨rfl, ⟨hbq, _, set_at HQ10.out 0 _, Kd.R_lower (Kd.R_set hR10 HQ10.out (by intro k hk; simp [Kd.E, PDelta.k68, Kd.iso, Kd.pair, Kd.int, Kd.scalar] at hk; subst hk; decide) 0 _) hbase6⟩, ?_⟩
  exact (Keeps.of_all hB10).setCell (fun h => absurd rfl h) _

/-- **price.Store.Put.** -/
theorem eput_any (q : Nat) (xs : List PDelta.S68) (s ask : Int) (w : World) (base : Nat) (hS : St w base q xs) (hbase : base ≤ w.heap.size) (hso : SortedE xs) (hs : 0 ≤ s ∧ s < 18446744073709551616) (hl : xs.length ≤ 900000) :
    Calls Try.prog 41 #[.pointer (some ⟨q, 0, none⟩), .int .u64 s, .int .i64 ask] w fun e w' => (∃ b, e = .returned (.bool b)) ∧ St w' base q (putL2 xs s ask) ∧ Keeps (fun k => k ≠ q) w w' := by
  by_cases h : s = 0 ∨ 2199023255552 < ask ∨ ask ≤ askL xs s
  · rw [putL2_no h]
    exact (eput_no q xs s ask w base hS (by omega) h).mono fun e w' ⟨h1, h2⟩ => ⟨⟨_, h1⟩, hS.below h2, Keeps.of_all h2⟩
  · rw [putL2_yes h]
    exact (eput_yes q xs s ask w base hS hbase hso hs hl h).mono fun e w' ⟨h1, h2, h3⟩ => ⟨⟨_, h1⟩, h2, h3⟩
end Go.Proofs.Ytafhdamdkefpkaa

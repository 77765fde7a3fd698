/- A law's arguments, opened by the kinds of their elements: numbers, bids, slices, slices of slices. -/
import Derived.Test.YtafhdamdkefpkaaPPrepx0
import Derived.Deep.SlicePairs
namespace Go.Proofs.Ytafhdamdkefpkaa
open Go.RowKit Go.Proofs.YtafhdamdkefpkaaW.PrintWords Go.Proofs.YtafhdamdkefpkaaW.PrintLast Go.Proofs.YtafhdamdkefpkaaW.PrintMore Go.Proofs.Ytafhdamdkefpkaa.PPrep
open Go.ChangeShapes Go.WideShapes Go.Deep
set_option linter.unusedVariables false
set_option linter.unusedSimpArgs false

/-- What reads as data of type t is of kind d, and V of it. -/
def Opens {α : Type} (P : Program) (t : TypeId) (d : Kd α) (V : α → Prop) : Prop :=
  ∀ {H : Type} (enc : TypeId × Value → H) (w : World) (fuel : Nat) (cs : List Value) (x : DataW H × List MemPlace), DataW.trod enc P w 0 (fun _ => true) true fuel t cs = some x → ∃ y, d.K w y cs ∧ V y
def WfI (k : IntKind) (n : Int) : Prop := (Lit.int k n).wf = true
theorem opens_int {P : Program} {t : TypeId} {k : IntKind} (ht : P.underlying t = some (.int k)) : Opens P t (Kd.int k) (WfI k) := by
  intro H enc w fuel cs x h
  obtain ⟨n, rfl, -, hw⟩ := DataW.trod_int ht h
  exact ⟨n, rfl, hw⟩
theorem opens_slice {α : Type} {P : Program} {t e : TypeId} {d : Kd α} {V : α → Prop} (ht : P.underlying t = some (.slice e)) (hc : P.cellsOf e = d.sz) (h : Opens P e d V) : Opens P t (Kd.slice e d) (fun xs => ∀ y ∈ xs, V y) := by
  intro H enc w fuel cs x hx0
  rcases open_slice ht hx0 with ⟨rfl, -⟩ | ⟨a, len, cap, m, n, D, Pl, rfl, hb, hl, hm, hmm, rfl, hx⟩
  · exact ⟨[], ⟨none, 0, rfl, Nat.le_refl _, Kd.C_nil _ _⟩, by simp⟩
  · simp only [if_true] at hmm
    have each : ∀ i, i < len → ∃ y, (∃ c, c.length = d.sz ∧ d.K w y c ∧ ∀ j u, c[j]? = some u → w.cell? (a.add (i * d.sz + j)) = some u) ∧ V y := by
      intro i hi
      obtain ⟨cs', h1, h2⟩ := hx i (by omega)
      obtain ⟨y, hy, hv⟩ := h enc w n cs' _ h2
      rw [hc] at h1
      obtain ⟨-, hlen, hcell⟩ := World.cells?_some h1
      refine ⟨y, ⟨cs', hlen, hy, fun j u hj => ?_⟩, hv⟩
      have hjl : j < d.sz := by have := (List.getElem?_eq_some_iff.1 hj).1; omega
      have := hcell j hjl
      rw [hj, Deep.add_add] at this
      exact this
    have : ∃ xs : List α, xs.length = len ∧ ∀ i y, xs[i]? = some y → (∃ c, c.length = d.sz ∧ d.K w y c ∧ ∀ j u, c[j]? = some u → w.cell? (a.add (i * d.sz + j)) = some u) ∧ V y := by
      clear hx hx0 hmm hl hm hb
      induction len with
      | zero => exact ⟨[], rfl, fun i y hy => by simp at hy⟩
      | succ len ih =>
        obtain ⟨xs, h1, h2⟩ := ih (fun i hi => each i (by omega))
        obtain ⟨y, hy⟩ := each len (by omega)
        refine ⟨xs ++ [y], by simp [h1], fun i z hz => ?_⟩
        rcases Nat.lt_or_ge i xs.length with hi | hi
        · rw [List.getElem?_append_left hi] at hz
          exact h2 i z hz
        · rw [List.getElem?_append_right hi] at hz
          have : i - xs.length = 0 := by
            have := (List.getElem?_eq_some_iff.1 hz).1
            simpa using this
          rw [this] at hz
          simp only [List.getElem?_cons_zero, Option.some.injEq] at hz
          subst hz
          rw [show i = len from by omega]
          exact hy
    obtain ⟨xs, hlen, hxs⟩ := this
    refine ⟨xs, ⟨some a, cap, by rw [hlen], by omega, rfl, by simp only [maxLen] at hm; omega, fun _ => ⟨a, rfl, fun j p hj => ?_⟩⟩, fun y hy => ?_⟩
    · obtain ⟨c, h1, h2, h3⟩ := (hxs j p hj).1
      exact ⟨c, h1, h2, h3⟩
    · obtain ⟨i, hi⟩ := List.getElem?_of_mem hy
      exact (hxs i y hi).2
set_option maxRecDepth 100000 in
theorem opens_bid : Opens Try.prog 40 k40 (fun x => WfI .u64 x.f0 ∧ WfI .i64 x.f1) := by
  intro H enc w fuel cs x h
  obtain ⟨xs, k, -, -, hcl, hxl, hf⟩ := DataW.trod_struct Try.underlying40 h
  have hcl : cs.length = 2 := hcl.trans (by kernel_rfl)
  have c1 : Try.prog.cellsOf 36 = 1 := by kernel_rfl
  have c2 : Try.prog.cellsOf 2 = 1 := by kernel_rfl
  match xs, hxl, cs, hcl with
  | [y0, y1], _, [v0, v1], _ =>
    have g0 := hf 0 _ rfl
    have g1 := hf 1 _ rfl
    simp only [c1, c2, List.drop_zero, List.drop_succ_cons, List.take_succ_cons, List.take_zero, List.getElem?_cons_zero, List.getElem?_cons_succ] at g0 g1
    obtain ⟨n, e1, -, hw1⟩ := DataW.trod_int Try.underlying36 g0
    obtain ⟨m, e2, -, hw2⟩ := DataW.trod_int Try.underlying2 g1
    injection e1 with e1
    injection e2 with e2
    subst e1 e2
    exact ⟨⟨n, m⟩, k40_mk w ⟨n, m⟩, hw1, hw2⟩
theorem opens_bids : Opens Try.prog 37 (Kd.slice 40 k40) (fun xs => ∀ x ∈ xs, WfI .u64 x.f0 ∧ WfI .i64 x.f1) := opens_slice Try.underlying37 (by kernel_rfl) opens_bid
theorem opens_bidss : Opens Try.prog 34 (Kd.slice 37 (Kd.slice 40 k40)) (fun xss => ∀ xs ∈ xss, ∀ x ∈ xs, WfI .u64 x.f0 ∧ WfI .i64 x.f1) := opens_slice Try.underlying34 (by kernel_rfl) opens_bids
theorem opens_u64s : Opens Try.prog 65 (Kd.slice 36 (Kd.int .u64)) (fun xs => ∀ x ∈ xs, WfI .u64 x) := opens_slice Try.underlying65 (by kernel_rfl) (opens_int Try.underlying36)
/-- An argument that is a slice. -/
theorem open_arg {H : Type} {enc : TypeId × Value → H} {P : Program} {α : Type} {d : Kd α} {V : List α → Prop} {w : World} {t e : TypeId} {a : Option Addr} {len cap : Nat} {x : DataW H} {ps : List MemPlace} (ho : Opens P t (Kd.slice e d) V) (h : DataW.Trod enc P w 0 (fun _ => true) true t (.slice a len cap) x ps) :
    ∃ xs, len = xs.length ∧ xs.length ≤ cap ∧ Kd.C d w a xs.length xs ∧ V xs := by
  obtain ⟨fuel, hf⟩ := h
  obtain ⟨xs, ⟨A, c, hcs, hl, hC⟩, hv⟩ := ho enc w fuel _ _ hf
  simp only [Value.cells, List.cons.injEq, and_true, Value.slice.injEq] at hcs
  obtain ⟨rfl, rfl, rfl⟩ := hcs
  exact ⟨xs, rfl, hl, hC, hv⟩
end Go.Proofs.Ytafhdamdkefpkaa

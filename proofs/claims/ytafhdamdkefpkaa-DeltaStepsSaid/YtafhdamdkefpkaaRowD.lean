/- A law's arguments: rows of changes. -/
import Derived.Test.YtafhdamdkefpkaaRow
import Derived.Test.YtafhdamdkefpkaaSteps
namespace Go.Proofs.Ytafhdamdkefpkaa
open Go.RowKit Go.Proofs.YtafhdamdkefpkaaW.PrintWords Go.Proofs.YtafhdamdkefpkaaW.PrintLast Go.Proofs.YtafhdamdkefpkaaW.PrintMore
open Go.ChangeShapes Go.WideShapes Go.Deep
set_option linter.unusedVariables false
set_option linter.unusedSimpArgs false
set_option maxRecDepth 100000 in
theorem opens_entry : Opens Try.prog 68 PDelta.k68 (fun x => WfI .u64 x.f0 ∧ WfI .i64 x.f1) := by
  intro H enc w fuel cs x h
  obtain ⟨xs, k, -, -, hcl, hxl, hf⟩ := DataW.trod_struct Try.underlying68 h
  have hcl : cs.length = 2 := hcl.trans (by kernel_rfl)
  have c1 : Try.prog.cellsOf 36 = 1 := by kernel_rfl
  have c2 : Try.prog.cellsOf 2 = 1 := by kernel_rfl
  match xs, hxl, cs, hcl with
  | [y0, y1], _, [v0, v1], _ =>
    have g0 := hf 0 _ rfl
    have g1 := hf 1 _ rfl
    simp only [c1, c2, List.drop_zero, List.drop_succ_cons, List.take_succ_cons, List.take_zero, List.getElem?_cons_zero, List.getElem?_cons_succ] at g0 g1
    obtain ⟨n, e1, -, hw1⟩ := DataW.trod_int Try.underlying36 g0
    obtain ⟨m, e2, -, hw2⟩ := DataW.trod_int Try.underlying2 g1
    injection e1 with e1
    injection e2 with e2
    subst e1 e2
    exact ⟨⟨n, m⟩, PDelta.k68_mk w ⟨n, m⟩, hw1, hw2⟩
set_option maxRecDepth 100000 in
theorem opens_change : Opens Try.prog 76 PDelta.k76 (fun x => WfI .i64 x.f0 ∧ WfI .u64 x.f1.f0 ∧ WfI .i64 x.f1.f1) := by
  intro H enc w fuel cs x h
  obtain ⟨xs, k, -, -, hcl, hxl, hf⟩ := DataW.trod_struct Try.underlying76 h
  have hcl : cs.length = 3 := hcl.trans (by kernel_rfl)
  have c1 : Try.prog.cellsOf 3 = 1 := by kernel_rfl
  have c2 : Try.prog.cellsOf 68 = 2 := by kernel_rfl
  match xs, hxl, cs, hcl with
  | [y0, y1], _, [v0, v1, v2], _ =>
    have g0 := hf 0 _ rfl
    have g1 := hf 1 _ rfl
    simp only [c1, c2, List.drop_zero, List.drop_succ_cons, List.take_succ_cons, List.take_zero, List.getElem?_cons_zero, List.getElem?_cons_succ] at g0 g1
    obtain ⟨n, e1, -, hw1⟩ := DataW.trod_int Try.underlying3 g0
    obtain ⟨y, hy, hw2⟩ := opens_entry enc w _ _ _ g1
    have hy := PDelta.k68_open hy
    injection e1 with e1
    injection hy with h1 h2
    injection h2 with h2
    subst e1 h1 h2
    exact ⟨⟨n, y⟩, PDelta.k76_mk w ⟨n, y⟩, hw1, hw2⟩
theorem opens_changes : Opens Try.prog 26 (Kd.slice 76 PDelta.k76) (fun xs => ∀ x ∈ xs, WfI .i64 x.f0 ∧ WfI .u64 x.f1.f0 ∧ WfI .i64 x.f1.f1) := opens_slice Try.underlying26 (by kernel_rfl) opens_change
theorem opens_changess : Opens Try.prog 22 (Kd.slice 26 (Kd.slice 76 PDelta.k76)) (fun xss => ∀ xs ∈ xss, ∀ x ∈ xs, WfI .i64 x.f0 ∧ WfI .u64 x.f1.f0 ∧ WfI .i64 x.f1.f1) := opens_slice Try.underlying22 (by kernel_rfl) opens_changes
theorem u64_wf {n : Int} (h : WfI .u64 n) : U64 n := by
  have h : (Lit.int .u64 n).wf = true := h
  simp only [Lit.wf, Bool.and_eq_true, decide_eq_true_eq] at h
  have e1 : IntKind.u64.min = 0 := by decide
  have e2 : IntKind.u64.max = 18446744073709551615 := by decide
  exact ⟨by omega, by omega⟩
theorem steps_walk (A0 : Option Addr) (c0 : Nat) (rows : List (List PDelta.S76)) (most : Int) (w : World) (hC : Kd.C (Kd.slice 76 PDelta.k76) w A0 rows.length rows) (hc0 : rows.length ≤ c0) (hu : ∀ r ∈ rows, ∀ c ∈ r, WfI .i64 c.f0 ∧ WfI .u64 c.f1.f0 ∧ WfI .i64 c.f1.f1) :
    Calls Try.prog 3 #[.slice A0 rows.length c0, .int .i64 most] w fun e w' => e = .returned (.bool true) ∧ Below w.heap.size w w' :=
  stepsL_law A0 c0 rows most w hC hc0 (fun r hr c hc => u64_wf (hu r hr c hc).2.1)
end Go.Proofs.Ytafhdamdkefpkaa

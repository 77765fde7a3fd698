/- delta.Steps: what has risen from book to book, one list after the other. -/
import Derived.Test.YtafhdamdkefpkaaDeltaE
namespace Go.Proofs.Ytafhdamdkefpkaa
open Go.RowKit Go.Proofs.YtafhdamdkefpkaaW.PrintWords Go.Proofs.YtafhdamdkefpkaaW.PrintLast Go.Proofs.YtafhdamdkefpkaaW.PrintMore
attribute [local go_sem] max2_int min2_int max_two min_two Oper.semAt_some
set_option linter.unusedVariables false
set_option linter.unusedSimpArgs false
/-- A row of changes that is none of the caller's blocks. -/
def ChgRel (x : List PDelta.S76) (v : Value) (S : Nat → Prop) (W : World) : Prop := Kd.R PDelta.k76 76 W 0 (fun k => ¬ S k) v x
theorem chgRel_ok : RelOk ChgRel := fun x v S S' W W' h hs hk => Kd.R_mono (Kd.R_step h (fun k h1 h2 => hk.block k h1 h2)) (fun k h1 h2 => h1 (hs k h2))
/-- The book ahead of the i-th one. -/
def prevB (books : List (List (List PDelta.S68))) (i : Nat) : List (List PDelta.S68) := if i = 0 then [] else books.getD (i - 1) []
def stepsTo (books : List (List (List PDelta.S68))) : Nat → List (List PDelta.S76)
  | 0 => []
  | i + 1 => stepsTo books i ++ [diffL (prevB books i) (books.getD i [])]
def stepsL (books : List (List (List PDelta.S68))) : List (List PDelta.S76) := stepsTo books books.length
theorem stepsTo_pre (books : List (List (List PDelta.S68))) (i d : Nat) : ∃ post, stepsTo books (i + d) = stepsTo books i ++ post := by
  induction d with
  | zero => exact ⟨[], by simp⟩
  | succ d ih =>
    obtain ⟨p, hp⟩ := ih
    exact ⟨p ++ [diffL (prevB books (i + d)) (books.getD (i + d) [])], by rw [← Nat.add_assoc, stepsTo, hp, List.append_assoc]⟩
theorem stepsL_split (books : List (List (List PDelta.S68))) {i : Nat} (h : i < books.length) : ∃ post, stepsL books = stepsTo books i ++ diffL (prevB books i) (books.getD i []) :: post := by
  obtain ⟨p, hp⟩ := stepsTo_pre books (i + 1) (books.length - (i + 1))
  rw [show i + 1 + (books.length - (i + 1)) = books.length from by omega, stepsTo] at hp
  exact ⟨p, by unfold stepsL; rw [hp]; simp⟩
theorem stepsTo_length (books : List (List (List PDelta.S68))) (i : Nat) : (stepsTo books i).length = i := by
  induction i with
  | zero => rfl
  | succ i ih => rw [stepsTo, List.length_append, ih]; rfl
theorem at_Bk {w : World} {A : Option Addr} {n : Nat} {xs : List (List (List PDelta.S68))} (h : Kd.C (Kd.slice 31 (Kd.slice 68 PDelta.k68)) w A n xs) (i : Nat) (h1 : i < n) : ∃ ad A0 c0, A = some ad ∧ w.cell? (ad.add i) = some (.slice A0 (xs.getD i []).length c0) ∧ (xs.getD i []).length ≤ c0 ∧ Kd.C (Kd.slice 68 PDelta.k68) w A0 (xs.getD i []).length (xs.getD i []) := by
  obtain ⟨ad, c, e, _, hK, hc0⟩ := Kd.C_get h ([] : List (List PDelta.S68)) (i : Int) (by omega) (by omega)
  have hc : ∀ j u, c[j]? = some u → w.cell? (ad.add (i * 1 + j)) = some u := hc0
  obtain ⟨A0, c0, rfl, l0, g0⟩ := hK
  exact ⟨ad, A0, c0, e, by have hq := hc 0 _ rfl; rwa [Nat.mul_one, Nat.add_zero] at hq, l0, g0⟩
/-- Books as Diff takes them. -/
def BookOk (b : List (List PDelta.S68)) : Prop := b.length ≤ 100000 ∧ (∀ l ∈ b, l.length ≤ 900000) ∧ (∀ l ∈ b, ∀ e ∈ l, U64 e.f0) ∧ (allL (b.map ofL)).length ≤ 1000000
theorem bookOk_nil : BookOk [] := ⟨by simp, by simp, by simp, by simp [allL, allTo]⟩
theorem prevB_ok {books : List (List (List PDelta.S68))} (h : ∀ b ∈ books, BookOk b) (i : Nat) (hi : i ≤ books.length) : BookOk (prevB books i) := by
  unfold prevB
  split
  · exact bookOk_nil
  · have : i - 1 < books.length := by omega
    exact h _ (by simp [List.getD, this])

theorem dsteps_any (v : Value) (hv : ∃ A n c, v = .slice A n c) (w : World) : Calls Try.prog 10 #[v] w fun e w' =>
    e = .returned (.func (.func 43) #[] #[.pointer (some ⟨w.heap.size, 0, none⟩)]) ∧ w' = w.alloc (.cells #[v] 24) := by
  obtain ⟨A, n, c, rfl⟩ := hv
  go_enter Try.func10, Try.ntmps10
  go_wp2
  go_ret
  exact ⟨rfl, rfl⟩

set_option maxRecDepth 100000 in
set_option maxHeartbeats 4000000 in
theorem dsteps1_iter (w0 W0 : World) (A0 : Option Addr) (c0 : Nat) (books : List (List (List PDelta.S68))) (b0 : Nat) (D : Nat → Prop) (hC : Kd.C (Kd.slice 31 (Kd.slice 68 PDelta.k68)) w0 A0 books.length books) (hc0 : books.length ≤ c0) (hl : books.length ≤ 1000000) (hok : ∀ b ∈ books, BookOk b)
    (hB : Below w0.heap.size w0 W0) (h0 : W0.heap[b0]? = some (.cells #[.slice A0 books.length c0] 24 (0, 0))) (hD : ∀ k, k < w0.heap.size → D k) (hD0 : D b0) :
    IterR Try.prog 43 #[.pointer (some ⟨b0, 0, none⟩)] encV ChgRel (stepsL books) D W0 := by
  intro l S0 J Jx W hW hS0 hSD hJ hJx hY hj0
  have hw : ∀ S2 W2, YCore S0 W S2 W2 → W2.cell? ⟨b0, 0, none⟩ = some (.slice A0 books.length c0) ∧ Below w0.heap.size w0 W2 := by
    intro S2 W2 h2
    have k0 := hW.at_ h0 hD0
    refine ⟨blk_cell_ (h2.keeps.at_ k0 ⟨lt_of_heap k0, fun h => hSD _ h hD0⟩) 0, ?_⟩
    have hWs : w0.heap.size ≤ W.heap.size := Nat.le_trans hB.size hW.size
    exact hB.trans ((hW.below hD hB.size).trans (h2.keeps.below (fun k hk => ⟨by omega, fun h => hSD _ h (hD k hk)⟩) hWs))
  have HW := Aside0.mk hw
  have HC := Aside0.mk hC
  have HOK := Aside0.mk hok
  have HY := Aside0.mk (fun pre x post b S W1 hx hr hj (hc : YCore S0 W S W1) => hY pre x post b S W1 hx hr hj hc.keeps hc.own)
  have HJ := Aside0.mk (fun pre S (A B : World) (hb : Below A.heap.size A B) (hj : J pre S A) => hJ pre S A B hj (Keeps.of_all hb))
  have HS := Aside0.mk (YCore.start hS0)
  have HJ0 := Aside0.mk hj0
  clear hY hj0 hJ hJx hw hC hB h0 hD hD0 hW hS0 hSD hok
  refine (callsIn_wide (n := 0)).1 ?_
  refine callsIn_of_wp Try.func43 rfl trivial ?_ rfl
  simp only [Try.ntmps43, List.size_toArray, List.length_cons, List.length_nil, Nat.reduceAdd, Nat.reduceSub, Array.replicate_succ, Array.replicate_zero, List.push_toArray, List.append_toArray, List.nil_append, List.cons_append]
  obtain ⟨q0, -⟩ := HW.out S0 W HS.out
  gi_wp2_with fail
  clear q0
  gi_loopg [3, 8] books.length (fun n v3 v8 W1 => ∃ (i : Nat) (S : Nat → Prop) (A : Option Addr) (c : Nat), v8 = .int .i64 i ∧ v3 = .slice A (prevB books i).length c ∧ Aside0 (i + n = books.length) ∧ Aside0 ((prevB books i).length ≤ c ∧ Kd.C (Kd.slice 68 PDelta.k68) w0 A (prevB books i).length (prevB books i)) ∧ Aside0 (YCore S0 W S W1) ∧ Aside0 (J (stepsTo books i) S W1))
  case atStart => exact ⟨0, S0, none, 0, rfl, rfl, ⟨by simp⟩, ⟨Nat.le_refl _, Kd.C_nil _ _⟩, HS, HJ0⟩
  case round =>
    clear HS HJ0
    obtain ⟨i, S, Aw, cw, rfl, rfl, HI, HPV, HCo, HJi⟩ := hrel
    by_cases c : (i : Int) < (books.length : Int)
    · obtain ⟨q0, hB⟩ := HW.out S wr HCo.out
      have p1 : (0 : Int) ≤ (i : Int) := by omega
      have HIL := Aside0.mk (show i < books.length by omega)
      obtain ⟨ad1, A1, c1, e1, hx0, hl1, hC1⟩ := at_Bk HC.out i HIL.out
      cases e1
      replace hx0 := (hB.cell (World.block_lt_of_cell? w0 _ hx0)).trans hx0
      have wrapI : wrap64 ((i : Int) + 1) = ((i + 1 : Nat) : Int) := by unfold wrap64; omega
      have ho0 := prevB_ok HOK.out i (by have := HIL.out; omega)
      have ho1 : BookOk (books.getD i []) := HOK.out _ (by simp [List.getD, HIL.out])
      have CD := Aside0.mk (ddiff_any Aw A1 cw c1 (prevB books i) (books.getD i []) wr (Kd.C_below HPV.out.2 hB) HPV.out.1 (Kd.C_below hC1 hB) hl1 ho0.1 ho1.1 ho0.2.1 ho1.2.1 ho0.2.2.1 ho1.2.2.1 ho1.2.2.2)
      obtain ⟨post, hpost⟩ := stepsL_split books HIL.out
      have HPO := Aside0.mk hpost
      have HPN : Aside0 (prevB books (i + 1) = books.getD i []) := ⟨by unfold prevB; rw [if_neg (by omega), Nat.add_sub_cancel]⟩
      have HSN : Aside0 (stepsTo books (i + 1) = stepsTo books i ++ [diffL (prevB books i) (books.getD i [])]) := ⟨rfl⟩
      have HCN := Aside0.mk (And.intro hl1 hC1)
      generalize books.getD i [] = now at hx0 CD HPO HPN HSN HCN
      generalize prevB books i = was at CD HPV HPO HSN
      generalize diffL was now = df at CD HPO HSN
      clear hB hl1 hC1 ho0 ho1 hpost
      replace p1 := eq_true p1
      replace c := eq_true c
      gi_wp2_with fail
      refine ⟨trivial, rfl, (callsIn_wide (n := 0)).2 ((CD.out).mono ?_)⟩
      rintro e w7 ⟨v7, rfl, hR7, hB7⟩
      obtain ⟨A7, n7, c7, e7⟩ := R_is_slice hR7
      subst e7
      have HC7 := Aside0.mk (HCo.out.step hB7)
      have HJ7 := Aside0.mk (HJ.out _ _ _ _ hB7 HJi.out)
      have hrel : ChgRel df (.slice A7 n7 c7) S w7 := Kd.R_lower (Kd.R_mono (Kd.R_bound hR7) (fun k hk hS => by have := (HCo.out.own k hS).1; have := hk.2.1; omega)) (Nat.zero_le _)
      obtain ⟨fn, tmps, assign, body, hy, hR⟩ := HY.out _ df post (.slice A7 n7 c7) S _ HPO.out hrel HJ7.out HC7.out
      have HRY := Aside0.mk hR
      clear hR hrel hR7 hB7
      change (Instr.yield l #[.slice A7 n7 c7]).run Try.prog _ = _ at hy
      gi_wp2_with fail
      refine ⟨rfl, (HRY.out _).mono ?_⟩
      clear HRY hy
      rintro e W3 ⟨S3, hs3, hk3, (⟨rfl, hj3⟩ | ⟨rfl, hx3⟩)⟩
      · have HC3 := Aside0.mk (HC7.out.yield hs3 hk3)
        have HJ3 := Aside0.mk hj3
        clear hs3 hk3 hj3
        gi_wp2_with fail
        gi_roundg (gk - 1)
        case measure => have := HI.out; have := HIL.out; omega
        case rel => exact ⟨i + 1, S3, A1, c1, by first | rfl | (simp; done) | rw [wrapI], by rw [HPN.out], ⟨by have := HI.out; have := HIL.out; omega⟩, ⟨by rw [HPN.out]; exact HCN.out⟩, HC3, ⟨by rw [HSN.out]; exact HJ3.out⟩⟩
      · have HC3 := Aside0.mk (HC7.out.yield hs3 hk3)
        have HX3 := Aside0.mk hx3
        clear hs3 hk3 hx3
        gi_wp2_with fail
        refine bodyPost_ret (results_none rfl _ _ _) rfl ?_
        exact ⟨⟨_, rfl⟩, HC3.out.keeps, S3, HC3.out.own, .inr ⟨_, ⟨post, by rw [HPO.out]; simp⟩, HX3.out⟩⟩
    · have c1 : (i < books.length) = False := eq_false (by omega)
      have c2 : ((i : Int) < (books.length : Int)) = False := eq_false c
      have hil : Aside0 (stepsTo books i = stepsL books) := ⟨by have := HI.out; unfold stepsL; rw [show i = books.length from by omega]⟩
      clear c
      gi_wp2_with fail
      go_end0
      exact ⟨⟨_, rfl⟩, HCo.out.keeps, S, HCo.out.own, .inl (by rw [← hil.out]; exact HJi.out)⟩
end Go.Proofs.Ytafhdamdkefpkaa

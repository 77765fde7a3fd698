/- Plain Lean: the steps of math/bits.OnesCount64 count the ones of a number below 2^64. The sets' functions that order: bits.OnesCount64, set.Count, cmp.Compare[int], cmp.Or[int], set.Cmp. slices.SortFunc at bids: the shelf's laying, in plain words (printed by the kit's lay-plain.mjs). The order of bids in prep.greatest, and slices.SortFunc by it: what the row holds afterwards. -/
import Derived.Lib.BitFns
import Derived.Laws.BitsAllLaws
import Derived.Test.YtafhdamdkefpkaaTreeAll
import Derived.Laws.Bits128
import Derived.Shelf.SlSortCmp.WholeK
import Derived.Shelf.SlSortCmp.NoneTotal
import Derived.Test.YtafhdamdkefpkaaProg
import Derived.Test.YtafhdamdkefpkaaPPrepx0
namespace Go.Proofs.Ytafhdamdkefpkaa
open Go.Lib

theorem and_lane (h a m b : Nat) (ha : a < 256) (hb : b < 256) : (256 * h + a) &&& (256 * m + b) = 256 * (h &&& m) + (a &&& b) := by
  have e1 : ((256 * h + a) &&& (256 * m + b)) % 2 ^ 8 = (a &&& b) := by
    rw [Nat.and_mod_two_pow]
    congr 1 <;> omega
  have e2 : ((256 * h + a) &&& (256 * m + b)) / 2 ^ 8 = (h &&& m) := by
    rw [Nat.and_div_two_pow]
    congr 1 <;> omega
  have h3 := Nat.div_add_mod ((256 * h + a) &&& (256 * m + b)) (2 ^ 8)
  rw [e1, e2] at h3
  exact h3.symm

def s1 (m x : Nat) : Nat := (x / 2 &&& m) + (x &&& m)
def s2 (m x : Nat) : Nat := (x / 4 &&& m) + (x &&& m)
def s3 (m x : Nat) : Nat := (x / 16 + x) &&& m
/-- A byte's count after two steps: in each half of it. -/
def q8 (a : Nat) : Nat := s2 51 (s1 85 a)

theorem q8_all : ∀ a : Fin 256, s1 85 a.val < 256 ∧ q8 a.val < 256 ∧ q8 a.val % 16 ≤ 4 ∧ q8 a.val / 16 ≤ 4 ∧ (q8 a.val / 16 + q8 a.val) % 16 = popAux 8 a.val ∧ popAux 8 a.val ≤ 8 := by decide +kernel
theorem s1_low : ∀ (b : Fin 2) (a : Fin 256), ((b.val * 128 + a.val / 2) &&& 85) = (a.val / 2 &&& 85) := by decide +kernel
theorem s2_low : ∀ (b : Fin 4) (a : Fin 256), ((b.val * 64 + a.val / 4) &&& 51) = (a.val / 4 &&& 51) := by decide +kernel

theorem s1_lane (h a m : Nat) (ha : a < 256) : s1 (256 * m + 85) (256 * h + a) = 256 * s1 m h + s1 85 a := by
  unfold s1
  have e : (256 * h + a) / 2 = 256 * (h / 2) + (h % 2 * 128 + a / 2) := by omega
  rw [e, and_lane _ _ _ _ (by omega) (by decide), and_lane _ _ _ _ ha (by decide)]
  have := s1_low ⟨h % 2, by omega⟩ ⟨a, ha⟩
  simp only at this
  rw [this]
  omega
theorem s2_lane (h a m : Nat) (ha : a < 256) : s2 (256 * m + 51) (256 * h + a) = 256 * s2 m h + s2 51 a := by
  unfold s2
  have e : (256 * h + a) / 4 = 256 * (h / 4) + (h % 4 * 64 + a / 4) := by omega
  rw [e, and_lane _ _ _ _ (by omega) (by decide), and_lane _ _ _ _ ha (by decide)]
  have := s2_low ⟨h % 4, by omega⟩ ⟨a, ha⟩
  simp only at this
  rw [this]
  omega
theorem s3_lane (h a m : Nat) (h1 : 16 * (h % 16) + a / 16 + a < 256) : s3 (256 * m + 15) (256 * h + a) = 256 * s3 m h + (a / 16 + a) % 16 := by
  unfold s3
  have e : (256 * h + a) / 16 + (256 * h + a) = 256 * (h / 16 + h) + (16 * (h % 16) + a / 16 + a) := by omega
  rw [e, and_lane _ _ _ _ h1 (by decide), Go.nat_mask4]
  omega

def q (m1 m2 x : Nat) : Nat := s2 m2 (s1 m1 x)
theorem q_lane (h a m1 m2 : Nat) (ha : a < 256) : q (256 * m1 + 85) (256 * m2 + 51) (256 * h + a) = 256 * q m1 m2 h + q8 a := by
  unfold q q8
  rw [s1_lane _ _ _ ha, s2_lane _ _ _ (q8_all ⟨a, ha⟩).1]
def t (m1 m2 m3 x : Nat) : Nat := s3 m3 (q m1 m2 x)
theorem q_low (h a m1 m2 : Nat) (ha : a < 256) : q (256 * m1 + 85) (256 * m2 + 51) (256 * h + a) % 16 ≤ 4 := by
  rw [q_lane _ _ _ _ ha]
  have := (q8_all ⟨a, ha⟩).2.2.1
  simp only at this
  omega
theorem t_lane (h a m1 m2 m3 : Nat) (ha : a < 256) (hh : q m1 m2 h % 16 ≤ 4) : t (256 * m1 + 85) (256 * m2 + 51) (256 * m3 + 15) (256 * h + a) = 256 * t m1 m2 m3 h + popAux 8 a := by
  unfold t
  obtain ⟨-, h2, h3, h4, h5, -⟩ := q8_all ⟨a, ha⟩
  simp only at h2 h3 h4 h5
  rw [q_lane _ _ _ _ ha, s3_lane _ _ _ (by omega), h5]

theorem popAux_add : ∀ (m n x : Nat), popAux (m + n) x = popAux m x + popAux n (x / 2 ^ m)
  | 0, n, x => by simp [popAux]
  | m + 1, n, x => by
    rw [show m + 1 + n = (m + n) + 1 from by omega]
    simp only [popAux]
    rw [popAux_add m n (x / 2), Nat.div_div_eq_div_mul, Nat.pow_succ', Nat.add_assoc]
theorem popAux_mod : ∀ (m x : Nat), popAux m (x % 2 ^ m) = popAux m x
  | 0, x => rfl
  | m + 1, x => by
    simp only [popAux]
    have e : x % 2 ^ (m + 1) / 2 = x / 2 % 2 ^ m := by rw [Nat.pow_succ']; exact Nat.mod_mul_right_div_self x 2 (2 ^ m)
    have e2 : x % 2 ^ (m + 1) % 2 = x % 2 := by rw [Nat.pow_succ']; exact Nat.mod_mul_right_mod x 2 (2 ^ m)
    rw [e, e2, popAux_mod m]
theorem popAux_lane (n h a : Nat) (ha : a < 256) : popAux (8 + n) (256 * h + a) = popAux 8 a + popAux n h := by
  rw [popAux_add, ← popAux_mod 8 (256 * h + a), show (256 * h + a) % 2 ^ 8 = a from by omega, show (256 * h + a) / 2 ^ 8 = h from by omega]

def M1 : Nat → Nat | 0 => 0 | n + 1 => 256 * M1 n + 85
def M2 : Nat → Nat | 0 => 0 | n + 1 => 256 * M2 n + 51
def M3 : Nat → Nat | 0 => 0 | n + 1 => 256 * M3 n + 15
/-- The counts of the bytes of x. -/
def cts : Nat → Nat → Nat | 0, _ => 0 | n + 1, x => 256 * cts n (x / 256) + popAux 8 (x % 256)

theorem q_low' : ∀ (n h : Nat), h < 256 ^ n → q (M1 n) (M2 n) h % 16 ≤ 4
  | 0, h, hh => by have : h = 0 := by omega
                   subst this; decide
  | n + 1, h, _ => by
    have := q_low (h / 256) (h % 256) (M1 n) (M2 n) (by omega)
    rw [Nat.div_add_mod] at this
    exact this
theorem t_cts : ∀ (n x : Nat), x < 256 ^ n → t (M1 n) (M2 n) (M3 n) x = cts n x
  | 0, x, hx => by have : x = 0 := by omega
                   subst this; decide
  | n + 1, x, hx => by
    have hx' : x / 256 < 256 ^ n := by rw [Nat.pow_succ] at hx; omega
    have := t_lane (x / 256) (x % 256) (M1 n) (M2 n) (M3 n) (by omega) (q_low' n _ hx')
    rw [Nat.div_add_mod] at this
    simp only [M1, M2, M3, cts]
    rw [this, t_cts n _ hx']

theorem pop8_le (x : Nat) : popAux 8 (x % 256) ≤ 8 := (q8_all ⟨x % 256, Nat.mod_lt _ (by decide)⟩).2.2.2.2.2
theorem ones_bytes (x : Nat) : ∃ p0 p1 p2 p3 p4 p5 p6 p7 : Nat, p0 ≤ 8 ∧ p1 ≤ 8 ∧ p2 ≤ 8 ∧ p3 ≤ 8 ∧ p4 ≤ 8 ∧ p5 ≤ 8 ∧ p6 ≤ 8 ∧ p7 ≤ 8 ∧
    cts 8 x = p0 + 256 * (p1 + 256 * (p2 + 256 * (p3 + 256 * (p4 + 256 * (p5 + 256 * (p6 + 256 * p7)))))) ∧ onesCount x = p0 + p1 + p2 + p3 + p4 + p5 + p6 + p7 := by
  refine ⟨_, _, _, _, _, _, _, _, pop8_le x, pop8_le (x / 256), pop8_le (x / 256 / 256), pop8_le (x / 256 / 256 / 256), pop8_le (x / 256 / 256 / 256 / 256), pop8_le (x / 256 / 256 / 256 / 256 / 256), pop8_le (x / 256 / 256 / 256 / 256 / 256 / 256), pop8_le (x / 256 / 256 / 256 / 256 / 256 / 256 / 256), ?_, ?_⟩
  · simp only [cts]; omega
  · have step : ∀ n y, popAux (8 + n) y = popAux 8 (y % 256) + popAux n (y / 256) := fun n y => by
      have := popAux_lane n (y / 256) (y % 256) (by omega)
      rwa [Nat.div_add_mod] at this
    unfold onesCount
    rw [show 64 = 8 + 56 from rfl, step, show 56 = 8 + 48 from rfl, step, show 48 = 8 + 40 from rfl, step, show 40 = 8 + 32 from rfl, step, show 32 = 8 + 24 from rfl, step, show 24 = 8 + 16 from rfl, step, show 16 = 8 + 8 from rfl, step,
      show popAux 8 (x / 256 / 256 / 256 / 256 / 256 / 256 / 256) = popAux 8 (x / 256 / 256 / 256 / 256 / 256 / 256 / 256 % 256) from (popAux_mod 8 _).symm]
    omega

theorem sum_d1 (z p0 r : Nat) (h0 : p0 < 256) (e : z = p0 + 256 * r) : z / 256 = r := by omega
theorem sum_d2 (z p0 p1 r : Nat) (h0 : p0 < 256) (h1 : p1 < 256) (e : z = p0 + 256 * (p1 + 256 * r)) : z / 65536 = r := by omega
theorem sum_d4 (z p0 p1 p2 p3 r : Nat) (h0 : p0 < 256) (h1 : p1 < 256) (h2 : p2 < 256) (h3 : p3 < 256) (e : z = p0 + 256 * (p1 + 256 * (p2 + 256 * (p3 + 256 * r)))) : z / 4294967296 = r := by omega
theorem sum_m (z p0 r : Nat) (h0 : p0 < 128) (e : z = p0 + 256 * r) : z % 128 = p0 := by omega
theorem sum_lt (z p0 p1 p2 p3 p4 p5 p6 p7 : Nat) (h0 : p0 < 256) (h1 : p1 < 256) (h2 : p2 < 256) (h3 : p3 < 256) (h4 : p4 < 256) (h5 : p5 < 256) (h6 : p6 < 256) (h7 : p7 < 256)
    (e : z = p0 + 256 * (p1 + 256 * (p2 + 256 * (p3 + 256 * (p4 + 256 * (p5 + 256 * (p6 + 256 * p7))))))) : z < 18446744073709551616 := by omega

/-- **The steps of OnesCount64.** -/
theorem ones_steps (x : Nat) (hx : x < 18446744073709551616) (z a b c : Nat) (dz : z = s3 1085102592571150095 (s2 3689348814741910323 (s1 6148914691236517205 x)))
    (da : a = z + z / 256) (db : b = a + a / 65536) (dc : c = b + b / 4294967296) :
    c < 18446744073709551616 ∧ c % 128 = onesCount x ∧ onesCount x ≤ 64 ∧ z < 18446744073709551616 ∧ a < 18446744073709551616 ∧ b < 18446744073709551616 := by
  have hz : s3 1085102592571150095 (s2 3689348814741910323 (s1 6148914691236517205 x)) = cts 8 x := by
    have h := t_cts 8 x (by simpa using hx)
    simp only [M1, M2, M3, Nat.mul_zero, Nat.zero_add, Nat.reduceMul, Nat.reduceAdd, t, q] at h
    exact h
  rw [hz] at dz
  obtain ⟨p0, p1, p2, p3, p4, p5, p6, p7, h0, h1, h2, h3, h4, h5, h6, h7, e1, e2⟩ := ones_bytes x
  rw [e1] at dz
  have l8 : ∀ p : Nat, p ≤ 8 → p < 256 := fun p h => Nat.lt_of_le_of_lt h (by decide)
  have l2 : ∀ p r : Nat, p ≤ 8 → r ≤ 8 → p + r < 256 := fun p r h k => by omega
  have l3 : ∀ p r s : Nat, p ≤ 8 → r ≤ 8 → s ≤ 8 → p + r + s < 256 := fun p r s h k l => by omega
  have l4 : ∀ p r s t : Nat, p ≤ 8 → r ≤ 8 → s ≤ 8 → t ≤ 8 → p + r + s + t < 256 := fun p r s t h k l m => by omega
  have ls : p0 + p1 + p2 + p3 + (p4 + p5 + p6 + p7) ≤ 64 := by clear da db dc hz dz e1 e2 hx; omega
  have ea : a = (p0 + p1) + 256 * ((p1 + p2) + 256 * ((p2 + p3) + 256 * ((p3 + p4) + 256 * ((p4 + p5) + 256 * ((p5 + p6) + 256 * ((p6 + p7) + 256 * p7)))))) := by
    rw [da, sum_d1 z p0 _ (l8 _ h0) dz, dz]; clear da db dc hz dz e1 e2; omega
  have eb : b = (p0 + p1 + p2 + p3) + 256 * ((p1 + p2 + p3 + p4) + 256 * ((p2 + p3 + p4 + p5) + 256 * ((p3 + p4 + p5 + p6) + 256 * ((p4 + p5 + p6 + p7) + 256 * ((p5 + p6 + p7) + 256 * ((p6 + p7) + 256 * p7)))))) := by
    rw [db, sum_d2 a (p0 + p1) (p1 + p2) _ (l2 _ _ h0 h1) (l2 _ _ h1 h2) ea, ea]; clear da db dc hz dz e1 e2 ea; omega
  have ec : c = (p0 + p1 + p2 + p3 + (p4 + p5 + p6 + p7)) + 256 * ((p1 + p2 + p3 + p4 + (p5 + p6 + p7)) + 256 * ((p2 + p3 + p4 + p5 + (p6 + p7)) + 256 * ((p3 + p4 + p5 + p6 + p7) + 256 * ((p4 + p5 + p6 + p7) + 256 * ((p5 + p6 + p7) + 256 * ((p6 + p7) + 256 * p7)))))) := by
    rw [dc, sum_d4 b (p0 + p1 + p2 + p3) (p1 + p2 + p3 + p4) (p2 + p3 + p4 + p5) (p3 + p4 + p5 + p6) _ (l4 _ _ _ _ h0 h1 h2 h3) (l4 _ _ _ _ h1 h2 h3 h4) (l4 _ _ _ _ h2 h3 h4 h5) (l4 _ _ _ _ h3 h4 h5 h6) eb, eb]; clear da db dc hz dz e1 e2 ea eb; omega
  refine ⟨?_, ?_, ?_, ?_, ?_, ?_⟩
  · exact sum_lt _ _ _ _ _ _ _ _ _ (by clear da db dc hz dz e1 e2 ea eb ec hx; omega) (by clear da db dc hz dz e1 e2 ea eb ec hx; omega) (by clear da db dc hz dz e1 e2 ea eb ec hx; omega) (by clear da db dc hz dz e1 e2 ea eb ec hx; omega) (l4 _ _ _ _ h4 h5 h6 h7) (l3 _ _ _ h5 h6 h7) (l2 _ _ h6 h7) (l8 _ h7) ec
  · rw [sum_m c _ _ (Nat.lt_of_le_of_lt ls (by decide)) ec, e2]; clear da db dc hz dz e1 e2 ea eb ec; omega
  · rw [e2]; clear da db dc hz dz e1 e2 ea eb ec; omega
  · exact sum_lt _ _ _ _ _ _ _ _ _ (l8 _ h0) (l8 _ h1) (l8 _ h2) (l8 _ h3) (l8 _ h4) (l8 _ h5) (l8 _ h6) (l8 _ h7) dz
  · exact sum_lt _ _ _ _ _ _ _ _ _ (l2 _ _ h0 h1) (l2 _ _ h1 h2) (l2 _ _ h2 h3) (l2 _ _ h3 h4) (l2 _ _ h4 h5) (l2 _ _ h5 h6) (l2 _ _ h6 h7) (l8 _ h7) ea
  · exact sum_lt _ _ _ _ _ _ _ _ _ (l4 _ _ _ _ h0 h1 h2 h3) (l4 _ _ _ _ h1 h2 h3 h4) (l4 _ _ _ _ h2 h3 h4 h5) (l4 _ _ _ _ h3 h4 h5 h6) (l4 _ _ _ _ h4 h5 h6 h7) (l3 _ _ _ h5 h6 h7) (l2 _ _ h6 h7) (l8 _ h7) eb
theorem s1_le (x : Nat) : s1 6148914691236517205 x ≤ 2 * 6148914691236517205 := by
  unfold s1
  have h1 : x / 2 &&& 6148914691236517205 ≤ 6148914691236517205 := Nat.and_le_right
  have h2 : x &&& 6148914691236517205 ≤ 6148914691236517205 := Nat.and_le_right
  omega
theorem s2_le (x : Nat) : s2 3689348814741910323 x ≤ 2 * 3689348814741910323 := by
  unfold s2
  have h1 : x / 4 &&& 3689348814741910323 ≤ 3689348814741910323 := Nat.and_le_right
  have h2 : x &&& 3689348814741910323 ≤ 3689348814741910323 := Nat.and_le_right
  omega
end Go.Proofs.Ytafhdamdkefpkaa

namespace Go.Proofs.Ytafhdamdkefpkaa
open Go.RowKit Go.Proofs.YtafhdamdkefpkaaW.PrintWords Go.Proofs.YtafhdamdkefpkaaW.PrintLast Go.Proofs.YtafhdamdkefpkaaW.PrintMore
attribute [local go_sem] max2_int min2_int max_two min_two
set_option linter.unusedVariables false
set_option linter.unusedSimpArgs false

theorem wrap_u64_nat (n : Nat) (h : n < 18446744073709551616) : IntKind.u64.wrap (n : Int) = n := by rw [IntKind.wrap_u64]; omega
theorem ones_e1 (m k x : Nat) (hm : m < 18446744073709551616) (hx : x < 18446744073709551616) (hs : (x / k &&& m) + (x &&& m) < 18446744073709551616) :
    IntKind.u64.wrap (bits .and .u64 ((x : Int) / (k : Int)) (m : Int) + bits .and .u64 (x : Int) (m : Int)) = (((x / k &&& m) + (x &&& m) : Nat) : Int) := by
  rw [← Int.natCast_ediv, u64_and_nat _ _ (Nat.lt_of_le_of_lt (Nat.div_le_self _ _) hx) hm, u64_and_nat _ _ hx hm, ← Int.natCast_add, wrap_u64_nat _ hs]
theorem ones_e3 (m x : Nat) (hm : m < 18446744073709551616) (hs : x / 16 + x < 18446744073709551616) :
    bits .and .u64 (IntKind.u64.wrap ((x : Int) / 16 + (x : Int))) (m : Int) = ((s3 m x : Nat) : Int) := by
  have e : ((x : Int) / 16 + (x : Int)) = ((x / 16 + x : Nat) : Int) := by omega
  rw [e, wrap_u64_nat _ hs, u64_and_nat _ _ hs hm]; rfl
theorem ones_e4 (k x : Nat) (hs : x + x / k < 18446744073709551616) : IntKind.u64.wrap ((x : Int) + (x : Int) / (k : Int)) = ((x + x / k : Nat) : Int) := by
  rw [← Int.natCast_ediv, ← Int.natCast_add, wrap_u64_nat _ hs]
theorem wrap64_ (c : Nat) : IntKind.i64.wrap (c : Int) = wrap64 (c : Int) := by
  rw [IntKind.wrap_i64]; unfold wrap64; rfl
theorem ones_e7 (x : Nat) (hx : x < 18446744073709551616) : bits .and .i64 (IntKind.i64.wrap (x : Int)) 127 = ((x % 128 : Nat) : Int) := by
  rw [Go.i64_and127, IntKind.wrap_i64]
  omega

set_option maxHeartbeats 1000000 in
theorem ones_any (x : Nat) (w : World) (hx : x < 18446744073709551616) :
    Calls Try.prog 114 #[.int .u64 x] w fun e w' => e = .returned (.int .i64 (Lib.onesCount x : Nat)) ∧ w = w' := by
  obtain ⟨y1, hy1⟩ : ∃ y, y = s1 6148914691236517205 x := ⟨_, rfl⟩
  obtain ⟨y2, hy2⟩ : ∃ y, y = s2 3689348814741910323 y1 := ⟨_, rfl⟩
  obtain ⟨z, hz⟩ : ∃ y, y = s3 1085102592571150095 y2 := ⟨_, rfl⟩
  obtain ⟨a, ha⟩ : ∃ a, a = z + z / 256 := ⟨_, rfl⟩
  obtain ⟨b, hb⟩ : ∃ b, b = a + a / 65536 := ⟨_, rfl⟩
  obtain ⟨c, hc⟩ : ∃ c, c = b + b / 4294967296 := ⟨_, rfl⟩
  have b1 : y1 ≤ 2 * 6148914691236517205 := hy1 ▸ s1_le x
  have b2 : y2 ≤ 2 * 3689348814741910323 := hy2 ▸ s2_le y1
  obtain ⟨lc, ec, -, lz, la, lb⟩ := ones_steps x hx z a b c (by rw [hz, hy2, hy1]) ha hb hc
  have E1 := ones_e1 6148914691236517205 2 x (by decide) hx (by have := s1_le x; unfold s1 at this; omega)
  have E2 := ones_e1 3689348814741910323 4 y1 (by decide) (by omega) (by have := s2_le y1; unfold s2 at this; omega)
  have E3 := ones_e3 1085102592571150095 y2 (by decide) (by omega)
  have E4 := ones_e4 256 z (by omega)
  have E5 := ones_e4 65536 a (by omega)
  have E6 := ones_e4 4294967296 b (by omega)
  have E7 := ones_e7 c lc
  rw [show (x / 2 &&& 6148914691236517205) + (x &&& 6148914691236517205) = y1 from hy1.symm] at E1
  rw [show (y1 / 4 &&& 3689348814741910323) + (y1 &&& 3689348814741910323) = y2 from hy2.symm] at E2
  rw [← hz] at E3
  rw [← ha] at E4
  rw [← hb] at E5
  rw [← hc] at E6
  rw [ec] at E7
  simp only [Int.cast_ofNat_Int] at E1 E2 E3 E4 E5 E6 E7
  clear hy1 hy2 hz ha hb hc b1 b2 lc ec lz la lb
  go_enter Try.func114, Try.ntmps114
  go_wp2
  go_ret
  simp only [E1, E2, E3, E4, E5, E6]
  exact ⟨congrArg (fun n => Ending.returned (Value.int IntKind.i64 n)) ((congrArg (fun n => bits BinOp.and IntKind.i64 n 127) ((wrap64_ c).symm)).trans E7), trivial⟩

theorem scount_any (x : Nat) (w : World) (hx : x < 18446744073709551616) :
    Calls Try.prog 100 #[.int .u64 x] w fun e w' => e = .returned (.int .i64 (Lib.onesCount x : Nat)) ∧ w = w' := by
  have C := ones_any x w hx
  go_enter Try.func100, Try.ntmps100
  go_wp2_with fail
  refine C.mono ?_
  rintro e w' ⟨rfl, rfl⟩
  go_wp2_with fail
  go_ret
  exact ⟨rfl, rfl⟩

set_option maxHeartbeats 400000 in
theorem cmpi_any (a b : Int) (w : World) : Calls Try.prog 99 #[.int .i64 a, .int .i64 b] w fun e w' => e = .returned (.int .i64 (icmp a b)) ∧ w = w' := by
  by_cases h1 : a < b
  · have e : icmp a b = -1 := by simp [icmp, h1]
    rw [e]
    go_enter Try.func99, Try.ntmps99
    go_wp2
    go_ret
    exact ⟨rfl, rfl⟩
  · by_cases h2 : b < a
    · have e : icmp a b = 1 := by simp [icmp, h1, h2]
      rw [e]
      go_enter Try.func99, Try.ntmps99
      go_wp2
      go_ret
      exact ⟨rfl, rfl⟩
    · have e : icmp a b = 0 := by simp [icmp, h1, h2]
      rw [e]
      go_enter Try.func99, Try.ntmps99
      go_wp2
      go_ret
      exact ⟨rfl, rfl⟩

/-- cmp.Or at two numbers. -/
def or2 (x y : Int) : Int := if x = 0 then y else x

set_option maxRecDepth 100000 in
set_option maxHeartbeats 1600000 in
theorem or_any (x y : Int) (b : Nat) (w : World) (h0 : w.cell? ⟨b, 0, none⟩ = some (.int .i64 x)) (h1 : w.cell? ⟨b, 1, none⟩ = some (.int .i64 y)) :
    Calls Try.prog 98 #[.slice (some ⟨b, 0, none⟩) 2 2] w fun e w' => e = .returned (.int .i64 (or2 x y)) ∧ w = w' := by
  go_enter Try.func98, Try.ntmps98
  go_wp2_with fail
  go_loopg [8] 2 (fun n v w' => Aside0 (w = w') ∧ ((n = 2 ∧ v = .int .i64 0) ∨ (n = 1 ∧ v = .int .i64 1 ∧ Aside0 (x = 0)) ∨ (n = 0 ∧ v = .int .i64 2 ∧ Aside0 (x = 0 ∧ y = 0))))
  case atStart => exact ⟨⟨rfl⟩, .inl ⟨rfl, rfl⟩⟩
  case round =>
    obtain ⟨hw, h⟩ := hrel
    obtain rfl := hw.out
    rcases h with ⟨rfl, rfl⟩ | ⟨rfl, rfl, hx⟩ | ⟨rfl, rfl, hxy⟩
    · by_cases c : x = 0
      · have hx : Aside0 (x = 0) := ⟨c⟩
        go_wp2_with fail
        go_roundg 1
        case measure => decide
        case rel => exact ⟨⟨rfl⟩, .inr (.inl ⟨rfl, rfl, hx⟩)⟩
      · have e : or2 x y = x := by simp [or2, c]
        go_wp2_with fail
        go_ret
        first | exact ⟨rfl, rfl⟩ | (rw [e]; exact ⟨rfl, rfl⟩)
    · have e : or2 x y = y := by simp [or2, hx.out]
      by_cases c : y = 0
      · have hxy : Aside0 (x = 0 ∧ y = 0) := ⟨hx.out, c⟩
        go_wp2_with fail
        go_roundg 0
        case measure => decide
        case rel => exact ⟨⟨rfl⟩, .inr (.inr ⟨rfl, rfl, hxy⟩)⟩
      · go_wp2_with fail
        go_ret
        first | exact ⟨rfl, rfl⟩ | (rw [e]; exact ⟨rfl, rfl⟩)
    · have e : or2 x y = 0 := by simp [or2, hxy.out.1, hxy.out.2]
      go_wp2_with fail
      go_ret
      first | exact ⟨rfl, rfl⟩ | (rw [e]; exact ⟨rfl, rfl⟩)

/-- Which set stands ahead: set.Cmp. -/
def scmp (a b : Nat) : Int := or2 (icmp (Lib.onesCount a : Nat) (Lib.onesCount b : Nat)) (icmp a b)

set_option maxRecDepth 100000 in
set_option maxHeartbeats 1600000 in
theorem scmp_grow (a b : Nat) (w : World) (ha : a < 18446744073709551616) (hb : b < 18446744073709551616) :
    Calls Try.prog 71 #[.int .u64 a, .int .u64 b] w fun e w' => e = .returned (.int .i64 (scmp a b)) ∧ ∃ o, w' = w.alloc o := by
  have C1 := Aside0.mk (fun w => scount_any a w ha)
  have C2 := Aside0.mk (fun w => scount_any b w hb)
  have C3 := Aside0.mk (fun x y b w h0 h1 => or_any x y b w h0 h1)
  go_enter Try.func71, Try.ntmps71
  go_wp2_with (first
    | (go_at_call 100; first | (refine (C1.out _).mono ?_; rintro e w' ⟨rfl, rfl⟩) | (refine (C2.out _).mono ?_; rintro e w' ⟨rfl, rfl⟩))
    | (go_at_call 99; refine (cmpi_any _ _ _).mono ?_; rintro e w' ⟨rfl, rfl⟩)
    | (go_at_call 101; refine (cmpu_any _ _ _).mono ?_; rintro e w' ⟨rfl, rfl⟩)
    | (go_at_call 98; refine (C3.out _ _ _ _ ((blk_cell_ (World.alloc_heap_new _ _) 0).trans rfl) ((blk_cell_ (World.alloc_heap_new _ _) 1).trans rfl)).mono ?_; rintro e w' ⟨rfl, rfl⟩))
  go_ret
  exact ⟨rfl, _, rfl⟩
theorem scmp_any (a b : Nat) (w : World) (ha : a < 18446744073709551616) (hb : b < 18446744073709551616) :
    Calls Try.prog 71 #[.int .u64 a, .int .u64 b] w fun e w' => e = .returned (.int .i64 (scmp a b)) ∧ Below w.heap.size w w' :=
  (scmp_grow a b w ha hb).mono fun _ _ ⟨h, o, ho⟩ => ⟨h, by rw [ho]; exact below_alloc (Below.refl _ _) _⟩
end Go.Proofs.Ytafhdamdkefpkaa

namespace Go.Proofs
open Go.Shelf
def Try.laysSortFunc_ren : Go.Shelf.Ren := ⟨fun | 6 => 77 | 15 => 109 | 14 => 108 | 28 => 127 | 29 => 128 | 20 => 119 | 21 => 120 | 22 => 121 | 23 => 122 | 24 => 123 | 25 => 124 | 26 => 125 | 27 => 126 | 46 => 135 | 47 => 136 | 48 => 137 | 49 => 138 | 50 => 139 | 57 => 140 | n => n, fun | 22 => 37 | 24 => 40 | 25 => 133 | 3 => 3 | 39 => 153 | 0 => 0 | 53 => 182 | 55 => 36 | 4 => 4 | 46 => 176 | 45 => 175 | 50 => 119 | 5 => 5 | 9 => 9 | 66 => 186 | 70 => 189 | 76 => 191 | 77 => 192 | n => n, fun | n => n⟩
theorem Try.laysSortFunc : Go.Proofs.SlLaysF0.n6 Try.prog Try.laysSortFunc_ren := {
  mixed := by kernel_rfl
  f6 := ⟨Try.f77.name, by decide, Try.func77.trans (congrArg some (by kernel_rfl))⟩
  f14 := ⟨Try.f108.name, by decide, Try.func108.trans (congrArg some (by kernel_rfl))⟩
  f15 := Try.func109.trans (congrArg some (by kernel_rfl))
  f20 := ⟨Try.f119.name, by decide, Try.func119.trans (congrArg some (by kernel_rfl))⟩
  f21 := ⟨Try.f120.name, by decide, Try.func120.trans (congrArg some (by kernel_rfl))⟩
  f22 := ⟨Try.f121.name, by decide, Try.func121.trans (congrArg some (by kernel_rfl))⟩
  f23 := ⟨Try.f122.name, by decide, Try.func122.trans (congrArg some (by kernel_rfl))⟩
  f24 := ⟨Try.f123.name, by decide, Try.func123.trans (congrArg some (by kernel_rfl))⟩
  f25 := ⟨Try.f124.name, by decide, Try.func124.trans (congrArg some (by kernel_rfl))⟩
  f26 := ⟨Try.f125.name, by decide, Try.func125.trans (congrArg some (by kernel_rfl))⟩
  f27 := ⟨Try.f126.name, by decide, Try.func126.trans (congrArg some (by kernel_rfl))⟩
  f28 := Try.func127.trans (congrArg some (by kernel_rfl))
  f29 := Try.func128.trans (congrArg some (by kernel_rfl))
  f46 := ⟨Try.f135.name, by decide, Try.func135.trans (congrArg some (by kernel_rfl))⟩
  f47 := Try.func136.trans (congrArg some (by kernel_rfl))
  f48 := Try.func137.trans (congrArg some (by kernel_rfl))
  f49 := ⟨Try.f138.name, by decide, Try.func138.trans (congrArg some (by kernel_rfl))⟩
  f50 := ⟨Try.f139.name, by decide, Try.func139.trans (congrArg some (by kernel_rfl))⟩
  f57 := ⟨Try.f140.name, by decide, Try.func140.trans (congrArg some (by kernel_rfl))⟩
  t0 := Try.underlying0
  a0 := Try.isAgg0
  z0 := Try.sizeOf0
  v0 := Try.zeroValue0
  t3 := Try.underlying3
  a3 := Try.isAgg3
  z3 := Try.sizeOf3
  v3 := Try.zeroValue3
  t4 := Try.underlying4
  a4 := Try.isAgg4
  z4 := Try.sizeOf4
  v4 := Try.zeroValue4
  t5 := Try.underlying5
  a5 := Try.isAgg5
  z5 := Try.sizeOf5
  v5 := Try.zeroValue5
  t9 := Try.underlying9
  a9 := Try.isAgg9
  z9 := Try.sizeOf9
  v9 := Try.zeroValue9
  t22 := Try.underlying37
  a22 := Try.isAgg37
  z22 := Try.sizeOf37
  v22 := Try.zeroValue37
  t25 := Try.underlying133
  a25 := Try.isAgg133
  z25 := Try.sizeOf133
  v25 := Try.zeroValue133
  t39 := Try.underlying153
  a39 := Try.isAgg153
  z39 := Try.sizeOf153
  v39 := Try.zeroValue153
  t45 := Try.underlying175
  a45 := Try.isAgg175
  z45 := Try.sizeOf175
  v45 := Try.zeroValue175
  t46 := Try.underlying176
  a46 := Try.isAgg176
  z46 := Try.sizeOf176
  v46 := Try.zeroValue176
  t50 := Try.underlying119
  a50 := Try.isAgg119
  z50 := Try.sizeOf119
  v50 := Try.zeroValue119
  t53 := Try.underlying182
  a53 := Try.isAgg182
  z53 := Try.sizeOf182
  v53 := Try.zeroValue182
  t55 := Try.underlying36
  a55 := Try.isAgg36
  z55 := Try.sizeOf36
  v55 := Try.zeroValue36
  t66 := Try.underlying186
  a66 := Try.isAgg186
  z66 := Try.sizeOf186
  v66 := Try.zeroValue186
  t70 := Try.underlying189
  a70 := Try.isAgg189
  z70 := Try.sizeOf189
  v70 := Try.zeroValue189
  t76 := Try.underlying191
  a76 := Try.isAgg191
  z76 := Try.sizeOf191
  v76 := Try.zeroValue191
  t77 := Try.underlying192
  a77 := Try.isAgg192
  z77 := Try.sizeOf192
  v77 := Try.zeroValue192 }
end Go.Proofs

namespace Go.Proofs.Ytafhdamdkefpkaa
open Go.RowKit Go.Proofs.YtafhdamdkefpkaaW.PrintWords Go.Proofs.YtafhdamdkefpkaaW.PrintLast Go.Proofs.YtafhdamdkefpkaaW.PrintMore Go.Proofs.Ytafhdamdkefpkaa.PPrep Go.Sort
attribute [local go_sem] max2_int min2_int max_two min_two
set_option linter.unusedVariables false
set_option linter.unusedSimpArgs false

theorem grow_alloc_ (w : World) (o : Obj) : w.alloc o = grow w #[o] := by
  show ({ w with heap := w.heap.push o } : World) = { w with heap := w.heap ++ #[o] }
  rw [Array.push_eq_append]

set_option maxRecDepth 100000 in
set_option maxHeartbeats 1600000 in
theorem greatest1_any (a p b q : Int) (w : World) (ha : 0 ≤ a ∧ a < 18446744073709551616) (hb : 0 ≤ b ∧ b < 18446744073709551616) :
    Calls Try.prog 78 #[.agg #[.int .u64 a, .int .i64 p], .agg #[.int .u64 b, .int .i64 q]] w fun e w' => e = .returned (.int .i64 (scmp a.toNat b.toNat)) ∧ ∃ n os, w' = grow (w.drewN n) os := by
  have C := Aside0.mk (fun w => scmp_grow a.toNat b.toNat w (by omega) (by omega))
  have ea : ((a.toNat : Nat) : Int) = a := by omega
  have eb : ((b.toNat : Nat) : Int) = b := by omega
  rw [ea, eb] at C
  clear ha hb ea eb
  have hu40 := Try.underlying40
  go_enter Try.func78, Try.ntmps78
  go_wp2_with fail
  refine (C.out _).mono ?_
  rintro e w' ⟨rfl, o, rfl⟩
  go_wp2_with fail
  go_ret
  refine ⟨rfl, 0, #[.cells #[.int .u64 a, .int .i64 p] 40, .cells #[.int .u64 b, .int .i64 q] 40, o], ?_⟩
  rw [grow_alloc_, grow_alloc_, grow_alloc_, grow_grow, grow_grow]
  rfl

/-- The cells of bids in line. -/
def flat2 : List S40 → List Value
  | [] => []
  | x :: xs => .int .u64 x.f0 :: .int .i64 x.f1 :: flat2 xs
theorem flat2_length : ∀ xs : List S40, (flat2 xs).length = xs.length * 2
  | [] => rfl
  | x :: xs => by simp [flat2, flat2_length xs]; omega
theorem flat2_get : ∀ (xs : List S40) (j : Nat) (x : S40), xs[j]? = some x → (flat2 xs)[j * 2]? = some (.int .u64 x.f0) ∧ (flat2 xs)[j * 2 + 1]? = some (.int .i64 x.f1)
  | [], j, x, h => by simp at h
  | y :: xs, 0, x, h => by
    simp only [List.getElem?_cons_zero, Option.some.injEq] at h
    subst h
    exact ⟨rfl, rfl⟩
  | y :: xs, j + 1, x, h => by
    simp only [List.getElem?_cons_succ] at h
    have := flat2_get xs j x h
    rw [show (j + 1) * 2 = j * 2 + 2 from by omega]
    exact this
theorem flat2_reps {w : World} {base : Nat} {ok : Nat → Prop} (xs : List S40) : Reps (k40.M w base ok) k40.sz xs (flat2 xs) := by
  refine ⟨flat2_length xs, fun j p hj => ?_⟩
  obtain ⟨h0, h1⟩ := flat2_get xs j p hj
  have e : ((flat2 xs).drop (j * 2)).take 2 = [.int .u64 p.f0, .int .i64 p.f1] := by
    apply List.ext_getElem?
    intro i
    match i with
    | 0 => rw [List.getElem?_take]; simpa using h0
    | 1 => rw [List.getElem?_take]; simpa using h1
    | i + 2 => simp; omega
  show k40.M w base ok p (((flat2 xs).drop (j * 2)).take 2)
  rw [e]
  exact k40_mkM w base ok p
theorem reps_flat2 {w : World} {base : Nat} {ok : Nat → Prop} {xs : List S40} {cs : List Value} (h : Reps (k40.M w base ok) k40.sz xs cs) : cs = flat2 xs := by
  obtain ⟨hl, h⟩ := h
  have hl : cs.length = xs.length * 2 := hl
  have h : ∀ j p, xs[j]? = some p → k40.M w base ok p ((cs.drop (j * 2)).take 2) := h
  apply List.ext_getElem?
  intro t
  rcases Nat.lt_or_ge (t / 2) xs.length with ht | ht
  · have hj := List.getElem?_eq_getElem ht
    have h1 := k40_openM (h _ _ hj)
    have h2 := flat2_get xs _ _ hj
    rcases Nat.mod_two_eq_zero_or_one t with e | e
    · have et : t = t / 2 * 2 := by omega
      have h3 := congrArg (fun l => l[0]?) h1
      simp only [List.getElem?_take, List.getElem?_drop, Nat.add_zero] at h3
      rw [et, h2.1]
      simpa using h3
    · have et : t = t / 2 * 2 + 1 := by omega
      have h3 := congrArg (fun l => l[1]?) h1
      simp only [List.getElem?_take, List.getElem?_drop] at h3
      rw [et, h2.2]
      simpa using h3
  · rw [List.getElem?_eq_none (by omega), List.getElem?_eq_none (by rw [flat2_length]; omega)]

/-- A bid whose set is a uint64. -/
structure UB where
  s : Nat
  p : Int
  h : s < 18446744073709551616
instance : Inhabited UB := ⟨⟨0, 0, by decide⟩⟩
def UB.b (x : UB) : S40 := ⟨x.s, x.p⟩
def ubEnc (x : UB) : List Value := [.int .u64 x.s, .int .i64 x.p]
def ubCf (x y : UB) : Int := scmp x.s y.s
theorem flatK_ub (d : Array UB) : flatK ubEnc 2 d = (flat2 (d.toList.map UB.b)).toArray := by
  apply Array.ext_getElem?
  intro t
  rw [show (flat2 (d.toList.map UB.b)).toArray[t]? = (flat2 (d.toList.map UB.b))[t]? from by simp]
  rcases Nat.lt_or_ge (t / 2) d.size with ht | ht
  · have hj : (d.toList.map UB.b)[t / 2]? = some (d[t / 2]).b := by simp [ht]
    have h2 := flat2_get _ _ _ hj
    have hs : t < (flatK ubEnc 2 d).size := by rw [size_flatK]; omega
    rw [Array.getElem?_eq_getElem hs]
    have h3 := get_flatK ubEnc 2 d t (by omega)
    rw [getElem!_pos _ t hs, getElem!_pos d (t / 2) ht] at h3
    rw [h3]
    rcases Nat.mod_two_eq_zero_or_one t with e | e
    · have et : t = t / 2 * 2 := by omega
      rw [e]
      conv => rhs; rw [et]
      rw [h2.1]; rfl
    · have et : t = t / 2 * 2 + 1 := by omega
      rw [e]
      conv => rhs; rw [et]
      rw [h2.2]; rfl
  · rw [Array.getElem?_eq_none (by rw [size_flatK]; omega), List.getElem?_eq_none (by rw [flat2_length]; simp; omega)]

/-! ### The order -/
theorem icmp_neg {a b : Int} : icmp a b < 0 ↔ a < b := by unfold icmp; split <;> rename_i h; · exact ⟨fun _ => h, fun _ => by decide⟩
                                                          · split <;> simp <;> omega
theorem icmp_zero {a b : Int} : icmp a b = 0 ↔ a = b := by unfold icmp; split <;> rename_i h; · simp; omega
                                                           · split <;> simp <;> omega
theorem scmp_neg {a b : Nat} : scmp a b < 0 ↔ Lib.onesCount a < Lib.onesCount b ∨ (Lib.onesCount a = Lib.onesCount b ∧ a < b) := by
  unfold scmp or2
  split
  · rename_i h
    rw [icmp_zero] at h
    rw [icmp_neg]
    omega
  · rename_i h
    rw [icmp_zero] at h
    rw [icmp_neg]
    omega
theorem scmp_swo : SWO (Proofs.ltOf ubCf) where
  irrefl := fun x => by simp only [Proofs.ltOf, ubCf, decide_eq_false_iff_not, scmp_neg]; omega
  trans := fun x y z h k => by simp only [Proofs.ltOf, ubCf, decide_eq_true_eq, scmp_neg] at h k ⊢; omega
  ntrans := fun x y z h k => by simp only [Proofs.ltOf, ubCf, decide_eq_false_iff_not, scmp_neg] at h k ⊢; omega

/-! ### The worlds of the sort -/
theorem mapBlock_at {w : World} {g : Nat} {cur : Array Value} {e : TypeId} {fr : Nat × Nat} (h : w.heap[g]? = some (.cells cur e fr)) (f : Array Value → Array Value) : (mapBlock w g f).heap[g]? = some (.cells (f cur) e fr) := by
  unfold mapBlock
  simp only [Array.getElem?_modify, if_true, h, Option.map_some, onCells]
theorem set_at {w : World} {g : Nat} {cur : Array Value} {e : TypeId} {fr : Nat × Nat} (h : w.heap[g]? = some (.cells cur e fr)) (i : Nat) (v : Value) : (w.setCell ⟨g, i, none⟩ v).heap[g]? = some (.cells (cur.setIfInBounds i v) e fr) := by
  rw [Sort.setCell_eq]; exact mapBlock_at h _
theorem mapBlock_other {w : World} {g k : Nat} (hk : k ≠ g) (f : Array Value → Array Value) : (mapBlock w g f).heap[k]? = w.heap[k]? := by
  unfold mapBlock
  simp only [Array.getElem?_modify, if_neg (Ne.symm hk)]
theorem mapBlock_size (w : World) (g : Nat) (f : Array Value → Array Value) : (mapBlock w g f).heap.size = w.heap.size := by unfold mapBlock; simp
theorem grow_heap {w : World} {os : Array Obj} {k : Nat} (hk : k < w.heap.size) : (grow w os).heap[k]? = w.heap[k]? := by
  unfold grow
  exact Array.getElem?_append_left hk
theorem sort_keeps {enc : UB → List Value} {w : World} {g n : Nat} {d : Array UB} {os : Array Obj} : Keeps (fun k => k ≠ g) w (Proofs.sortWorldK enc 2 w g 0 n d os) := by
  refine ⟨rfl, rfl, rfl, ?_, fun k hk hl => ?_⟩
  · show w.heap.size ≤ (grow (mapBlock (Sort.ahead w n) g _) os).heap.size
    unfold grow
    simp only [Array.size_append, mapBlock_size]
    show w.heap.size ≤ (Sort.ahead w n).heap.size + os.size
    exact Nat.le_add_right _ _
  · show (grow (mapBlock (Sort.ahead w n) g _) os).heap[k]? = _
    rw [grow_heap (by rw [mapBlock_size]; exact hl), mapBlock_other hk]
    rfl
theorem putCells_take (F : Array Value) (cur : Array Value) (h : F.size ≤ cur.size) : (putCells id 0 F cur).toList.take F.size = F.toList := by
  apply List.ext_getElem?
  intro t
  rw [List.getElem?_take]
  split
  · rename_i ht
    unfold putCells
    simp only [Array.getElem?_toList, Array.getElem?_mapIdx]
    rw [Array.getElem?_eq_getElem (show t < cur.size by omega), Array.getElem?_eq_getElem ht]
    simp [ht]
  · rename_i ht
    rw [List.getElem?_eq_none (by simpa using ht)]

theorem ub_list : ∀ (xs : List S40), (∀ x ∈ xs, 0 ≤ x.f0 ∧ x.f0 < 18446744073709551616) → ∃ l : List UB, l.map UB.b = xs
  | [], _ => ⟨[], rfl⟩
  | x :: xs, h => by
    obtain ⟨l, rfl⟩ := ub_list xs (fun y hy => h y (List.mem_cons_of_mem _ hy))
    have := h x List.mem_cons_self
    refine ⟨⟨x.f0.toNat, x.f1, by omega⟩ :: l, ?_⟩
    simp only [List.map_cons, UB.b]
    rw [Int.toNat_of_nonneg this.1]
theorem ub_cmpLays (blk off size : Nat) (w : World) : Proofs.CmpLays Try.prog 78 #[] ubEnc 2 ubCf blk off size w :=
  fun m os dk _ x y => by
    have := greatest1_any x.s x.p y.s y.p (Proofs.sortWorldK ubEnc 2 w blk off m dk os) ⟨by omega, by have := x.h; omega⟩ ⟨by omega, by have := y.h; omega⟩
    simp only [Int.toNat_natCast] at this
    exact this.mono fun _ _ ⟨h, n, o, ho⟩ => ⟨h, n, o, ho⟩

/-- **slices.SortFunc by sets, at a row of the call's own.** -/
theorem sort_any {base : Nat} {ok : Nat → Prop} {v : Value} {xs : List S40} {w : World} (hR : Kd.R k40 40 w base ok v xs) (hb : ∀ x ∈ xs, 0 ≤ x.f0 ∧ x.f0 < 18446744073709551616) (hl : xs.length < 4611686018427387904) :
    Calls Try.prog 77 #[v, .func (.func 78) #[] #[]] w fun e w' =>
      e = .returned (.tuple #[]) ∧ ∃ ys : List S40, ys.Perm xs ∧ ys.Pairwise (fun a b => ¬ scmp b.f0.toNat a.f0.toNat < 0) ∧ Kd.R k40 40 w' base ok v ys ∧ Keeps (fun k => some k ≠ v.ownBlock) w w' := by
  obtain ⟨hok, inner, ⟨hlen, hown⟩, hreps⟩ := hR
  rcases hown with ⟨rfl, hn⟩ | ⟨g, cap, cur, rfl, hg, hh, hnc, hcm, hcs, htk⟩
  · have : xs = [] := List.length_eq_zero_iff.1 hn
    subst this
    refine (Proofs.AnyF.slices_SortFunc_none Try.laysSortFunc none 0 (.func (.func 78) #[] #[]) w).mono ?_
    rintro e w' ⟨rfl, rfl⟩
    exact ⟨rfl, [], List.Perm.refl _, List.Pairwise.nil, Kd.R_nil _ _ _ _ _, Keeps.refl _ _⟩
  · have hin := reps_flat2 hreps
    subst hin
    obtain ⟨l, rfl⟩ := ub_list xs hb
    have hsz : (List.map UB.b l).length = l.toArray.size := by simp
    have hF : flatK ubEnc 2 l.toArray = (flat2 (l.map UB.b)).toArray := flatK_ub l.toArray
    have hsF : (flatK ubEnc 2 l.toArray).size = (l.map UB.b).length * 2 := by rw [size_flatK, hsz]
    have htk' : cur.toList.take ((l.map UB.b).length * 2) = flat2 (l.map UB.b) := htk
    have hH : HoldsK ubEnc 2 w g 0 l.toArray := by
      intro j hj
      rw [hsF] at hj
      refine ⟨?_, by rw [Nat.zero_add]; exact blk_frozen hh j⟩
      rw [Nat.zero_add, blk_cell_ hh, hF, getElem!_pos _ j (by simpa [flat2_length] using hj)]
      have h1 := congrArg (fun l => l[j]?) htk'
      simp only [List.getElem?_take, if_pos hj, Array.getElem?_toList] at h1
      rw [h1, List.getElem?_eq_getElem (by rw [flat2_length]; exact hj)]
      rfl
    have hcon := Proofs.AnyQ.slices_SortFunc Try.laysSortFunc 2 Try.isAgg40 Try.sizeOf40 ubEnc (fun _ => rfl) (fun x v hv => by simp [ubEnc] at hv; rcases hv with rfl | rfl <;> rfl) ubCf scmp_swo 78 #[] g 0 cap l.toArray w
      (enters_of Try.func78 (by kernel_rfl) rfl) (ub_cmpLays g 0 _ w) hH (lt_of_heap hh) (by rw [← hsz]; exact hl)
    rw [← hsz] at hcon
    refine hcon.mono ?_
    rintro e w' ⟨rfl, d', n, os, hp, hs, rfl⟩
    have hds : d'.size = (l.map UB.b).length := by rw [hp.1, hsz]
    have hdl : (d'.toList.map UB.b).length = (l.map UB.b).length := by rw [List.length_map, Array.length_toList, hds]
    refine ⟨rfl, d'.toList.map UB.b, ?_, ?_, ⟨hok, flat2 (d'.toList.map UB.b), ?_, flat2_reps _⟩, ?_⟩
    · have h1 := hp.2.2
      have e1 : d'.extract 0 (l.map UB.b).length = d' := by rw [← hds]; simp
      have e2 : l.toArray.extract 0 (l.map UB.b).length = l.toArray := by rw [hsz]; simp
      rw [e1, e2] at h1
      exact h1.map UB.b
    · rw [List.pairwise_map, List.pairwise_iff_getElem]
      intro i j hi hj hij
      have hj' : j < d'.size := by simpa using hj
      have h1 := hs i j (Nat.zero_le _) hij (by rw [← hds]; exact hj')
      rw [getElem!_pos d' j hj', getElem!_pos d' i (by omega)] at h1
      have h2 := of_decide_eq_false h1
      simp only [ubCf] at h2
      simpa [UB.b] using h2
    · refine ⟨by rw [flat2_length, List.length_map, Array.length_toList]; rfl, .inr ⟨g, cap, putCells id 0 (flatK ubEnc 2 d') cur, ?_, hg, ?_, ?_, hcm, ?_, ?_⟩⟩
      · rw [hdl]
      · show (grow (mapBlock (Sort.ahead w n) g _) os).heap[g]? = _
        rw [grow_heap (by rw [mapBlock_size]; exact lt_of_heap hh)]
        exact mapBlock_at (w := Sort.ahead w n) hh _
      · rw [hdl]; exact hnc
      · unfold putCells; rw [Array.size_mapIdx]; exact hcs
      · have e1 : (flatK ubEnc 2 d').size = (d'.toList.map UB.b).length * k40.sz := by rw [size_flatK, List.length_map, Array.length_toList]; rfl
        rw [← e1, putCells_take _ _ (by rw [size_flatK, hds, hcs]; exact Nat.mul_le_mul_right 2 hnc), flatK_ub]
    · exact sort_keeps.mono (fun k hk _ e => hk (by rw [e]; rfl))
end Go.Proofs.Ytafhdamdkefpkaa

/- Contracts of functions and lemmas, used by the proofs of the given statements. No condition beyond those that each lemma names. -/
import Derived.Test.YtedopalmfakeaaaBase
namespace Go.Proofs.Ytedopalmfakeaaa
open Go.RowKit

/-! ## the number of bits of a number below 2^24, as math/bits counts them -/
/-- the number of bits among the lowest f -/
def pop : Nat → Nat → Nat
  | 0, _ => 0
  | f + 1, n => n % 2 + pop f (n / 2)
def popc (n : Nat) : Nat := pop 24 n
def p1 (x : Nat) : Nat := ((x / 2) &&& 6148914691236517205) + (x &&& 6148914691236517205)
def p2 (x : Nat) : Nat := ((x / 4) &&& 3689348814741910323) + (x &&& 3689348814741910323)
def p3 (x : Nat) : Nat := (x / 16 + x) &&& 1085102592571150095
def p4 (x : Nat) : Nat := x + x / 256
def p5 (x : Nat) : Nat := x + x / 65536
def p6 (x : Nat) : Nat := x + x / 4294967296

theorem and_lane (q r a b : Nat) (hr : r < 256) (hb : b < 256) : (256 * q + r) &&& (256 * a + b) = 256 * (q &&& a) + (r &&& b) := by
  apply Nat.eq_of_testBit_eq
  intro i
  have hrb : r &&& b < 2 ^ 8 := Nat.and_lt_two_pow _ hb
  rw [Nat.testBit_and, show 256 = 2 ^ 8 from rfl, Nat.testBit_two_pow_mul_add _ hr, Nat.testBit_two_pow_mul_add _ hb, Nat.testBit_two_pow_mul_add _ hrb]
  split
  · rw [Nat.testBit_and]
  · rw [Nat.testBit_and]
def g1 (M x : Nat) : Nat := ((x / 2) &&& M) + (x &&& M)
def g2 (M x : Nat) : Nat := ((x / 4) &&& M) + (x &&& M)
def g3 (M x : Nat) : Nat := (x / 16 + x) &&& M
theorem g1_lane (M q r : Nat) (hr : r < 256) : g1 (256 * M + 85) (256 * q + r) = 256 * g1 M q + g1 85 r := by
  have e : (256 * q + r) / 2 = 256 * (q / 2) + (q % 2 * 128 + r / 2) := by omega
  have hm : q % 2 * 128 + r / 2 < 256 := by omega
  have f : (q % 2 * 128 + r / 2) &&& 85 = (r / 2) &&& 85 := by
    have key : ∀ t, t < 2 → ∀ r, r < 256 → (t * 128 + r / 2) &&& 85 = (r / 2) &&& 85 := by decide +kernel
    exact key _ (by omega) _ hr
  unfold g1
  rw [e, and_lane _ _ _ _ hm (by omega), and_lane _ _ _ _ hr (by omega), f]
  omega
theorem g2_lane (M q r : Nat) (hr : r < 256) : g2 (256 * M + 51) (256 * q + r) = 256 * g2 M q + g2 51 r := by
  have e : (256 * q + r) / 4 = 256 * (q / 4) + (q % 4 * 64 + r / 4) := by omega
  have hm : q % 4 * 64 + r / 4 < 256 := by omega
  have f : (q % 4 * 64 + r / 4) &&& 51 = (r / 4) &&& 51 := by
    have key : ∀ t, t < 4 → ∀ r, r < 256 → (t * 64 + r / 4) &&& 51 = (r / 4) &&& 51 := by decide +kernel
    exact key _ (by omega) _ hr
  unfold g2
  rw [e, and_lane _ _ _ _ hm (by omega), and_lane _ _ _ _ hr (by omega), f]
  omega
theorem g3_lane (M q r : Nat) (hr : r ≤ 68) (hq : q % 16 ≤ 4) : g3 (256 * M + 15) (256 * q + r) = 256 * g3 M q + g3 15 r := by
  have e : (256 * q + r) / 16 + (256 * q + r) = 256 * (q / 16 + q) + (q % 16 * 16 + (r / 16 + r)) := by omega
  have hm : q % 16 * 16 + (r / 16 + r) < 256 := by omega
  have f : (q % 16 * 16 + (r / 16 + r)) &&& 15 = (r / 16 + r) &&& 15 := by
    have key : ∀ t, t < 5 → ∀ r, r < 69 → (t * 16 + (r / 16 + r)) &&& 15 = (r / 16 + r) &&& 15 := by decide +kernel
    exact key _ (by omega) _ (by omega)
  unfold g3
  rw [e, and_lane _ _ _ _ hm (by omega), f]
def b8 (r : Nat) : Nat := g3 15 (g2 51 (g1 85 r))
theorem b8_pop : ∀ r, r < 256 → b8 r = pop 8 r ∧ g1 85 r < 256 ∧ g2 51 (g1 85 r) ≤ 68 ∧ g2 51 (g1 85 r) % 16 ≤ 4 ∧ b8 r ≤ 8 := by decide +kernel
theorem pop_add (f g n : Nat) : pop (f + g) n = pop f n + pop g (n / 2 ^ f) := by
  induction f generalizing n with
  | zero => simp [pop]
  | succ f ih =>
    rw [show f + 1 + g = (f + g) + 1 from by omega]
    simp only [pop]
    rw [ih, Nat.div_div_eq_div_mul, show (2 : Nat) ^ (f + 1) = 2 * 2 ^ f from by rw [Nat.pow_succ]; omega]
    omega
theorem pop_mod (f n : Nat) : pop f n = pop f (n % 2 ^ f) := by
  induction f generalizing n with
  | zero => rfl
  | succ f ih =>
    simp only [pop]
    have h1 : n % 2 ^ (f + 1) % 2 = n % 2 := Nat.mod_mod_of_dvd _ (by rw [Nat.pow_succ]; exact Nat.dvd_mul_left 2 _)
    have h2 : n % 2 ^ (f + 1) / 2 = n / 2 % 2 ^ f := by
      rw [Nat.pow_succ, Nat.mul_comm, Nat.mod_mul_right_div_self]
    rw [h1, h2, ← ih]
/-- a number's bytes -/
theorem lanes (x : Nat) : ∃ a b c, x % 16777216 = 256 * (256 * c + b) + a ∧ a < 256 ∧ b < 256 ∧ c < 256 :=
  ⟨x % 256, x / 256 % 256, x / 65536 % 256, by omega, by omega, by omega, by omega⟩
theorem fin3 (u v w : Nat) (hu : u ≤ 8) (hv : v ≤ 8) (hw : w ≤ 8) : p6 (p5 (p4 (256 * (256 * (256 * 0 + w) + v) + u))) % 128 = u + v + w := by
  have e4 : p4 (256 * (256 * (256 * 0 + w) + v) + u) = (u + v) + 256 * (v + w) + 65536 * w := by unfold p4; omega
  have e5 : p5 ((u + v) + 256 * (v + w) + 65536 * w) = (u + v) + 256 * (v + w) + 65536 * w + w := by unfold p5; omega
  have e6 : p6 ((u + v) + 256 * (v + w) + 65536 * w + w) = (u + v) + 256 * (v + w) + 65536 * w + w := by unfold p6; omega
  rw [e4, e5, e6]
  omega
theorem swar (x : Nat) (hx : x < 16777216) : p6 (p5 (p4 (p3 (p2 (p1 x))))) % 128 = popc x ∧ p3 (p2 (p1 x)) < 16777216 ∧ p2 (p1 x) < 16777216 ∧ p1 x < 16777216 := by
  obtain ⟨a, b, c, hx', ha, hb, hc⟩ := lanes x
  have e0 : x = 256 * (256 * (256 * 0 + c) + b) + a := by omega
  have e1 : p1 x = 256 * (256 * (256 * 0 + g1 85 c) + g1 85 b) + g1 85 a := by
    show g1 (256 * (256 * (256 * 366503875925 + 85) + 85) + 85) x = _
    rw [e0, g1_lane _ _ _ ha, g1_lane _ _ _ hb, g1_lane _ _ _ hc]
    simp [g1]
  obtain ⟨A1, A2, A3, A4, A5⟩ := b8_pop a ha
  obtain ⟨B1, B2, B3, B4, B5⟩ := b8_pop b hb
  obtain ⟨C1, C2, C3, C4, C5⟩ := b8_pop c hc
  have e2 : p2 (p1 x) = 256 * (256 * (256 * 0 + g2 51 (g1 85 c)) + g2 51 (g1 85 b)) + g2 51 (g1 85 a) := by
    show g2 (256 * (256 * (256 * 219902325555 + 51) + 51) + 51) _ = _
    rw [e1, g2_lane _ _ _ A2, g2_lane _ _ _ B2, g2_lane _ _ _ C2]
    simp [g2]
  have e3 : p3 (p2 (p1 x)) = 256 * (256 * (256 * 0 + b8 c) + b8 b) + b8 a := by
    show g3 (256 * (256 * (256 * 64677154575 + 15) + 15) + 15) _ = _
    rw [e2, g3_lane _ _ _ A3 (by omega), g3_lane _ _ _ B3 (by omega), g3_lane _ _ _ C3 (by omega)]
    simp [g3, b8]
  refine ⟨?_, by omega, by omega, by omega⟩
  have hp : popc x = b8 a + b8 b + b8 c := by
    unfold popc
    rw [show (24 : Nat) = 8 + (8 + 8) from rfl, pop_add, pop_add, A1, B1, C1]
    have f1 : pop 8 x = pop 8 a := by rw [pop_mod]; congr 1; omega
    have f2 : pop 8 (x / 2 ^ 8) = pop 8 b := by rw [pop_mod]; congr 1; omega
    have f3 : pop 8 (x / 2 ^ 8 / 2 ^ 8) = pop 8 c := by rw [pop_mod]; congr 1; omega
    rw [f1, f2, f3]
    omega
  rw [e3, hp]
  exact fin3 _ _ _ A5 B5 C5
theorem pop_le (f n : Nat) : pop f n ≤ f := by
  induction f generalizing n with
  | zero => exact Nat.le_refl _
  | succ f ih => simp only [pop]; have := ih (n / 2); omega
theorem popc_le (n : Nat) : popc n ≤ 24 := pop_le 24 n

theorem pop_zero (f : Nat) : pop f 0 = 0 := by
  induction f with
  | zero => rfl
  | succ f ih => simp only [pop]; rw [ih]
theorem popc_half (m : Nat) (hm : m < 16777216) : popc m = m % 2 + popc (m / 2) := by
  have h1 : pop 24 m = m % 2 + pop 23 (m / 2) := rfl
  have h2 : pop 24 (m / 2) = pop 23 (m / 2) + pop 1 (m / 2 / 2 ^ 23) := pop_add 23 1 (m / 2)
  have h3 : m / 2 / 2 ^ 23 = 0 := by omega
  rw [h3, pop_zero] at h2
  unfold popc
  omega
theorem i64_and1 (m : Nat) (hm : m < 16777216) : bits .and .i64 (m : Int) 1 = ((m % 2 : Nat) : Int) := by
  rw [show (1 : Int) = ((1 : Nat) : Int) from rfl, i64_and _ _ (by omega) (by omega), Nat.and_one_is_mod]
theorem u64_and' (a : Nat) (m : Nat) (ha : a < 18446744073709551616) (hm : m < 18446744073709551616) : bits .and .u64 (a : Int) (m : Int) = ((a &&& m : Nat) : Int) := u64_and_nat a m ha hm
theorem oc1 (x : Nat) (hx : x < 16777216) : IntKind.u64.wrap (bits .and .u64 ((x : Int) / 2) 6148914691236517205 + bits .and .u64 (x : Int) 6148914691236517205) = (p1 x : Nat) := by
  have h := (swar x hx).2.2.2
  rw [show ((x : Int) / 2) = ((x / 2 : Nat) : Int) from by omega]
  rw [show (6148914691236517205 : Int) = ((6148914691236517205 : Nat) : Int) from rfl, u64_and_nat _ _ (by omega) (by omega), u64_and_nat _ _ (by omega) (by omega), IntKind.wrap_u64]
  unfold p1 at *
  omega
theorem oc2 (x : Nat) (hx : x < 16777216) (h : p2 x < 16777216) : IntKind.u64.wrap (bits .and .u64 ((x : Int) / 4) 3689348814741910323 + bits .and .u64 (x : Int) 3689348814741910323) = (p2 x : Nat) := by
  rw [show ((x : Int) / 4) = ((x / 4 : Nat) : Int) from by omega]
  rw [show (3689348814741910323 : Int) = ((3689348814741910323 : Nat) : Int) from rfl, u64_and_nat _ _ (by omega) (by omega), u64_and_nat _ _ (by omega) (by omega), IntKind.wrap_u64]
  unfold p2 at *
  omega
theorem oc3 (x : Nat) (hx : x < 16777216) : bits .and .u64 ((x : Int) / 16 + (x : Int)) 1085102592571150095 = (p3 x : Nat) := by
  rw [show ((x : Int) / 16 + (x : Int)) = ((x / 16 + x : Nat) : Int) from by omega]
  rw [show (1085102592571150095 : Int) = ((1085102592571150095 : Nat) : Int) from rfl, u64_and_nat _ _ (by omega) (by omega)]
  rfl
theorem oc7 (x : Nat) (hx : x < 16777216 * 512) : bits .and .i64 (x : Int) 127 = ((x % 128 : Nat) : Int) := by
  rw [show (127 : Int) = ((127 : Nat) : Int) from rfl, i64_and _ _ (by omega) (by omega)]
  congr 1
  exact Nat.and_two_pow_sub_one_eq_mod x 7
end Go.Proofs.Ytedopalmfakeaaa

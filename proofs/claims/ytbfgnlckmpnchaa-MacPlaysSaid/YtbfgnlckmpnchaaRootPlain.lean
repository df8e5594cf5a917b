/-
  sha: roots, in plain terms: bit by bit.
-/
import Derived.Test.YtbfgnlckmpnchaaDigs
namespace Go.Proofs.Ytbfgnlckmpnchaa
open Go.RowKit
set_option linter.unusedVariables false
set_option linter.unusedSimpArgs false
/-- Is x, by 2 to the 32, to a power, n at most? -/
def fitsB (x n p : Nat) : Bool := decide (x ^ p ≤ n * 2 ^ (32 * p))
/-- From x on, the bits below k are tried. -/
def rbits (n p : Nat) : Nat → Nat → Nat
  | 0, x => x
  | k + 1, x => if fitsB (x + 2 ^ k) n p then rbits n p k (x + 2 ^ k) else rbits n p k x
def rootf (n p : Nat) : UInt32 := UInt32.ofNat (rbits n p 38 0)
theorem fits2 (x n : Nat) : fitsB x n 2 = decide (x * x ≤ n * 18446744073709551616) := by
  unfold fitsB
  rw [Nat.pow_two]
theorem fits3 (x n : Nat) : fitsB x n 3 = decide (x * x * x ≤ n * 79228162514264337593543950336) := by
  unfold fitsB
  rw [Nat.pow_succ, Nat.pow_two]
theorem fits2_of {x n hi lo : Nat} (h : lo + 18446744073709551616 * hi = x * x) (hlo : lo < 18446744073709551616) (b : Bool) (hb : b = true ↔ hi < n ∨ (hi = n ∧ lo = 0)) : b = fitsB x n 2 := by
  rw [fits2]
  have : (x * x ≤ n * 18446744073709551616) ↔ (hi < n ∨ (hi = n ∧ lo = 0)) := by rw [← h]; omega
  cases b
  · have h1 : ¬ (hi < n ∨ (hi = n ∧ lo = 0)) := fun h => Bool.false_ne_true (hb.2 h)
    rw [← this] at h1
    simp [h1]
  · have h1 := this.2 (hb.1 rfl)
    simp [h1]
/-- The cube, of x below 2 to the 38, out of three words. -/
theorem fits3_of {x n hi lo a b c d mid carry : Nat} (hx : x < 274877906944) (h1 : lo + 18446744073709551616 * hi = x * x) (h2 : b + 18446744073709551616 * a = lo * x) (h3 : d + 18446744073709551616 * c = hi * x) (h4 : mid + 18446744073709551616 * carry = a + d)
    (hlo : lo < 18446744073709551616) (hb' : b < 18446744073709551616) (hmid : mid < 18446744073709551616) (r : Bool)
    (hr : r = true ↔ (c + carry) * 4294967296 + mid / 4294967296 < n ∨ ((c + carry) * 4294967296 + mid / 4294967296 = n ∧ mid % 4294967296 = 0 ∧ b = 0)) : r = fitsB x n 3 := by
  rw [fits3]
  have e : x * x * x = b + 18446744073709551616 * mid + 340282366920938463463374607431768211456 * (c + carry) := by
    rw [← h1, Nat.add_mul, Nat.mul_assoc, ← h2, ← h3]
    omega
  have : (x * x * x ≤ n * 79228162514264337593543950336) ↔ ((c + carry) * 4294967296 + mid / 4294967296 < n ∨ ((c + carry) * 4294967296 + mid / 4294967296 = n ∧ mid % 4294967296 = 0 ∧ b = 0)) := by
    rw [e]; omega
  cases r
  · have h1 : ¬ _ := fun h => Bool.false_ne_true (hr.2 h)
    rw [← this] at h1
    simp [h1]
  · have h1 := this.2 (hr.1 rfl)
    simp [h1]
/-- What three words of a cube of x below 2 to the 38 are below. -/
theorem cube_top {x hi lo a b c d mid carry : Nat} (hx : x < 274877906944) (h1 : lo + 18446744073709551616 * hi = x * x) (h2 : b + 18446744073709551616 * a = lo * x) (h3 : d + 18446744073709551616 * c = hi * x) (h4 : mid + 18446744073709551616 * carry = a + d) :
    c + carry < 4294967296 := by
  have e : x * x * x = b + 18446744073709551616 * mid + 340282366920938463463374607431768211456 * (c + carry) := by
    rw [← h1, Nat.add_mul, Nat.mul_assoc, ← h2, ← h3]
    omega
  have hxx : x * x ≤ 274877906943 * 274877906943 := Nat.mul_le_mul (by omega) (by omega)
  have hxxx : x * x * x ≤ 274877906943 * 274877906943 * 274877906943 := Nat.mul_le_mul hxx (by omega)
  omega
/-- x is what has been found, the bits below k not tried. -/
structure RB (k x : Nat) : Prop where
  low : x % 2 ^ k = 0
  top : x + 2 ^ k ≤ 274877906944
theorem RB.next {k x : Nat} (h : RB (k + 1) x) : RB k (x + 2 ^ k) ∧ RB k x := by
  obtain ⟨h1, h2⟩ := h
  have hp : 0 < 2 ^ k := Nat.pow_pos (by omega)
  rw [Nat.pow_succ] at h1 h2
  have h3 : x % 2 ^ k = 0 := Nat.mod_eq_zero_of_dvd (Nat.dvd_trans (Nat.dvd_mul_right _ _) (Nat.dvd_of_mod_eq_zero h1))
  exact ⟨⟨by rw [Nat.add_mod_right]; exact h3, by omega⟩, ⟨h3, by omega⟩⟩
theorem RB.or {k x : Nat} (h : RB (k + 1) x) : x ||| 2 ^ k = x + 2 ^ k := by
  have h1 := h.low
  have e : x = 2 ^ (k + 1) * (x / 2 ^ (k + 1)) := by
    have := Nat.div_add_mod x (2 ^ (k + 1))
    omega
  have hlt : 2 ^ k < 2 ^ (k + 1) := by rw [Nat.pow_succ]; have : 0 < 2 ^ k := Nat.pow_pos (by omega); omega
  rw [e]
  exact (Nat.two_pow_add_eq_or_of_lt hlt _).symm
end Go.Proofs.Ytbfgnlckmpnchaa

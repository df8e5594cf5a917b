/-
  cha: the document's turn to the left, bit by bit: what it computes is the turn by as many bits.
-/
import Derived.Test.YtghojlkogeoejaaQuarter
import Derived.BigQuiet
namespace Go.Proofs.Ytghojlkogeoejaa
open Go.RowKit
def lstep (x : UInt32) : UInt32 := 2 * x + x / 2147483648
def lefts (x : UInt32) : Nat → UInt32
  | 0 => x
  | n + 1 => lstep (lefts x n)
theorem bv_turn (x : BitVec 32) (a : Nat) (ha : a < 31) (y : BitVec 32) (hy : y = x <<< a ||| x >>> (32 - a)) : y <<< 1 ||| y >>> 31 = x <<< (a + 1) ||| x >>> (32 - (a + 1)) := by
  subst hy
  ext i hi
  simp only [BitVec.getElem_or, BitVec.getElem_ushiftRight, BitVec.getElem_shiftLeft, BitVec.getLsbD_or, BitVec.getLsbD_shiftLeft, BitVec.getLsbD_ushiftRight]
  by_cases h0 : i = 0
  · subst h0
    have h1 : ¬ (31 : Nat) < a := by omega
    simp [h1, show 32 - (a + 1) = 31 - a by omega, BitVec.getLsbD_of_ge x (32 - a + 31) (by omega)]
  · have h31 : ¬ (31 + i < 32) := by omega
    by_cases h1 : i - 1 < a
    · simp [h0, h1, h31, show i < a + 1 by omega, BitVec.getLsbD_of_ge x (32 - a + (31 + i)) (by omega), show 32 - a + (i - 1) = 32 - (a + 1) + i by omega]
    · simp [h0, h1, h31, show ¬ i < a + 1 by omega, BitVec.getLsbD_of_ge x (32 - a + (31 + i)) (by omega), BitVec.getLsbD_of_ge x (32 - a + (i - 1)) (by omega), BitVec.getLsbD_of_ge x (31 - a + i) (by omega), show i - 1 - a = i - (a + 1) by omega]
theorem bv_step (x : BitVec 32) : 2 * x + x / 2147483648 = x <<< 1 ||| x >>> 31 := by
  have h1 : 2 * x = x <<< 1 := by
    apply BitVec.eq_of_toNat_eq
    simp [BitVec.toNat_mul, BitVec.toNat_shiftLeft, Nat.shiftLeft_eq, Nat.mul_comm]
  have h2 : x / 2147483648 = x >>> 31 := by
    apply BitVec.eq_of_toNat_eq
    simp [BitVec.toNat_udiv, Nat.shiftRight_eq_div_pow]
  rw [h1, h2]
  apply BitVec.add_eq_or_of_and_eq_zero
  ext i hi
  simp only [BitVec.getElem_and, BitVec.getElem_ushiftRight, BitVec.getElem_shiftLeft, BitVec.getElem_zero]
  by_cases h0 : i = 0
  · subst h0; simp
  · simp [BitVec.getLsbD_of_ge x (31 + i) (by omega)]
theorem lefts_bv (x : UInt32) : ∀ n : Nat, n < 32 → (lefts x n).toBitVec = x.toBitVec <<< n ||| x.toBitVec >>> (32 - n)
  | 0, _ => by
    simp only [lefts]
    ext i hi
    simp only [BitVec.getElem_or, BitVec.getElem_ushiftRight, BitVec.getElem_shiftLeft]
    simp
  | n + 1, h => by
    have ih := lefts_bv x n (by omega)
    have e : (lefts x (n + 1)).toBitVec = (lefts x n).toBitVec <<< 1 ||| (lefts x n).toBitVec >>> 31 := bv_step (lefts x n).toBitVec
    rw [e]
    exact bv_turn x.toBitVec n (by omega) _ ih
theorem lefts_rot (x : UInt32) (n : UInt32) (h : n = 16 ∨ n = 12 ∨ n = 8 ∨ n = 7) : lefts x n.toNat = rot x n := by
  apply UInt32.eq_of_toBitVec_eq
  rcases h with rfl | rfl | rfl | rfl
  · exact lefts_bv x 16 (by omega)
  · exact lefts_bv x 12 (by omega)
  · exact lefts_bv x 8 (by omega)
  · exact lefts_bv x 7 (by omega)

theorem left_any (x : UInt32) (n : Nat) (hn : n ≤ 100) (w : World) : Calls Try.prog 21 #[v32 x, .int .i64 n] w fun e w' => e = .returned (v32 (lefts x n)) ∧ w = w' := by
  go_enter Try.func21, Try.ntmps21
  go_wp2_with fail
  go_loopw [5, 0] (fun z y wr => ∃ i : Nat, i ≤ n ∧ z = .int .i64 i ∧ y = v32 (lefts x i) ∧ wr = w) (fun z _ _ => n - (intOf z).toNat)
  case atStart => exact ⟨0, Nat.zero_le _, rfl, rfl, rfl⟩
  case round =>
    obtain ⟨i, hi, rfl, rfl, rfl⟩ := hrel
    by_cases h4 : i < n
    · have g4 : (i : Int) < (n : Int) := by omega
      go_wp2_with fail
      go_roundw
      case rel => exact ⟨i + 1, by omega, by go_num, rfl, trivial⟩
      case measure => simp [intOf]; omega
    · obtain rfl : i = n := by omega
      go_wp2_with fail
      go_ret
      exact ⟨rfl, rfl⟩
end Go.Proofs.Ytghojlkogeoejaa

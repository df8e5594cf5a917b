/-
  sha: the document's words: turned right, shifted, bit by bit; bytes and words.
-/
import Derived.Test.YtbfgnlckmpnchaaWords
namespace Go.Proofs.Ytbfgnlckmpnchaa
open Go.RowKit
set_option linter.unusedVariables false
set_option linter.unusedSimpArgs false
def rstep (x : UInt32) : UInt32 := if x % 2 = 1 then x / 2 + 2147483648 else x / 2
def rights (x : UInt32) : Nat → UInt32
  | 0 => x
  | n + 1 => rstep (rights x n)
theorem bv_turn (x : BitVec 32) (a : Nat) (ha : a < 31) (y : BitVec 32) (hy : y = x >>> a ||| x <<< (32 - a)) : y >>> 1 ||| y <<< 31 = x >>> (a + 1) ||| x <<< (32 - (a + 1)) := by
  subst hy
  apply BitVec.eq_of_getLsbD_eq
  intro i hi
  simp only [BitVec.getLsbD_or, BitVec.getLsbD_shiftLeft, BitVec.getLsbD_ushiftRight]
  by_cases h31 : i = 31
  · subst h31
    simp [BitVec.getLsbD_of_ge x (a + (1 + 31)) (by omega), BitVec.getLsbD_of_ge x (a + 32) (by omega), BitVec.getLsbD_of_ge x (a + 1 + 31) (by omega), show ¬ (31 : Nat) < 31 - a by omega, show 31 - (31 - a) = a by omega, show (0 : Nat) < 32 - a by omega]
  · have h1 : i < 31 := by omega
    have h2 : 1 + i < 32 := by omega
    by_cases h3 : 1 + i < 32 - a
    · simp [h1, h2, h3, hi, show i < 31 - a by omega, show a + (1 + i) = a + 1 + i by omega]
    · simp [h1, h2, h3, hi, show ¬ i < 31 - a by omega, show a + (1 + i) = a + 1 + i by omega, show 1 + i - (32 - a) = i - (31 - a) by omega]
theorem rstep_bv (x : UInt32) : (rstep x).toBitVec = x.toBitVec >>> 1 ||| x.toBitVec <<< 31 := by
  have hx := x.toNat_lt
  have h : x.toBitVec >>> 1 + x.toBitVec <<< 31 = x.toBitVec >>> 1 ||| x.toBitVec <<< 31 := by
    apply BitVec.add_eq_or_of_and_eq_zero
    ext i hi
    simp only [BitVec.getElem_and, BitVec.getElem_ushiftRight, BitVec.getElem_shiftLeft, BitVec.getElem_zero]
    by_cases h0 : i < 31
    · simp [h0]
    · simp [BitVec.getLsbD_of_ge x.toBitVec (1 + i) (by omega)]
  rw [← h]
  apply BitVec.eq_of_toNat_eq
  have e : (rstep x).toNat = x.toNat / 2 + (x.toNat % 2) * 2147483648 := by
    have hm : (x % 2).toNat = x.toNat % 2 := rfl
    have hd : (x / 2).toNat = x.toNat / 2 := rfl
    unfold rstep
    by_cases h1 : x % 2 = 1
    · have : x.toNat % 2 = 1 := by rw [← hm, h1]; rfl
      rw [if_pos h1, UInt32.toNat_add, hd, this, show (2147483648 : UInt32).toNat = 2147483648 from rfl]
      omega
    · have : x.toNat % 2 ≠ 1 := fun h2 => h1 (UInt32.toNat_inj.1 (by rw [hm, h2]; rfl))
      rw [if_neg h1, hd]
      omega
  have e2 : (rstep x).toBitVec.toNat = (rstep x).toNat := rfl
  rw [e2, e, BitVec.toNat_add, BitVec.toNat_ushiftRight, BitVec.toNat_shiftLeft, Nat.shiftRight_eq_div_pow, Nat.shiftLeft_eq]
  have e3 : x.toBitVec.toNat = x.toNat := rfl
  rw [e3]
  omega
theorem rights_bv (x : UInt32) : ∀ n : Nat, n < 32 → (rights x n).toBitVec = x.toBitVec >>> n ||| x.toBitVec <<< (32 - n)
  | 0, _ => by
    simp only [rights]
    ext i hi
    simp only [BitVec.getElem_or, BitVec.getElem_ushiftRight, BitVec.getElem_shiftLeft]
    simp [hi]
  | n + 1, h => by
    have ih := rights_bv x n (by omega)
    rw [rights, rstep_bv]
    exact bv_turn x.toBitVec n (by omega) _ ih
theorem rights_ror (k : Nat) (hk : k = 6 ∨ k = 11 ∨ k = 25 ∨ k = 2 ∨ k = 13 ∨ k = 22 ∨ k = 7 ∨ k = 18 ∨ k = 17 ∨ k = 19) (x : UInt32) : rights x k = ror x (UInt32.ofNat k) := by
  apply UInt32.eq_of_toBitVec_eq
  rcases hk with rfl | rfl | rfl | rfl | rfl | rfl | rfl | rfl | rfl | rfl
  all_goals exact rights_bv x _ (by omega)
def shifts (x : UInt32) : Nat → UInt32
  | 0 => x
  | n + 1 => shifts x n / 2
theorem shifts_nat (x : UInt32) : ∀ n : Nat, (shifts x n).toNat = x.toNat / 2 ^ n
  | 0 => by simp [shifts]
  | n + 1 => by
    have ih := shifts_nat x n
    simp only [shifts, UInt32.toNat_div, ih]
    rw [Nat.pow_succ, ← Nat.div_div_eq_div_mul]
    rfl
theorem shifts_shr (k : Nat) (hk : k = 3 ∨ k = 10) (x : UInt32) : shifts x k = x >>> UInt32.ofNat k := by
  apply UInt32.toNat_inj.1
  rcases hk with rfl | rfl
  all_goals
    rw [shifts_nat, UInt32.toNat_shiftRight, Nat.shiftRight_eq_div_pow]
    rfl
set_option maxHeartbeats 1000000 in
theorem rights_any (n : Nat) (hn : n ≤ 100) (x : UInt32) (w : World) : Calls Try.prog 42 #[v32 x, .int .i64 (n : Int)] w fun e w' => e = .returned (v32 (rights x n)) ∧ w' = w := by
  go_enter Try.func42, Try.ntmps42
  go_wp2_with fail
  go_loop [5, 0] (fun z y => ∃ i : Nat, i ≤ n ∧ z = .int .i64 i ∧ y = v32 (rights x i)) (fun z _ => n - (intOf z).toNat)
  case atStart => exact ⟨0, Nat.zero_le _, rfl, rfl⟩
  case round =>
    obtain ⟨i, hi, rfl, rfl⟩ := hrel
    by_cases h4 : i < n
    · have g4 : (i : Int) < (n : Int) := by omega
      have hs : rights x (i + 1) = rstep (rights x i) := rfl
      unfold rstep at hs
      generalize rights x i = y at *
      by_cases h1 : y % 2 = 1
      · rw [if_pos h1] at hs
        have hb1 : (y % 2 == 1) = true := by simp [h1]
        have HS := keep hs
        clear hs
        go_wp2_with fail
        go_round
        case rel => exact ⟨i + 1, by omega, by go_num, by rw [HS.out]⟩
        case measure => simp [intOf]; omega
      · rw [if_neg h1] at hs
        have hb1 : (y % 2 == 1) = false := by simp [h1]
        have HS := keep hs
        clear hs
        go_wp2_with fail
        go_round
        case rel => exact ⟨i + 1, by omega, by go_num, by rw [HS.out]⟩
        case measure => simp [intOf]; omega
    · obtain rfl : i = n := by omega
      go_wp2_with fail
      go_ret
      exact ⟨rfl, rfl⟩
theorem shifts_any (n : Nat) (hn : n ≤ 100) (x : UInt32) (w : World) : Calls Try.prog 43 #[v32 x, .int .i64 (n : Int)] w fun e w' => e = .returned (v32 (shifts x n)) ∧ w' = w := by
  go_enter Try.func43, Try.ntmps43
  go_wp2_with fail
  go_loop [5, 0] (fun z y => ∃ i : Nat, i ≤ n ∧ z = .int .i64 i ∧ y = v32 (shifts x i)) (fun z _ => n - (intOf z).toNat)
  case atStart => exact ⟨0, Nat.zero_le _, rfl, rfl⟩
  case round =>
    obtain ⟨i, hi, rfl, rfl⟩ := hrel
    by_cases h4 : i < n
    · have g4 : (i : Int) < (n : Int) := by omega
      go_wp2_with fail
      go_round
      case rel => exact ⟨i + 1, by omega, by go_num, rfl⟩
      case measure => simp [intOf]; omega
    · obtain rfl : i = n := by omega
      go_wp2_with fail
      go_ret
      exact ⟨rfl, rfl⟩
theorem right_any (k : Nat) (hk : k = 6 ∨ k = 11 ∨ k = 25 ∨ k = 2 ∨ k = 13 ∨ k = 22 ∨ k = 7 ∨ k = 18 ∨ k = 17 ∨ k = 19) (x : UInt32) (w : World) : Calls Try.prog 42 #[v32 x, .int .i64 (k : Int)] w fun e w' => e = .returned (v32 (ror x (UInt32.ofNat k))) ∧ w' = w := by
  rw [← rights_ror k hk]
  exact rights_any k (by omega) x w
theorem shift_any (k : Nat) (hk : k = 3 ∨ k = 10) (x : UInt32) (w : World) : Calls Try.prog 43 #[v32 x, .int .i64 (k : Int)] w fun e w' => e = .returned (v32 (x >>> UInt32.ofNat k)) ∧ w' = w := by
  rw [← shifts_shr k hk]
  exact shifts_any k (by omega) x w
theorem four_bytes (a b c d : UInt8) : (((d.toUInt32 * (256 : UInt32) + c.toUInt32) * (256 : UInt32) + b.toUInt32) * (256 : UInt32) + a.toUInt32) = a.toUInt32 ||| b.toUInt32 <<< 8 ||| c.toUInt32 <<< 16 ||| d.toUInt32 <<< 24 := by
  have ha := a.toNat_lt
  have hb := b.toNat_lt
  have hc := c.toNat_lt
  have hd := d.toNat_lt
  apply UInt32.toNat_inj.1
  have e8 : (b.toUInt32 <<< 8).toNat = 2 ^ 8 * b.toNat := by simp [UInt32.toNat_shiftLeft, Nat.shiftLeft_eq]; omega
  have e16 : (c.toUInt32 <<< 16).toNat = 2 ^ 16 * c.toNat := by simp [UInt32.toNat_shiftLeft, Nat.shiftLeft_eq]; omega
  have e24 : (d.toUInt32 <<< 24).toNat = 2 ^ 24 * d.toNat := by simp [UInt32.toNat_shiftLeft, Nat.shiftLeft_eq]; omega
  rw [UInt32.toNat_or, UInt32.toNat_or, UInt32.toNat_or, e8, e16, e24, UInt8.toNat_toUInt32]
  rw [Nat.or_comm a.toNat, ← Nat.two_pow_add_eq_or_of_lt (show a.toNat < 2 ^ 8 by omega)]
  rw [Nat.or_comm _ (2 ^ 16 * _), ← Nat.two_pow_add_eq_or_of_lt (show 2 ^ 8 * b.toNat + a.toNat < 2 ^ 16 by omega)]
  rw [Nat.or_comm _ (2 ^ 24 * _), ← Nat.two_pow_add_eq_or_of_lt (show 2 ^ 16 * c.toNat + (2 ^ 8 * b.toNat + a.toNat) < 2 ^ 24 by omega)]
  simp only [UInt32.toNat_add, UInt32.toNat_mul, UInt8.toNat_toUInt32, show (256 : UInt32).toNat = 256 from rfl]
  omega
theorem word4_mul (l : List UInt8) (j : Nat) : (((bt l (4 * j)).toUInt32 * 256 + (bt l (4 * j + 1)).toUInt32) * 256 + (bt l (4 * j + 2)).toUInt32) * 256 + (bt l (4 * j + 3)).toUInt32 = word4 l j := by
  rw [four_bytes]
  unfold word4
  generalize (bt l (4 * j)).toUInt32 <<< 24 = s
  generalize (bt l (4 * j + 1)).toUInt32 <<< 16 = r
  generalize (bt l (4 * j + 2)).toUInt32 <<< 8 = q
  generalize (bt l (4 * j + 3)).toUInt32 = p
  rw [UInt32.or_comm _ s, UInt32.or_comm _ r, UInt32.or_comm p q, ← UInt32.or_assoc, ← UInt32.or_assoc]
/-- The bytes of a word, one after the other. -/
def down (x : UInt32) : Nat → UInt32
  | 0 => x
  | j + 1 => down x j / 256
theorem down_nat (x : UInt32) : ∀ j : Nat, (down x j).toNat = x.toNat / 256 ^ j
  | 0 => by simp [down]
  | j + 1 => by
    have ih := down_nat x j
    simp only [down, UInt32.toNat_div, ih]
    rw [Nat.pow_succ, ← Nat.div_div_eq_div_mul]
    rfl
theorem down_byte (x : UInt32) (j : Nat) (hj : j < 4) : (down x j % 256).toUInt8 = (x >>> UInt32.ofNat (8 * j)).toUInt8 := by
  apply UInt8.toNat_inj.1
  have h1 : (x >>> UInt32.ofNat (8 * j)).toNat = x.toNat / 256 ^ j := by
    rw [UInt32.toNat_shiftRight, Nat.shiftRight_eq_div_pow, UInt32.toNat_ofNat', Nat.mod_eq_of_lt (show 8 * j < 2 ^ 32 by omega), Nat.mod_eq_of_lt (show 8 * j < 32 by omega), Nat.pow_mul]
  rw [UInt32.toNat_toUInt8, UInt32.toNat_toUInt8, UInt32.toNat_mod, down_nat, h1, show (256 : UInt32).toNat = 256 from rfl]
  omega
end Go.Proofs.Ytbfgnlckmpnchaa

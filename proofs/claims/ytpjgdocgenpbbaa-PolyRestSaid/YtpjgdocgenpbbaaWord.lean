/-
  poly: word and of: up to eight bytes as a word; up to sixteen, and a byte 1 behind, as a number.
-/
import Derived.Test.YtpjgdocgenpbbaaRest
namespace Go.Proofs.Ytpjgdocgenpbbaa
open Go.RowKit
/-- The number of bytes, the lowest first. -/
def leN : List UInt8 → Nat
  | [] => 0
  | b :: l => b.toNat + 256 * leN l
theorem leN_append : ∀ (a b : List UInt8), leN (a ++ b) = leN a + 256 ^ a.length * leN b
  | [], b => by simp [leN]
  | x :: a, b => by
    simp only [List.cons_append, leN, leN_append a b, List.length_cons, Nat.pow_succ]
    rw [Nat.mul_add, ← Nat.mul_assoc, Nat.mul_comm 256 (256 ^ a.length), Nat.add_assoc]
theorem leN_lt : ∀ (l : List UInt8), leN l < 256 ^ l.length
  | [] => by simp [leN]
  | x :: l => by
    have ih := leN_lt l
    have hx := x.toNat_lt
    simp only [leN, List.length_cons, Nat.pow_succ]
    omega
theorem leN_take_succ (l : List UInt8) (i : Nat) (h : i < l.length) : leN (l.take (i + 1)) = leN (l.take i) + 256 ^ i * (bt l i).toNat := by
  rw [List.take_succ_eq_append_getElem h, leN_append, bt_eq h, List.length_take, Nat.min_eq_left (Nat.le_of_lt h)]
  simp [leN]
theorem or_shift (x b : UInt64) (i : Nat) (hi : i < 8) (hx : x.toNat < 256 ^ i) (hb : b.toNat < 256) : (x ||| b <<< UInt64.ofNat (8 * i)).toNat = x.toNat + 256 ^ i * b.toNat := by
  have e : (256 : Nat) ^ i = 2 ^ (8 * i) := by rw [Nat.pow_mul]
  have hs : (b <<< UInt64.ofNat (8 * i)).toNat = 2 ^ (8 * i) * b.toNat := by
    rw [UInt64.toNat_shiftLeft, UInt64.toNat_ofNat', Nat.mod_eq_of_lt (show 8 * i < 2 ^ 64 by omega), Nat.mod_eq_of_lt (show 8 * i < 64 by omega), Nat.shiftLeft_eq, Nat.mul_comm, Nat.mod_eq_of_lt]
    have h1 : 2 ^ (8 * i) * b.toNat < 2 ^ (8 * i) * 256 := Nat.mul_lt_mul_of_pos_left hb (Nat.two_pow_pos _)
    have h2 : 2 ^ (8 * i) * 256 = 2 ^ (8 * (i + 1)) := by rw [show 8 * (i + 1) = 8 * i + 8 by omega, Nat.pow_add]
    have h3 : 2 ^ (8 * (i + 1)) ≤ 2 ^ 64 := Nat.pow_le_pow_right (by omega) (by omega)
    omega
  rw [UInt64.toNat_or, hs, Nat.or_comm, ← Nat.two_pow_add_eq_or_of_lt (by rw [← e]; exact hx), e, Nat.add_comm]
theorem word_any (l : List UInt8) (w : World) (hl : l.length ≤ 8) : Calls Try.prog 16 #[.string (tx l)] w fun e w' => ∃ x : UInt64, e = .returned (v64 x) ∧ x.toNat = leN l ∧ w = w' := by
  go_enter Try.func16, Try.ntmps16
  go_wp2_with fail
  go_loopw [7, 3] (fun z y wr => ∃ (i : Nat) (x : UInt64), i ≤ l.length ∧ z = .int .i64 i ∧ y = v64 x ∧ x.toNat = leN (l.take i) ∧ wr = w) (fun z _ _ => l.length - (intOf z).toNat)
  case atStart => exact ⟨0, 0, Nat.zero_le _, rfl, rfl, rfl, rfl⟩
  case round =>
    obtain ⟨i, x, hi, rfl, rfl, hx, rfl⟩ := hrel
    by_cases h4 : i < l.length
    · have g4 : (i : Int) < (l.length : Int) := by omega
      have x0 := idx_tx (P := Try.prog) 9 Try.underlying9 l .i64 (i : Int) i rfl h4
      have hsh : ∀ t, binOp .shl t (v64 (bt l i).toUInt64) (.int .i64 (8 * (i : Int))) = pure (v64 ((bt l i).toUInt64 <<< UInt64.ofNat (8 * i))) := fun t => by
        have := v64_shl t .i64 (bt l i).toUInt64 (8 * (i : Int)) (by omega) (by omega)
        rw [this, show (8 * (i : Int)).toNat = 8 * i by omega]
      obtain ⟨x', hx'⟩ : ∃ x', x' = x ||| (bt l i).toUInt64 <<< UInt64.ofNat (8 * i) := ⟨_, rfl⟩
      have hx2 : x'.toNat = leN (l.take (i + 1)) := by
        have hlt := leN_lt (l.take i)
        rw [List.length_take, Nat.min_eq_left (Nat.le_of_lt h4), ← hx] at hlt
        have hb : (bt l i).toUInt64.toNat = (bt l i).toNat := UInt8.toNat_toUInt64 _
        have hb2 := (bt l i).toNat_lt
        rw [hx', or_shift _ _ _ (by omega) hlt (by rw [hb]; omega), leN_take_succ l i h4, hx, hb]
      have HX := keep hx'
      have HX2 := keep hx2
      have HX0 := keep hx
      clear hx' hx2 hx
      go_wp2_with fail
      go_roundw
      case rel => exact ⟨i + 1, x', by omega, by go_num, by rw [HX.out]; first | rfl | (rw [UInt64.ofNat_mul]; rfl), HX2.out, trivial⟩
      case measure => simp [intOf]; omega
    · have g4 : ¬ (i : Int) < (l.length : Int) := by omega
      have e4 : i = l.length := by omega
      rw [e4, List.take_length] at hx
      have HX := keep hx
      clear e4 hi hx
      go_wp2_with fail
      go_ret
      exact ⟨x, rfl, HX.out, rfl⟩
end Go.Proofs.Ytpjgdocgenpbbaa

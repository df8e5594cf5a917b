/-
  cha: the document's words out of bytes and bytes out of words: plain laws.
-/
import Derived.Test.YtghojlkogeoejaaRefQuarter
import Derived.Test.YtghojlkogeoejaaStream
namespace Go.Proofs.Ytghojlkogeoejaa
open Go.RowKit
theorem info5b : (Try.prog.info? 5).map (fun i => (i.zero, i.size, i.bytes)) = some (some (.int .u8 0), 1, 1) := by kernel_rfl
def rword (l : List UInt8) (o : Nat) : UInt32 := (((bt l (o + 3)).toUInt32 * 256 + (bt l (o + 2)).toUInt32) * 256 + (bt l (o + 1)).toUInt32) * 256 + (bt l o).toUInt32
theorem four_bytes (a b c d : UInt8) : (((d.toUInt32 * (256 : UInt32) + c.toUInt32) * (256 : UInt32) + b.toUInt32) * (256 : UInt32) + a.toUInt32) = a.toUInt32 ||| b.toUInt32 <<< 8 ||| c.toUInt32 <<< 16 ||| d.toUInt32 <<< 24 := by
  have ha := a.toNat_lt
  have hb := b.toNat_lt
  have hc := c.toNat_lt
  have hd := d.toNat_lt
  apply UInt32.toNat_inj.1
  have e8 : (b.toUInt32 <<< 8).toNat = 2 ^ 8 * b.toNat := by simp [UInt32.toNat_shiftLeft, Nat.shiftLeft_eq]; omega
  have e16 : (c.toUInt32 <<< 16).toNat = 2 ^ 16 * c.toNat := by simp [UInt32.toNat_shiftLeft, Nat.shiftLeft_eq]; omega
  have e24 : (d.toUInt32 <<< 24).toNat = 2 ^ 24 * d.toNat := by simp [UInt32.toNat_shiftLeft, Nat.shiftLeft_eq]; omega
  rw [UInt32.toNat_or, UInt32.toNat_or, UInt32.toNat_or, e8, e16, e24, UInt8.toNat_toUInt32]
  rw [Nat.or_comm a.toNat, ← Nat.two_pow_add_eq_or_of_lt (show a.toNat < 2 ^ 8 by omega)]
  rw [Nat.or_comm _ (2 ^ 16 * _), ← Nat.two_pow_add_eq_or_of_lt (show 2 ^ 8 * b.toNat + a.toNat < 2 ^ 16 by omega)]
  rw [Nat.or_comm _ (2 ^ 24 * _), ← Nat.two_pow_add_eq_or_of_lt (show 2 ^ 16 * c.toNat + (2 ^ 8 * b.toNat + a.toNat) < 2 ^ 24 by omega)]
  simp only [UInt32.toNat_add, UInt32.toNat_mul, UInt8.toNat_toUInt32]
  simp
  omega
theorem rword_eq (l : List UInt8) (o : Nat) : rword l o = wordOf l o := four_bytes _ _ _ _
/-- The bytes of a word, one after the other. -/
def down (x : UInt32) : Nat → UInt32
  | 0 => x
  | j + 1 => down x j / 256
theorem down_nat (x : UInt32) : ∀ j : Nat, (down x j).toNat = x.toNat / 256 ^ j
  | 0 => by simp [down]
  | j + 1 => by
    have ih := down_nat x j
    simp only [down, UInt32.toNat_div, ih]
    rw [Nat.pow_succ, Nat.div_div_eq_div_mul]
    rfl
theorem down_byte (x : UInt32) (j : Nat) (hj : j < 4) : (down x j % 256).toUInt8 = (x >>> UInt32.ofNat (8 * j)).toUInt8 := by
  apply UInt8.toNat_inj.1
  have h1 : (x >>> UInt32.ofNat (8 * j)).toNat = x.toNat / 256 ^ j := by
    rw [UInt32.toNat_shiftRight, UInt32.toNat_ofNat', Nat.shiftRight_eq_div_pow, Nat.mod_eq_of_lt (show 8 * j < 2 ^ 32 by omega), Nat.mod_eq_of_lt (show 8 * j < 32 by omega), Nat.pow_mul]
  rw [UInt32.toNat_toUInt8, UInt32.toNat_toUInt8, h1, UInt32.toNat_mod, down_nat]
  simp
theorem sbyte_down (s : Nat → UInt32) (i j : Nat) (hj : j < 4) : (down (s i) j % 256).toUInt8 = sbyte s (4 * i + j) := by
  rw [down_byte _ _ hj]
  unfold sbyte
  rw [show (4 * i + j) / 4 = i by omega, show (4 * i + j) % 4 = j by omega]
end Go.Proofs.Ytghojlkogeoejaa

/-
  PolyAdds: the sum under a key is the sum under its first half, and its second half, byte by byte with carry: plain laws.
-/
import Derived.Test.YtpjgdocgenpbbaaBitsPlain
namespace Go.Proofs.Ytpjgdocgenpbbaa
open Go.RowKit
def highz (k : Nat → UInt8) : Nat → UInt8 := fun i => if i < 16 then k i else 0
def highup (k : Nat → UInt8) (j : Nat) : Nat → UInt8 := fun i => if i < 16 then k i else if i < 16 + j then 0 else k i
theorem highup_zero (k : Nat → UInt8) : karr (highup k 0) = karr k := arr_congr fun i _ => by
  unfold highup
  by_cases h : i < 16
  · simp [h]
  · simp [h]
theorem highup_done (k : Nat → UInt8) : karr (highup k 16) = karr (highz k) := arr_congr fun i hi => by
  unfold highup highz
  by_cases h : i < 16
  · simp [h]
  · simp [h, show i < 16 + 16 by omega]
theorem highup_set (k : Nat → UInt8) (j : Nat) : (karr (highup k j)).setIfInBounds (16 + j) (v8 0) = karr (highup k (j + 1)) := by
  unfold karr
  rw [arr_set]
  refine arr_congr fun i _ => ?_
  unfold highup
  by_cases h : i = 16 + j
  · subst h; simp [show ¬ 16 + j < 16 by omega, show 16 + j < 16 + (j + 1) by omega]
  · by_cases h16 : i < 16
    · simp [h, h16]
    · by_cases h1 : i < 16 + j
      · simp [h, h16, h1, show i < 16 + (j + 1) by omega]
      · simp [h, h16, h1, show ¬ i < 16 + (j + 1) by omega]
theorem accs_lt (r : Nat) (l : List UInt8) : ∀ j, accs r l j < pr
  | 0 => by simp [accs, pr]
  | j + 1 => Nat.mod_lt _ (by simp [pr])
/-- The carry into byte i. -/
def carr (A S i : Nat) : Nat := (A % 256 ^ i + S % 256 ^ i) / 256 ^ i
theorem carr_le (A S i : Nat) : carr A S i ≤ 1 := by
  unfold carr
  have h : 0 < 256 ^ i := Nat.pow_pos (by omega)
  have h1 := Nat.mod_lt A h
  have h2 := Nat.mod_lt S h
  exact Nat.le_of_lt_succ ((Nat.div_lt_iff_lt_mul h).2 (by omega))
theorem carr_digit (A S i : Nat) : (A + S) / 256 ^ i = A / 256 ^ i + S / 256 ^ i + carr A S i := by
  unfold carr
  have h : 0 < 256 ^ i := Nat.pow_pos (by omega)
  have e : A + S = (A % 256 ^ i + S % 256 ^ i) + 256 ^ i * (A / 256 ^ i + S / 256 ^ i) := by
    have h1 := Nat.mod_add_div A (256 ^ i)
    have h2 := Nat.mod_add_div S (256 ^ i)
    rw [Nat.mul_add]; omega
  rw [e, Nat.add_mul_div_left _ _ h]
  omega
theorem carr_next (A S i : Nat) : (carr A S i + A / 256 ^ i % 256 + S / 256 ^ i % 256) / 256 = carr A S (i + 1) := by
  have e1 := carr_digit A S i
  have e2 := carr_digit A S (i + 1)
  rw [Nat.pow_succ, ← Nat.div_div_eq_div_mul, ← Nat.div_div_eq_div_mul, ← Nat.div_div_eq_div_mul] at e2
  omega
theorem adds_step (k : Nat → UInt8) (l : List UInt8) (i : Nat) (hi : i < 16) :
    UInt8.ofNat (carr (tot (highz k) l) (sk k) i + (sumf (highz k) l i).toNat + (k (16 + i)).toNat) = sumf k l i ∧
    (carr (tot (highz k) l) (sk k) i + (sumf (highz k) l i).toNat + (k (16 + i)).toNat) / 256 = carr (tot (highz k) l) (sk k) (i + 1) := by
  have hr : rk (highz k) = rk k := by
    rw [rk_leN, rk_leN]
    exact congrArg leN (tl_congr fun i hi => by simp [clampf, highz, hi])
  have hs : sk (highz k) = 0 := by
    rw [sk_leN]
    exact leN_zeros 16 _ fun i _ => by simp [highz, show ¬ 16 + i < 16 by omega]
  have hA := accs_lt (rk k) l (nch l)
  have hS : sk k < 256 ^ 16 := by
    rw [sk_leN]
    have := leN_lt (tl 16 fun i => k (16 + i))
    rwa [tl_length] at this
  have h16 : (256 : Nat) ^ 16 = 340282366920938463463374607431768211456 := by decide
  have hpr : pr = 1361129467683753853853498429727072845819 := rfl
  have t1 : tot (highz k) l = accs (rk k) l (nch l) := by
    unfold tot
    rw [hr, hs, Nat.add_zero, Nat.mod_eq_of_lt (by omega)]
  have t2 : tot k l = tot (highz k) l + sk k := by
    rw [t1]; unfold tot
    rw [Nat.mod_eq_of_lt (by omega)]
  have a1 : (sumf (highz k) l i).toNat = tot (highz k) l / 256 ^ i % 256 := by unfold sumf; rw [UInt8.toNat_ofNat']
  have k1 : (k (16 + i)).toNat = sk k / 256 ^ i % 256 := by
    have := leN_byte (tl 16 fun i => k (16 + i)) i (by rw [tl_length]; exact hi)
    rw [bt_tl _ hi] at this
    rw [← this, UInt8.toNat_ofNat', sk_leN]
  rw [a1, k1]
  refine ⟨?_, carr_next _ _ _⟩
  apply UInt8.toNat_inj.1
  unfold sumf
  rw [t2, UInt8.toNat_ofNat', UInt8.toNat_ofNat', carr_digit]
  omega
end Go.Proofs.Ytpjgdocgenpbbaa

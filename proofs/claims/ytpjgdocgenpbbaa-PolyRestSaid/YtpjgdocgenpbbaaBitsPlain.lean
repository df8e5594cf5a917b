/-
  PolyBits: what the sums of a clamped key and of a key without its first half are: plain laws.
-/
import Derived.Test.YtpjgdocgenpbbaaAwake
namespace Go.Proofs.Ytpjgdocgenpbbaa
open Go.RowKit
theorem leN_byte : ∀ (l : List UInt8) (i : Nat), i < l.length → UInt8.ofNat (leN l / 256 ^ i) = bt l i
  | b :: l, 0, _ => by
    apply UInt8.toNat_inj.1
    simp [leN, bt]
  | b :: l, i + 1, h => by
    have ih := leN_byte l i (by simpa using h)
    have hb := b.toNat_lt
    have e : leN (b :: l) / 256 ^ (i + 1) = leN l / 256 ^ i := by
      simp only [leN]
      rw [Nat.pow_succ, Nat.mul_comm (256 ^ i) 256, ← Nat.div_div_eq_div_mul, show (b.toNat + 256 * leN l) / 256 = leN l by omega]
    rw [e, ih]
    simp [bt]
theorem wv_nat (l : List UInt8) (h : l.length ≤ 8) : (wv l).toNat = leN l := by
  unfold wv
  rw [UInt64.toNat_ofNat', Nat.mod_eq_of_lt]
  have h1 := leN_lt l
  have h2 : (256 : Nat) ^ l.length ≤ 256 ^ 8 := Nat.pow_le_pow_right (by omega) h
  have h3 : (256 : Nat) ^ 8 = 2 ^ 64 := by decide
  omega
theorem leN_16 (f : Nat → UInt8) : leN (tl 16 f) = leN (tl 8 f) + 18446744073709551616 * leN (tl 8 fun i => f (8 + i)) := by
  rw [show (16 : Nat) = 8 + 8 from rfl, tl_add, leN_append, tl_length]
theorem sk_leN (k : Nat → UInt8) : sk k = leN (tl 16 fun i => k (16 + i)) := by
  rw [leN_16]
  unfold sk V3
  rw [wv_nat _ (by simp [tl]), wv_nat _ (by simp [tl])]
  have e0 : (0 : UInt64).toNat = 0 := rfl
  rw [e0, Nat.mul_zero, Nat.add_zero]
  congr 2
theorem rk_leN (k : Nat → UInt8) : rk k = leN (tl 16 (clampf k)) := by
  rw [leN_16]
  unfold rk V2
  rw [wv_nat _ (by simp [tl]), wv_nat _ (by simp [tl])]
theorem cl_cl (i : Nat) (x : UInt8) : cl i (cl i x) = cl i x := by
  unfold cl
  split
  · split
    · rw [UInt8.and_assoc, UInt8.and_self]
    · split
      · rw [UInt8.and_assoc, UInt8.and_self]
      · rfl
  · rfl
theorem clampf_idem (k : Nat → UInt8) : clampf (clampf k) = clampf k := by funext i; exact cl_cl i (k i)
theorem clampf_high (k : Nat → UInt8) (i : Nat) (h : 16 ≤ i) : clampf k i = k i := by simp [clampf, cl, show ¬ i < 16 by omega]
theorem tot_clamp (k : Nat → UInt8) (l : List UInt8) : tot (clampf k) l = tot k l := by
  have h1 : rk (clampf k) = rk k := by rw [rk_leN, rk_leN, clampf_idem]
  have h2 : sk (clampf k) = sk k := by rw [sk_leN, sk_leN]; exact congrArg leN (tl_congr fun i _ => clampf_high k _ (by omega))
  unfold tot
  rw [h1, h2]
theorem sumf_clamp (k : Nat → UInt8) (l : List UInt8) : sumf (clampf k) l = sumf k l := by unfold sumf; rw [tot_clamp]
def lowz (k : Nat → UInt8) : Nat → UInt8 := fun i => if i < 16 then 0 else k i
theorem leN_zeros (n : Nat) (f : Nat → UInt8) (h : ∀ i, i < n → f i = 0) : leN (tl n f) = 0 := by
  induction n with
  | zero => rfl
  | succ n ih =>
    rw [tl_succ, leN_append, ih (fun i hi => h i (by omega))]
    simp [leN, h n (by omega)]
theorem accs_zero (l : List UInt8) : ∀ j, accs 0 l j = 0
  | 0 => rfl
  | j + 1 => by simp [accs, fold]
theorem sumf_lowz (k : Nat → UInt8) (l : List UInt8) (i : Nat) (hi : i < 16) : sumf (lowz k) l i = k (16 + i) := by
  have h1 : rk (lowz k) = 0 := by
    rw [rk_leN]
    exact leN_zeros 16 _ fun i hi => by unfold clampf lowz; rw [if_pos hi]; unfold cl; simp
  have h2 : sk (lowz k) = leN (tl 16 fun i => k (16 + i)) := by
    rw [sk_leN]
    exact congrArg leN (tl_congr fun i _ => by simp [lowz, show ¬ 16 + i < 16 by omega])
  have hlt := leN_lt (tl 16 fun i => k (16 + i))
  rw [tl_length] at hlt
  have h3 : (256 : Nat) ^ 16 = 340282366920938463463374607431768211456 := by decide
  unfold sumf tot
  rw [h1, h2, accs_zero, Nat.zero_add, Nat.mod_eq_of_lt (by omega), leN_byte _ i (by rw [tl_length]; exact hi), bt_tl _ hi]
theorem eql23 (w : World) (f g : Nat → UInt8) (b : Bool) (hb : b = true ↔ ∀ i, i < 32 → f i = g i) : (Op.equalIn 10000 23 (.agg (karr f)) (.agg (karr g))).run Try.prog w = .ok b w :=
  eql_bytes w 23 5 32 Try.underlying23 Try.underlying5 (by kernel_rfl) f g b hb
end Go.Proofs.Ytpjgdocgenpbbaa

/-
  poly: what Sum computes, in plain terms.
-/
import Derived.Test.YtpjgdocgenpbbaaClamp
namespace Go.Proofs.Ytpjgdocgenpbbaa
open Go.RowKit
def uarr8 (n : Nat) (f : Nat → UInt8) : Array Value := arr n fun i => v8 (f i)
def chunk (l : List UInt8) (j : Nat) : List UInt8 := (l.drop (16 * j)).take 16
def accs (r : Nat) (l : List UInt8) : Nat → Nat
  | 0 => 0
  | j + 1 => fold ((accs r l j + leN (chunk l j ++ [1])) % 6277101735386680763835789423207666416102355444464034512896 * r % 115792089237316195423570985008687907853269984665640564039457584007913129639936) % pr
def nch (l : List UInt8) : Nat := (l.length + 15) / 16
def wv (l : List UInt8) : UInt64 := UInt64.ofNat (leN l)
theorem word_q (l : List UInt8) (w : World) (hl : l.length ≤ 8) : Calls Try.prog 16 #[.string (tx l)] w fun e w' => e = .returned (v64 (wv l)) ∧ w' = w := by
  refine (word_any l w hl).mono ?_
  rintro e w' ⟨x, rfl, hx, rfl⟩
  refine ⟨?_, rfl⟩
  rw [show x = wv l by unfold wv; rw [← hx]; simp]
def rk (k : Nat → UInt8) : Nat := V2 (wv (tl 8 (clampf k))) (wv (tl 8 fun i => clampf k (8 + i)))
def sk (k : Nat → UInt8) : Nat := V3 (wv (tl 8 fun i => k (16 + i))) (wv (tl 8 fun i => k (24 + i))) 0
def tot (k : Nat → UInt8) (l : List UInt8) : Nat := (accs (rk k) l (nch l) + sk k) % 6277101735386680763835789423207666416102355444464034512896
def sumf (k : Nat → UInt8) (l : List UInt8) : Nat → UInt8 := fun j => UInt8.ofNat (tot k l / 256 ^ j)
theorem byte_of (x y z : UInt64) (i : Nat) (hi : i < 16) : (w3 x y z (i / 8) >>> UInt64.ofNat (8 * (i % 8))).toUInt8 = UInt8.ofNat (V3 x y z / 256 ^ i) := by
  apply UInt8.toNat_inj.1
  have hx := x.toNat_lt; have hy := y.toNat_lt
  rw [UInt64.toNat_toUInt8, UInt64.toNat_shiftRight, UInt64.toNat_ofNat', UInt8.toNat_ofNat', Nat.shiftRight_eq_div_pow, Nat.mod_eq_of_lt (show 8 * (i % 8) < 2 ^ 64 by omega), Nat.mod_eq_of_lt (show 8 * (i % 8) < 64 by omega)]
  have h : i = 0 ∨ i = 1 ∨ i = 2 ∨ i = 3 ∨ i = 4 ∨ i = 5 ∨ i = 6 ∨ i = 7 ∨ i = 8 ∨ i = 9 ∨ i = 10 ∨ i = 11 ∨ i = 12 ∨ i = 13 ∨ i = 14 ∨ i = 15 := by omega
  rcases h with rfl | rfl | rfl | rfl | rfl | rfl | rfl | rfl | rfl | rfl | rfl | rfl | rfl | rfl | rfl | rfl <;> simp [w3, V3] <;> omega
end Go.Proofs.Ytpjgdocgenpbbaa

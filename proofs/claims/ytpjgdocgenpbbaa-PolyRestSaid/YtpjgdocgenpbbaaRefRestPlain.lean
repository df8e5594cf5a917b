/-
  poly: the document's rest, in plain terms.
-/
import Derived.Test.YtpjgdocgenpbbaaRefMem
namespace Go.Proofs.Ytpjgdocgenpbbaa
open Go.RowKit
set_option linter.unusedVariables false
set_option linter.unusedSimpArgs false
/-- Digit j of what lies at 2 to the 130 and above. -/
def hd (hi : List Nat) (j : Nat) : Nat := dg hi j / 4 + dg hi (j + 1) % 4 * 64
def hsv (hi : List Nat) : Nat → Nat
  | 0 => 0
  | j + 1 => hsv hi j + 256 ^ j * hd hi j
theorem hd_lt {hi : List Nat} (h : Dig hi) (j : Nat) : hd hi j < 256 := by
  have := h.lt j
  unfold hd; omega
theorem hsv_eq (hi : List Nat) : ∀ j, 4 * hsv hi j + dg hi 0 % 4 = leI (hi.take j) + 256 ^ j * (dg hi j % 4)
  | 0 => by simp [hsv, leI]
  | j + 1 => by
    have ih := hsv_eq hi j
    have e := leI_take hi j
    simp only [hsv, hd, Nat.mul_add, Nat.pow_succ]
    rw [e]
    have e1 : 4 * (256 ^ j * (dg hi j / 4)) + 256 ^ j * (dg hi j % 4) = 256 ^ j * dg hi j := by
      rw [← Nat.mul_assoc, Nat.mul_comm 4, Nat.mul_assoc, ← Nat.mul_add, Nat.div_add_mod]
    have e2 : 4 * (256 ^ j * (dg hi (j + 1) % 4 * 64)) = 256 ^ j * 256 * (dg hi (j + 1) % 4) := by
      rw [Nat.mul_assoc, show 4 * (256 ^ j * (dg hi (j + 1) % 4 * 64)) = 256 ^ j * (4 * (dg hi (j + 1) % 4 * 64)) from Nat.mul_left_comm _ _ _]
      congr 1; omega
    omega
theorem hsv_all {hi : List Nat} (j : Nat) (hj : hi.length ≤ j) : hsv hi j = leI hi / 4 := by
  have e := hsv_eq hi j
  rw [List.take_of_length_le hj, dg_none hj] at e
  omega
structure RC (hi x : List Nat) (x0 j c : Nat) : Prop where
  dig : Dig x
  le : c ≤ 5
  val : leI x + 256 ^ j * c = x0 + 5 * hsv hi j
  len : x.length = max 17 j
  top : j ≤ max hi.length 17 + 1
  out : max hi.length 17 < j → c = 0
/-- x, long enough to have a digit j. -/
def Pad (x x' : List Nat) (j : Nat) : Prop := x' = x ∨ (x.length ≤ j ∧ x' = x ++ [0])
theorem RC.step {hi x x' : List Nat} {x0 j c : Nat} (h : RC hi x x0 j c) (hh : Dig hi) (hp : Pad x x' j) (hj : j < x'.length) (hgo : j < hi.length ∨ 0 < c) :
    RC hi (x'.set j ((c + dg x' j + 5 * hd hi j) % 256)) x0 (j + 1) ((c + dg x' j + 5 * hd hi j) / 256) := by
  have hd1 := hd_lt hh j
  have hle := h.le
  have hlen := h.len
  have hval := h.val
  have htop := h.top
  have hdx : Dig x' := by
    rcases hp with rfl | ⟨_, rfl⟩
    · exact h.dig
    · exact h.dig.snoc (by omega)
  have hvx : leI x' = leI x := by
    rcases hp with rfl | ⟨_, rfl⟩
    · rfl
    · exact leI_snoc0 x
  have hlx : x'.length = max 17 (j + 1) := by
    rcases hp with rfl | ⟨h1, rfl⟩
    · omega
    · rw [List.length_append, hlen]; simp; omega
  have hx := hdx.lt j
  have hs := leI_set x' j ((c + dg x' j + 5 * hd hi j) % 256) hj
  refine ⟨hdx.set _ (Nat.mod_lt _ (by omega)), by omega, ?_, by rw [List.length_set]; exact hlx, ?_, fun ho => ?_⟩
  · simp only [hsv, Nat.pow_succ]
    have e : 256 ^ j * ((c + dg x' j + 5 * hd hi j) % 256) + 256 ^ j * 256 * ((c + dg x' j + 5 * hd hi j) / 256) = 256 ^ j * c + 256 ^ j * dg x' j + 5 * (256 ^ j * hd hi j) := by
      rw [Nat.mul_assoc, ← Nat.mul_add, Nat.mod_add_div, Nat.mul_add, Nat.mul_add, Nat.mul_left_comm (256 ^ j) 5]
    omega
  · have ho := h.out
    rcases hgo with hgo | hgo
    · omega
    · by_cases hm : max hi.length 17 < j
      · have := ho hm; omega
      · omega
  · have hm : j = max hi.length 17 := by
      by_cases hm : max hi.length 17 < j
      · have := h.out hm; omega
      · omega
    have hz : dg x' j = 0 := by
      rcases hp with rfl | ⟨h1, rfl⟩
      · omega
      · have e : j = x.length := by omega
        subst e
        simp [dg]
    have hz2 : hd hi j = 0 := by
      unfold hd
      rw [dg_none (by omega), dg_none (by omega)]
    rw [hz, hz2]; omega
theorem RC.done {hi x xo : List Nat} {c j : Nat} (h : RC hi x (leI (xo.take 16) + 256 ^ 16 * (dg hi 0 % 4)) j c) (hx : Dig xo) (hhi : hi = xo.drop 16) (h18 : 18 ≤ xo.length) (hj : hi.length ≤ j) (hc : c = 0) :
    leI x = fold (leI xo) ∧ x.length ≤ max 18 (hi.length + 1) ∧ 17 ≤ x.length := by
  subst hhi hc
  have hv := h.val
  have ht := h.top
  have hl := h.len
  rw [hsv_all j hj] at hv
  have e := leI_cut xo 16 (by omega)
  have hlt := leI_lt (hx.take 16)
  rw [List.length_take, Nat.min_eq_left (by omega)] at hlt
  have h16 : (256 : Nat) ^ 16 = 340282366920938463463374607431768211456 := by decide
  have hd0 : leI (xo.drop 16) % 4 = dg (xo.drop 16) 0 % 4 := by
    have := dg_div (hx.drop 16) 0
    simp only [Nat.pow_zero, Nat.div_one] at this
    omega
  refine ⟨?_, by omega, by omega⟩
  unfold fold
  omega
def fo (v : Nat) : Nat → Nat
  | 0 => v
  | i + 1 => fold (fo v i)
theorem fo_three (v : Nat) (h : v < 256 ^ 32) : fo v 3 < 1361129467683753853853498429727072845824 ∧ fo v 3 % pr = v % pr := by
  have h32 : (256 : Nat) ^ 32 = 115792089237316195423570985008687907853269984665640564039457584007913129639936 := by decide
  simp only [fo, fold, pr]
  omega
/-- 5 more, byte by byte. -/
structure RF (x y : List Nat) (j c : Nat) : Prop where
  dig : Dig y
  le : c ≤ 5
  val : leI y + 256 ^ j * c = leI x + 5
  len : y.length = x.length
theorem RF.step {x y : List Nat} {j c : Nat} (h : RF x y j c) (hj : j < y.length) : RF x (y.set j ((c + dg y j) % 256)) (j + 1) ((c + dg y j) / 256) := by
  have hy := h.dig.lt j
  have hle := h.le
  have hval := h.val
  have hs := leI_set y j ((c + dg y j) % 256) hj
  refine ⟨h.dig.set _ (Nat.mod_lt _ (by omega)), by omega, ?_, by rw [List.length_set]; exact h.len⟩
  simp only [Nat.pow_succ]
  have e : 256 ^ j * ((c + dg y j) % 256) + 256 ^ j * 256 * ((c + dg y j) / 256) = 256 ^ j * c + 256 ^ j * dg y j := by
    rw [Nat.mul_assoc, ← Nat.mul_add, Nat.mod_add_div, Nat.mul_add]
  omega
theorem RF.done {x y : List Nat} {c j : Nat} (h : RF x y j c) (hx : Dig x) (h18 : 18 ≤ x.length) (hj : y.length ≤ j) (hv : leI x < 1361129467683753853853498429727072845824) : leI y = leI x + 5 ∧ dg y 16 = (leI x + 5) / 340282366920938463463374607431768211456 := by
  have h1 := h.val
  have h2 := leI_lt h.dig
  have h3 : (256 : Nat) ^ y.length ≤ 256 ^ j := Nat.pow_le_pow_right (by omega) hj
  have h4 : (256 : Nat) ^ 18 ≤ 256 ^ y.length := Nat.pow_le_pow_right (by omega) (by rw [h.len]; exact h18)
  have h18' : (256 : Nat) ^ 18 = 22300745198530623141535718272648361505980416 := by decide
  have h16 : (256 : Nat) ^ 16 = 340282366920938463463374607431768211456 := by decide
  have hc : c = 0 := by
    rcases Nat.eq_zero_or_pos c with hc | hc
    · exact hc
    · have : 256 ^ j ≤ 256 ^ j * c := Nat.le_mul_of_pos_right _ hc
      omega
  subst hc
  have e : leI y = leI x + 5 := by omega
  refine ⟨e, ?_⟩
  rw [← dg_div h.dig 16, e, h16]
  omega
theorem low17 {x : List Nat} (hx : Dig x) (h17 : 17 ≤ x.length) (hv : leI x < 1361129467683753853853498429727072845824) : leI (x.take 17) = leI x ∧ (x.take 17).length = 17 := by
  have e := leI_cut x 17 h17
  have h17' : (256 : Nat) ^ 17 = 87112285931760246646623899502532662132736 := by decide
  refine ⟨?_, by rw [List.length_take]; omega⟩
  rcases Nat.eq_zero_or_pos (leI (x.drop 17)) with h | h
  · rw [h] at e; omega
  · have : 256 ^ 17 ≤ 256 ^ 17 * leI (x.drop 17) := Nat.le_mul_of_pos_right _ h
    omega
end Go.Proofs.Ytpjgdocgenpbbaa

/-
  sha: the document's root, in plain terms: numbers of bytes, times a number; which of two is less.
-/
import Derived.Test.YtbfgnlckmpnchaaRootPlain
namespace Go.Proofs.Ytbfgnlckmpnchaa
open Go.RowKit
set_option linter.unusedVariables false
set_option linter.unusedSimpArgs false
theorem leI_snoc (l : List Nat) (x : Nat) : leI (l ++ [x]) = leI l + 256 ^ l.length * x := by rw [leI_append]; simp [leI]
structure TX (la : List Nat) (x : Nat) (lo : List Nat) (i c : Nat) : Prop where
  dig : Dig lo
  len : lo.length = i
  val : leI lo + 256 ^ i * c = leI (la.take i) * x
  le : c ≤ x
theorem TX.start (la : List Nat) (x : Nat) : TX la x [] 0 0 := ⟨fun y hy => by simp at hy, rfl, by simp [leI], Nat.zero_le _⟩
theorem TX.step {la lo : List Nat} {x i c : Nat} (h : TX la x lo i c) (hla : Dig la) : TX la x (lo ++ [(c + dg la i * x) % 256]) (i + 1) ((c + dg la i * x) / 256) := by
  have hd := hla.lt i
  have hle := h.le
  have hp : dg la i * x ≤ 255 * x := Nat.mul_le_mul_right x (by omega)
  refine ⟨h.dig.snoc (Nat.mod_lt _ (by omega)), by rw [List.length_append, h.len]; rfl, ?_, by omega⟩
  have hv := h.val
  rw [leI_snoc, h.len, leI_take, Nat.pow_succ, Nat.add_mul, ← hv, Nat.mul_assoc, Nat.mul_assoc]
  generalize dg la i * x = q
  rw [Nat.add_assoc, ← Nat.mul_add, Nat.mod_add_div, Nat.mul_add, Nat.add_assoc]
structure TY (V n : Nat) (lo : List Nat) (c : Nat) : Prop where
  dig : Dig lo
  val : leI lo + 256 ^ lo.length * c = V
  room : ∃ m, c < 256 ^ m ∧ lo.length + m ≤ n
  small : c < 549755813888
theorem TX.fin {la lo : List Nat} {x c : Nat} (h : TX la x lo la.length c) (hx : x < 549755813888) : TY (leI la * x) (la.length + 5) lo c := by
  have hv := h.val
  rw [List.take_length] at hv
  have hle := h.le
  refine ⟨h.dig, by rw [h.len]; exact hv, ⟨5, ?_, by rw [h.len]; exact Nat.le_refl _⟩, by omega⟩
  have := h.le
  have e : (256 : Nat) ^ 5 = 1099511627776 := rfl
  omega
theorem TY.step {V n c : Nat} {lo : List Nat} (h : TY V n lo c) (hc : 0 < c) : TY V n (lo ++ [c % 256]) (c / 256) := by
  obtain ⟨m, hm, hn⟩ := h.room
  have hsm := h.small
  refine ⟨h.dig.snoc (Nat.mod_lt _ (by omega)), ?_, ?_, by omega⟩
  · have hv := h.val
    rw [leI_snoc, List.length_append, List.length_singleton, Nat.pow_succ, Nat.mul_assoc, Nat.add_assoc, ← Nat.mul_add, Nat.mod_add_div]
    exact hv
  · cases m with
    | zero => simp at hm; omega
    | succ k =>
      refine ⟨k, ?_, by rw [List.length_append, List.length_singleton]; omega⟩
      rw [Nat.pow_succ] at hm
      omega
theorem TY.room0 {V n c : Nat} {lo : List Nat} (h : TY V n lo c) (hc : 0 < c) : lo.length < n := by
  obtain ⟨m, hm, hn⟩ := h.room
  cases m with
  | zero => simp at hm; omega
  | succ k => omega
theorem TY.end_ {V n c : Nat} {lo : List Nat} (h : TY V n lo c) (hc : ¬ 0 < c) : leI lo = V ∧ lo.length ≤ n := by
  obtain ⟨m, hm, hn⟩ := h.room
  have hv := h.val
  have h0 : c = 0 := by omega
  rw [h0, Nat.mul_zero, Nat.add_zero] at hv
  exact ⟨hv, by omega⟩
/-! ### Which of two is less -/
theorem leI_top {l : List Nat} {j : Nat} : leI l = leI (l.take j) + 256 ^ j * dg l j + 256 ^ (j + 1) * leI (l.drop (j + 1)) := by
  rw [← leI_take]
  by_cases hj : j + 1 ≤ l.length
  · exact leI_cut l (j + 1) hj
  · rw [List.drop_eq_nil_of_le (by omega), List.take_of_length_le (by omega)]; simp [leI]
theorem dg_drop (l : List Nat) (n i : Nat) : dg (l.drop n) i = dg l (n + i) := by simp [dg]
theorem leI_congr : ∀ {a b : List Nat}, (∀ i, dg a i = dg b i) → leI a = leI b
  | [], [], _ => rfl
  | [], y :: b, h => by
    have h0 := h 0
    have ih := leI_congr (a := []) (b := b) fun i => by have := h (i + 1); simpa [dg] using this
    simp [dg] at h0
    simp only [leI] at ih ⊢
    omega
  | x :: a, [], h => by
    have h0 := h 0
    have ih := leI_congr (a := a) (b := []) fun i => by have := h (i + 1); simpa [dg] using this
    simp [dg] at h0
    simp only [leI] at ih ⊢
    omega
  | x :: a, y :: b, h => by
    have h0 := h 0
    have ih := leI_congr (a := a) (b := b) fun i => by have := h (i + 1); simpa [dg] using this
    simp [dg] at h0
    simp only [leI]
    rw [ih, h0]
theorem leI_less {a b : List Nat} (ha : Dig a) (hb : Dig b) {j : Nat} (hh : ∀ k, j < k → dg a k = dg b k) (hl : dg a j < dg b j) : leI a < leI b := by
  have e : leI (a.drop (j + 1)) = leI (b.drop (j + 1)) := leI_congr fun i => by rw [dg_drop, dg_drop]; exact hh _ (by omega)
  rw [leI_top (l := a) (j := j), leI_top (l := b) (j := j), e]
  have h1 := leI_lt (ha.take j)
  have h2 : 256 ^ (a.take j).length ≤ 256 ^ j := Nat.pow_le_pow_right (by omega) (by rw [List.length_take]; omega)
  have h3 : 256 ^ j * (dg a j + 1) ≤ 256 ^ j * dg b j := Nat.mul_le_mul_left _ hl
  rw [Nat.mul_add, Nat.mul_one] at h3
  omega
/-- What the loop from the top on answers. -/
theorem cmp_ne {a b : List Nat} (ha : Dig a) (hb : Dig b) {j : Nat} (hh : ∀ k, j < k → dg a k = dg b k) (hl : dg a j ≠ dg b j) : decide (dg a j < dg b j) = decide (leI a ≤ leI b) := by
  by_cases h : dg a j < dg b j
  · have := leI_less ha hb hh h
    simp [h, Nat.le_of_lt this]
  · have := leI_less hb ha (fun k hk => (hh k hk).symm) (show dg b j < dg a j by omega)
    simp [h, this]
theorem cmp_eq {a b : List Nat} (hh : ∀ k, dg a k = dg b k) : leI a ≤ leI b := Nat.le_of_eq (leI_congr hh)
/-- n times 2 to the 32 times p, as a number of bytes. -/
def mm (n p : Nat) : List Nat := List.replicate (4 * p) 0 ++ [n % 256] ++ [n / 256]
theorem mm_val (n p : Nat) : leI (mm n p) = n * 2 ^ (32 * p) := by
  unfold mm
  rw [List.append_assoc, leI_append, leI_zeros, List.length_replicate, Nat.zero_add, show (256 : Nat) = 2 ^ 8 from rfl, ← Nat.pow_mul, show 8 * (4 * p) = 32 * p by omega, Nat.mul_comm]
  congr 1
  simp [leI]
  omega
theorem mm_dig {n p : Nat} (h : n ≤ 1000) : Dig (mm n p) := by
  unfold mm
  refine Dig.snoc (Dig.snoc (fun x hx => ?_) (by omega)) (by omega)
  rw [List.eq_of_mem_replicate hx]
  omega
theorem mm_len (n p : Nat) : (mm n p).length = 4 * p + 2 := by simp [mm]
theorem fitsB_of {x n p : Nat} {lo : List Nat} (hlo : leI lo = x ^ p) : fitsB x n p = decide (leI lo ≤ leI (mm n p)) := by
  unfold fitsB
  rw [hlo, mm_val]
end Go.Proofs.Ytbfgnlckmpnchaa

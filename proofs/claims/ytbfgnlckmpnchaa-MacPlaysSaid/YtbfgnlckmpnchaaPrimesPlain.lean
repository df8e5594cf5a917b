/-
  sha: primes, in plain terms: the first hundred.
-/
import Derived.Test.YtbfgnlckmpnchaaDigs
namespace Go.Proofs.Ytbfgnlckmpnchaa
open Go.RowKit
set_option linter.unusedVariables false
set_option linter.unusedSimpArgs false
def isP (x : Nat) : Bool := decide (2 ≤ x) && (List.range x).all fun d => decide (d < 2) || x % d != 0
/-- The primes below x. -/
def prs (x : Nat) : List Nat := (List.range x).filter isP
theorem prs_succ (x : Nat) : prs (x + 1) = prs x ++ (if isP x then [x] else []) := by
  unfold prs
  rw [List.range_succ, List.filter_append]
  congr 1
  by_cases h : isP x <;> simp [h]
theorem prs_mem {x p : Nat} (h : p ∈ prs x) : p < x ∧ 2 ≤ p ∧ isP p = true := by
  obtain ⟨h1, h2⟩ := List.mem_filter.1 h
  refine ⟨List.mem_range.1 h1, ?_, h2⟩
  unfold isP at h2
  simp only [Bool.and_eq_true, decide_eq_true_eq] at h2
  exact h2.1
theorem prs_542 : (prs 542).length = 100 := by decide +kernel
theorem prs_pre (x : Nat) : ∀ d, (prs x) <+: (prs (x + d))
  | 0 => List.prefix_refl _
  | d + 1 => (prs_pre x d).trans (by rw [← Nat.add_assoc, prs_succ]; exact List.prefix_append _ _)
theorem prs_le {x y : Nat} (h : x ≤ y) : (prs x) <+: (prs y) := by
  have := prs_pre x (y - x)
  rwa [Nat.add_sub_cancel' h] at this
theorem prs_short {x n : Nat} (h : (prs x).length < n) (hn : n ≤ 100) : x < 542 := by
  apply Nat.lt_of_not_le
  intro hx
  have := (prs_le hx).length_le
  rw [prs_542] at this
  omega
/-- The first n primes. -/
def primes (n : Nat) : List Nat := (prs 542).take n
theorem primes_of {x n : Nat} (hx : x ≤ 542) (h : (prs x).length = n) : prs x = primes n := by
  have := List.prefix_iff_eq_take.1 (prs_le hx)
  rwa [h] at this
theorem primes_length {n : Nat} (h : n ≤ 100) : (primes n).length = n := by
  unfold primes
  rw [List.length_take, prs_542, Nat.min_eq_left h]
/-- A number is prime if none of the primes below divides it. -/
def byPrimes (x : Nat) : Bool := (prs x).all fun p => x % p != 0
theorem byPrimes_eq (x : Nat) (h : 2 ≤ x) (h' : x < 542) : byPrimes x = isP x := by
  have hh : ∀ i : Fin 542, 2 ≤ i.val → byPrimes i.val = isP i.val := by decide +kernel
  exact hh ⟨x, h'⟩ h
/-- A number is prime if nothing from 2 on, its square at most the number, divides it. -/
def byRoots (x e : Nat) : Bool := (List.range e).all fun d => decide (d < 2) || x % d != 0
theorem byRoots_eq (x e : Nat) (h : 2 ≤ x) (h' : x < 542) (he2 : 2 ≤ e) (he : (e - 1) * (e - 1) ≤ x ∨ e = 2) (hx : x < e * e) : byRoots x e = isP x := by
  have hh : ∀ i : Fin 542, 2 ≤ i.val → ∀ e : Fin 26, 2 ≤ e.val → ((e.val - 1) * (e.val - 1) ≤ i.val ∨ e.val = 2) → i.val < e.val * e.val → byRoots i.val e.val = isP i.val := by decide +kernel
  have hlt : e < 26 := by
    rcases he with he | he
    · apply Nat.lt_of_not_le
      intro h25
      have := Nat.mul_le_mul (show 25 ≤ e - 1 by omega) (show 25 ≤ e - 1 by omega)
      omega
    · omega
  exact hh ⟨x, h'⟩ h ⟨e, hlt⟩ he2 he hx
theorem byRoots_succ (x e : Nat) (he : 2 ≤ e) : byRoots x (e + 1) = (byRoots x e && x % e != 0) := by
  unfold byRoots
  rw [List.range_succ, List.all_append]
  simp [show ¬ e < 2 by omega]
theorem byRoots_two (x : Nat) : byRoots x 2 = true := by
  rfl
end Go.Proofs.Ytbfgnlckmpnchaa

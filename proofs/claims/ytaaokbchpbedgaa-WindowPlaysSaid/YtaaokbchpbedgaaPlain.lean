/-
  window, THE PLAIN LAW: no Go in sight: what the window's state says of the set of the numbers that were taken.
-/
import Derived.Test.YtaaokbchpbedgaaVals
namespace Go.Proofs.Ytaaokbchpbedgaa
open Go.RowKit

/-- What a window holds. -/
structure St where
  top : UInt64
  bits : UInt64
  live : Bool
def St.cells (s : St) : Array Value := #[v64 s.top, v64 s.bits, .bool s.live]
def St.has (s : St) (n : UInt64) : Bool :=
  if s.live = false then false else if s.top < n then false else if 64 ≤ s.top - n then true else shr64 s.bits (s.top - n) &&& 1 == 1
def St.take (s : St) (n : UInt64) : St :=
  if s.has n then s else if s.live = false then ⟨n, 1, true⟩ else if s.top < n then ⟨n, shl64 s.bits (n - s.top) ||| 1, true⟩ else ⟨s.top, s.bits ||| shl64 1 (s.top - n), true⟩
/-- Errno's of May. -/
def St.err (s : St) (n : UInt64) : Int := if s.has n then 6 else 0


/-- The state s is that of the set S of the numbers that were taken. -/
def Inv (s : St) (S : Nat → Prop) : Prop :=
  (s.live = false ∧ ∀ x, ¬ S x) ∨
  (s.live = true ∧ S s.top.toNat ∧ (∀ x, S x → x ≤ s.top.toNat) ∧ ∀ i, i < 64 → (s.bits.toNat.testBit i = true ↔ i ≤ s.top.toNat ∧ S (s.top.toNat - i)))

theorem sub_nat (a b : UInt64) (h : b.toNat ≤ a.toNat) : (a - b).toNat = a.toNat - b.toNat := by
  have h1 : (a - b).toNat = (18446744073709551616 - b.toNat + a.toNat) % 18446744073709551616 := UInt64.toNat_sub a b
  have := lt64 a
  have := lt64 b
  omega
theorem and_one (x : UInt64) : (x &&& 1 == 1) = x.toNat.testBit 0 := by
  rw [Bool.eq_iff_iff, beq_iff_eq, ← UInt64.toNat_inj, UInt64.toNat_and, Nat.testBit_zero, decide_eq_true_eq]
  show x.toNat &&& 1 = 1 ↔ _
  rw [Nat.and_one_is_mod]
theorem shr_bit (x k : UInt64) (h : k.toNat < 64) : (shr64 x k).toNat.testBit 0 = x.toNat.testBit k.toNat := by
  have hk : k < 64 := by rw [UInt64.lt_iff_toNat_lt]; exact h
  unfold shr64
  rw [if_pos hk, UInt64.toNat_shiftRight, Nat.mod_eq_of_lt h, Nat.testBit_shiftRight, Nat.add_zero]
theorem has_iff {s : St} {S : Nat → Prop} (h : Inv s S) (n : UInt64) : s.has n = true ↔ s.live = true ∧ n.toNat ≤ s.top.toNat ∧ (64 ≤ s.top.toNat - n.toNat ∨ S n.toNat) := by
  unfold St.has
  rcases h with ⟨h1, _⟩ | ⟨h1, h2, h3, h4⟩
  · simp [h1]
  · rw [if_neg (by simp [h1])]
    by_cases hlt : s.top < n
    · rw [if_pos hlt]
      rw [UInt64.lt_iff_toNat_lt] at hlt
      simp only [Bool.false_eq_true, false_iff]
      omega
    · rw [if_neg hlt]
      rw [UInt64.lt_iff_toNat_lt] at hlt
      have hle : n.toNat ≤ s.top.toNat := Nat.le_of_not_lt hlt
      have hsub : (s.top - n).toNat = s.top.toNat - n.toNat := sub_nat _ _ hle
      by_cases h64 : 64 ≤ s.top - n
      · rw [if_pos h64]
        rw [UInt64.le_iff_toNat_le, hsub] at h64
        simp only [true_iff]
        exact ⟨h1, hle, .inl h64⟩
      · rw [if_neg h64]
        rw [UInt64.le_iff_toNat_le, hsub] at h64
        have h64' : s.top.toNat - n.toNat < 64 := Nat.lt_of_not_le h64
        rw [and_one, shr_bit _ _ (by rw [hsub]; exact h64'), hsub, h4 _ h64']
        rw [show s.top.toNat - (s.top.toNat - n.toNat) = n.toNat by omega]
        constructor
        · intro h
          exact ⟨h1, hle, .inr h.2⟩
        · rintro ⟨_, _, h | h⟩
          · omega
          · exact ⟨by omega, h⟩
theorem shl_bit (x k : UInt64) (i : Nat) (hi : i < 64) : (shl64 x k).toNat.testBit i = (decide (k.toNat ≤ i) && x.toNat.testBit (i - k.toNat)) := by
  unfold shl64
  by_cases hk : k < 64
  · rw [if_pos hk]
    rw [UInt64.lt_iff_toNat_lt] at hk
    rw [UInt64.toNat_shiftLeft, Nat.mod_eq_of_lt (show k.toNat < 64 from hk), Nat.testBit_mod_two_pow, Nat.testBit_shiftLeft]
    simp [hi]
  · rw [if_neg hk]
    rw [UInt64.lt_iff_toNat_lt] at hk
    have : ¬ k.toNat ≤ i := by have h : 64 ≤ k.toNat := Nat.le_of_not_lt hk; omega
    simp [this]
theorem one_bit (i : Nat) : (1 : UInt64).toNat.testBit i = decide (i = 0) := by
  show Nat.testBit 1 i = _
  cases i with
  | zero => rfl
  | succ i => simp [Nat.testBit_succ]
theorem take_inv {s : St} {S : Nat → Prop} (h : Inv s S) (n : UInt64) (hh : s.has n = false) : Inv (s.take n) (fun x => x = n.toNat ∨ S x) := by
  have hno : ¬ (s.live = true ∧ n.toNat ≤ s.top.toNat ∧ (64 ≤ s.top.toNat - n.toNat ∨ S n.toNat)) := by rw [← has_iff h n, hh]; simp
  unfold St.take
  rw [if_neg (by rw [hh]; simp)]
  rcases h with ⟨h1, h2⟩ | ⟨h1, h2, h3, h4⟩
  · rw [if_pos h1]
    refine .inr ⟨rfl, .inl rfl, fun x hx => ?_, fun i hi => ?_⟩
    · rcases hx with rfl | hx
      · exact Nat.le_refl _
      · exact absurd hx (h2 x)
    · show (1 : UInt64).toNat.testBit i = true ↔ _
      rw [one_bit, decide_eq_true_eq]
      constructor
      · rintro rfl
        exact ⟨Nat.zero_le _, .inl rfl⟩
      · rintro ⟨hi, h | h⟩
        · show i = 0
          have h' : n.toNat - i = n.toNat := h
          have hi' : i ≤ n.toNat := hi
          omega
        · exact absurd h (h2 _)
  · rw [if_neg (by simp [h1])]
    by_cases hlt : s.top < n
    · rw [if_pos hlt]
      rw [UInt64.lt_iff_toNat_lt] at hlt
      have hsub : (n - s.top).toNat = n.toNat - s.top.toNat := sub_nat _ _ (by omega)
      refine .inr ⟨rfl, .inl rfl, fun x hx => ?_, fun i hi => ?_⟩
      · show x ≤ n.toNat
        rcases hx with rfl | hx
        · exact Nat.le_refl _
        · have := h3 x hx; omega
      · show (shl64 s.bits (n - s.top) ||| 1).toNat.testBit i = true ↔ i ≤ n.toNat ∧ (n.toNat - i = n.toNat ∨ S (n.toNat - i))
        rw [UInt64.toNat_or, Nat.testBit_or, shl_bit _ _ _ hi, one_bit, hsub]
        simp only [Bool.or_eq_true, Bool.and_eq_true, decide_eq_true_eq]
        constructor
        · rintro (⟨g1, g2⟩ | rfl)
          · have := (h4 _ (by omega)).1 g2
            rw [show s.top.toNat - (i - (n.toNat - s.top.toNat)) = n.toNat - i by omega] at this
            exact ⟨by omega, .inr this.2⟩
          · exact ⟨by omega, .inl (by omega)⟩
        · rintro ⟨g1, g2 | g2⟩
          · exact .inr (by omega)
          · have hle := h3 _ g2
            refine .inl ⟨by omega, (h4 _ (by omega)).2 ⟨by omega, ?_⟩⟩
            rw [show s.top.toNat - (i - (n.toNat - s.top.toNat)) = n.toNat - i by omega]
            exact g2
    · rw [if_neg hlt]
      rw [UInt64.lt_iff_toNat_lt] at hlt
      have hle : n.toNat ≤ s.top.toNat := Nat.le_of_not_lt hlt
      have hsub : (s.top - n).toNat = s.top.toNat - n.toNat := sub_nat _ _ hle
      refine .inr ⟨rfl, .inr h2, fun x hx => ?_, fun i hi => ?_⟩
      · rcases hx with rfl | hx
        · exact hle
        · exact h3 x hx
      · show (s.bits ||| shl64 1 (s.top - n)).toNat.testBit i = true ↔ i ≤ s.top.toNat ∧ (s.top.toNat - i = n.toNat ∨ S (s.top.toNat - i))
        rw [UInt64.toNat_or, Nat.testBit_or, shl_bit _ _ _ hi, one_bit, hsub]
        simp only [Bool.or_eq_true, Bool.and_eq_true, decide_eq_true_eq]
        rw [h4 i hi]
        constructor
        · rintro (⟨g1, g2⟩ | ⟨g1, g2⟩)
          · exact ⟨g1, .inr g2⟩
          · exact ⟨by omega, .inl (by omega)⟩
        · rintro ⟨g1, g2 | g2⟩
          · exact .inr ⟨by omega, by omega⟩
          · exact .inl ⟨g1, g2⟩
theorem take_same {s : St} {n : UInt64} (hh : s.has n = true) : s.take n = s := by unfold St.take; rw [if_pos hh]
/-- Whatever was taken is old from then on. -/
theorem has_of_mem {s : St} {S : Nat → Prop} (h : Inv s S) {n : UInt64} (hn : S n.toNat) : s.has n = true := by
  rw [has_iff h n]
  rcases h with ⟨_, h2⟩ | ⟨h1, _, h3, _⟩
  · exact absurd hn (h2 _)
  · exact ⟨h1, h3 _ hn, .inr hn⟩
theorem inv_start : Inv ⟨0, 0, false⟩ (fun _ => False) := .inl ⟨rfl, fun _ h => h⟩
/-- What Take leaves, taken or not. -/
theorem inv_take {s : St} {S : Nat → Prop} (h : Inv s S) (n : UInt64) : Inv (s.take n) (fun x => (s.has n = false ∧ x = n.toNat) ∨ S x) := by
  cases hh : s.has n with
  | true => rw [take_same hh]; simpa using h
  | false => simpa using take_inv h n hh
theorem has_take {s : St} {S : Nat → Prop} (h : Inv s S) (n : UInt64) : (s.take n).has n = true := by
  cases hh : s.has n with
  | true => rw [take_same hh]; exact hh
  | false => exact has_of_mem (take_inv h n hh) (.inl rfl)
end Go.Proofs.Ytaaokbchpbedgaa

/-
  mac: texts are the same just if they are: the program's walk of Same, and of the law MacSame.
-/
import Derived.Test.YtbfgnlckmpnchaaMacAwake
import Derived.Deep.QuietTactic
import Derived.BigQuiet
namespace Go.Proofs.Ytbfgnlckmpnchaa
open Go.RowKit
set_option linter.unusedVariables false
set_option linter.unusedSimpArgs false
def sx (a b : List UInt8) : Nat → UInt8
  | 0 => 0
  | i + 1 => sx a b i ||| (bt a i ^^^ bt b i)
theorem or_zero (x y : UInt8) : x ||| y = 0 ↔ x = 0 ∧ y = 0 := by
  rw [← UInt8.toNat_inj, ← UInt8.toNat_inj, ← UInt8.toNat_inj, UInt8.toNat_or]
  exact Nat.or_eq_zero_iff
theorem xor_zero (x y : UInt8) : x ^^^ y = 0 ↔ x = y := by
  constructor
  · intro h
    have : x ^^^ y ^^^ y = y := by rw [h, UInt8.zero_xor]
    rwa [UInt8.xor_assoc, UInt8.xor_self, UInt8.xor_zero] at this
  · intro h; rw [h, UInt8.xor_self]
theorem sx_zero (a b : List UInt8) : ∀ i, sx a b i = 0 ↔ ∀ j, j < i → bt a j = bt b j
  | 0 => ⟨fun _ j hj => absurd hj (Nat.not_lt_zero j), fun _ => rfl⟩
  | i + 1 => by
    rw [sx, or_zero, sx_zero a b i, xor_zero]
    constructor
    · rintro ⟨h1, h2⟩ j hj
      rcases Nat.lt_succ_iff_lt_or_eq.1 hj with h | rfl
      · exact h1 j h
      · exact h2
    · intro h
      exact ⟨fun j hj => h j (by omega), h i (by omega)⟩
theorem same_iff {a b : List UInt8} (h : a.length = b.length) : (sx a b a.length == 0) = (a == b) := by
  rw [Bool.eq_iff_iff, beq_iff_eq, beq_iff_eq, sx_zero]
  exact ⟨fun hj => ext_bt h hj, fun e j _ => by rw [e]⟩
set_option maxHeartbeats 4000000 in
theorem same_any (a b : List UInt8) (ha : a.length ≤ 9223372036854775807) (hb : b.length ≤ 9223372036854775807) (w : World) : Calls Try.prog 29 #[.string (tx a), .string (tx b)] w fun e w' => e = .returned (.bool (a == b)) ∧ Below w.heap.size w w' := by
  by_cases hl : a.length = b.length
  · have hi := same_iff hl
    have gne : ((a.length : Int) != (b.length : Int)) = false := by simp only [bne_eq_false_iff_eq]; omega
    have hl1 : a.length ≤ b.length := by omega
    have hl2 : b.length ≤ a.length := by omega
    clear hl
    have HI := keep hi
    clear hi
    go_enter Try.func29, Try.ntmps29
    go_wp2_with fail
    go_loopw [5, 14] (fun x z wr => ∃ i : Nat, i ≤ a.length ∧ z = .int .i64 i ∧ x = v8 (sx a b i) ∧ Below w.heap.size w wr) (fun _ z _ => a.length - (intOf z).toNat)
    case atStart => exact ⟨0, Nat.zero_le _, rfl, rfl, Below.refl _ _⟩
    case round =>
      obtain ⟨i, hi, rfl, rfl, hB⟩ := hrel
      by_cases hia : i < a.length
      · have gia : (i : Int) < (a.length : Int) := by omega
        have gib : (i : Int) < (b.length : Int) := by omega
        have i0 := idx_tx (P := Try.prog) 9 Try.underlying9 a .i64 (i : Int) i rfl hia
        have i1 := idx_tx (P := Try.prog) 9 Try.underlying9 b .i64 (i : Int) i rfl (by omega)
        have hs : sx a b i ||| (bt a i ^^^ bt b i) = sx a b (i + 1) := rfl
        have HS := keep hs
        obtain ⟨y, hy⟩ : ∃ y, sx a b i = y := ⟨_, rfl⟩
        rw [hy] at HS ⊢
        clear hs hy
        go_wp2_with fail
        go_quiet (fail)
        have hB2 := below_many hB nq
        clear hB
        go_wp2_with fail
        rw [HS.out]
        go_roundw
        case rel => exact ⟨i + 1, by omega, by go_num, rfl, hB2⟩
        case measure => simp [intOf]; omega
      · have gia : ¬ (i : Int) < (a.length : Int) := by omega
        obtain rfl : i = a.length := by omega
        go_wp2_with fail
        go_ret
        exact ⟨congrArg (fun z => Ending.returned (Value.bool z)) HI.out, hB⟩
  · have gne : ((a.length : Int) != (b.length : Int)) = true := by simp only [bne_iff_ne, ne_eq]; omega
    have hne : (a == b) = false := by
      rw [beq_eq_false_iff_ne]
      exact fun e => hl (by rw [e])
    have HNE := keep hne
    clear hne
    go_enter Try.func29, Try.ntmps29
    go_wp2_with fail
    go_ret
    exact ⟨congrArg (fun z => Ending.returned (Value.bool z)) HNE.out.symm, Below.refl _ _⟩
set_option maxHeartbeats 4000000 in
theorem macsame_walk (s t : ByteArray) (hs : s.size ≤ 9223372036854775807) (ht : t.size ≤ 9223372036854775807) (w : World) : Calls Try.prog 11 #[.string s, .string t] w fun e w' => e = .returned (.bool true) ∧ Below w.heap.size w w' := by
  rw [tx_of s, tx_size] at hs
  rw [tx_of t, tx_size] at ht
  rw [tx_of s, tx_of t]
  generalize s.toList = a at *
  generalize t.toList = b at *
  have haa : (a == a) = true := by simp
  have hba : (b == a) = (a == b) := by rw [Bool.eq_iff_iff, beq_iff_eq, beq_iff_eq]; exact eq_comm
  go_enter Try.func11, Try.ntmps11
  go_wp2_with fail
  refine (mawake_any _).mono ?_; rintro e w1 ⟨rfl, hb1⟩
  go_wp2_with fail
  refine (same_any a b hs ht _).mono ?_; rintro e w2 ⟨rfl, hb2⟩
  have hB2 := hb1.trans (hb2.mono hb1.size)
  clear hb1 hb2
  go_wp2_with fail
  refine (same_any a a hs hs _).mono ?_; rintro e w3 ⟨rfl, hb3⟩
  have hB3 := hB2.trans (hb3.mono hB2.size)
  clear hb3 hB2
  go_wp2_with fail
  refine (same_any b a ht hs _).mono ?_; rintro e w4 ⟨rfl, hb4⟩
  have hB4 := hB3.trans (hb4.mono hB3.size)
  clear hb4 hB3
  go_wp2_with fail
  refine (same_any a b hs ht _).mono ?_; rintro e w5 ⟨rfl, hb5⟩
  have hB5 := hB4.trans (hb5.mono hB4.size)
  clear hb5 hB4
  go_wp2_with fail
  go_ret
  exact ⟨rfl, hB5⟩
end Go.Proofs.Ytbfgnlckmpnchaa

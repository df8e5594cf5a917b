/-
  sha: the document's text, filled up: the walk.
-/
import Derived.Test.YtbfgnlckmpnchaaFill
namespace Go.Proofs.Ytbfgnlckmpnchaa
open Go.RowKit
set_option linter.unusedVariables false
set_option linter.unusedSimpArgs false
theorem u8_mod (x : Nat) : Value.int .u8 (((x % 256 : Nat)) : Int) = v8 (UInt8.ofNat x) := by
  unfold v8
  rw [UInt8.toNat_ofNat']
theorem tl_cons (n : Nat) (f : Nat → UInt8) : tl (n + 1) f = f 0 :: tl n (fun q => f (q + 1)) := by
  rw [Nat.add_comm, tl_add]
  simp [tl, Nat.add_comm]
theorem tl_next (N i : Nat) : tl (i + 1) (fun q => nb N (i - q)) = nb N i :: tl i (fun q => nb N (i - 1 - q)) := by
  rw [tl_cons]
  congr 1
  exact tl_congr fun q _ => by rw [show i - (q + 1) = i - 1 - q by omega]
set_option maxHeartbeats 4000000 in
theorem rfill_any (l : List UInt8) (hl : l.length < 1000000) (w : World) : Calls Try.prog 24 #[.string (tx l)] w fun e w' => e = .returned (.string (tx (fillf l))) ∧ Below w.heap.size w w' := by
  have hcat : l.length + 1 ≤ 9223372036854775807 := by omega
  go_enter Try.func24, Try.ntmps24
  go_wp2_with fail
  go_loopw [3] (fun v wr => ∃ k : Nat, k ≤ zc l.length ∧ v = .string (tx (l ++ [128] ++ List.replicate k 0)) ∧ wr = w) (fun v _ => match v with | .string s => l.length + 1 + zc l.length - s.size | _ => 0)
  case atStart => exact ⟨0, Nat.zero_le _, by simp, rfl⟩
  case round =>
    obtain ⟨k, hk, rfl, rfl⟩ := hrel
    have hz64 : zc l.length < 64 := by unfold zc; omega
    have hAl : (l ++ [128] ++ List.replicate k (0 : UInt8)).length = l.length + 1 + k := by simp; omega
    by_cases hkz : k < zc l.length
    · have hne : (l.length + 1 + k) % 64 ≠ 56 := by unfold zc at hkz hz64; omega
      have hnx : l ++ [128] ++ List.replicate k (0 : UInt8) ++ [0] = l ++ [128] ++ List.replicate (k + 1) 0 := by
        rw [List.append_assoc, ← List.replicate_succ']
      obtain ⟨A, hA⟩ : ∃ A, l ++ [128] ++ List.replicate k (0 : UInt8) = A := ⟨_, rfl⟩
      rw [hA] at hAl hnx ⊢
      have gne : ((A.length : Int) % 64 != 56) = true := by simp only [bne_iff_ne, ne_eq]; omega
      have gAl : A.length + 1 ≤ 9223372036854775807 := by omega
      have HNX := keep hnx
      have HAL := keep hAl
      clear hA hnx hAl
      go_wp2_with fail
      rw [HNX.out]
      go_roundw
      case rel => exact ⟨k + 1, by omega, rfl, trivial⟩
      case measure => have := HAL.out; simp [tx_size]; omega
    · obtain rfl : k = zc l.length := by omega
      have heq : (l.length + 1 + zc l.length) % 64 = 56 := by unfold zc; omega
      have hF : l ++ [128] ++ List.replicate (zc l.length) (0 : UInt8) = fillp l := rfl
      rw [hF] at hAl ⊢
      have gne : (((fillp l).length : Int) % 64 != 56) = false := by simp only [bne_eq_false_iff_eq]; omega
      have hpl : (fillp l).length < 1001000 := by omega
      go_wp2_with fail
      obtain ⟨wo, rfl⟩ : ∃ wo : World, wo = wr := ⟨_, rfl⟩
      go_loopw [4, 5, 6] (fun nz sv z wr => ∃ i : Nat, i ≤ 8 ∧ z = .int .i64 i ∧ nz = .int .i64 ((8 * l.length / 256 ^ i : Nat) : Int) ∧ sv = .string (tx (tl i fun q => nb (8 * l.length) (i - 1 - q))) ∧ Below wo.heap.size wo wr) (fun _ _ z _ => 8 - (intOf z).toNat)
      case atStart => exact ⟨0, by omega, rfl, by simp, rfl, Below.refl _ _⟩
      case round =>
        obtain ⟨i, hi, rfl, rfl, rfl, hB⟩ := hrel
        by_cases hi8 : i < 8
        · have gi8 : (i : Int) < 8 := by omega
          have hdiv : 8 * l.length / 256 ^ (i + 1) = 8 * l.length / 256 ^ i / 256 := by rw [Nat.pow_succ, Nat.div_div_eq_div_mul]
          have hxb : 8 * l.length / 256 ^ i ≤ 8 * l.length := Nat.div_le_self _ _
          have hbv : Value.int .u8 (((8 * l.length / 256 ^ i % 256 : Nat)) : Int) = v8 (nb (8 * l.length) i) := u8_mod _
          have hnx := tl_next (8 * l.length) i
          obtain ⟨x, hx⟩ : ∃ x, 8 * l.length / 256 ^ i = x := ⟨_, rfl⟩
          rw [hx] at hdiv hxb hbv ⊢
          obtain ⟨b, hb⟩ : ∃ b, nb (8 * l.length) i = b := ⟨_, rfl⟩
          rw [hb] at hbv hnx
          have hTl : (tl i fun q => nb (8 * l.length) (i - 1 - q)).length = i := tl_length _ _
          obtain ⟨T, hT⟩ : ∃ T, (tl i fun q => nb (8 * l.length) (i - 1 - q)) = T := ⟨_, rfl⟩
          rw [hT] at hnx hTl ⊢
          obtain ⟨m, hm⟩ : ∃ m, x % 256 = m := ⟨_, rfl⟩
          rw [hm] at hbv
          have hmi : ((x : Int) % 256) = (m : Int) := by omega
          have hm256 : m < 256 := by omega
          have hback := back_one (P := Try.prog) wr b 43 9 5 5 Try.underlying43 Try.underlying5 Try.underlying9
          rw [← hbv] at hback
          have g1 : T.length + 1 ≤ 9223372036854775807 := by omega
          have g2 : 1 + T.length ≤ 9223372036854775807 := by omega
          have hnx' : [b] ++ T = tl (i + 1) (fun q => nb (8 * l.length) (i + 1 - 1 - q)) := by rw [Nat.add_sub_cancel, hnx]; rfl
          have HNX := keep hnx'
          have HDIV := keep hdiv
          clear hx hb hT hm hnx hnx' hdiv hTl hbv
          go_wp2_with fail
          go_roundw
          case rel => exact ⟨i + 1, by omega, by go_num, by rw [HDIV.out]; go_num, congrArg (fun z => Value.string (tx z)) HNX.out, hB.alloc hB.size _⟩
          case measure => simp [intOf]; omega
        · obtain rfl : i = 8 := by omega
          have hF2 : fillp l ++ (tl 8 fun q => nb (8 * l.length) (8 - 1 - q)) = fillf l := rfl
          have hTl : (tl 8 fun q => nb (8 * l.length) (8 - 1 - q)).length = 8 := tl_length _ _
          obtain ⟨T, hT⟩ : ∃ T, (tl 8 fun q => nb (8 * l.length) (8 - 1 - q)) = T := ⟨_, rfl⟩
          rw [hT] at hF2 hTl ⊢
          have g1 : (fillp l).length + T.length ≤ 9223372036854775807 := by omega
          have HF2 := keep hF2
          clear hT hF2 hF
          go_wp2_with fail
          go_ret
          exact ⟨congrArg (fun z => Ending.returned (Value.string (tx z))) HF2.out, hB⟩
end Go.Proofs.Ytbfgnlckmpnchaa

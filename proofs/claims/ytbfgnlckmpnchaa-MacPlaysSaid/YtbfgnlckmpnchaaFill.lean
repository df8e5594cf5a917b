/-
  sha: a text, filled up: the program's walk.
-/
import Derived.Test.YtbfgnlckmpnchaaShelf
import Derived.Test.YtbfgnlckmpnchaaBits
import Derived.Test.YtbfgnlckmpnchaaText
namespace Go.Proofs.Ytbfgnlckmpnchaa
open Go.RowKit
set_option linter.unusedVariables false
set_option linter.unusedSimpArgs false
/-- How many zero bytes. -/
def zc (n : Nat) : Nat := (120 - (n + 1) % 64) % 64
/-- Byte i of a word, the lowest first. -/
def nb (N : Nat) (i : Nat) : UInt8 := UInt8.ofNat (N / 256 ^ i)
def fillp (l : List UInt8) : List UInt8 := l ++ [128] ++ List.replicate (zc l.length) 0
def fillf (l : List UInt8) : List UInt8 := fillp l ++ tl 8 fun q => nb (8 * l.length) (7 - q)
theorem fillf_length (l : List UInt8) : (fillf l).length = l.length + 9 + zc l.length := by
  simp [fillf, fillp, tl]; omega
theorem fillf_64 (l : List UInt8) : (fillf l).length % 64 = 0 := by
  rw [fillf_length]; unfold zc; omega
theorem repeat_zero (c : Nat) : Lib.repeatL [0] c = List.replicate c (0 : UInt8) := by
  induction c with
  | zero => rfl
  | succ c ih => simp only [Lib.repeatL, ih, List.replicate_succ, List.singleton_append]
theorem back_one {P : Program} (w : World) (x : UInt8) (src dst e : TypeId) (t : TypeId) (hs : P.underlying src = some (.slice e)) (he : P.underlying e = some (.int .u8)) (hd : P.underlying dst = some .string) :
    (convert src dst (.slice (some ⟨w.heap.size, 0, none⟩) 1 1)).run P (w.alloc (.cells #[v8 x] t)) = .ok (.string (tx [x])) (w.alloc (.cells #[v8 x] t)) := by
  have h : Row8 (w.alloc (.cells #[v8 x] t)) w.heap.size 0 1 (fun _ => x) := ⟨by simp, fun j hj => by
    obtain rfl : j = 0 := by omega
    rw [Nat.zero_add]; exact (Blk.made w t #[v8 x]).at_ rfl, fun j _ => by rw [Nat.zero_add]; exact (Blk.made w t #[v8 x]).free _⟩
  exact h.back src dst e hs he hd 1
theorem nb_shr (x : UInt64) (i : Nat) (hi : i < 8) : (x >>> UInt64.ofNat (8 * i)).toUInt8 = nb x.toNat i := by
  apply UInt8.toNat_inj.1
  unfold nb
  rw [UInt64.toNat_toUInt8, UInt64.toNat_shiftRight, UInt64.toNat_ofNat', UInt8.toNat_ofNat', Nat.shiftRight_eq_div_pow, Nat.mod_eq_of_lt (show 8 * i < 2 ^ 64 by omega), Nat.mod_eq_of_lt (show 8 * i < 64 by omega), Nat.pow_mul]
set_option maxHeartbeats 4000000 in
theorem fill_any (l : List UInt8) (hl : l.length < 1000000) (w : World) : Calls Try.prog 16 #[.string (tx l)] w fun e w' => e = .returned (.string (tx (fillf l))) ∧ Below w.heap.size w w' := by
  obtain ⟨L, hL, hL'⟩ := v64_nat l.length (by omega)
  have hN : (8 * L).toNat = 8 * l.length := by rw [UInt64.toNat_mul, hL']; have e8 : (8 : UInt64).toNat = 8 := rfl; rw [e8]; omega
  have HN := keep hN
  clear hN hL'
  go_enter Try.func16, Try.ntmps16
  go_wp2_with fail
  have hz : ((120 - ((l.length : Int) + 1)) % 64) = (zc l.length : Int) := by unfold zc; omega
  have hz64 : zc l.length < 64 := by unfold zc; omega
  rw [hz]
  clear hz
  refine (Try.strings_Repeat ⟨#[0]⟩ (zc l.length) w (by omega) (by have e1 : (⟨#[0]⟩ : ByteArray).size = 1 := rfl; rw [e1]; omega)).mono ?_
  rintro e w1 ⟨rfl, hb1⟩
  have hrep : (⟨(Lib.repeatL (⟨#[0]⟩ : ByteArray).data.toList (zc l.length)).toArray⟩ : ByteArray) = tx (List.replicate (zc l.length) 0) := congrArg tx (repeat_zero _)
  rw [hrep]
  clear hrep
  have hcat : l.length + 1 + zc l.length ≤ 9223372036854775807 := by omega
  have hcat' : (l ++ [128]).length + (List.replicate (zc l.length) (0 : UInt8)).length ≤ 9223372036854775807 := by simp; omega
  go_wp2_with fail
  have hpl : (fillp l).length < 1001000 := by simp [fillp]; omega
  have hp0 : l ++ (128 :: List.replicate (zc l.length) 0) = fillp l := by simp [fillp]
  rw [hp0]
  clear hp0 hcat hcat'
  go_loopw [4, 5] (fun sv z wr => ∃ k : Nat, k ≤ 8 ∧ z = .int .i64 ((k : Int) - 1) ∧ sv = .string (tx (fillp l ++ tl (8 - k) fun q => nb (8 * l.length) (7 - q))) ∧ Below w.heap.size w wr) (fun _ z _ => (intOf z + 1).toNat)
  case atStart => exact ⟨8, by omega, rfl, by simp [tl], hb1⟩
  case round =>
    clear hb1
    obtain ⟨k, hk, rfl, rfl, hB⟩ := hrel
    by_cases hk0 : k = 0
    · subst hk0
      have hF : fillp l ++ tl (8 - 0) (fun q => nb (8 * l.length) (7 - q)) = fillf l := rfl
      rw [hF]
      go_wp2_with fail
      go_ret
      exact ⟨rfl, hB⟩
    · obtain ⟨j, rfl⟩ : ∃ j, k = j + 1 := ⟨k - 1, by omega⟩
      rw [show (((j + 1 : Nat) : Int) - 1) = (j : Int) by omega]
      have hj : j < 8 := by omega
      have hsh : ∀ t, binOp .shr t (v64 (8 * L)) (.int .i64 (8 * (j : Int))) = pure (v64 ((8 * L) >>> UInt64.ofNat (8 * j))) := fun t => by
        have := v64_shr t .i64 (8 * L) (8 * (j : Int)) (by omega) (by omega)
        rw [this, show (8 * (j : Int)).toNat = 8 * j by omega]
      obtain ⟨b, hb⟩ : ∃ b, nb (8 * l.length) j = b := ⟨_, rfl⟩
      have hby : ((8 * L) >>> (8 * UInt64.ofNat j)).toUInt8 = b := by
        rw [← hb, ← HN.out, ← nb_shr _ j hj, UInt64.ofNat_mul]
        rfl
      have hback := back_one (P := Try.prog) wr b 43 9 5 5 Try.underlying43 Try.underlying5 Try.underlying9
      have hnext : (fillp l ++ tl (8 - (j + 1)) fun q => nb (8 * l.length) (7 - q)) ++ [b] = fillp l ++ tl (8 - j) fun q => nb (8 * l.length) (7 - q) := by
        rw [show 8 - j = 8 - (j + 1) + 1 by omega, tl_succ, ← List.append_assoc]
        simp only [show 7 - (8 - (j + 1)) = j by omega, hb]
      have HNX := keep hnext
      obtain ⟨A, hA⟩ : ∃ A, (fillp l ++ tl (8 - (j + 1)) fun q => nb (8 * l.length) (7 - q)) = A := ⟨_, rfl⟩
      have hAl : A.length + 1 ≤ 9223372036854775807 := by rw [← hA, List.length_append, tl_length]; omega
      rw [hA] at HNX ⊢
      clear hnext hA hb
      go_wp2_with fail
      rw [HNX.out]
      go_roundw
      case rel => exact ⟨j, by omega, by go_num, rfl, hB.alloc hB.size _⟩
      case measure => simp [intOf]
end Go.Proofs.Ytbfgnlckmpnchaa

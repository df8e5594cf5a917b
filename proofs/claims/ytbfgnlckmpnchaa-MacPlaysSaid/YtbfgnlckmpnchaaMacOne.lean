/-
  mac: a keyed sum: the program's walk (written by wip/tools/mac_sum.py).
-/
import Derived.Test.YtbfgnlckmpnchaaAwake
namespace Go.Proofs.Ytbfgnlckmpnchaa
open Go.RowKit
set_option linter.unusedVariables false
set_option linter.unusedSimpArgs false
/-- A text, each byte made one with another one. -/
def xb (l : List UInt8) (b : UInt8) : List UInt8 := tl l.length fun i => bt l i ^^^ b
theorem xb_length (l : List UInt8) (b : UInt8) : (xb l b).length = l.length := tl_length _ _
/-- A key, filled up. -/
def fk (l : List UInt8) : List UInt8 := if 64 < l.length then tl 32 (shaf l) ++ List.replicate 32 0 else l ++ List.replicate (64 - l.length) 0
theorem fk_length (l : List UInt8) : (fk l).length = 64 := by
  unfold fk
  by_cases h : 64 < l.length
  · rw [if_pos h, List.length_append, tl_length]; rfl
  · rw [if_neg h, List.length_append, List.length_replicate]; omega
/-- A keyed sum. -/
def msum (k s : List UInt8) : Nat → UInt8 := shaf (xb (fk k) 92 ++ tl 32 (shaf (xb (fk k) 54 ++ s)))
/-- 'string(x[:])' of an array of 32 bytes. -/
theorem back32 {w : World} {g : Nat} {t : TypeId} {f : Nat → UInt8} (h : Blk w g t (b8 32 f)) : (convert 43 9 (.slice (some ⟨g, 0, none⟩) 32 32)).run Try.prog w = .ok (.string (tx (tl 32 f))) w :=
  Row8.back (Row8.ofBlk h) 43 9 5 Try.underlying43 Try.underlying5 Try.underlying9 32
set_option maxHeartbeats 4000000 in
theorem one_any (l : List UInt8) (b : UInt8) (hl : l.length < 1000000) (w : World) : Calls Try.prog 45 #[.string (tx l), v8 b] w fun e w' => e = .returned (.string (tx (xb l b))) ∧ Below w.heap.size w w' := by
  obtain ⟨cap, w1, hconv, hrow, hb1⟩ := bytes_tx (P := Try.prog) w l 9 43 5 Try.underlying9 Try.underlying43 Try.underlying5
  have hA : Row8 w1 w.heap.size 0 l.length fun j => if j < 0 then bt l j ^^^ b else bt l j := hrow.congr fun i _ => by simp
  clear hrow
  go_enter Try.func45, Try.ntmps45
  go_wp2_with fail
  go_loopw [11] (fun z wr => ∃ i : Nat, i ≤ l.length ∧ z = .int .i64 i ∧ Row8 wr w.heap.size 0 l.length (fun j => if j < i then bt l j ^^^ b else bt l j) ∧ Below w.heap.size w wr) (fun z _ => l.length - (intOf z).toNat)
  case atStart => exact ⟨0, Nat.zero_le _, rfl, hA, hb1⟩
  case round =>
    clear hA hb1
    obtain ⟨i, hi, rfl, hR, hB⟩ := hrel
    by_cases hil : i < l.length
    · have gil : (i : Int) < (l.length : Int) := by omega
      have c1 := hR.at_ i hil
      have f1 := hR.free i hil
      simp only [Nat.zero_add, Nat.lt_irrefl, if_false] at c1 f1
      have k0 : Row8 (wr.setCell ⟨w.heap.size, i, none⟩ (v8 (bt l i ^^^ b))) w.heap.size 0 l.length (fun j => if j < i + 1 then bt l j ^^^ b else bt l j) := (hR.set i (bt l i ^^^ b) i (Nat.zero_add i).symm).congr fun j _ => by
        by_cases h : j = i
        · subst h; simp
        · by_cases h1 : j < i
          · simp [h, h1, show j < i + 1 by omega]
          · simp [h, h1, show ¬ j < i + 1 by omega]
      have k1 := hB.setCell (p := ⟨w.heap.size, i, none⟩) (by simp) (v8 (bt l i ^^^ b))
      clear hR hB
      go_wp2_with fail
      go_roundw
      case rel => exact ⟨i + 1, by omega, by go_num, k0, k1⟩
      case measure => simp [intOf]; omega
    · have gil : ¬ (i : Int) < (l.length : Int) := by omega
      obtain rfl : i = l.length := by omega
      have hR2 : Row8 wr w.heap.size 0 l.length (fun j => bt l j ^^^ b) := hR.congr fun j hj => by simp [hj]
      have hback := hR2.back (P := Try.prog) 43 9 5 Try.underlying43 Try.underlying5 Try.underlying9 cap
      have hx : tl l.length (fun j => bt l j ^^^ b) = xb l b := rfl
      rw [hx] at hback
      clear hR hR2 hx
      go_wp2_with fail
      go_ret
      exact ⟨rfl, hB⟩
set_option maxRecDepth 100000 in
set_option maxHeartbeats 4000000 in
theorem filled_any (l : List UInt8) (hl : l.length < 900000) (w : World) : Calls Try.prog 44 #[.string (tx l)] w fun e w' => e = .returned (.string (tx (fk l))) ∧ Below w.heap.size w w' := by
  by_cases h64 : 64 < l.length
  · have g64 : (64 : Int) < (l.length : Int) := by omega
    have hfk : tl 32 (shaf l) ++ List.replicate 32 0 = fk l := by unfold fk; rw [if_pos h64]
    go_enter Try.func44, Try.ntmps44
    go_wp2_with fail
    refine (sha_any l (by omega) _).mono ?_
    rintro e w1 ⟨rfl, hb1⟩
    have hX := Blk.made w1 34 #[.int .u8 0, .int .u8 0, .int .u8 0, .int .u8 0, .int .u8 0, .int .u8 0, .int .u8 0, .int .u8 0, .int .u8 0, .int .u8 0, .int .u8 0, .int .u8 0, .int .u8 0, .int .u8 0, .int .u8 0, .int .u8 0, .int .u8 0, .int .u8 0, .int .u8 0, .int .u8 0, .int .u8 0, .int .u8 0, .int .u8 0, .int .u8 0, .int .u8 0, .int .u8 0, .int .u8 0, .int .u8 0, .int .u8 0, .int .u8 0, .int .u8 0, .int .u8 0]
    have hX2 : Blk ((w1.alloc (.cells #[.int .u8 0, .int .u8 0, .int .u8 0, .int .u8 0, .int .u8 0, .int .u8 0, .int .u8 0, .int .u8 0, .int .u8 0, .int .u8 0, .int .u8 0, .int .u8 0, .int .u8 0, .int .u8 0, .int .u8 0, .int .u8 0, .int .u8 0, .int .u8 0, .int .u8 0, .int .u8 0, .int .u8 0, .int .u8 0, .int .u8 0, .int .u8 0, .int .u8 0, .int .u8 0, .int .u8 0, .int .u8 0, .int .u8 0, .int .u8 0, .int .u8 0, .int .u8 0] 34)).setRow w1.heap.size (b8 32 (shaf l))) w1.heap.size 34 (b8 32 (shaf l)) := hX.setRow _
    have hback := back32 hX2
    have hB := below_row ((hb1.trans ((belowA w1 (.cells #[.int .u8 0, .int .u8 0, .int .u8 0, .int .u8 0, .int .u8 0, .int .u8 0, .int .u8 0, .int .u8 0, .int .u8 0, .int .u8 0, .int .u8 0, .int .u8 0, .int .u8 0, .int .u8 0, .int .u8 0, .int .u8 0, .int .u8 0, .int .u8 0, .int .u8 0, .int .u8 0, .int .u8 0, .int .u8 0, .int .u8 0, .int .u8 0, .int .u8 0, .int .u8 0, .int .u8 0, .int .u8 0, .int .u8 0, .int .u8 0, .int .u8 0, .int .u8 0] 34)).mono hb1.size))) hb1.size (b8 32 (shaf l))
    have hK : (tl 32 (shaf l)).length = 32 := tl_length _ _
    obtain ⟨K, hKK⟩ : ∃ K, tl 32 (shaf l) = K := ⟨_, rfl⟩
    rw [hKK] at hK hback hfk
    have HFK := keep hfk
    clear hfk hX2 hKK hb1
    have HK := keep hK
    have hK64 : K.length ≤ 64 := by omega
    clear hK
    go_wp2_with (refine wpList_store_row rfl 34 (.tmp 3) (.tmp 8) rfl w1.heap.size (b8 32 (shaf l)) rfl rfl 34 _ hX (by kernel_rfl) (by unfold b8; rw [arr_size]; rfl) (arr_one _ _ fun i => rfl) ?_)
    have hz : (64 - (K.length : Int)) = ((64 - K.length : Nat) : Int) := by omega
    rw [hz]
    refine (Try.strings_Repeat ⟨#[0]⟩ (64 - K.length) _ (by omega) (by have e1 : (⟨#[0]⟩ : ByteArray).size = 1 := rfl; rw [e1]; omega)).mono ?_
    rintro e wz ⟨rfl, hbz⟩
    have hrep : (⟨(Lib.repeatL (⟨#[0]⟩ : ByteArray).data.toList (64 - K.length)).toArray⟩ : ByteArray) = tx (List.replicate (64 - K.length) 0) := congrArg tx (repeat_zero _)
    rw [hrep]
    have hcat : K.length + (List.replicate (64 - K.length) (0 : UInt8)).length ≤ 9223372036854775807 := by simp; omega
    obtain ⟨R, hR⟩ : ∃ R, List.replicate (64 - K.length) (0 : UInt8) = R := ⟨_, rfl⟩
    rw [hR] at hcat ⊢
    have HR := keep hR
    clear hR hz
    go_wp2_with fail
    go_ret
    exact ⟨congrArg (fun z => Ending.returned (Value.string (tx z))) (by rw [← HFK.out, ← HR.out, HK.out]), hB.trans (hbz.mono hB.size)⟩
  · have g64 : ¬ (64 : Int) < (l.length : Int) := by omega
    have hfk : l ++ List.replicate (64 - l.length) 0 = fk l := by unfold fk; rw [if_neg h64]
    have HFK := keep hfk
    clear hfk
    go_enter Try.func44, Try.ntmps44
    have hz : (64 - (l.length : Int)) = ((64 - l.length : Nat) : Int) := by omega
    go_wp2_with fail
    refine (Try.strings_Repeat ⟨#[0]⟩ (64 - l.length) _ (by omega) (by have e1 : (⟨#[0]⟩ : ByteArray).size = 1 := rfl; rw [e1]; omega)).mono ?_
    rintro e wz ⟨rfl, hbz⟩
    have hrep : (⟨(Lib.repeatL (⟨#[0]⟩ : ByteArray).data.toList (64 - l.length)).toArray⟩ : ByteArray) = tx (List.replicate (64 - l.length) 0) := congrArg tx (repeat_zero _)
    rw [hrep]
    have hcat : l.length + (List.replicate (64 - l.length) (0 : UInt8)).length ≤ 9223372036854775807 := by simp; omega
    obtain ⟨R, hR⟩ : ∃ R, List.replicate (64 - l.length) (0 : UInt8) = R := ⟨_, rfl⟩
    rw [hR] at hcat ⊢
    have HR := keep hR
    clear hR hz
    go_wp2_with fail
    go_ret
    exact ⟨congrArg (fun z => Ending.returned (Value.string (tx z))) (by rw [← HFK.out, ← HR.out]), hbz⟩

end Go.Proofs.Ytbfgnlckmpnchaa

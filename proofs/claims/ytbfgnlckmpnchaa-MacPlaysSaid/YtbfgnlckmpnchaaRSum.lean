/-
  sha: the document's sum of a text: the walk (written by wip/tools/sha_rsum.py).
-/
import Derived.Test.YtbfgnlckmpnchaaRBlock
import Derived.Test.YtbfgnlckmpnchaaRConsts
import Derived.Test.YtbfgnlckmpnchaaRFill
import Derived.Test.YtbfgnlckmpnchaaSum
namespace Go.Proofs.Ytbfgnlckmpnchaa
open Go.RowKit
set_option linter.unusedVariables false
set_option linter.unusedSimpArgs false
structure RS (N K H : Nat) (w wr : World) (v : Nat → UInt32) : Prop where
  res : Blk wr N 33 #[.int .u8 0, .int .u8 0, .int .u8 0, .int .u8 0, .int .u8 0, .int .u8 0, .int .u8 0, .int .u8 0, .int .u8 0, .int .u8 0, .int .u8 0, .int .u8 0, .int .u8 0, .int .u8 0, .int .u8 0, .int .u8 0, .int .u8 0, .int .u8 0, .int .u8 0, .int .u8 0, .int .u8 0, .int .u8 0, .int .u8 0, .int .u8 0, .int .u8 0, .int .u8 0, .int .u8 0, .int .u8 0, .int .u8 0, .int .u8 0, .int .u8 0, .int .u8 0]
  hk : Blk wr K 39 (w32 64 kf)
  hh : Blk wr H 31 (w32 8 v)
  bel : Below N w wr
  nk : N < K
  kh : K < H
section
variable {N K H : Nat} {w wr w' : World} {v u : Nat → UInt32}
theorem RS.below (s : RS N K H w wr v) (hb : Below wr.heap.size wr w') : RS N K H w w' v := by
  obtain ⟨a, b, c, d, e, f⟩ := s
  exact ⟨a.kept hb, b.kept hb, c.kept hb, d.trans (hb.mono (by have := a.lt; omega)), e, f⟩
theorem RS.store (s : RS N K H w wr v) (u : Nat → UInt32) : RS N K H w (wr.setRow H (w32 8 u)) u := by
  obtain ⟨a, b, c, d, e, f⟩ := s
  exact ⟨a.otherRow (by omega) _, b.otherRow (by omega) _, c.setRow _, below_row d (by omega) _, e, f⟩
theorem RS.keeps (s : RS N K H w wr v) (hk : Keeps [] wr w') : RS N K H w w' v := s.below (hk.toBelow (Nat.le_refl _) (by simp))
end
/-- What has been put by the time: all bytes of the words ahead, and the last ones of this word. -/
def pt (f : Nat → UInt8) (i k : Nat) : Nat → UInt8 := fun p => if p < 4 * i ∨ (4 * i + k ≤ p ∧ p < 4 * i + 4) then f p else 0
theorem pt_set (f : Nat → UInt8) (i q : Nat) (hi : i < 8) (hq : q < 4) : (b8 32 (pt f i (q + 1))).setIfInBounds (4 * i + q) (v8 (f (4 * i + q))) = b8 32 (pt f i q) := by
  unfold b8
  rw [arr_set]
  refine arr_congr fun p _ => ?_
  unfold pt
  by_cases h : p = 4 * i + q
  · rw [if_pos h, if_pos (by omega), h]
  · rw [if_neg h]
    by_cases h1 : p < 4 * i ∨ (4 * i + q ≤ p ∧ p < 4 * i + 4)
    · rw [if_pos h1, if_pos (by omega)]
    · rw [if_neg h1, if_neg (by omega)]
theorem pt_next (f : Nat → UInt8) (i : Nat) : b8 32 (pt f i 0) = b8 32 (pt f (i + 1) 4) := arr_congr fun p _ => by
  unfold pt
  by_cases h1 : p < 4 * i + 4
  · rw [if_pos (by omega), if_pos (by omega)]
  · rw [if_neg (by omega), if_neg (by omega)]
theorem pt_done (f : Nat → UInt8) : b8 32 (pt f 8 4) = b8 32 f := arr_congr fun p hp => by
  unfold pt
  rw [if_pos (by omega)]
theorem pt_zero (f : Nat → UInt8) : b8 32 (pt f 0 4) = #[.int .u8 0, .int .u8 0, .int .u8 0, .int .u8 0, .int .u8 0, .int .u8 0, .int .u8 0, .int .u8 0, .int .u8 0, .int .u8 0, .int .u8 0, .int .u8 0, .int .u8 0, .int .u8 0, .int .u8 0, .int .u8 0, .int .u8 0, .int .u8 0, .int .u8 0, .int .u8 0, .int .u8 0, .int .u8 0, .int .u8 0, .int .u8 0, .int .u8 0, .int .u8 0, .int .u8 0, .int .u8 0, .int .u8 0, .int .u8 0, .int .u8 0, .int .u8 0] := by
  have : b8 32 (pt f 0 4) = b8 32 fun _ => 0 := arr_congr fun p hp => by
    unfold pt
    rw [if_neg (by omega)]
  rw [this]
  rfl
theorem by8_down (v : Nat → UInt32) (i q : Nat) (hq : q < 4) : (down (v i) (3 - q) % 256).toUInt8 = by8 v (4 * i + q) := by
  rw [down_byte _ _ (by omega)]
  unfold by8
  rw [show (4 * i + q) / 4 = i by omega, show 24 - 8 * ((4 * i + q) % 4) = 8 * (3 - q) by omega]
set_option maxRecDepth 100000 in
set_option maxHeartbeats 16000000 in
theorem rsum_any (l : List UInt8) (hl : l.length < 900000) (w : World) : Calls Try.prog 23 #[.string (tx l)] w fun e w' => e = .returned (.agg (b8 32 (shaf l))) ∧ Below w.heap.size w w' := by
  have hr : Blk (w.alloc (.cells #[.int .u8 0, .int .u8 0, .int .u8 0, .int .u8 0, .int .u8 0, .int .u8 0, .int .u8 0, .int .u8 0, .int .u8 0, .int .u8 0, .int .u8 0, .int .u8 0, .int .u8 0, .int .u8 0, .int .u8 0, .int .u8 0, .int .u8 0, .int .u8 0, .int .u8 0, .int .u8 0, .int .u8 0, .int .u8 0, .int .u8 0, .int .u8 0, .int .u8 0, .int .u8 0, .int .u8 0, .int .u8 0, .int .u8 0, .int .u8 0, .int .u8 0, .int .u8 0] 33)) w.heap.size 33 #[.int .u8 0, .int .u8 0, .int .u8 0, .int .u8 0, .int .u8 0, .int .u8 0, .int .u8 0, .int .u8 0, .int .u8 0, .int .u8 0, .int .u8 0, .int .u8 0, .int .u8 0, .int .u8 0, .int .u8 0, .int .u8 0, .int .u8 0, .int .u8 0, .int .u8 0, .int .u8 0, .int .u8 0, .int .u8 0, .int .u8 0, .int .u8 0, .int .u8 0, .int .u8 0, .int .u8 0, .int .u8 0, .int .u8 0, .int .u8 0, .int .u8 0, .int .u8 0] := Blk.made w 33 _
  have hbr := belowA w (.cells #[.int .u8 0, .int .u8 0, .int .u8 0, .int .u8 0, .int .u8 0, .int .u8 0, .int .u8 0, .int .u8 0, .int .u8 0, .int .u8 0, .int .u8 0, .int .u8 0, .int .u8 0, .int .u8 0, .int .u8 0, .int .u8 0, .int .u8 0, .int .u8 0, .int .u8 0, .int .u8 0, .int .u8 0, .int .u8 0, .int .u8 0, .int .u8 0, .int .u8 0, .int .u8 0, .int .u8 0, .int .u8 0, .int .u8 0, .int .u8 0, .int .u8 0, .int .u8 0] 33)
  go_enter Try.func23, Try.ntmps23
  go_wp2_with fail
  generalize w.alloc (.cells #[.int .u8 0, .int .u8 0, .int .u8 0, .int .u8 0, .int .u8 0, .int .u8 0, .int .u8 0, .int .u8 0, .int .u8 0, .int .u8 0, .int .u8 0, .int .u8 0, .int .u8 0, .int .u8 0, .int .u8 0, .int .u8 0, .int .u8 0, .int .u8 0, .int .u8 0, .int .u8 0, .int .u8 0, .int .u8 0, .int .u8 0, .int .u8 0, .int .u8 0, .int .u8 0, .int .u8 0, .int .u8 0, .int .u8 0, .int .u8 0, .int .u8 0, .int .u8 0] 33) = w0 at *
  refine (rconstants_any _).mono ?_
  rintro e w1 ⟨rfl, hb1⟩
  have hr1 := hr.kept hb1
  have hB1 := hbr.trans (hb1.mono hbr.size)
  have hnk := hr1.lt
  clear hb1 hr hbr
  have k0 : Blk (w1.alloc (.cells #[.int .u32 0, .int .u32 0, .int .u32 0, .int .u32 0, .int .u32 0, .int .u32 0, .int .u32 0, .int .u32 0, .int .u32 0, .int .u32 0, .int .u32 0, .int .u32 0, .int .u32 0, .int .u32 0, .int .u32 0, .int .u32 0, .int .u32 0, .int .u32 0, .int .u32 0, .int .u32 0, .int .u32 0, .int .u32 0, .int .u32 0, .int .u32 0, .int .u32 0, .int .u32 0, .int .u32 0, .int .u32 0, .int .u32 0, .int .u32 0, .int .u32 0, .int .u32 0, .int .u32 0, .int .u32 0, .int .u32 0, .int .u32 0, .int .u32 0, .int .u32 0, .int .u32 0, .int .u32 0, .int .u32 0, .int .u32 0, .int .u32 0, .int .u32 0, .int .u32 0, .int .u32 0, .int .u32 0, .int .u32 0, .int .u32 0, .int .u32 0, .int .u32 0, .int .u32 0, .int .u32 0, .int .u32 0, .int .u32 0, .int .u32 0, .int .u32 0, .int .u32 0, .int .u32 0, .int .u32 0, .int .u32 0, .int .u32 0, .int .u32 0, .int .u32 0] 39)) w1.heap.size 39 #[.int .u32 0, .int .u32 0, .int .u32 0, .int .u32 0, .int .u32 0, .int .u32 0, .int .u32 0, .int .u32 0, .int .u32 0, .int .u32 0, .int .u32 0, .int .u32 0, .int .u32 0, .int .u32 0, .int .u32 0, .int .u32 0, .int .u32 0, .int .u32 0, .int .u32 0, .int .u32 0, .int .u32 0, .int .u32 0, .int .u32 0, .int .u32 0, .int .u32 0, .int .u32 0, .int .u32 0, .int .u32 0, .int .u32 0, .int .u32 0, .int .u32 0, .int .u32 0, .int .u32 0, .int .u32 0, .int .u32 0, .int .u32 0, .int .u32 0, .int .u32 0, .int .u32 0, .int .u32 0, .int .u32 0, .int .u32 0, .int .u32 0, .int .u32 0, .int .u32 0, .int .u32 0, .int .u32 0, .int .u32 0, .int .u32 0, .int .u32 0, .int .u32 0, .int .u32 0, .int .u32 0, .int .u32 0, .int .u32 0, .int .u32 0, .int .u32 0, .int .u32 0, .int .u32 0, .int .u32 0, .int .u32 0, .int .u32 0, .int .u32 0, .int .u32 0] := Blk.made w1 39 _
  have k1 : Blk ((w1.alloc (.cells #[.int .u32 0, .int .u32 0, .int .u32 0, .int .u32 0, .int .u32 0, .int .u32 0, .int .u32 0, .int .u32 0, .int .u32 0, .int .u32 0, .int .u32 0, .int .u32 0, .int .u32 0, .int .u32 0, .int .u32 0, .int .u32 0, .int .u32 0, .int .u32 0, .int .u32 0, .int .u32 0, .int .u32 0, .int .u32 0, .int .u32 0, .int .u32 0, .int .u32 0, .int .u32 0, .int .u32 0, .int .u32 0, .int .u32 0, .int .u32 0, .int .u32 0, .int .u32 0, .int .u32 0, .int .u32 0, .int .u32 0, .int .u32 0, .int .u32 0, .int .u32 0, .int .u32 0, .int .u32 0, .int .u32 0, .int .u32 0, .int .u32 0, .int .u32 0, .int .u32 0, .int .u32 0, .int .u32 0, .int .u32 0, .int .u32 0, .int .u32 0, .int .u32 0, .int .u32 0, .int .u32 0, .int .u32 0, .int .u32 0, .int .u32 0, .int .u32 0, .int .u32 0, .int .u32 0, .int .u32 0, .int .u32 0, .int .u32 0, .int .u32 0, .int .u32 0] 39)).setRow w1.heap.size (w32 64 kf)) w.heap.size 33 #[.int .u8 0, .int .u8 0, .int .u8 0, .int .u8 0, .int .u8 0, .int .u8 0, .int .u8 0, .int .u8 0, .int .u8 0, .int .u8 0, .int .u8 0, .int .u8 0, .int .u8 0, .int .u8 0, .int .u8 0, .int .u8 0, .int .u8 0, .int .u8 0, .int .u8 0, .int .u8 0, .int .u8 0, .int .u8 0, .int .u8 0, .int .u8 0, .int .u8 0, .int .u8 0, .int .u8 0, .int .u8 0, .int .u8 0, .int .u8 0, .int .u8 0, .int .u8 0] := (hr1.alloc _).otherRow (by omega) _
  have k2 : Below w.heap.size w ((w1.alloc (.cells #[.int .u32 0, .int .u32 0, .int .u32 0, .int .u32 0, .int .u32 0, .int .u32 0, .int .u32 0, .int .u32 0, .int .u32 0, .int .u32 0, .int .u32 0, .int .u32 0, .int .u32 0, .int .u32 0, .int .u32 0, .int .u32 0, .int .u32 0, .int .u32 0, .int .u32 0, .int .u32 0, .int .u32 0, .int .u32 0, .int .u32 0, .int .u32 0, .int .u32 0, .int .u32 0, .int .u32 0, .int .u32 0, .int .u32 0, .int .u32 0, .int .u32 0, .int .u32 0, .int .u32 0, .int .u32 0, .int .u32 0, .int .u32 0, .int .u32 0, .int .u32 0, .int .u32 0, .int .u32 0, .int .u32 0, .int .u32 0, .int .u32 0, .int .u32 0, .int .u32 0, .int .u32 0, .int .u32 0, .int .u32 0, .int .u32 0, .int .u32 0, .int .u32 0, .int .u32 0, .int .u32 0, .int .u32 0, .int .u32 0, .int .u32 0, .int .u32 0, .int .u32 0, .int .u32 0, .int .u32 0, .int .u32 0, .int .u32 0, .int .u32 0, .int .u32 0] 39)).setRow w1.heap.size (w32 64 kf)) := below_row (hB1.alloc hB1.size _) (by omega) _
  have k3 := k0.setRow (w32 64 kf)
  go_wp2_with (refine wpList_store_row rfl 39 (.tmp 3) (.tmp 11) rfl w1.heap.size (w32 64 kf) rfl rfl 39 _ k0 (by kernel_rfl) (by unfold w32; rw [arr_size]; rfl) (arr_one _ _ fun i => rfl) ?_)
  clear k0 hr1 hB1
  generalize (w1.alloc (.cells #[.int .u32 0, .int .u32 0, .int .u32 0, .int .u32 0, .int .u32 0, .int .u32 0, .int .u32 0, .int .u32 0, .int .u32 0, .int .u32 0, .int .u32 0, .int .u32 0, .int .u32 0, .int .u32 0, .int .u32 0, .int .u32 0, .int .u32 0, .int .u32 0, .int .u32 0, .int .u32 0, .int .u32 0, .int .u32 0, .int .u32 0, .int .u32 0, .int .u32 0, .int .u32 0, .int .u32 0, .int .u32 0, .int .u32 0, .int .u32 0, .int .u32 0, .int .u32 0, .int .u32 0, .int .u32 0, .int .u32 0, .int .u32 0, .int .u32 0, .int .u32 0, .int .u32 0, .int .u32 0, .int .u32 0, .int .u32 0, .int .u32 0, .int .u32 0, .int .u32 0, .int .u32 0, .int .u32 0, .int .u32 0, .int .u32 0, .int .u32 0, .int .u32 0, .int .u32 0, .int .u32 0, .int .u32 0, .int .u32 0, .int .u32 0, .int .u32 0, .int .u32 0, .int .u32 0, .int .u32 0, .int .u32 0, .int .u32 0, .int .u32 0, .int .u32 0] 39)).setRow w1.heap.size (w32 64 kf) = w2 at *
  generalize hK : w1.heap.size = K at *
  clear hK
  refine (rfirst_any _).mono ?_
  rintro e w3 ⟨rfl, hb3⟩
  have k1 := k1.kept hb3
  have k2 := k2.trans (hb3.mono (by have := k3.lt; omega))
  have k3 := k3.kept hb3
  have hkh := k3.lt
  clear hb3
  have k4 : Blk (w3.alloc (.cells #[.int .u32 0, .int .u32 0, .int .u32 0, .int .u32 0, .int .u32 0, .int .u32 0, .int .u32 0, .int .u32 0] 31)) w3.heap.size 31 #[.int .u32 0, .int .u32 0, .int .u32 0, .int .u32 0, .int .u32 0, .int .u32 0, .int .u32 0, .int .u32 0] := Blk.made w3 31 _
  have hS : RS w.heap.size K w3.heap.size w ((w3.alloc (.cells #[.int .u32 0, .int .u32 0, .int .u32 0, .int .u32 0, .int .u32 0, .int .u32 0, .int .u32 0, .int .u32 0] 31)).setRow w3.heap.size (w32 8 hf)) hf :=
    ⟨(k1.alloc _).otherRow (by omega) _, (k3.alloc _).otherRow (by omega) _, k4.setRow _, below_row (k2.alloc k2.size _) (by omega) _, hnk, hkh⟩
  go_wp2_with (refine wpList_store_row rfl 31 (.tmp 4) (.tmp 12) rfl w3.heap.size (w32 8 hf) rfl rfl 31 _ k4 (by kernel_rfl) (by unfold w32; rw [arr_size]; rfl) (arr_one _ _ fun i => rfl) ?_)
  clear k1 k2 k3 k4
  generalize (w3.alloc (.cells #[.int .u32 0, .int .u32 0, .int .u32 0, .int .u32 0, .int .u32 0, .int .u32 0, .int .u32 0, .int .u32 0] 31)).setRow w3.heap.size (w32 8 hf) = w4 at *
  generalize hH : w3.heap.size = H at *
  clear hH hnk hkh
  refine (rfill_any l (by omega) _).mono ?_
  rintro e w5 ⟨rfl, hb5⟩
  have hS5 : RS w.heap.size K H w w5 (hs (fillf l) 0) := hS.below hb5
  clear hS hb5
  have ht64 := fillf_64 l
  have htl : (fillf l).length < 1000000 := by rw [fillf_length]; unfold zc; omega
  have hsh : shaf l = by8 (hs (fillf l) ((fillf l).length / 64)) := rfl
  have HSH := keep hsh
  clear hsh
  generalize fillf l = t at *
  go_wp2_with fail
  go_loopw [6] (fun z wr => ∃ j : Nat, 64 * j ≤ t.length ∧ z = .int .i64 ((64 * j : Nat) : Int) ∧ RS w.heap.size K H w wr (hs t j)) (fun z _ => t.length - (intOf z).toNat)
  case atStart => exact ⟨0, Nat.zero_le _, rfl, hS5⟩
  case round =>
    clear hS5
    obtain ⟨j, hj, rfl, hS⟩ := hrel
    by_cases hjt : 64 * j < t.length
    · have hle : 64 * j + 64 ≤ t.length := by omega
      have hbl : (blk t j).length = 64 := by unfold blk; rw [List.length_take, List.length_drop]; omega
      have hsl := slice_tx (P := Try.prog) 9 Try.underlying9 t .i64 .i64 ((64 * j : Nat) : Int) (((64 * j : Nat) : Int) + 64) (64 * j) (64 * j + 64) rfl (by omega) (by omega) hle
      rw [Nat.add_sub_cancel_left] at hsl
      have hbX : (t.drop (64 * j)).take 64 = blk t j := rfl
      rw [hbX] at hsl
      have hnx : mixf (hs t j) (wf (blk t j)) kf = hs t (j + 1) := rfl
      obtain ⟨X, hX⟩ : ∃ X, blk t j = X := ⟨_, rfl⟩
      rw [hX] at hsl hnx hbl
      obtain ⟨v, hv⟩ : ∃ v, hs t j = v := ⟨_, rfl⟩
      rw [hv] at hnx hS
      obtain ⟨v2, hv2⟩ : ∃ v2, mixf v (wf X) kf = v2 := ⟨_, rfl⟩
      have hc : ∀ w, Calls Try.prog 25 #[.agg (w32 8 v), .string (tx X), .agg (w32 64 kf)] w fun e w' => e = .returned (.agg (w32 8 v2)) ∧ Below w.heap.size w w' := fun w => by rw [← hv2]; exact rblock_any v kf X hbl w
      have HC := keep hc
      rw [hv2] at hnx
      have HV2 := keep hnx
      obtain ⟨q, hq⟩ : ∃ q, 64 * j = q := ⟨_, rfl⟩
      rw [hq] at hj hjt hle hsl ⊢
      have gq : (q : Int) < (t.length : Int) := by omega
      have gq2 : (q : Int) + 64 ≤ (t.length : Int) := by omega
      have gq3 : (q : Int) ≤ (q : Int) + 64 := by omega
      clear hX hc hnx hv hv2 hbX
      go_wp2_with fail
      refine MixedC.wp_region (fun w' => ∃ u, w' = mix [] wr u) [(1, 0), (1, 1), (1, 2), (1, 3), (1, 4), (1, 5), (1, 6), (2, 7), (3, 8)] (by kernel_rfl) (by kernel_rfl) (Mx.drew0 _ _) ?_
      refine MixedC.read_row (i := 0) rfl rfl 31 (.tmp 4) rfl (H) rfl 31 (w32 8 v) _ (hS.hh.drew) Try.underlying31 rfl (by kernel_rfl) ?_
      simp only [List.getElem_toArray, List.getElem_cons_zero, List.getElem_cons_succ, Act.put, List.setIfInBounds_toArray, List.set_cons_succ, List.set_cons_zero]
      refine MixedC.reads (k := 1) (.inr ⟨rfl, rfl⟩) _ [1, 2, 3, 4, 5] _ (by kernel_rfl) ?_
      simp only [List.filterMap_cons, List.filterMap_nil, List.getElem?_toArray, List.getElem?_cons_zero, List.getElem?_cons_succ]
      show wpQuiet _ _ _ _ [_, _, _, _, _] _
      iterate 5 go_big_quiet_step (fail)
      refine wpQuiet_nil ?_
      refine MixedC.read_row (i := 6) rfl rfl 39 (.tmp 3) rfl (K) rfl 39 (w32 64 kf) _ (hS.hk.drew) Try.underlying39 rfl (by kernel_rfl) ?_
      simp only [List.getElem_toArray, List.getElem_cons_zero, List.getElem_cons_succ, Act.put, List.setIfInBounds_toArray, List.set_cons_succ, List.set_cons_zero]
      refine MixedC.effect (i := 7) rfl rfl ?_
      intro Q hQ
      have HQ := keep hQ
      clear hQ
      go_wp2_with fail
      refine (HC.out _).mono ?_
      rintro e w6 ⟨rfl, hb⟩
      have hK7 : Keeps [] wr w6 := (Keeps.refl [] wr).drew.below hb (Nat.le_refl _)
      clear hb
      go_wp2_with fail
      refine HQ.out _ _ (Mx.of hK7) ?_
      clear HQ
      have hS1 := hS.keeps hK7
      have h1 := hS1.hh
      have hS2 := hS1.store v2
      refine MixedC.effect_last (i := 8) rfl rfl ?_
      intro Q hQ
      have HQ := keep hQ
      clear hQ
      go_wp2_with (refine wpList_store_row rfl 31 (.tmp 4) (.tmp 28) rfl H (w32 8 v2) rfl rfl 31 _ h1 (by kernel_rfl) (by unfold w32; rw [arr_size, arr_size]) (arr_one _ _ fun i => rfl) ?_)
      refine HQ.out _ _ ?_
      unfold MixedC.HL
      simp only [Act.put, List.getElem_toArray, List.getElem_cons_zero, List.getElem_cons_succ]
      clear HQ h1 hS1
      generalize w6.setRow H (w32 8 v2) = w7 at *
      clear hK7 hS
      go_wp2_with fail
      go_roundw
      case rel => exact ⟨j + 1, by omega, congrArg (Value.int .i64) (by omega), by rw [← HV2.out]; exact hS2⟩
      case measure => simp [intOf]; omega
    · have hjt' : 64 * j = t.length := by omega
      have hq : t.length / 64 = j := by omega
      have hsh := HSH.out
      rw [hq] at hsh
      have gjt : ¬ ((64 * j : Nat) : Int) < (t.length : Int) := by omega
      obtain ⟨v, hv⟩ : ∃ v, hs t j = v := ⟨_, rfl⟩
      rw [hv] at hS hsh
      have HSH2 := keep hsh
      obtain ⟨q, hq⟩ : ∃ q, 64 * j = q := ⟨_, rfl⟩
      rw [hq] at gjt ⊢
      clear hsh hv hq hjt' hjt
      have hX : Blk (wr.alloc (.cells #[.int .u8 0, .int .u8 0, .int .u8 0, .int .u8 0, .int .u8 0, .int .u8 0, .int .u8 0, .int .u8 0, .int .u8 0, .int .u8 0, .int .u8 0, .int .u8 0, .int .u8 0, .int .u8 0, .int .u8 0, .int .u8 0, .int .u8 0, .int .u8 0, .int .u8 0, .int .u8 0, .int .u8 0, .int .u8 0, .int .u8 0, .int .u8 0, .int .u8 0, .int .u8 0, .int .u8 0, .int .u8 0, .int .u8 0, .int .u8 0, .int .u8 0, .int .u8 0] 33)) wr.heap.size 33 (b8 32 (pt (shaf l) 0 4)) := by rw [pt_zero]; exact Blk.made wr 33 _
      have hS5 := hS.below (belowA wr (.cells #[.int .u8 0, .int .u8 0, .int .u8 0, .int .u8 0, .int .u8 0, .int .u8 0, .int .u8 0, .int .u8 0, .int .u8 0, .int .u8 0, .int .u8 0, .int .u8 0, .int .u8 0, .int .u8 0, .int .u8 0, .int .u8 0, .int .u8 0, .int .u8 0, .int .u8 0, .int .u8 0, .int .u8 0, .int .u8 0, .int .u8 0, .int .u8 0, .int .u8 0, .int .u8 0, .int .u8 0, .int .u8 0, .int .u8 0, .int .u8 0, .int .u8 0, .int .u8 0] 33))
      have hHB := hS.hh.lt
      clear hS
      go_wp2_with fail
      generalize wr.alloc (.cells #[.int .u8 0, .int .u8 0, .int .u8 0, .int .u8 0, .int .u8 0, .int .u8 0, .int .u8 0, .int .u8 0, .int .u8 0, .int .u8 0, .int .u8 0, .int .u8 0, .int .u8 0, .int .u8 0, .int .u8 0, .int .u8 0, .int .u8 0, .int .u8 0, .int .u8 0, .int .u8 0, .int .u8 0, .int .u8 0, .int .u8 0, .int .u8 0, .int .u8 0, .int .u8 0, .int .u8 0, .int .u8 0, .int .u8 0, .int .u8 0, .int .u8 0, .int .u8 0] 33) = w6 at *
      generalize wr.heap.size = B at *
      go_loopw [8] (fun z wr => ∃ i : Nat, i ≤ 8 ∧ z = .int .i64 i ∧ RS w.heap.size K H w wr v ∧ Blk wr B 33 (b8 32 (pt (shaf l) i 4))) (fun z _ => 8 - (intOf z).toNat)
      case atStart => exact ⟨0, Nat.zero_le _, rfl, hS5, hX⟩
      case round =>
        clear hS5 hX
        obtain ⟨i, hi, rfl, hS, hX⟩ := hrel
        by_cases hi8 : i < 8
        · have gi8 : (i : Int) < 8 := by omega
          have c1 := hS.hh.at_ (arr_get (fun q => v32 (v q)) hi8)
          go_wp2_with fail
          obtain ⟨wo, rfl⟩ : ∃ wo : World, wo = wr := ⟨_, rfl⟩
          go_loopw [9, 10] (fun x z wr => ∃ k : Nat, k ≤ 4 ∧ z = .int .i64 ((k : Int) - 1) ∧ x = v32 (down (v i) (4 - k)) ∧ RS w.heap.size K H w wr v ∧ Blk wr B 33 (b8 32 (pt (shaf l) i k))) (fun _ z _ => (intOf z + 1).toNat)
          case atStart => exact ⟨4, by omega, rfl, rfl, hS, hX⟩
          case round =>
            clear hS hX c1
            obtain ⟨k, hk, rfl, rfl, hS, hX⟩ := hrel
            by_cases hk0 : k = 0
            · subst hk0
              rw [pt_next] at hX
              go_wp2_with fail
              go_roundw
              case rel => exact ⟨i + 1, by omega, by go_num, hS, hX⟩
              case measure => simp [intOf]; omega
            · obtain ⟨q, rfl⟩ : ∃ q, k = q + 1 := ⟨k - 1, by omega⟩
              rw [show (((q + 1 : Nat) : Int) - 1) = (q : Int) by omega]
              have hq4 : q < 4 := by omega
              have hp32 : 4 * i + q < 32 := by omega
              have hby := by8_down v i q hq4
              rw [← HSH2.out] at hby
              have hdn : down (v i) (4 - q) = down (v i) (3 - q) / 256 := by rw [show 4 - q = 3 - q + 1 by omega]; rfl
              rw [show 4 - (q + 1) = 3 - q by omega]
              have c2 := hX.at_ (arr_get (fun p => v8 (pt (shaf l) i (q + 1) p)) hp32)
              have f2 := hX.free (4 * i + q)
              have k0 := hX.set (4 * i + q) (v8 (shaf l (4 * i + q)))
              rw [pt_set _ _ _ hi8 hq4] at k0
              have k1 : RS w.heap.size K H w (wr.setCell ⟨B, 4 * i + q, none⟩ (v8 (shaf l (4 * i + q)))) v := by
                obtain ⟨a, b, c, d, e, f⟩ := hS
                exact ⟨a.other (by simp; omega) _, b.other (by simp; omega) _, c.other (by simp; omega) _, d.setCell (by simp; omega) _, e, f⟩
              obtain ⟨y, hy⟩ : ∃ y, down (v i) (3 - q) = y := ⟨_, rfl⟩
              rw [hy] at hby hdn ⊢
              have gq : 4 * (i : Int) + (q : Int) < 32 := by omega
              have tq : (4 * (i : Int) + (q : Int)).toNat = 4 * i + q := by omega
              have HBY := keep hby
              have HDN := keep hdn
              clear hS hX hby hdn hy
              go_wp2_with fail
              rw [HBY.out]
              go_roundw
              case rel => exact ⟨q, by omega, by go_num, by rw [HDN.out], k1, k0⟩
              case measure => simp [intOf]
        · have gi8 : ¬ (i : Int) < 8 := by omega
          obtain rfl : i = 8 := by omega
          rw [pt_done] at hX
          have hres := hS.res
          have hbel := hS.bel
          clear hS
          go_wp2_with (first
            | (refine wpList_load_row rfl 33 (.tmp 7) rfl B rfl 33 (b8 32 (shaf l)) (0, 0) _ hX Try.underlying33 rfl (by kernel_rfl) ?_)
            | (refine wpList_store_row rfl 33 (.tmp 2) (.tmp 50) rfl w.heap.size (b8 32 (shaf l)) rfl rfl 33 _ hres (by kernel_rfl) (by unfold b8; rw [arr_size]; rfl) (arr_one _ _ fun i => rfl) ?_))
          refine bodyPost_ret (results_c rfl _ _ w.heap.size 33 _ _ _ rfl (hres.setRow (b8 32 (shaf l))) Try.underlying33 (by kernel_rfl)) rfl ?_
          exact ⟨rfl, below_row hbel (Nat.le_refl _) _⟩
end Go.Proofs.Ytbfgnlckmpnchaa

/-
  cha: the first state out of a key, a count and a nonce.
-/
import Derived.Test.YtghojlkogeoejaaBytes
namespace Go.Proofs.Ytghojlkogeoejaa
open Go.RowKit
def karr (k : Nat → UInt8) : Array Value := arr 32 fun i => v8 (k i)
def bgn : List UInt8 := [101, 120, 112, 97, 110, 100, 32, 51, 50, 45, 98, 121, 116, 101, 32, 107]
/-- The text of which the first state's words are made. -/
def stext (k : Nat → UInt8) (n : List UInt8) : List UInt8 := bgn ++ tl 32 k ++ [48, 48, 48, 48] ++ n
theorem stext_length (k : Nat → UInt8) (n : List UInt8) : (stext k n).length = 52 + n.length := by simp [stext, bgn, tl]; omega
def raw (k : Nat → UInt8) (n : List UInt8) : Nat → UInt32 := fun i => wordOf (stext k n) (4 * i)
def st0 (k : Nat → UInt8) (c : UInt32) (n : List UInt8) : Nat → UInt32 := setw (raw k n) 12 c
theorem zeros16 : (#[.int .u32 0, .int .u32 0, .int .u32 0, .int .u32 0, .int .u32 0, .int .u32 0, .int .u32 0, .int .u32 0, .int .u32 0, .int .u32 0, .int .u32 0, .int .u32 0, .int .u32 0, .int .u32 0, .int .u32 0, .int .u32 0] : Array Value) = warr fun _ => 0 := by rfl

def uptow (f : Nat → UInt32) (k : Nat) : Nat → UInt32 := fun j => if j < k then f j else 0
theorem uptow_set (f : Nat → UInt32) (k : Nat) : (warr (uptow f k)).setIfInBounds k (v32 (f k)) = warr (uptow f (k + 1)) := by
  rw [warr_set]
  refine arr_congr fun i _ => ?_
  unfold uptow setw
  by_cases h : i = k
  · simp [h]
  · by_cases h1 : i < k
    · simp [h, h1, show i < k + 1 by omega]
    · simp [h, h1, show ¬ i < k + 1 by omega]
theorem uptow_done (f : Nat → UInt32) : warr (uptow f 16) = warr f := arr_congr fun i hi => by simp [uptow, hi]
theorem uptow_zero (f : Nat → UInt32) : warr (uptow f 0) = warr fun _ => 0 := arr_congr fun i _ => by simp [uptow]
structure FR (N : Nat) (w wr : World) (f : Nat → UInt32) (j : Nat) : Prop where
  h0 : ∃ cs, Blk wr (N + 1) 47 cs ∧ cs.size = 16
  h1 : Blk wr (N + 1 + 1) 47 (warr (uptow f j))
  bel : Below N w wr
theorem FR.set {N : Nat} {w wr : World} {f : Nat → UInt32} {j : Nat} (h : FR N w wr f j) : FR N w (wr.setCell ⟨N + 1 + 1, j, none⟩ (v32 (f j))) f (j + 1) := by
  obtain ⟨⟨cs, h0, h00⟩, h1, h2⟩ := h
  refine ⟨⟨cs, h0.other (by simp) _, h00⟩, ?_, h2.setCell (by simp; omega) _⟩
  have := h1.set j (v32 (f j))
  rwa [uptow_set] at this
theorem FR.many {N : Nat} {w wr : World} {f : Nat → UInt32} {j : Nat} (h : FR N w wr f j) (n : Nat) : FR N w (wr.drewN n) f j :=
  ⟨h.h0, h.h1, ⟨h.bel.os, h.bel.tape, h.bel.output, h.bel.size, h.bel.block⟩⟩

theorem made1 (w : World) (o : Obj) (t : TypeId) (cs : Array Value) : Blk ((w.alloc o).alloc (.cells cs t)) (w.heap.size + 1) t cs := by
  have := Blk.made (w.alloc o) t cs
  rwa [show (w.alloc o).heap.size = w.heap.size + 1 by simp] at this
theorem made2 (w : World) (o o' : Obj) (t : TypeId) (cs : Array Value) : Blk (((w.alloc o).alloc o').alloc (.cells cs t)) (w.heap.size + 1 + 1) t cs := by
  have := Blk.made ((w.alloc o).alloc o') t cs
  rwa [show ((w.alloc o).alloc o').heap.size = w.heap.size + 1 + 1 by simp] at this

theorem first_any (k : Nat → UInt8) (c : UInt32) (n : List UInt8) (w : World) (hn : n.length = 12) :
    Calls Try.prog 18 #[.agg (karr k), v32 c, .string (tx n)] w fun e w' => e = .returned (.agg (warr (st0 k c n))) ∧ Below w.heap.size w w' := by
  have hkey : ∀ o, Row8 ((w.alloc (.cells (karr k) 29)).alloc o) w.heap.size 0 32 k := fun o => (Row8.ofBlk (Blk.made w 29 _)).alloc o
  obtain ⟨f, hf⟩ : ∃ f, f = raw k n := ⟨_, rfl⟩
  have hraw : ∀ j, wordOf (stext k n) (4 * j) = f j := fun _ => by rw [hf]; rfl
  have HR := keep hraw
  unfold st0
  rw [← hf]
  clear hraw hf
  go_enter Try.func18, Try.ntmps18
  go_wp2_with fail
  rw [(hkey _).back 31 9 5 Try.underlying31 Try.underlying5 Try.underlying9 32]
  go_wp2_with fail
  rw [zeros16]
  have hS : 101 :: 120 :: 112 :: 97 :: 110 :: 100 :: 32 :: 51 :: 50 :: 45 :: 98 :: 121 :: 116 :: 101 :: 32 :: 107 :: (tl 32 k ++ 48 :: 48 :: 48 :: 48 :: n) = stext k n := by simp [stext, bgn]
  rw [hS]
  have hlen : (stext k n).length = 64 := by rw [stext_length, hn]
  clear hS hkey
  generalize stext k n = S at *
  have hA : FR w.heap.size w (((w.alloc (.cells (karr k) 29)).alloc (.cells (warr fun _ => 0) 47)).alloc (.cells (warr fun _ => 0) 47)) f 0 :=
    ⟨⟨_, (made1 w _ 47 (warr fun _ => 0)).alloc _, arr_size _ _⟩, by rw [uptow_zero]; exact made2 w _ _ 47 (warr fun _ => 0),
      (((Below.refl _ _).alloc (Nat.le_refl _) _).alloc (by simp) _).alloc (by simp; omega) _⟩
  generalize hN : w.heap.size = N at *
  go_loopw [16] (fun i wr => ∃ j : Nat, j ≤ 16 ∧ i = .int .i64 j ∧ FR N w wr f j) (fun i _ => 16 - (intOf i).toNat)
  case atStart => exact ⟨0, Nat.zero_le _, rfl, hA⟩
  case round =>
    obtain ⟨j, hj, rfl, hR⟩ := hrel
    clear hA
    by_cases h4 : j < 16
    · have g4 : (j : Int) < 16 := by omega
      have g5 : 4 * (j : Int) ≤ 64 := by omega
      go_wp2_with fail
      rw [show List.take (64 - 4 * j) (List.drop (4 * j) S) = S.drop (4 * j) from List.take_of_length_le (by simp [hlen])]
      refine (word_any (S.drop (4 * j)) wr (by simp; omega)).mono ?_
      rintro e w2 ⟨rfl, m, rfl⟩
      rw [wordOf_drop, HR.out]
      have hR2 := hR.many m
      clear hR
      generalize wr.drewN m = w2 at *
      have c1 := hR2.h1.at_ (warr_get _ h4)
      have f1 := hR2.h1.free j
      have hf := hR2.set
      go_wp2_with fail
      clear hR2 c1 f1
      go_roundw
      case rel => exact ⟨j + 1, by omega, by go_num, hf⟩
      case measure => simp [intOf]; omega
    · obtain rfl : j = 16 := by omega
      obtain ⟨⟨cs0, h0, h00⟩, h1, hbel⟩ := hR
      rw [uptow_done] at h1
      have c1 := h1.at_ (warr_get f (i := 12) (by omega))
      have f1 := h1.free 12
      have h12 := h1.set 12 (v32 c)
      rw [warr_set] at h12
      have h02 := h0.other (p := ⟨N + 1 + 1, 12, none⟩) (by simp) (v32 c)
      have hb2 := hbel.setCell (p := ⟨N + 1 + 1, 12, none⟩) (by simp; omega) (v32 c)
      go_wp2_with (first
        | (refine wpList_load_row rfl 47 (.tmp 8) rfl (N + 1 + 1) rfl 47 (warr (setw f 12 c)) (0, 0) _ h12 Try.underlying47 rfl (by kernel_rfl) ?_)
        | (refine wpList_store_row rfl 47 (.tmp 6) (.tmp 29) rfl (N + 1) (warr (setw f 12 c)) rfl rfl 47 cs0 h02 (by kernel_rfl) (by rw [h00]; rfl) (arr_one _ _ fun i => rfl) ?_))
      refine bodyPost_ret (results_c rfl _ _ (N + 1) 47 _ _ _ rfl (h02.setRow (warr (setw f 12 c))) Try.underlying47 (by kernel_rfl)) rfl ?_
      exact ⟨rfl, by rw [hN]; exact below_row hb2 (by omega) _⟩
end Go.Proofs.Ytghojlkogeoejaa

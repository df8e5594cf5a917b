/-
  sha: a text's sum: the program's walk (written by wip/tools/sha_sum2.py).
-/
import Derived.Test.YtbfgnlckmpnchaaBlock
import Derived.Test.YtbfgnlckmpnchaaFill
namespace Go.Proofs.Ytbfgnlckmpnchaa
open Go.RowKit
set_option linter.unusedVariables false
set_option linter.unusedSimpArgs false
/-- A row of n bytes, told by a function. -/
def b8 (n : Nat) (f : Nat → UInt8) : Array Value := arr n fun i => v8 (f i)
def up8 (f : Nat → UInt8) (j : Nat) : Nat → UInt8 := fun i => if i < j then f i else 0
theorem up8_set (n : Nat) (f : Nat → UInt8) (j : Nat) : (b8 n (up8 f j)).setIfInBounds j (v8 (f j)) = b8 n (up8 f (j + 1)) := by
  unfold b8
  rw [arr_set]
  refine arr_congr fun i _ => ?_
  unfold up8
  by_cases h : i = j
  · simp [h]
  · by_cases h1 : i < j
    · simp [h, h1, show i < j + 1 by omega]
    · simp [h, h1, show ¬ i < j + 1 by omega]
theorem up8_done (n : Nat) (f : Nat → UInt8) : b8 n (up8 f n) = b8 n f := arr_congr fun i hi => by simp [up8, hi]
/-- Block j of a text. -/
def blk (t : List UInt8) (j : Nat) : List UInt8 := (t.drop (64 * j)).take 64
/-- The words behind j blocks. -/
def hs (t : List UInt8) : Nat → (Nat → UInt32)
  | 0 => hf
  | j + 1 => mixf (hs t j) (wf (blk t j)) kf
/-- Byte i of eight words. -/
def by8 (v : Nat → UInt32) (i : Nat) : UInt8 := (v (i / 4) >>> UInt32.ofNat (24 - 8 * (i % 4))).toUInt8
/-- A text's sum. -/
def shaf (l : List UInt8) : Nat → UInt8 := by8 (hs (fillf l) ((fillf l).length / 64))
structure SS (N P : Nat) (w wr : World) (v : Nat → UInt32) : Prop where
  res : ∃ cs, Blk wr N 34 cs ∧ cs.size = 32
  hk : Blk wr P 39 (w32 64 kf)
  hh : Blk wr (P + 1) 31 (w32 8 v)
  bel : Below N w wr
  lt : N < P
section
variable {N P : Nat} {w wr w' : World} {v u : Nat → UInt32}
theorem SS.below (h : SS N P w wr v) (hb : Below wr.heap.size wr w') : SS N P w w' v := by
  obtain ⟨⟨cs, a, b⟩, c, d, e, f⟩ := h
  exact ⟨⟨cs, a.kept hb, b⟩, c.kept hb, d.kept hb, e.trans (hb.mono (by have := d.lt; omega)), f⟩
theorem SS.drew (h : SS N P w wr v) : SS N P w wr.drew v := by
  obtain ⟨⟨cs, a, b⟩, c, d, e, f⟩ := h
  exact ⟨⟨cs, a.drew, b⟩, c.drew, d.drew, e.drew, f⟩
theorem SS.store (h : SS N P w wr v) (u : Nat → UInt32) : SS N P w (wr.setRow (P + 1) (w32 8 u)) u := by
  obtain ⟨⟨cs, a, b⟩, c, d, e, f⟩ := h
  exact ⟨⟨cs, a.otherRow (by omega) _, b⟩, c.otherRow (by omega) _, d.setRow _, below_row e (by omega) _, f⟩
theorem SS.keeps (h : SS N P w wr v) (hk : Keeps [] wr w') : SS N P w w' v := by
  have h1 := h.hh.lt
  have h2 := h.lt
  exact h.below (hk.toBelow (Nat.le_refl _) (by simp))
end
set_option maxRecDepth 100000 in
set_option maxHeartbeats 8000000 in
theorem sha_any (l : List UInt8) (hl : l.length < 900000) (w : World) : Calls Try.prog 22 #[.string (tx l)] w fun e w' => e = .returned (.agg (b8 32 (shaf l))) ∧ Below w.heap.size w w' := by
  have hr : Blk (w.alloc (.cells #[.int .u8 0, .int .u8 0, .int .u8 0, .int .u8 0, .int .u8 0, .int .u8 0, .int .u8 0, .int .u8 0, .int .u8 0, .int .u8 0, .int .u8 0, .int .u8 0, .int .u8 0, .int .u8 0, .int .u8 0, .int .u8 0, .int .u8 0, .int .u8 0, .int .u8 0, .int .u8 0, .int .u8 0, .int .u8 0, .int .u8 0, .int .u8 0, .int .u8 0, .int .u8 0, .int .u8 0, .int .u8 0, .int .u8 0, .int .u8 0, .int .u8 0, .int .u8 0] 34)) w.heap.size 34 #[.int .u8 0, .int .u8 0, .int .u8 0, .int .u8 0, .int .u8 0, .int .u8 0, .int .u8 0, .int .u8 0, .int .u8 0, .int .u8 0, .int .u8 0, .int .u8 0, .int .u8 0, .int .u8 0, .int .u8 0, .int .u8 0, .int .u8 0, .int .u8 0, .int .u8 0, .int .u8 0, .int .u8 0, .int .u8 0, .int .u8 0, .int .u8 0, .int .u8 0, .int .u8 0, .int .u8 0, .int .u8 0, .int .u8 0, .int .u8 0, .int .u8 0, .int .u8 0] := Blk.made w 34 _
  have hbr := belowA w (.cells #[.int .u8 0, .int .u8 0, .int .u8 0, .int .u8 0, .int .u8 0, .int .u8 0, .int .u8 0, .int .u8 0, .int .u8 0, .int .u8 0, .int .u8 0, .int .u8 0, .int .u8 0, .int .u8 0, .int .u8 0, .int .u8 0, .int .u8 0, .int .u8 0, .int .u8 0, .int .u8 0, .int .u8 0, .int .u8 0, .int .u8 0, .int .u8 0, .int .u8 0, .int .u8 0, .int .u8 0, .int .u8 0, .int .u8 0, .int .u8 0, .int .u8 0, .int .u8 0] 34)
  have hrs : ∃ cs, Blk (w.alloc (.cells #[.int .u8 0, .int .u8 0, .int .u8 0, .int .u8 0, .int .u8 0, .int .u8 0, .int .u8 0, .int .u8 0, .int .u8 0, .int .u8 0, .int .u8 0, .int .u8 0, .int .u8 0, .int .u8 0, .int .u8 0, .int .u8 0, .int .u8 0, .int .u8 0, .int .u8 0, .int .u8 0, .int .u8 0, .int .u8 0, .int .u8 0, .int .u8 0, .int .u8 0, .int .u8 0, .int .u8 0, .int .u8 0, .int .u8 0, .int .u8 0, .int .u8 0, .int .u8 0] 34)) w.heap.size 34 cs ∧ cs.size = 32 := ⟨_, hr, rfl⟩
  clear hr
  have hws : w.heap.size < (w.alloc (.cells #[.int .u8 0, .int .u8 0, .int .u8 0, .int .u8 0, .int .u8 0, .int .u8 0, .int .u8 0, .int .u8 0, .int .u8 0, .int .u8 0, .int .u8 0, .int .u8 0, .int .u8 0, .int .u8 0, .int .u8 0, .int .u8 0, .int .u8 0, .int .u8 0, .int .u8 0, .int .u8 0, .int .u8 0, .int .u8 0, .int .u8 0, .int .u8 0, .int .u8 0, .int .u8 0, .int .u8 0, .int .u8 0, .int .u8 0, .int .u8 0, .int .u8 0, .int .u8 0] 34)).heap.size := by simp
  go_enter Try.func22, Try.ntmps22
  go_wp2_with fail
  generalize w.alloc (.cells #[.int .u8 0, .int .u8 0, .int .u8 0, .int .u8 0, .int .u8 0, .int .u8 0, .int .u8 0, .int .u8 0, .int .u8 0, .int .u8 0, .int .u8 0, .int .u8 0, .int .u8 0, .int .u8 0, .int .u8 0, .int .u8 0, .int .u8 0, .int .u8 0, .int .u8 0, .int .u8 0, .int .u8 0, .int .u8 0, .int .u8 0, .int .u8 0, .int .u8 0, .int .u8 0, .int .u8 0, .int .u8 0, .int .u8 0, .int .u8 0, .int .u8 0, .int .u8 0] 34) = w0 at *
  refine (constants_any _).mono ?_
  rintro e w1 ⟨rfl, hb1⟩
  go_wp2_with fail
  refine (first_any _).mono ?_
  rintro e w2 ⟨rfl, hb2⟩
  have hb3 := hb1.trans (hb2.mono hb1.size)
  have hrs2 : ∃ cs, Blk w2 w.heap.size 34 cs ∧ cs.size = 32 := by
    obtain ⟨cs, a, b⟩ := hrs
    exact ⟨cs, a.kept hb3, b⟩
  have hB2 := hbr.trans (hb3.mono (by omega))
  have hlt : w.heap.size < w2.heap.size := by have := hb3.size; omega
  clear hb1 hb2 hb3 hrs hbr hws
  have k0 : Blk ((w2.alloc (.cells #[.int .u32 0, .int .u32 0, .int .u32 0, .int .u32 0, .int .u32 0, .int .u32 0, .int .u32 0, .int .u32 0, .int .u32 0, .int .u32 0, .int .u32 0, .int .u32 0, .int .u32 0, .int .u32 0, .int .u32 0, .int .u32 0, .int .u32 0, .int .u32 0, .int .u32 0, .int .u32 0, .int .u32 0, .int .u32 0, .int .u32 0, .int .u32 0, .int .u32 0, .int .u32 0, .int .u32 0, .int .u32 0, .int .u32 0, .int .u32 0, .int .u32 0, .int .u32 0, .int .u32 0, .int .u32 0, .int .u32 0, .int .u32 0, .int .u32 0, .int .u32 0, .int .u32 0, .int .u32 0, .int .u32 0, .int .u32 0, .int .u32 0, .int .u32 0, .int .u32 0, .int .u32 0, .int .u32 0, .int .u32 0, .int .u32 0, .int .u32 0, .int .u32 0, .int .u32 0, .int .u32 0, .int .u32 0, .int .u32 0, .int .u32 0, .int .u32 0, .int .u32 0, .int .u32 0, .int .u32 0, .int .u32 0, .int .u32 0, .int .u32 0, .int .u32 0] 39)).alloc (.cells #[.int .u32 0, .int .u32 0, .int .u32 0, .int .u32 0, .int .u32 0, .int .u32 0, .int .u32 0, .int .u32 0] 31)) w2.heap.size 39 #[.int .u32 0, .int .u32 0, .int .u32 0, .int .u32 0, .int .u32 0, .int .u32 0, .int .u32 0, .int .u32 0, .int .u32 0, .int .u32 0, .int .u32 0, .int .u32 0, .int .u32 0, .int .u32 0, .int .u32 0, .int .u32 0, .int .u32 0, .int .u32 0, .int .u32 0, .int .u32 0, .int .u32 0, .int .u32 0, .int .u32 0, .int .u32 0, .int .u32 0, .int .u32 0, .int .u32 0, .int .u32 0, .int .u32 0, .int .u32 0, .int .u32 0, .int .u32 0, .int .u32 0, .int .u32 0, .int .u32 0, .int .u32 0, .int .u32 0, .int .u32 0, .int .u32 0, .int .u32 0, .int .u32 0, .int .u32 0, .int .u32 0, .int .u32 0, .int .u32 0, .int .u32 0, .int .u32 0, .int .u32 0, .int .u32 0, .int .u32 0, .int .u32 0, .int .u32 0, .int .u32 0, .int .u32 0, .int .u32 0, .int .u32 0, .int .u32 0, .int .u32 0, .int .u32 0, .int .u32 0, .int .u32 0, .int .u32 0, .int .u32 0, .int .u32 0] := (Blk.made w2 39 _).alloc _
  have k1 : Blk ((w2.alloc (.cells #[.int .u32 0, .int .u32 0, .int .u32 0, .int .u32 0, .int .u32 0, .int .u32 0, .int .u32 0, .int .u32 0, .int .u32 0, .int .u32 0, .int .u32 0, .int .u32 0, .int .u32 0, .int .u32 0, .int .u32 0, .int .u32 0, .int .u32 0, .int .u32 0, .int .u32 0, .int .u32 0, .int .u32 0, .int .u32 0, .int .u32 0, .int .u32 0, .int .u32 0, .int .u32 0, .int .u32 0, .int .u32 0, .int .u32 0, .int .u32 0, .int .u32 0, .int .u32 0, .int .u32 0, .int .u32 0, .int .u32 0, .int .u32 0, .int .u32 0, .int .u32 0, .int .u32 0, .int .u32 0, .int .u32 0, .int .u32 0, .int .u32 0, .int .u32 0, .int .u32 0, .int .u32 0, .int .u32 0, .int .u32 0, .int .u32 0, .int .u32 0, .int .u32 0, .int .u32 0, .int .u32 0, .int .u32 0, .int .u32 0, .int .u32 0, .int .u32 0, .int .u32 0, .int .u32 0, .int .u32 0, .int .u32 0, .int .u32 0, .int .u32 0, .int .u32 0] 39)).alloc (.cells #[.int .u32 0, .int .u32 0, .int .u32 0, .int .u32 0, .int .u32 0, .int .u32 0, .int .u32 0, .int .u32 0] 31)) (w2.heap.size + 1) 31 #[.int .u32 0, .int .u32 0, .int .u32 0, .int .u32 0, .int .u32 0, .int .u32 0, .int .u32 0, .int .u32 0] := madeA w2 _ 31 _
  have k2 : ∃ cs, Blk ((w2.alloc (.cells #[.int .u32 0, .int .u32 0, .int .u32 0, .int .u32 0, .int .u32 0, .int .u32 0, .int .u32 0, .int .u32 0, .int .u32 0, .int .u32 0, .int .u32 0, .int .u32 0, .int .u32 0, .int .u32 0, .int .u32 0, .int .u32 0, .int .u32 0, .int .u32 0, .int .u32 0, .int .u32 0, .int .u32 0, .int .u32 0, .int .u32 0, .int .u32 0, .int .u32 0, .int .u32 0, .int .u32 0, .int .u32 0, .int .u32 0, .int .u32 0, .int .u32 0, .int .u32 0, .int .u32 0, .int .u32 0, .int .u32 0, .int .u32 0, .int .u32 0, .int .u32 0, .int .u32 0, .int .u32 0, .int .u32 0, .int .u32 0, .int .u32 0, .int .u32 0, .int .u32 0, .int .u32 0, .int .u32 0, .int .u32 0, .int .u32 0, .int .u32 0, .int .u32 0, .int .u32 0, .int .u32 0, .int .u32 0, .int .u32 0, .int .u32 0, .int .u32 0, .int .u32 0, .int .u32 0, .int .u32 0, .int .u32 0, .int .u32 0, .int .u32 0, .int .u32 0] 39)).alloc (.cells #[.int .u32 0, .int .u32 0, .int .u32 0, .int .u32 0, .int .u32 0, .int .u32 0, .int .u32 0, .int .u32 0] 31)) w.heap.size 34 cs ∧ cs.size = 32 := by
    obtain ⟨cs, a, b⟩ := hrs2
    exact ⟨cs, (a.alloc _).alloc _, b⟩
  have k3 := hB2.trans ((belowB w2 (.cells #[.int .u32 0, .int .u32 0, .int .u32 0, .int .u32 0, .int .u32 0, .int .u32 0, .int .u32 0, .int .u32 0, .int .u32 0, .int .u32 0, .int .u32 0, .int .u32 0, .int .u32 0, .int .u32 0, .int .u32 0, .int .u32 0, .int .u32 0, .int .u32 0, .int .u32 0, .int .u32 0, .int .u32 0, .int .u32 0, .int .u32 0, .int .u32 0, .int .u32 0, .int .u32 0, .int .u32 0, .int .u32 0, .int .u32 0, .int .u32 0, .int .u32 0, .int .u32 0, .int .u32 0, .int .u32 0, .int .u32 0, .int .u32 0, .int .u32 0, .int .u32 0, .int .u32 0, .int .u32 0, .int .u32 0, .int .u32 0, .int .u32 0, .int .u32 0, .int .u32 0, .int .u32 0, .int .u32 0, .int .u32 0, .int .u32 0, .int .u32 0, .int .u32 0, .int .u32 0, .int .u32 0, .int .u32 0, .int .u32 0, .int .u32 0, .int .u32 0, .int .u32 0, .int .u32 0, .int .u32 0, .int .u32 0, .int .u32 0, .int .u32 0, .int .u32 0] 39) (.cells #[.int .u32 0, .int .u32 0, .int .u32 0, .int .u32 0, .int .u32 0, .int .u32 0, .int .u32 0, .int .u32 0] 31)).mono (by omega))
  have k0s : Blk (((w2.alloc (.cells #[.int .u32 0, .int .u32 0, .int .u32 0, .int .u32 0, .int .u32 0, .int .u32 0, .int .u32 0, .int .u32 0, .int .u32 0, .int .u32 0, .int .u32 0, .int .u32 0, .int .u32 0, .int .u32 0, .int .u32 0, .int .u32 0, .int .u32 0, .int .u32 0, .int .u32 0, .int .u32 0, .int .u32 0, .int .u32 0, .int .u32 0, .int .u32 0, .int .u32 0, .int .u32 0, .int .u32 0, .int .u32 0, .int .u32 0, .int .u32 0, .int .u32 0, .int .u32 0, .int .u32 0, .int .u32 0, .int .u32 0, .int .u32 0, .int .u32 0, .int .u32 0, .int .u32 0, .int .u32 0, .int .u32 0, .int .u32 0, .int .u32 0, .int .u32 0, .int .u32 0, .int .u32 0, .int .u32 0, .int .u32 0, .int .u32 0, .int .u32 0, .int .u32 0, .int .u32 0, .int .u32 0, .int .u32 0, .int .u32 0, .int .u32 0, .int .u32 0, .int .u32 0, .int .u32 0, .int .u32 0, .int .u32 0, .int .u32 0, .int .u32 0, .int .u32 0] 39)).alloc (.cells #[.int .u32 0, .int .u32 0, .int .u32 0, .int .u32 0, .int .u32 0, .int .u32 0, .int .u32 0, .int .u32 0] 31)).setRow w2.heap.size (w32 64 kf)) (w2.heap.size + 1) 31 #[.int .u32 0, .int .u32 0, .int .u32 0, .int .u32 0, .int .u32 0, .int .u32 0, .int .u32 0, .int .u32 0] := k1.otherRow (by omega) _
  go_wp2_with (first
    | (refine wpList_store_row rfl 39 (.tmp 3) (.tmp 8) rfl w2.heap.size (w32 64 kf) rfl rfl 39 _ k0 (by kernel_rfl) (by unfold w32; rw [arr_size]; rfl) (arr_one _ _ fun i => rfl) ?_)
    | (refine wpList_store_row rfl 31 (.tmp 4) (.tmp 9) rfl (w2.heap.size + 1) (w32 8 hf) rfl rfl 31 _ k0s (by kernel_rfl) (by unfold w32; rw [arr_size]; rfl) (arr_one _ _ fun i => rfl) ?_))
  have hS : SS w.heap.size w2.heap.size w ((((w2.alloc (.cells #[.int .u32 0, .int .u32 0, .int .u32 0, .int .u32 0, .int .u32 0, .int .u32 0, .int .u32 0, .int .u32 0, .int .u32 0, .int .u32 0, .int .u32 0, .int .u32 0, .int .u32 0, .int .u32 0, .int .u32 0, .int .u32 0, .int .u32 0, .int .u32 0, .int .u32 0, .int .u32 0, .int .u32 0, .int .u32 0, .int .u32 0, .int .u32 0, .int .u32 0, .int .u32 0, .int .u32 0, .int .u32 0, .int .u32 0, .int .u32 0, .int .u32 0, .int .u32 0, .int .u32 0, .int .u32 0, .int .u32 0, .int .u32 0, .int .u32 0, .int .u32 0, .int .u32 0, .int .u32 0, .int .u32 0, .int .u32 0, .int .u32 0, .int .u32 0, .int .u32 0, .int .u32 0, .int .u32 0, .int .u32 0, .int .u32 0, .int .u32 0, .int .u32 0, .int .u32 0, .int .u32 0, .int .u32 0, .int .u32 0, .int .u32 0, .int .u32 0, .int .u32 0, .int .u32 0, .int .u32 0, .int .u32 0, .int .u32 0, .int .u32 0, .int .u32 0] 39)).alloc (.cells #[.int .u32 0, .int .u32 0, .int .u32 0, .int .u32 0, .int .u32 0, .int .u32 0, .int .u32 0, .int .u32 0] 31)).setRow w2.heap.size (w32 64 kf)).setRow (w2.heap.size + 1) (w32 8 hf)) hf := by
    obtain ⟨cs, a, b⟩ := k2
    exact ⟨⟨cs, (a.otherRow (by omega) _).otherRow (by omega) _, b⟩, (k0.setRow _).otherRow (by omega) _, k0s.setRow _, below_row (below_row k3 (by omega) _) (by omega) _, hlt⟩
  clear k0 k1 k2 k3 k0s hrs2 hB2
  generalize (((w2.alloc (.cells #[.int .u32 0, .int .u32 0, .int .u32 0, .int .u32 0, .int .u32 0, .int .u32 0, .int .u32 0, .int .u32 0, .int .u32 0, .int .u32 0, .int .u32 0, .int .u32 0, .int .u32 0, .int .u32 0, .int .u32 0, .int .u32 0, .int .u32 0, .int .u32 0, .int .u32 0, .int .u32 0, .int .u32 0, .int .u32 0, .int .u32 0, .int .u32 0, .int .u32 0, .int .u32 0, .int .u32 0, .int .u32 0, .int .u32 0, .int .u32 0, .int .u32 0, .int .u32 0, .int .u32 0, .int .u32 0, .int .u32 0, .int .u32 0, .int .u32 0, .int .u32 0, .int .u32 0, .int .u32 0, .int .u32 0, .int .u32 0, .int .u32 0, .int .u32 0, .int .u32 0, .int .u32 0, .int .u32 0, .int .u32 0, .int .u32 0, .int .u32 0, .int .u32 0, .int .u32 0, .int .u32 0, .int .u32 0, .int .u32 0, .int .u32 0, .int .u32 0, .int .u32 0, .int .u32 0, .int .u32 0, .int .u32 0, .int .u32 0, .int .u32 0, .int .u32 0] 39)).alloc (.cells #[.int .u32 0, .int .u32 0, .int .u32 0, .int .u32 0, .int .u32 0, .int .u32 0, .int .u32 0, .int .u32 0] 31)).setRow w2.heap.size (w32 64 kf)).setRow (w2.heap.size + 1) (w32 8 hf) = w3 at *
  generalize hN : w.heap.size = N at *
  generalize hP : w2.heap.size = P at *
  have HN := keep hN
  clear hN hP hlt
  refine (fill_any l (by omega) _).mono ?_
  rintro e w4 ⟨rfl, hb4⟩
  have hS4 := hS.below hb4
  clear hS hb4
  have ht64 := fillf_64 l
  have htl : (fillf l).length < 1000000 := by rw [fillf_length]; unfold zc; omega
  have hsh : shaf l = by8 (hs (fillf l) ((fillf l).length / 64)) := rfl
  have HSH := keep hsh
  clear hsh
  generalize fillf l = t at *
  go_wp2_with fail
  go_loopw [5] (fun sv wr => ∃ j : Nat, 64 * j ≤ t.length ∧ sv = .string (tx (t.drop (64 * j))) ∧ SS N P w wr (hs t j)) (fun sv _ => match sv with | .string s => s.size | _ => 0)
  case atStart => exact ⟨0, by omega, rfl, hS4⟩
  case round =>
    clear hS4
    obtain ⟨j, hj, rfl, hS⟩ := hrel
    by_cases hlt : 64 * j < t.length
    · have hge : 64 * (j + 1) ≤ t.length := by omega
      have hbl : (blk t j).length = 64 := by unfold blk; rw [List.length_take, List.length_drop]; omega
      have hbX : (t.drop (64 * j)).take 64 = blk t j := rfl
      have hdX : (t.drop (64 * j)).drop 64 = t.drop (64 * (j + 1)) := by rw [List.drop_drop]; congr 1
      have hXl : (t.drop (64 * j)).length = t.length - 64 * j := List.length_drop
      obtain ⟨X, hX⟩ : ∃ X, t.drop (64 * j) = X := ⟨_, rfl⟩
      rw [hX] at hbX hdX hXl ⊢
      have gX : 64 ≤ X.length := by omega
      have gXi : (64 : Int) ≤ (X.length : Int) := by omega
      have hne : X ≠ [] := fun e => by rw [e] at gX; simp at gX
      have hie : X.isEmpty = false := by cases X with
        | nil => exact absurd rfl hne
        | cons a b => rfl
      clear hX
      go_wp2_with fail
      refine MixedC.wp_region (fun w' => ∃ u, w' = mix [] wr u) [(0, 0), (1, 1), (1, 2), (0, 4), (2, 3), (2, 5), (3, 6)] (by kernel_rfl) (by kernel_rfl) (Mx.drew0 _ _) ?_
      refine MixedC.read_row0 (i := 0) rfl rfl 31 (.tmp 4) rfl (P + 1) rfl 31 (w32 8 (hs t j)) _ (by rintro _ ⟨u, rfl⟩; exact (mix_keeps [] wr u).blk hS.hh (by simp)) Try.underlying31 rfl (by kernel_rfl) ?_
      simp only [List.getElem_toArray, List.getElem_cons_zero, List.getElem_cons_succ, Act.put, List.setIfInBounds_toArray, List.set_cons_succ, List.set_cons_zero]
      refine MixedC.reads (k := 1) (.inr ⟨rfl, rfl⟩) _ [1, 2] _ (by kernel_rfl) ?_
      simp only [List.filterMap_cons, List.filterMap_nil, List.getElem?_toArray, List.getElem?_cons_zero, List.getElem?_cons_succ]
      show wpQuiet _ _ _ _ [_, _] _
      iterate 2 go_big_quiet_step (fail)
      refine wpQuiet_nil ?_
      refine MixedC.read_row0 (i := 4) rfl rfl 39 (.tmp 3) rfl (P) rfl 39 (w32 64 kf) _ (by rintro _ ⟨u, rfl⟩; exact (mix_keeps [] wr u).blk hS.hk (by simp)) Try.underlying39 rfl (by kernel_rfl) ?_
      simp only [List.getElem_toArray, List.getElem_cons_zero, List.getElem_cons_succ, Act.put, List.setIfInBounds_toArray, List.set_cons_succ, List.set_cons_zero]
      refine MixedC.effect (i := 3) rfl rfl ?_
      intro Q hQ
      have HQ := keep hQ
      clear hQ
      go_wp2_with fail
      refine (words_any (blk t j) (by omega) (by omega) _).mono ?_
      rintro e w5 ⟨rfl, hb⟩
      have hK3 : Keeps [] wr w5 := (Keeps.refl [] wr).drew.below hb (Nat.le_refl _)
      clear hb
      go_wp2_with fail
      refine HQ.out _ _ (Mx.of hK3) ?_
      clear HQ
      refine MixedC.effect (i := 5) rfl rfl ?_
      intro Q hQ
      have HQ := keep hQ
      clear hQ
      go_wp2_with fail
      refine (mixed_any (hs t j) (wf (blk t j)) kf _).mono ?_
      rintro e w6 ⟨rfl, hb⟩
      have hK5 : Keeps [] wr w6 := hK3.below hb hK3.size
      clear hb
      go_wp2_with fail
      refine HQ.out _ _ (Mx.of hK5) ?_
      clear HQ
      have hS1 := hS.keeps hK5
      have hhs : mixf (hs t j) (wf (blk t j)) kf = hs t (j + 1) := rfl
      have h1 := hS1.hh
      have hS2 := hS1.store (hs t (j + 1))
      refine MixedC.effect_last (i := 6) rfl rfl ?_
      intro Q hQ
      have HQ := keep hQ
      clear hQ
      go_wp2_with (refine wpList_store_row rfl 31 (.tmp 4) (.tmp 21) rfl (P + 1) (w32 8 (hs t (j + 1))) rfl rfl 31 _ h1 (by kernel_rfl) (by unfold w32; rw [arr_size]; rfl) (arr_one _ _ fun i => rfl) ?_)
      refine HQ.out _ _ ?_
      unfold MixedC.HL
      simp only [Act.put, List.getElem_toArray, List.getElem_cons_zero, List.getElem_cons_succ]
      clear HQ h1 hS1
      generalize w6.setRow (P + 1) (w32 8 (hs t (j + 1))) = w7 at *
      clear hK3 hK5 hS hbX hhs
      go_wp2_with fail
      go_roundw
      case rel => exact ⟨j + 1, hge, by rw [List.take_of_length_le (by rw [List.length_drop]; omega)], hS2⟩
      case measure => simp [tx_size]; omega
    · have hjt : 64 * j = t.length := by omega
      have hq : t.length / 64 = j := by omega
      rw [hq] at HSH
      have hX : t.drop (64 * j) = [] := List.drop_eq_nil_of_le (by omega)
      rw [hX]
      clear hq hX
      go_wp2_with fail
      have hz : b8 32 (up8 (shaf l) 0) = #[.int .u8 0, .int .u8 0, .int .u8 0, .int .u8 0, .int .u8 0, .int .u8 0, .int .u8 0, .int .u8 0, .int .u8 0, .int .u8 0, .int .u8 0, .int .u8 0, .int .u8 0, .int .u8 0, .int .u8 0, .int .u8 0, .int .u8 0, .int .u8 0, .int .u8 0, .int .u8 0, .int .u8 0, .int .u8 0, .int .u8 0, .int .u8 0, .int .u8 0, .int .u8 0, .int .u8 0, .int .u8 0, .int .u8 0, .int .u8 0, .int .u8 0, .int .u8 0] := by
        unfold b8
        rw [show (fun i => v8 (up8 (shaf l) 0 i)) = fun _ => v8 0 from by funext i; simp [up8]]
        rfl
      have hO := Blk.made wr 34 #[.int .u8 0, .int .u8 0, .int .u8 0, .int .u8 0, .int .u8 0, .int .u8 0, .int .u8 0, .int .u8 0, .int .u8 0, .int .u8 0, .int .u8 0, .int .u8 0, .int .u8 0, .int .u8 0, .int .u8 0, .int .u8 0, .int .u8 0, .int .u8 0, .int .u8 0, .int .u8 0, .int .u8 0, .int .u8 0, .int .u8 0, .int .u8 0, .int .u8 0, .int .u8 0, .int .u8 0, .int .u8 0, .int .u8 0, .int .u8 0, .int .u8 0, .int .u8 0]
      have hS2 := hS.below (belowA wr (.cells #[.int .u8 0, .int .u8 0, .int .u8 0, .int .u8 0, .int .u8 0, .int .u8 0, .int .u8 0, .int .u8 0, .int .u8 0, .int .u8 0, .int .u8 0, .int .u8 0, .int .u8 0, .int .u8 0, .int .u8 0, .int .u8 0, .int .u8 0, .int .u8 0, .int .u8 0, .int .u8 0, .int .u8 0, .int .u8 0, .int .u8 0, .int .u8 0, .int .u8 0, .int .u8 0, .int .u8 0, .int .u8 0, .int .u8 0, .int .u8 0, .int .u8 0, .int .u8 0] 34))
      have hBlt : P + 1 < wr.heap.size := hS.hh.lt
      rw [← hz] at hO hS2
      rw [← hz]
      clear hz hS
      generalize hB : wr.heap.size = B at *
      generalize wr.alloc (.cells (b8 32 (up8 (shaf l) 0)) 34) = w6 at *
      obtain ⟨v, hv⟩ : ∃ v, hs t j = v := ⟨_, rfl⟩
      rw [hv] at hS2 HSH
      clear hv
      go_loopw [22] (fun z wr => ∃ i : Nat, i ≤ 32 ∧ z = .int .i64 i ∧ SS N P w wr v ∧ Blk wr B 34 (b8 32 (up8 (shaf l) i))) (fun z _ => 32 - (intOf z).toNat)
      case atStart => exact ⟨0, Nat.zero_le _, rfl, hS2, hO⟩
      case round =>
        clear hS2 hO
        obtain ⟨i, hi, rfl, hS, hO⟩ := hrel
        by_cases h32 : i < 32
        · have g32 : (i : Int) < 32 := by omega
          have g4 : (i : Int) / 4 < 8 := by omega
          have c1 := hS.hh.at_ (arr_get (fun q => v32 (v q)) (show i / 4 < 8 by omega))
          have c2 := hO.at_ (arr_get (fun q => v8 (up8 (shaf l) i q)) h32)
          have f2 := hO.free i
          have hsh : ∀ t, binOp .shr t (v32 (v (i / 4))) (.int .i64 (24 - 8 * ((i : Int) % 4))) = pure (v32 (v (i / 4) >>> UInt32.ofNat (24 - 8 * (i % 4)))) := fun t => by
            have := v32_shr t .i64 (v (i / 4)) (24 - 8 * ((i : Int) % 4)) (by omega) (by omega)
            rw [this, show (24 - 8 * ((i : Int) % 4)).toNat = 24 - 8 * (i % 4) by omega]
          have hby : (v (i / 4) >>> UInt32.ofNat (24 - 8 * (i % 4))).toUInt8 = shaf l i := by rw [HSH.out]; rfl
          have hO2 := hO.set i (v8 (shaf l i))
          rw [up8_set] at hO2
          have hS2 : SS N P w (wr.setCell ⟨B, i, none⟩ (v8 (shaf l i))) v := by
            obtain ⟨⟨cs, a, b⟩, c, d, e, f⟩ := hS
            exact ⟨⟨cs, a.other (by simp; omega) _, b⟩, c.other (by simp; omega) _, d.other (by simp; omega) _, e.setCell (by simp; omega) _, f⟩
          have HBY := keep hby
          clear hby hS hO
          go_wp2_with fail
          rw [HBY.out]
          go_roundw
          case rel => exact ⟨i + 1, by omega, by go_num, hS2, hO2⟩
          case measure => simp [intOf]; omega
        · have g32 : ¬ (i : Int) < 32 := by omega
          obtain rfl : i = 32 := by omega
          rw [up8_done] at hO
          obtain ⟨⟨cs, hc1, hc2⟩, -, -, hbel, hNP⟩ := hS
          go_wp2_with (first
            | (refine wpList_load_row rfl 34 (.tmp 6) rfl B rfl 34 (b8 32 (shaf l)) (0, 0) _ hO Try.underlying34 rfl (by kernel_rfl) ?_)
            | (refine wpList_store_row rfl 34 (.tmp 2) (.tmp 38) rfl N (b8 32 (shaf l)) rfl rfl 34 cs hc1 (by kernel_rfl) (by rw [hc2]; exact (arr_size _ _).symm) (arr_one _ _ fun i => rfl) ?_))
          refine bodyPost_ret (results_c rfl _ _ N 34 _ _ _ rfl (hc1.setRow (b8 32 (shaf l))) Try.underlying34 (by kernel_rfl)) rfl ?_
          exact ⟨rfl, by rw [HN.out]; exact below_row hbel (Nat.le_refl _) _⟩
end Go.Proofs.Ytbfgnlckmpnchaa

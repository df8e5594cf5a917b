/-
  mac: the law's own example: awake (written by wip/tools/mac_awake.py).
-/
import Derived.Test.YtbfgnlckmpnchaaMacSum
import Derived.Test.YtbfgnlckmpnchaaMacEx
namespace Go.Proofs.Ytbfgnlckmpnchaa
open Go.RowKit
set_option linter.unusedVariables false
set_option linter.unusedSimpArgs false
set_option maxHeartbeats 4000000 in
theorem mawake_any (w : World) : Calls Try.prog 27 #[] w fun e w' => e = .returned (.bool true) ∧ Below w.heap.size w w' := by
  have e0 : msum [74, 101, 102, 101] [119, 104, 97, 116, 32, 100, 111, 32, 121, 97, 32, 119, 97, 110, 116, 32, 102, 111, 114, 32, 110, 111, 116, 104, 105, 110, 103, 63] 0 = 91 := (msum_jefe 0 (by omega)).trans (by decide)
  have e1 : msum [74, 101, 102, 101] [119, 104, 97, 116, 32, 100, 111, 32, 121, 97, 32, 119, 97, 110, 116, 32, 102, 111, 114, 32, 110, 111, 116, 104, 105, 110, 103, 63] 1 = 220 := (msum_jefe 1 (by omega)).trans (by decide)
  have e30 : msum [74, 101, 102, 101] [119, 104, 97, 116, 32, 100, 111, 32, 121, 97, 32, 119, 97, 110, 116, 32, 102, 111, 114, 32, 110, 111, 116, 104, 105, 110, 103, 63] 30 = 56 := (msum_jefe 30 (by omega)).trans (by decide)
  have e31 : msum [74, 101, 102, 101] [119, 104, 97, 116, 32, 100, 111, 32, 121, 97, 32, 119, 97, 110, 116, 32, 102, 111, 114, 32, 110, 111, 116, 104, 105, 110, 103, 63] 31 = 67 := (msum_jefe 31 (by omega)).trans (by decide)
  have hc : ∀ w, Calls Try.prog 28 #[.string (tx [74, 101, 102, 101]), .string (tx [119, 104, 97, 116, 32, 100, 111, 32, 121, 97, 32, 119, 97, 110, 116, 32, 102, 111, 114, 32, 110, 111, 116, 104, 105, 110, 103, 63])] w fun e w' => e = .returned (.agg (b8 32 (msum [74, 101, 102, 101] [119, 104, 97, 116, 32, 100, 111, 32, 121, 97, 32, 119, 97, 110, 116, 32, 102, 111, 114, 32, 110, 111, 116, 104, 105, 110, 103, 63]))) ∧ Below w.heap.size w w' := fun w => msum_any _ _ (by simp) (by simp) w
  obtain ⟨f, hf⟩ : ∃ f, msum [74, 101, 102, 101] [119, 104, 97, 116, 32, 100, 111, 32, 121, 97, 32, 119, 97, 110, 116, 32, 102, 111, 114, 32, 110, 111, 116, 104, 105, 110, 103, 63] = f := ⟨_, rfl⟩
  rw [hf] at hc e0 e1 e30 e31
  have HC := keep hc
  clear hc hf
  go_enter Try.func27, Try.ntmps27
  go_wp2_with fail
  refine Calls.mono (show Calls Try.prog 28 #[.string (tx [74, 101, 102, 101]), .string (tx [119, 104, 97, 116, 32, 100, 111, 32, 121, 97, 32, 119, 97, 110, 116, 32, 102, 111, 114, 32, 110, 111, 116, 104, 105, 110, 103, 63])] _ _ from HC.out _) ?_
  rintro e w1 ⟨rfl, hb1⟩
  have hX := Blk.made w1 34 #[.int .u8 0, .int .u8 0, .int .u8 0, .int .u8 0, .int .u8 0, .int .u8 0, .int .u8 0, .int .u8 0, .int .u8 0, .int .u8 0, .int .u8 0, .int .u8 0, .int .u8 0, .int .u8 0, .int .u8 0, .int .u8 0, .int .u8 0, .int .u8 0, .int .u8 0, .int .u8 0, .int .u8 0, .int .u8 0, .int .u8 0, .int .u8 0, .int .u8 0, .int .u8 0, .int .u8 0, .int .u8 0, .int .u8 0, .int .u8 0, .int .u8 0, .int .u8 0]
  have hX2 : Blk ((w1.alloc (.cells #[.int .u8 0, .int .u8 0, .int .u8 0, .int .u8 0, .int .u8 0, .int .u8 0, .int .u8 0, .int .u8 0, .int .u8 0, .int .u8 0, .int .u8 0, .int .u8 0, .int .u8 0, .int .u8 0, .int .u8 0, .int .u8 0, .int .u8 0, .int .u8 0, .int .u8 0, .int .u8 0, .int .u8 0, .int .u8 0, .int .u8 0, .int .u8 0, .int .u8 0, .int .u8 0, .int .u8 0, .int .u8 0, .int .u8 0, .int .u8 0, .int .u8 0, .int .u8 0] 34)).setRow w1.heap.size (b8 32 f)) w1.heap.size 34 (b8 32 f) := hX.setRow _
  have hB := below_row (hb1.trans ((belowA w1 (.cells #[.int .u8 0, .int .u8 0, .int .u8 0, .int .u8 0, .int .u8 0, .int .u8 0, .int .u8 0, .int .u8 0, .int .u8 0, .int .u8 0, .int .u8 0, .int .u8 0, .int .u8 0, .int .u8 0, .int .u8 0, .int .u8 0, .int .u8 0, .int .u8 0, .int .u8 0, .int .u8 0, .int .u8 0, .int .u8 0, .int .u8 0, .int .u8 0, .int .u8 0, .int .u8 0, .int .u8 0, .int .u8 0, .int .u8 0, .int .u8 0, .int .u8 0, .int .u8 0] 34)).mono hb1.size)) hb1.size (b8 32 f)
  have c0 := hX2.at_ (arr_get (fun q => v8 (f q)) (show 0 < 32 by omega))
  simp only [e0] at c0
  have c1 := hX2.at_ (arr_get (fun q => v8 (f q)) (show 1 < 32 by omega))
  simp only [e1] at c1
  have c30 := hX2.at_ (arr_get (fun q => v8 (f q)) (show 30 < 32 by omega))
  simp only [e30] at c30
  have c31 := hX2.at_ (arr_get (fun q => v8 (f q)) (show 31 < 32 by omega))
  simp only [e31] at c31
  go_wp2_with (refine wpList_store_row rfl 34 (.tmp 1) (.tmp 2) rfl w1.heap.size (b8 32 f) rfl rfl 34 _ hX (by kernel_rfl) (by unfold b8; rw [arr_size]; rfl) (arr_one _ _ fun i => rfl) ?_)
  go_ret
  exact ⟨rfl, hB⟩
end Go.Proofs.Ytbfgnlckmpnchaa

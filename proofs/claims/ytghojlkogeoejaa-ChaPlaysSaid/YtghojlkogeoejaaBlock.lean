/-
  cha: Block: a block of the stream as a text; a nonce of other bytes than 12 is refused.
-/
import Derived.Test.YtghojlkogeoejaaStream
namespace Go.Proofs.Ytghojlkogeoejaa
open Go.RowKit
theorem block_bad (k : Nat → UInt8) (c : UInt32) (n : List UInt8) (w : World) (hn : n.length ≠ 12) :
    Calls Try.prog 12 #[.agg (karr k), v32 c, .string (tx n)] w fun e w' => e = .returned (.tuple #[.string (tx []), .int .i64 1]) ∧ Below w.heap.size w w' := by
  have hn' : ((n.length : Int) == 12) = false := by simp; omega
  have hn2 : ((n.length : Int) != 12) = true := by simp; omega
  go_enter Try.func12, Try.ntmps12
  go_wp2_with fail
  go_ret2
  exact ⟨rfl, (Below.refl _ _).alloc (Nat.le_refl _) _⟩
theorem block_any (k : Nat → UInt8) (c : UInt32) (n : List UInt8) (w : World) (hn : n.length = 12) :
    Calls Try.prog 12 #[.agg (karr k), v32 c, .string (tx n)] w fun e w' => e = .returned (.tuple #[.string (tx (tl 64 (ks k c n))), .int .i64 0]) ∧ Below w.heap.size w w' := by
  have hn2 : ((n.length : Int) != 12) = false := by simp; omega
  go_enter Try.func12, Try.ntmps12
  go_wp2_with (refine wpList_load_row rfl 29 (.tmp 3) rfl w.heap.size rfl 29 (karr k) (0,0) _ (Blk.made w 29 _) Try.underlying29 rfl (by kernel_rfl) ?_)
  refine (stream_any k c n _ hn).mono ?_
  rintro e w1 ⟨rfl, hb1⟩
  have hb0 := ((Below.refl w.heap.size w).alloc (Nat.le_refl _) _).trans (hb1.mono (by simp))
  clear hb1
  go_wp2_with (refine wpList_store_row rfl 42 (.tmp 8) (.tmp 15) rfl w1.heap.size (barr (ks k c n)) rfl rfl 42 _ (Blk.made w1 42 _) (by kernel_rfl) (by rw [barr, arr_size]; rfl) (arr_one _ _ fun i => rfl) ?_)
  have hrow : ∀ cs, Row8 ((w1.alloc (.cells cs 42)).setRow w1.heap.size (barr (ks k c n))) w1.heap.size 0 64 (ks k c n) := fun cs => Row8.ofBlk ((Blk.made w1 42 cs).setRow _)
  rw [(hrow _).back 31 9 5 Try.underlying31 Try.underlying5 Try.underlying9 64]
  go_wp2_with fail
  go_ret2
  exact ⟨rfl, below_row (hb0.alloc hb0.size _) hb0.size _⟩
end Go.Proofs.Ytghojlkogeoejaa

/-
  window: the law's own example.
-/
import Derived.Test.YtaaokbchpbedgaaWin
namespace Go.Proofs.Ytaaokbchpbedgaa
open Go.RowKit

theorem new_win (w : World) : Blk (w.alloc (.cells #[.int .u64 0, .int .u64 0, .bool false] 30)) w.heap.size 30 (St.cells ⟨0, 0, false⟩) := Blk.made w 30 _

theorem awake_any (w : World) : Calls Try.prog 8 #[] w fun e w' => e = .returned (.bool true) ∧ Below w.heap.size w w' := by
  have hB := new_win w
  have hW : Below w.heap.size w (w.alloc (.cells #[.int .u64 0, .int .u64 0, .bool false] 30)) := (Below.refl _ _).alloc (Nat.le_refl _) _
  have i0 := inv_start
  have h1 : St.err ⟨0, 0, false⟩ 100 = 0 := by decide
  have h2 : St.err (St.take ⟨0, 0, false⟩ 100) 36 = 6 := by decide
  have h3 : St.err (St.take (St.take ⟨0, 0, false⟩ 100) 36) 37 = 0 := by decide
  have H1 := keep h1
  have H2 := keep h2
  have H3 := keep h3
  clear h1 h2 h3 i0
  go_enter Try.func8, Try.ntmps8
  go_wp2_with fail
  refine Calls.mono (show Calls Try.prog 9 #[.pointer (some ⟨w.heap.size, 0, none⟩), v64 100] _ _ from take_any _ 100 _ _ hB) ?_
  rintro e w1 ⟨rfl, hB1, hK1⟩
  rw [H1.out]
  go_wp2_with fail
  refine Calls.mono (show Calls Try.prog 9 #[.pointer (some ⟨w.heap.size, 0, none⟩), v64 36] _ _ from take_any _ 36 _ _ hB1) ?_
  rintro e w2 ⟨rfl, hB2, hK2⟩
  rw [H2.out]
  go_wp2_with fail
  refine Calls.mono (show Calls Try.prog 9 #[.pointer (some ⟨w.heap.size, 0, none⟩), v64 37] _ _ from take_any _ 37 _ _ hB2) ?_
  rintro e w3 ⟨rfl, hB3, hK3⟩
  rw [H3.out]
  go_wp2_with fail
  go_ret
  exact ⟨rfl, hW.trans (((hK1.trans (hK2.trans hK3))).toBelow (by simp) (by simp))⟩
end Go.Proofs.Ytaaokbchpbedgaa

/-
  sha: the law's own example: awake.
-/
import Derived.Test.YtbfgnlckmpnchaaEx
import Derived.Test.YtbfgnlckmpnchaaArrEq
namespace Go.Proofs.Ytbfgnlckmpnchaa
open Go.RowKit
set_option linter.unusedVariables false
set_option linter.unusedSimpArgs false
theorem eql34 (w : World) (f g : Nat → UInt8) (b : Bool) (hb : b = true ↔ ∀ i, i < 32 → f i = g i) : (Op.equalIn 10000 34 (.agg (b8 32 f)) (.agg (b8 32 g))).run Try.prog w = .ok b w :=
  eql_bytes w 34 5 32 Try.underlying34 Try.underlying5 (by kernel_rfl) f g b hb
theorem awake_any (w : World) : Calls Try.prog 15 #[] w fun e w' => e = .returned (.bool true) ∧ Below w.heap.size w w' := by
  have e34 : ∀ w', (Op.equalIn 10000 34 (.agg (b8 32 (shaf [97, 98, 99]))) (.agg #[.int .u8 186, .int .u8 120, .int .u8 22, .int .u8 191, .int .u8 143, .int .u8 1, .int .u8 207, .int .u8 234, .int .u8 65, .int .u8 65, .int .u8 64, .int .u8 222, .int .u8 93, .int .u8 174, .int .u8 34, .int .u8 35, .int .u8 176, .int .u8 3, .int .u8 97, .int .u8 163, .int .u8 150, .int .u8 23, .int .u8 122, .int .u8 156, .int .u8 180, .int .u8 16, .int .u8 255, .int .u8 97, .int .u8 242, .int .u8 0, .int .u8 21, .int .u8 173])).run Try.prog w' = .ok true w' := fun w' => eql34 w' _ (bt [186, 120, 22, 191, 143, 1, 207, 234, 65, 65, 64, 222, 93, 174, 34, 35, 176, 3, 97, 163, 150, 23, 122, 156, 180, 16, 255, 97, 242, 0, 21, 173]) true ⟨fun _ => sha_abc, fun _ => rfl⟩
  go_enter Try.func15, Try.ntmps15
  go_wp2_with fail
  refine Calls.mono (show Calls Try.prog 22 #[.string (tx [97, 98, 99])] _ _ from sha_any [97, 98, 99] (by simp) _) ?_
  rintro e w1 ⟨rfl, hb1⟩
  go_wp2_with fail
  go_ret
  exact ⟨rfl, hb1⟩
end Go.Proofs.Ytbfgnlckmpnchaa

/-
  cha: word: four bytes of a text as a word.
-/
import Derived.Test.YtghojlkogeoejaaText
import Derived.Test.YtghojlkogeoejaaQuarter
import Derived.BigQuiet
namespace Go.Proofs.Ytghojlkogeoejaa
open Go.RowKit
def wordOf (s : List UInt8) (o : Nat) : UInt32 := (bt s o).toUInt32 ||| (bt s (o + 1)).toUInt32 <<< 8 ||| (bt s (o + 2)).toUInt32 <<< 16 ||| (bt s (o + 3)).toUInt32 <<< 24
theorem wordOf_drop (s : List UInt8) (n : Nat) : wordOf (s.drop n) 0 = wordOf s n := by simp only [wordOf, bt_drop, Nat.add_zero, Nat.zero_add]
theorem word_any (s : List UInt8) (w : World) (hs : 4 ≤ s.length) : Calls Try.prog 22 #[.string (tx s)] w fun e w' => e = .returned (v32 (wordOf s 0)) ∧ ∃ n, w.drewN n = w' := by
  have h0 := idx_tx (P := Try.prog) 9 Try.underlying9 s .i64 0 0 rfl (by omega)
  have h1 := idx_tx (P := Try.prog) 9 Try.underlying9 s .i64 1 1 rfl (by omega)
  have h2 := idx_tx (P := Try.prog) 9 Try.underlying9 s .i64 2 2 rfl (by omega)
  have h3 := idx_tx (P := Try.prog) 9 Try.underlying9 s .i64 3 3 rfl (by omega)
  go_enter Try.func22, Try.ntmps22
  go_wp2
  go_quiet (fail)
  go_wp2
  go_ret
  exact ⟨rfl, _, rfl⟩
end Go.Proofs.Ytghojlkogeoejaa

/-
  queue: the law's own example.
-/
import Derived.Test.YtldjlahkfdcllaaQAny
namespace Go.Proofs.Ytldjlahkfdcllaa
open Go.RowKit

theorem awake_any (w : World) : Calls Try.prog 7 #[] w fun e w' => e = .returned (.bool true) ∧ Below w.heap.size w w' := by
  go_enter Try.func7, Try.ntmps7
  go_wp2_with fail
  refine Calls.mono (show Calls Try.prog 8 #[.int .i64 5] _ _ from new_any 5 w.heap.size w (by omega) (by omega) (Nat.le_refl _)) ?_
  rintro e w1 ⟨rfl, hQ1, hb1, _⟩
  unfold ptr
  go_wp2_with fail
  refine Calls.mono (show Calls Try.prog 9 #[.pointer (some ⟨w.heap.size, 0, none⟩), .bool false, .int .i64 1] _ _ from put_any _ 5 _ _ _ false 1 w1 hQ1 (by decide) (by omega)) ?_
  rintro e w2 ⟨rfl, F2, hQ2, hT2, hF2⟩
  go_wp2_with fail
  refine Calls.mono (show Calls Try.prog 9 #[.pointer (some ⟨w.heap.size, 0, none⟩), .bool true, .int .i64 2] _ _ from put_any _ 5 _ _ _ true 2 w2 hQ2 (by decide) (by omega)) ?_
  rintro e w3 ⟨rfl, F3, hQ3, hT3, hF3⟩
  go_wp2_with fail
  refine Calls.mono (show Calls Try.prog 10 #[.pointer (some ⟨w.heap.size, 0, none⟩)] _ _ from take_any _ 5 _ _ _ w3 hQ3 ?_) ?_
  · intro u hu
    simp [Qs.put] at hu
    rcases hu with rfl | rfl
    · exact ⟨2, rfl⟩
    · exact ⟨1, rfl⟩
  rintro e w4 ⟨rfl, F4, hQ4, hT4, hF4⟩
  simp only [Qs.put, Qs.take]
  have hall : Below w.heap.size w w4 := ((hb1.trans (hT2.toBelow hb1.size (fun k hk => by omega))).trans (hT3.toBelow (Nat.le_trans hb1.size hT2.size) (fun k hk => (hQ2.size k hk).1))).trans (hT4.toBelow (Nat.le_trans (Nat.le_trans hb1.size hT2.size) hT3.size) (fun k hk => (hQ3.size k hk).1))
  clear hQ1 hQ2 hQ3 hQ4 hT2 hT3 hT4 hb1
  go_wp2_with fail
  go_ret
  exact ⟨rfl, hall⟩
end Go.Proofs.Ytldjlahkfdcllaa

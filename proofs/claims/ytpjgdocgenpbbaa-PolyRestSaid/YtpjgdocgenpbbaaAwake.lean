/-
  poly: the law's own example: awake.
-/
import Derived.Test.YtpjgdocgenpbbaaSum
import Derived.Test.YtpjgdocgenpbbaaArrEq
namespace Go.Proofs.Ytpjgdocgenpbbaa
open Go.RowKit
def kw : Nat → UInt8 := fun i => if i = 16 then 7 else 0
def seven : Nat → UInt8 := fun i => if i = 0 then 7 else 0
theorem sum_ex : ∀ i, i < 16 → sumf kw [] i = seven i := fun i hi => by
  have h : ∀ j : Fin 16, sumf kw [] j = seven j := by decide +kernel
  exact h ⟨i, hi⟩
theorem eql25 (w : World) (f g : Nat → UInt8) (b : Bool) (hb : b = true ↔ ∀ i, i < 16 → f i = g i) : (Op.equalIn 10000 25 (.agg (uarr8 16 f)) (.agg (uarr8 16 g))).run Try.prog w = .ok b w :=
  eql_bytes w 25 5 16 Try.underlying25 Try.underlying5 (by kernel_rfl) f g b hb
theorem eql30 (w : World) (a b c a' b' c' : UInt64) (d : Bool) (hd : d = true ↔ a = a' ∧ b = b' ∧ c = c') : (Op.equalIn 10000 30 (.agg (n3 a b c)) (.agg (n3 a' b' c'))).run Try.prog w = .ok d w :=
  eql_words w 30 29 3 Try.underlying30 Try.underlying29 (by kernel_rfl) (w3 a b c) (w3 a' b' c') d (hd.trans ⟨fun h i hi => by
    have : i = 0 ∨ i = 1 ∨ i = 2 := by omega
    rcases this with rfl | rfl | rfl <;> simp [w3, h], fun h => ⟨h 0 (by omega), h 1 (by omega), h 2 (by omega)⟩⟩)
theorem awake_any (w : World) : Calls Try.prog 9 #[] w fun e w' => e = .returned (.bool true) ∧ Below w.heap.size w w' := by
  have e25 : ∀ w', (Op.equalIn 10000 25 (.agg (uarr8 16 (sumf kw []))) (.agg #[.int .u8 7, .int .u8 0, .int .u8 0, .int .u8 0, .int .u8 0, .int .u8 0, .int .u8 0, .int .u8 0, .int .u8 0, .int .u8 0, .int .u8 0, .int .u8 0, .int .u8 0, .int .u8 0, .int .u8 0, .int .u8 0])).run Try.prog w' = .ok true w' := fun w' => eql25 w' _ seven true ⟨fun _ => sum_ex, fun _ => rfl⟩
  have e30 : ∀ w', (Op.equalIn 10000 30 (.agg (n3 5 0 0)) (.agg #[.int .u64 5, .int .u64 0, .int .u64 0])).run Try.prog w' = .ok true w' := fun w' => eql30 w' 5 0 0 5 0 0 true ⟨fun _ => ⟨rfl, rfl, rfl⟩, fun _ => rfl⟩
  go_enter Try.func9, Try.ntmps9
  go_wp2_with (first
    | (refine wpList_store_row rfl 23 (.tmp 1) (.tmp 2) rfl w.heap.size (karr kw) rfl rfl 23 _ (Blk.made w 23 _) (by kernel_rfl) (by rw [karr, arr_size]; rfl) (arr_one _ _ fun i => rfl) ?_)
    | (refine wpList_load_row rfl 23 (.tmp 1) rfl w.heap.size rfl 23 (karr kw) (0, 0) _ ((Blk.made w 23 _).setRow _) Try.underlying23 rfl (by kernel_rfl) ?_))
  refine Calls.mono (show Calls Try.prog 11 #[.agg (karr kw), .string (tx [])] _ _ from sum_any kw [] _ (by simp)) ?_
  rintro e w1 ⟨rfl, hb1⟩
  go_wp2_with fail
  refine Calls.mono (show Calls Try.prog 12 #[.agg (n3 0 0 4)] _ _ from rest_any 0 0 4 _) ?_
  rintro e w2 ⟨x, y, z, rfl, hv, hb2⟩
  obtain ⟨rfl, rfl, rfl⟩ := V3_inj (show V3 x y z = V3 5 0 0 from hv.trans (by decide +kernel))
  go_wp2_with fail
  go_ret
  exact ⟨rfl, (below_row (belowA w _) (Nat.le_refl _) (karr kw)).trans ((hb1.mono (by simp)).trans (hb2.mono (Nat.le_trans (by simp) hb1.size)))⟩
end Go.Proofs.Ytpjgdocgenpbbaa

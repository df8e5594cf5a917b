/-
  sha: eight words behind a block: the program's walk (written by wip/tools/sha_sum.py).
-/
import Derived.Test.YtbfgnlckmpnchaaMixed8
namespace Go.Proofs.Ytbfgnlckmpnchaa
open Go.RowKit
set_option linter.unusedVariables false
set_option linter.unusedSimpArgs false
theorem block_short (h : Nat → UInt32) (l : List UInt8) (hl : l.length < 64) (w : World) : Calls Try.prog 21 #[.agg (w32 8 h), .string (tx l)] w fun e w' => e = .returned (.agg (w32 8 h)) ∧ Below w.heap.size w w' := by
  have g0 : Blk (w.alloc (.cells (w32 8 h) 31)) w.heap.size 31 (w32 8 h) := Blk.made w 31 _
  have g1 := madeA w (.cells (w32 8 h) 31) 31 #[.int .u32 0, .int .u32 0, .int .u32 0, .int .u32 0, .int .u32 0, .int .u32 0, .int .u32 0, .int .u32 0]
  have gb := belowB w (.cells (w32 8 h) 31) (.cells #[.int .u32 0, .int .u32 0, .int .u32 0, .int .u32 0, .int .u32 0, .int .u32 0, .int .u32 0, .int .u32 0] 31)
  have gl : (l.length : Int) < 64 := by omega
  go_enter Try.func21, Try.ntmps21
  go_wp2_with (first
    | (refine wpList_load_row rfl 31 (.tmp 2) rfl w.heap.size rfl 31 (w32 8 h) (0, 0) _ (g0.alloc _) Try.underlying31 rfl (by kernel_rfl) ?_)
    | (refine wpList_store_row rfl 31 (.tmp 4) (.tmp 8) rfl (w.heap.size + 1) (w32 8 h) rfl rfl 31 _ g1 (by kernel_rfl) (by unfold w32; rw [arr_size]; rfl) (arr_one _ _ fun i => rfl) ?_))
  refine bodyPost_ret (results_c rfl _ _ (w.heap.size + 1) 31 _ _ _ rfl (g1.setRow (w32 8 h)) Try.underlying31 (by kernel_rfl)) rfl ?_
  exact ⟨rfl, below_row gb (by omega) _⟩
set_option maxRecDepth 100000 in
set_option maxHeartbeats 4000000 in
theorem block_any (h : Nat → UInt32) (l : List UInt8) (hl : 64 ≤ l.length) (hl2 : l.length < 1000000) (w : World) : Calls Try.prog 21 #[.agg (w32 8 h), .string (tx l)] w fun e w' => e = .returned (.agg (w32 8 (mixf h (wf l) kf))) ∧ Below w.heap.size w w' := by
  have g0 : Blk (w.alloc (.cells (w32 8 h) 31)) w.heap.size 31 (w32 8 h) := Blk.made w 31 _
  have g1 := madeA w (.cells (w32 8 h) 31) 31 #[.int .u32 0, .int .u32 0, .int .u32 0, .int .u32 0, .int .u32 0, .int .u32 0, .int .u32 0, .int .u32 0]
  have gb := belowB w (.cells (w32 8 h) 31) (.cells #[.int .u32 0, .int .u32 0, .int .u32 0, .int .u32 0, .int .u32 0, .int .u32 0, .int .u32 0, .int .u32 0] 31)
  have gl : ¬ (l.length : Int) < 64 := by omega
  have g0 := g0.alloc (.cells #[.int .u32 0, .int .u32 0, .int .u32 0, .int .u32 0, .int .u32 0, .int .u32 0, .int .u32 0, .int .u32 0] 31)
  go_enter Try.func21, Try.ntmps21
  go_wp2_with fail
  generalize (w.alloc (.cells (w32 8 h) 31)).alloc (.cells #[.int .u32 0, .int .u32 0, .int .u32 0, .int .u32 0, .int .u32 0, .int .u32 0, .int .u32 0, .int .u32 0] 31) = wr at *
  refine MixedC.wp_region (fun w' => ∃ u, w' = mix [] wr u) [(0, 0), (1, 1), (2, 2), (2, 3), (2, 4), (3, 5)] (by kernel_rfl) (by kernel_rfl) (Mx.drew0 _ _) ?_
  refine MixedC.read_row0 (i := 0) rfl rfl 31 (.tmp 2) rfl (w.heap.size) rfl 31 (w32 8 h) _ (by rintro _ ⟨u, rfl⟩; exact (mix_keeps [] wr u).blk g0 (by simp)) Try.underlying31 rfl (by kernel_rfl) ?_
  simp only [List.getElem_toArray, List.getElem_cons_zero, List.getElem_cons_succ, Act.put, List.setIfInBounds_toArray, List.set_cons_succ, List.set_cons_zero]
  refine MixedC.reads (k := 1) (.inr ⟨rfl, rfl⟩) _ [1] _ (by kernel_rfl) ?_
  simp only [List.filterMap_cons, List.filterMap_nil, List.getElem?_toArray, List.getElem?_cons_zero, List.getElem?_cons_succ]
  show wpQuiet _ _ _ _ [_] _
  iterate 1 go_big_quiet_step (fail)
  refine wpQuiet_nil ?_
  refine MixedC.effect (i := 2) rfl rfl ?_
  intro Q hQ
  have HQ := keep hQ
  clear hQ
  go_wp2_with fail
  refine (words_any l hl hl2 _).mono ?_
  rintro e w2 ⟨rfl, hb⟩
  have hK2 : Keeps [] wr w2 := (Keeps.refl [] wr).drew.below hb (Nat.le_refl _)
  clear hb
  go_wp2_with fail
  refine HQ.out _ _ (Mx.of hK2) ?_
  clear HQ
  refine MixedC.effect (i := 3) rfl rfl ?_
  intro Q hQ
  have HQ := keep hQ
  clear hQ
  go_wp2_with fail
  refine (constants_any _).mono ?_
  rintro e w3 ⟨rfl, hb⟩
  have hK3 : Keeps [] wr w3 := hK2.below hb hK2.size
  clear hb
  go_wp2_with fail
  refine HQ.out _ _ (Mx.of hK3) ?_
  clear HQ
  refine MixedC.effect (i := 4) rfl rfl ?_
  intro Q hQ
  have HQ := keep hQ
  clear hQ
  go_wp2_with fail
  refine (mixed_any h (wf l) kf _).mono ?_
  rintro e w4 ⟨rfl, hb⟩
  have hK4 : Keeps [] wr w4 := hK3.below hb hK3.size
  clear hb
  go_wp2_with fail
  refine HQ.out _ _ (Mx.of hK4) ?_
  clear HQ
  have h1 := hK4.blk g1 (by simp)
  have hbel := gb.trans (hK4.toBelow gb.size (by simp))
  refine MixedC.effect_last (i := 5) rfl rfl ?_
  intro Q hQ
  have HQ := keep hQ
  clear hQ
  go_wp2_with (refine wpList_store_row rfl 31 (.tmp 4) (.tmp 13) rfl (w.heap.size + 1) (w32 8 (mixf h (wf l) kf)) rfl rfl 31 _ h1 (by kernel_rfl) (by unfold w32; rw [arr_size]; rfl) (arr_one _ _ fun i => rfl) ?_)
  refine HQ.out _ _ ?_
  unfold MixedC.HL
  simp only [Act.put, List.getElem_toArray, List.getElem_cons_zero, List.getElem_cons_succ]
  clear HQ
  go_wp2_with fail
  refine bodyPost_ret (results_c rfl _ _ (w.heap.size + 1) 31 _ _ _ rfl (h1.setRow (w32 8 (mixf h (wf l) kf))) Try.underlying31 (by kernel_rfl)) rfl ?_
  exact ⟨rfl, below_row hbel (by omega) _⟩
end Go.Proofs.Ytbfgnlckmpnchaa

/-
  mac: a keyed sum: the program's walk, the sum itself (written by wip/tools/mac_sum.py).
-/
import Derived.Test.YtbfgnlckmpnchaaMacOne
namespace Go.Proofs.Ytbfgnlckmpnchaa
open Go.RowKit
set_option linter.unusedVariables false
set_option linter.unusedSimpArgs false
set_option maxRecDepth 100000 in
set_option maxHeartbeats 4000000 in
theorem msum_any (k0 s : List UInt8) (hk0 : k0.length < 800000) (hs : s.length < 800000) (w : World) : Calls Try.prog 28 #[.string (tx k0), .string (tx s)] w fun e w' => e = .returned (.agg (b8 32 (msum k0 s))) ∧ Below w.heap.size w w' := by
  have hr : Blk (w.alloc (.cells #[.int .u8 0, .int .u8 0, .int .u8 0, .int .u8 0, .int .u8 0, .int .u8 0, .int .u8 0, .int .u8 0, .int .u8 0, .int .u8 0, .int .u8 0, .int .u8 0, .int .u8 0, .int .u8 0, .int .u8 0, .int .u8 0, .int .u8 0, .int .u8 0, .int .u8 0, .int .u8 0, .int .u8 0, .int .u8 0, .int .u8 0, .int .u8 0, .int .u8 0, .int .u8 0, .int .u8 0, .int .u8 0, .int .u8 0, .int .u8 0, .int .u8 0, .int .u8 0] 34)) w.heap.size 34 #[.int .u8 0, .int .u8 0, .int .u8 0, .int .u8 0, .int .u8 0, .int .u8 0, .int .u8 0, .int .u8 0, .int .u8 0, .int .u8 0, .int .u8 0, .int .u8 0, .int .u8 0, .int .u8 0, .int .u8 0, .int .u8 0, .int .u8 0, .int .u8 0, .int .u8 0, .int .u8 0, .int .u8 0, .int .u8 0, .int .u8 0, .int .u8 0, .int .u8 0, .int .u8 0, .int .u8 0, .int .u8 0, .int .u8 0, .int .u8 0, .int .u8 0, .int .u8 0] := Blk.made w 34 _
  have hbr := belowA w (.cells #[.int .u8 0, .int .u8 0, .int .u8 0, .int .u8 0, .int .u8 0, .int .u8 0, .int .u8 0, .int .u8 0, .int .u8 0, .int .u8 0, .int .u8 0, .int .u8 0, .int .u8 0, .int .u8 0, .int .u8 0, .int .u8 0, .int .u8 0, .int .u8 0, .int .u8 0, .int .u8 0, .int .u8 0, .int .u8 0, .int .u8 0, .int .u8 0, .int .u8 0, .int .u8 0, .int .u8 0, .int .u8 0, .int .u8 0, .int .u8 0, .int .u8 0, .int .u8 0] 34)
  have hm : msum k0 s = shaf (xb (fk k0) 92 ++ tl 32 (shaf (xb (fk k0) 54 ++ s))) := rfl
  have hkl := fk_length k0
  go_enter Try.func28, Try.ntmps28
  go_wp2_with fail
  generalize w.alloc (.cells #[.int .u8 0, .int .u8 0, .int .u8 0, .int .u8 0, .int .u8 0, .int .u8 0, .int .u8 0, .int .u8 0, .int .u8 0, .int .u8 0, .int .u8 0, .int .u8 0, .int .u8 0, .int .u8 0, .int .u8 0, .int .u8 0, .int .u8 0, .int .u8 0, .int .u8 0, .int .u8 0, .int .u8 0, .int .u8 0, .int .u8 0, .int .u8 0, .int .u8 0, .int .u8 0, .int .u8 0, .int .u8 0, .int .u8 0, .int .u8 0, .int .u8 0, .int .u8 0] 34) = w0 at *
  refine (filled_any k0 (by omega) _).mono ?_
  rintro e w1 ⟨rfl, hb1⟩
  have hr1 := hr.kept hb1
  have hB1 := hbr.trans (hb1.mono hbr.size)
  clear hb1 hr hbr
  generalize fk k0 = k at *
  have hkl : k.length < 1000000 ∧ k.length ≤ 64 := by omega
  obtain ⟨hkl, hk64⟩ := hkl
  go_wp2_with fail
  refine Calls.mono (show Calls Try.prog 45 #[.string (tx k), .int .u8 54] _ _ from one_any k 54 hkl _) ?_
  rintro e w2 ⟨rfl, hb2⟩
  have hr2 := hr1.kept hb2
  have hB2 := hB1.trans (hb2.mono hB1.size)
  clear hb2 hr1 hB1
  have hYl : (xb k 54).length ≤ 64 := by rw [xb_length]; omega
  obtain ⟨Y, hY⟩ : ∃ Y, xb k 54 = Y := ⟨_, rfl⟩
  rw [hY] at hm hYl ⊢
  clear hY
  have hcat : Y.length + s.length ≤ 9223372036854775807 := by omega
  go_wp2_with fail
  refine (sha_any (Y ++ s) (by rw [List.length_append]; omega) _).mono ?_
  rintro e w3 ⟨rfl, hb3⟩
  have hr3 := hr2.kept hb3
  have hB3 := hB2.trans (hb3.mono hB2.size)
  have hlt := hr3.lt
  clear hb3 hr2 hB2
  have hX := Blk.made w3 34 #[.int .u8 0, .int .u8 0, .int .u8 0, .int .u8 0, .int .u8 0, .int .u8 0, .int .u8 0, .int .u8 0, .int .u8 0, .int .u8 0, .int .u8 0, .int .u8 0, .int .u8 0, .int .u8 0, .int .u8 0, .int .u8 0, .int .u8 0, .int .u8 0, .int .u8 0, .int .u8 0, .int .u8 0, .int .u8 0, .int .u8 0, .int .u8 0, .int .u8 0, .int .u8 0, .int .u8 0, .int .u8 0, .int .u8 0, .int .u8 0, .int .u8 0, .int .u8 0]
  have hX2 : Blk ((w3.alloc (.cells #[.int .u8 0, .int .u8 0, .int .u8 0, .int .u8 0, .int .u8 0, .int .u8 0, .int .u8 0, .int .u8 0, .int .u8 0, .int .u8 0, .int .u8 0, .int .u8 0, .int .u8 0, .int .u8 0, .int .u8 0, .int .u8 0, .int .u8 0, .int .u8 0, .int .u8 0, .int .u8 0, .int .u8 0, .int .u8 0, .int .u8 0, .int .u8 0, .int .u8 0, .int .u8 0, .int .u8 0, .int .u8 0, .int .u8 0, .int .u8 0, .int .u8 0, .int .u8 0] 34)).setRow w3.heap.size (b8 32 (shaf (Y ++ s)))) w3.heap.size 34 (b8 32 (shaf (Y ++ s))) := hX.setRow _
  have hr4 : Blk ((w3.alloc (.cells #[.int .u8 0, .int .u8 0, .int .u8 0, .int .u8 0, .int .u8 0, .int .u8 0, .int .u8 0, .int .u8 0, .int .u8 0, .int .u8 0, .int .u8 0, .int .u8 0, .int .u8 0, .int .u8 0, .int .u8 0, .int .u8 0, .int .u8 0, .int .u8 0, .int .u8 0, .int .u8 0, .int .u8 0, .int .u8 0, .int .u8 0, .int .u8 0, .int .u8 0, .int .u8 0, .int .u8 0, .int .u8 0, .int .u8 0, .int .u8 0, .int .u8 0, .int .u8 0] 34)).setRow w3.heap.size (b8 32 (shaf (Y ++ s)))) w.heap.size 34 #[.int .u8 0, .int .u8 0, .int .u8 0, .int .u8 0, .int .u8 0, .int .u8 0, .int .u8 0, .int .u8 0, .int .u8 0, .int .u8 0, .int .u8 0, .int .u8 0, .int .u8 0, .int .u8 0, .int .u8 0, .int .u8 0, .int .u8 0, .int .u8 0, .int .u8 0, .int .u8 0, .int .u8 0, .int .u8 0, .int .u8 0, .int .u8 0, .int .u8 0, .int .u8 0, .int .u8 0, .int .u8 0, .int .u8 0, .int .u8 0, .int .u8 0, .int .u8 0] := (hr3.alloc _).otherRow (by omega) _
  have hB4 := below_row (hB3.alloc hB3.size (.cells #[.int .u8 0, .int .u8 0, .int .u8 0, .int .u8 0, .int .u8 0, .int .u8 0, .int .u8 0, .int .u8 0, .int .u8 0, .int .u8 0, .int .u8 0, .int .u8 0, .int .u8 0, .int .u8 0, .int .u8 0, .int .u8 0, .int .u8 0, .int .u8 0, .int .u8 0, .int .u8 0, .int .u8 0, .int .u8 0, .int .u8 0, .int .u8 0, .int .u8 0, .int .u8 0, .int .u8 0, .int .u8 0, .int .u8 0, .int .u8 0, .int .u8 0, .int .u8 0] 34)) hB3.size (b8 32 (shaf (Y ++ s)))
  go_wp2_with (refine wpList_store_row rfl 34 (.tmp 6) (.tmp 13) rfl w3.heap.size (b8 32 (shaf (Y ++ s))) rfl rfl 34 _ hX (by kernel_rfl) (by unfold b8; rw [arr_size]; rfl) (arr_one _ _ fun i => rfl) ?_)
  simp only [Act.put]
  clear hX hr3 hB3 hlt
  generalize (w3.alloc (.cells #[.int .u8 0, .int .u8 0, .int .u8 0, .int .u8 0, .int .u8 0, .int .u8 0, .int .u8 0, .int .u8 0, .int .u8 0, .int .u8 0, .int .u8 0, .int .u8 0, .int .u8 0, .int .u8 0, .int .u8 0, .int .u8 0, .int .u8 0, .int .u8 0, .int .u8 0, .int .u8 0, .int .u8 0, .int .u8 0, .int .u8 0, .int .u8 0, .int .u8 0, .int .u8 0, .int .u8 0, .int .u8 0, .int .u8 0, .int .u8 0, .int .u8 0, .int .u8 0] 34)).setRow w3.heap.size (b8 32 (shaf (Y ++ s))) = wr at *
  generalize w3.heap.size = B at *
  have cv : ∀ u, (convert 43 9 (.slice (some ⟨B, 0, none⟩) 32 32)).run Try.prog (mix [] wr u) = .ok (.string (tx (tl 32 (shaf (Y ++ s))))) (mix [] wr u) := fun u => back32 ((mix_keeps [] wr u).blk hX2 (by simp))
  have hXl : (tl 32 (shaf (Y ++ s))).length = 32 := tl_length _ _
  obtain ⟨X, hX⟩ : ∃ X, tl 32 (shaf (Y ++ s)) = X := ⟨_, rfl⟩
  rw [hX] at cv hXl hm
  have HF := keep hm
  have hX32 : X.length ≤ 32 := by omega
  have hcat2 : (xb k 92).length + X.length ≤ 9223372036854775807 := by rw [xb_length]; omega
  clear hX hXl hm hX2 hcat
  refine MixedC.wp_region (fun w' => ∃ u, w' = mix [] wr u) [(1, 0), (0, 2), (0, 3), (2, 1), (1, 4), (2, 5), (3, 6)] (by kernel_rfl) (by kernel_rfl) (Mx.drew0 _ _) ?_
  refine MixedC.reads (k := 1) (.inr ⟨rfl, rfl⟩) _ [0] _ (by kernel_rfl) ?_
  simp only [List.filterMap_cons, List.filterMap_nil, List.getElem?_toArray, List.getElem?_cons_zero, List.getElem?_cons_succ]
  show wpQuiet _ _ _ _ [_] _
  iterate 1 go_big_quiet_step (fail)
  refine wpQuiet_nil ?_
  refine MixedC.reads (k := 0) (.inl ⟨rfl, rfl⟩) _ [2, 3] _ (by kernel_rfl) ?_
  simp only [List.filterMap_cons, List.filterMap_nil, List.getElem?_toArray, List.getElem?_cons_zero, List.getElem?_cons_succ]
  show wpQuiet _ _ _ _ [_, _] _
  iterate 2 go_big_quiet_step (fail)
  refine wpQuiet_nil ?_
  refine MixedC.effect (i := 1) rfl rfl ?_
  intro Q hQ
  have HQ := keep hQ
  clear hQ
  go_wp2_with fail
  refine (one_any k 92 hkl _).mono ?_
  rintro e w6 ⟨rfl, hb⟩
  have hK1 : Keeps [] wr w6 := (Keeps.refl [] wr).drew.below hb (Nat.le_refl _)
  clear hb
  go_wp2_with fail
  refine HQ.out _ _ (Mx.of hK1) ?_
  clear HQ
  refine MixedC.reads (k := 1) (.inr ⟨rfl, rfl⟩) _ [4] _ (by kernel_rfl) ?_
  simp only [List.filterMap_cons, List.filterMap_nil, List.getElem?_toArray, List.getElem?_cons_zero, List.getElem?_cons_succ]
  show wpQuiet _ _ _ _ [_] _
  iterate 1 go_big_quiet_step (fail)
  refine wpQuiet_nil ?_
  refine MixedC.effect (i := 5) rfl rfl ?_
  intro Q hQ
  have HQ := keep hQ
  clear hQ
  go_wp2_with fail
  refine (sha_any (xb k 92 ++ X) (by rw [List.length_append, xb_length]; omega) _).mono ?_
  rintro e w7 ⟨rfl, hb⟩
  have hK5 : Keeps [] wr w7 := hK1.below hb hK1.size
  clear hb
  go_wp2_with fail
  refine HQ.out _ _ (Mx.of hK5) ?_
  clear HQ
  refine MixedC.effect_last (i := 6) rfl rfl ?_
  intro Q hQ
  have HQ := keep hQ
  clear hQ
  have hr7 := hK5.blk hr4 (by simp)
  have hB7 := hB4.trans (hK5.toBelow hB4.size (by simp))
  go_wp2_with (refine wpList_store_row rfl 34 (.tmp 4) (.tmp 19) rfl w.heap.size (b8 32 (shaf (xb k 92 ++ X))) rfl rfl 34 _ hr7 (by kernel_rfl) (by unfold b8; rw [arr_size]; rfl) (arr_one _ _ fun i => rfl) ?_)
  refine HQ.out _ _ ?_
  unfold MixedC.HL
  simp only [Act.put, List.getElem_toArray, List.getElem_cons_zero, List.getElem_cons_succ]
  clear HQ
  go_wp2_with fail
  refine bodyPost_ret (results_c rfl _ _ w.heap.size 34 _ _ _ rfl (hr7.setRow (b8 32 (shaf (xb k 92 ++ X)))) Try.underlying34 (by kernel_rfl)) rfl ?_
  exact ⟨by rw [HF.out], below_row hB7 (Nat.le_refl _) _⟩
end Go.Proofs.Ytbfgnlckmpnchaa

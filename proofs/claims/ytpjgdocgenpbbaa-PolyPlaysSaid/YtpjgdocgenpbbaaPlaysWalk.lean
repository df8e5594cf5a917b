/-
  PolyPlays: the sum of any text under any key is the document's: the walk of the law (written by wip/tools/plays04.py).
-/
import Derived.Test.YtpjgdocgenpbbaaRefSumWalk
import Derived.Test.YtpjgdocgenpbbaaMixedC
namespace Go.Proofs.Ytpjgdocgenpbbaa
open Go.RowKit
set_option linter.unusedVariables false
set_option linter.unusedSimpArgs false
set_option maxRecDepth 100000 in
set_option maxHeartbeats 4000000 in
theorem plays_walk (k : Nat → UInt8) (s : ByteArray) (w : World) : Calls Try.prog 5 #[.agg (karr k), .string s] w fun e w' => e = .returned (.bool true) ∧ Below w.heap.size w w' := by
  rw [tx_of s]
  generalize s.toList = l
  have hk0 : Blk (w.alloc (.cells (karr k) 23)) w.heap.size 23 (karr k) := Blk.made w 23 _
  have hb0 := belowA w (.cells (karr k) 23)
  by_cases h400 : 400 < l.length
  · have g : (400 : Int) < (l.length : Int) := by omega
    go_enter Try.func5, Try.ntmps5
    go_wp2_with fail
    refine (awake_any _).mono ?_; rintro e w1 ⟨rfl, hb1⟩
    have hB1 := hb0.trans (hb1.mono (by simp))
    go_wp2_with fail
    refine (awake_any _).mono ?_; rintro e w2 ⟨rfl, hb2⟩
    go_wp2_with fail
    go_ret
    exact ⟨rfl, hB1.trans (hb2.mono hB1.size)⟩
  · have g : ¬ (400 : Int) < (l.length : Int) := by omega
    go_enter Try.func5, Try.ntmps5
    go_wp2_with fail
    refine (awake_any _).mono ?_; rintro e w1 ⟨rfl, hb1⟩
    have hk1 := hk0.kept hb1
    have hB1 := hb0.trans (hb1.mono (by simp))
    clear hk0 hb0 hb1
    have ea : ∀ w', (Op.equalIn 10000 25 (.agg (uarr8 16 (sumf k l))) (.agg (uarr8 16 (sumf k l)))).run Try.prog w' = .ok true w' := fun w' => eql25 w' _ _ true ⟨fun _ _ _ => rfl, fun _ => rfl⟩
    go_wp2_with fail
    refine MixedC.wp_region (fun w' => ∃ u, w' = mix [] w1 u) [(1, 0), (1, 1), (0, 3), (0, 4), (2, 2), (2, 5), (1, 6), (1, 7)] (by kernel_rfl) (by kernel_rfl) (Mx.drew0 _ _) ?_
    refine MixedC.read_row (i := 0) rfl rfl 23 (.tmp 2) rfl (w.heap.size) rfl 23 (karr k) _ (hk1.drew) Try.underlying23 rfl (by kernel_rfl) ?_
    simp only [List.getElem_toArray, List.getElem_cons_zero, List.getElem_cons_succ, Act.put, List.setIfInBounds_toArray, List.set_cons_succ, List.set_cons_zero]
    refine MixedC.reads (k := 1) (.inr ⟨rfl, rfl⟩) _ [1] _ (by kernel_rfl) ?_
    simp only [List.filterMap_cons, List.filterMap_nil, List.getElem?_toArray, List.getElem?_cons_zero, List.getElem?_cons_succ]
    show wpQuiet _ _ _ _ [_] _
    iterate 1 go_big_quiet_step (fail)
    refine wpQuiet_nil ?_
    refine MixedC.read_row0 (i := 3) rfl rfl 23 (.tmp 2) rfl (w.heap.size) rfl 23 (karr k) _ (by rintro _ ⟨u, rfl⟩; exact (mix_keeps [] w1 u).blk hk1 (by simp)) Try.underlying23 rfl (by kernel_rfl) ?_
    simp only [List.getElem_toArray, List.getElem_cons_zero, List.getElem_cons_succ, Act.put, List.setIfInBounds_toArray, List.set_cons_succ, List.set_cons_zero]
    refine MixedC.reads (k := 0) (.inl ⟨rfl, rfl⟩) _ [4] _ (by kernel_rfl) ?_
    simp only [List.filterMap_cons, List.filterMap_nil, List.getElem?_toArray, List.getElem?_cons_zero, List.getElem?_cons_succ]
    show wpQuiet _ _ _ _ [_] _
    iterate 1 go_big_quiet_step (fail)
    refine wpQuiet_nil ?_
    refine MixedC.effect (i := 2) rfl rfl ?_
    intro Q hQ
    go_wp2_with fail
    refine (sum_any k l _ (by omega)).mono ?_
    rintro e w2 ⟨rfl, hb⟩
    have hK2 : Keeps [] w1 w2 := (Keeps.refl [] w1).drew.below hb (Nat.le_refl _)
    clear hb
    go_wp2_with fail
    refine hQ _ _ (Mx.of hK2) ?_
    clear hQ
    refine MixedC.effect (i := 5) rfl rfl ?_
    intro Q hQ
    go_wp2_with fail
    refine (rsum_any k l _ (by omega)).mono ?_
    rintro e w3 ⟨rfl, hb⟩
    have hK5 : Keeps [] w1 w3 := hK2.below hb hK2.size
    clear hb
    go_wp2_with fail
    refine hQ _ _ (Mx.of hK5) ?_
    clear hQ
    refine MixedC.reads (k := 1) (.inr ⟨rfl, rfl⟩) _ [6, 7] _ (by kernel_rfl) ?_
    simp only [List.filterMap_cons, List.filterMap_nil, List.getElem?_toArray, List.getElem?_cons_zero, List.getElem?_cons_succ]
    show wpQuiet _ _ _ _ [_, _] _
    iterate 2 go_big_quiet_step (fail)
    refine wpQuiet_nil ?_
    unfold MixedC.HL
    have hbel := hB1.trans (hK5.toBelow hB1.size (by simp))
    go_wp2_with fail
    go_ret
    exact ⟨rfl, hbel⟩
end Go.Proofs.Ytpjgdocgenpbbaa

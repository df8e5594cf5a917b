/-
  PolyZeros: zero bytes behind a text make its sum another one's, but where the document's is the same: the walk of the law (written by wip/tools/plays04.py).
-/
import Derived.Test.YtpjgdocgenpbbaaRefSumWalk
import Derived.Test.YtpjgdocgenpbbaaMixedC
namespace Go.Proofs.Ytpjgdocgenpbbaa
open Go.RowKit
set_option linter.unusedVariables false
set_option linter.unusedSimpArgs false
theorem info5 : (Try.prog.info? 5).map (fun i => (i.zero, i.size, i.bytes)) = some (some (.int .u8 0), 1, 1) := by kernel_rfl
set_option maxRecDepth 100000 in
set_option maxHeartbeats 4000000 in
theorem zeros_walk (k : Nat → UInt8) (s : ByteArray) (n : UInt8) (w : World) : Calls Try.prog 6 #[.agg (karr k), .string s, v8 n] w fun e w' => e = .returned (.bool true) ∧ Below w.heap.size w w' := by
  rw [tx_of s]
  generalize s.toList = l
  have hk0 : Blk (w.alloc (.cells (karr k) 23)) w.heap.size 23 (karr k) := Blk.made w 23 _
  have hb0 := belowA w (.cells (karr k) 23)
  by_cases h400 : 400 < l.length
  · have g : (400 : Int) < (l.length : Int) := by omega
    go_enter Try.func6, Try.ntmps6
    go_wp2_with fail
    refine (awake_any _).mono ?_; rintro e w1 ⟨rfl, hb1⟩
    have hB1 := hb0.trans (hb1.mono (by simp))
    go_wp2_with fail
    refine (awake_any _).mono ?_; rintro e w2 ⟨rfl, hb2⟩
    go_wp2_with fail
    go_ret
    exact ⟨rfl, hB1.trans (hb2.mono hB1.size)⟩
  · have g : ¬ (400 : Int) < (l.length : Int) := by omega
    go_enter Try.func6, Try.ntmps6
    go_wp2_with fail
    refine (awake_any _).mono ?_; rintro e w1 ⟨rfl, hb1⟩
    have hk1 := hk0.kept hb1
    have hB1 := hb0.trans (hb1.mono (by simp))
    clear hk0 hb0 hb1
    obtain ⟨m, hm⟩ : ∃ m, n.toNat % 20 = m := ⟨_, rfl⟩
    have hm20 : m < 20 := by omega
    have hmi : ((n.toNat : Int) % 20) = (m : Int) := by omega
    obtain ⟨w2, h1, h2, h3⟩ := make_bytes (P := Try.prog) w1 37 5 m Try.underlying37 info5 (by omega) (m : Int) rfl
    have h4 := h2.back (P := Try.prog) 37 9 5 Try.underlying37 Try.underlying5 Try.underlying9 m
    have hk2 := hk1.kept h3
    have hB2 := hB1.trans (h3.mono hB1.size)
    obtain ⟨z, hz⟩ : ∃ z, tl m (fun _ => (0 : UInt8)) = z := ⟨_, rfl⟩
    have hzl : z.length = m := by rw [← hz, tl_length]
    rw [hz] at h4
    have HZL := keep hzl
    clear hm hzl h2 h3 hz hk1 hB1
    obtain ⟨t, ht⟩ : ∃ t, l ++ z = t := ⟨_, rfl⟩
    have htl : t.length < 1000 := by
      have := HZL.out
      rw [← ht, List.length_append]; omega
    have hcat : l.length + z.length ≤ 9223372036854775807 := by
      have := HZL.out
      omega
    by_cases hs : ∀ i, i < 16 → sumf k l i = sumf k t i
    · have ea : ∀ w', (Op.equalIn 10000 25 (.agg (uarr8 16 (sumf k l))) (.agg (uarr8 16 (sumf k t)))).run Try.prog w' = .ok true w' := fun w' => eql25 w' _ _ true ⟨fun _ => hs, fun _ => rfl⟩
      clear hs
      go_wp2_with fail
      clear h1 h4
      refine MixedC.wp_region (fun w' => ∃ u, w' = mix [] w2 u) [(1, 0), (1, 1), (0, 3), (0, 4), (0, 7), (0, 8), (0, 10), (0, 11), (2, 2), (2, 5), (0, 6), (2, 9), (2, 12), (1, 13), (1, 14), (1, 15)] (by kernel_rfl) (by kernel_rfl) (Mx.drew0 _ _) ?_
      refine MixedC.read_row (i := 0) rfl rfl 23 (.tmp 3) rfl (w.heap.size) rfl 23 (karr k) _ (hk2.drew) Try.underlying23 rfl (by kernel_rfl) ?_
      simp only [List.getElem_toArray, List.getElem_cons_zero, List.getElem_cons_succ, Act.put, List.setIfInBounds_toArray, List.set_cons_succ, List.set_cons_zero]
      refine MixedC.reads (k := 1) (.inr ⟨rfl, rfl⟩) _ [1] _ (by kernel_rfl) ?_
      simp only [List.filterMap_cons, List.filterMap_nil, List.getElem?_toArray, List.getElem?_cons_zero, List.getElem?_cons_succ]
      show wpQuiet _ _ _ _ [_] _
      iterate 1 go_big_quiet_step (fail)
      refine wpQuiet_nil ?_
      refine MixedC.read_row0 (i := 3) rfl rfl 23 (.tmp 3) rfl (w.heap.size) rfl 23 (karr k) _ (by rintro _ ⟨u, rfl⟩; exact (mix_keeps [] w2 u).blk hk2 (by simp)) Try.underlying23 rfl (by kernel_rfl) ?_
      simp only [List.getElem_toArray, List.getElem_cons_zero, List.getElem_cons_succ, Act.put, List.setIfInBounds_toArray, List.set_cons_succ, List.set_cons_zero]
      refine MixedC.reads (k := 0) (.inl ⟨rfl, rfl⟩) _ [4] _ (by kernel_rfl) ?_
      simp only [List.filterMap_cons, List.filterMap_nil, List.getElem?_toArray, List.getElem?_cons_zero, List.getElem?_cons_succ]
      show wpQuiet _ _ _ _ [_] _
      iterate 1 go_big_quiet_step (fail)
      refine wpQuiet_nil ?_
      refine MixedC.read_row0 (i := 7) rfl rfl 23 (.tmp 3) rfl (w.heap.size) rfl 23 (karr k) _ (by rintro _ ⟨u, rfl⟩; exact (mix_keeps [] w2 u).blk hk2 (by simp)) Try.underlying23 rfl (by kernel_rfl) ?_
      simp only [List.getElem_toArray, List.getElem_cons_zero, List.getElem_cons_succ, Act.put, List.setIfInBounds_toArray, List.set_cons_succ, List.set_cons_zero]
      refine MixedC.reads (k := 0) (.inl ⟨rfl, rfl⟩) _ [8] _ (by kernel_rfl) ?_
      simp only [List.filterMap_cons, List.filterMap_nil, List.getElem?_toArray, List.getElem?_cons_zero, List.getElem?_cons_succ]
      show wpQuiet _ _ _ _ [_] _
      iterate 1 go_big_quiet_step (fail)
      refine wpQuiet_nil ?_
      refine MixedC.read_row0 (i := 10) rfl rfl 23 (.tmp 3) rfl (w.heap.size) rfl 23 (karr k) _ (by rintro _ ⟨u, rfl⟩; exact (mix_keeps [] w2 u).blk hk2 (by simp)) Try.underlying23 rfl (by kernel_rfl) ?_
      simp only [List.getElem_toArray, List.getElem_cons_zero, List.getElem_cons_succ, Act.put, List.setIfInBounds_toArray, List.set_cons_succ, List.set_cons_zero]
      refine MixedC.reads (k := 0) (.inl ⟨rfl, rfl⟩) _ [11] _ (by kernel_rfl) ?_
      simp only [List.filterMap_cons, List.filterMap_nil, List.getElem?_toArray, List.getElem?_cons_zero, List.getElem?_cons_succ]
      show wpQuiet _ _ _ _ [_] _
      iterate 1 go_big_quiet_step (fail)
      refine wpQuiet_nil ?_
      refine MixedC.effect (i := 2) rfl rfl ?_
      intro Q hQ
      go_wp2_with fail
      refine (sum_any k l _ (by omega)).mono ?_
      rintro e w3 ⟨rfl, hb⟩
      have hK2 : Keeps [] w2 w3 := (Keeps.refl [] w2).drew.below hb (Nat.le_refl _)
      clear hb
      go_wp2_with fail
      refine hQ _ _ (Mx.of hK2) ?_
      clear hQ
      refine MixedC.effect (i := 5) rfl rfl ?_
      intro Q hQ
      go_wp2_with fail
      refine (sum_any k t _ (by omega)).mono ?_
      rintro e w4 ⟨rfl, hb⟩
      have hK5 : Keeps [] w2 w4 := hK2.below hb hK2.size
      clear hb
      go_wp2_with fail
      refine hQ _ _ (Mx.of hK5) ?_
      clear hQ
      refine MixedC.reads (k := 0) (.inl ⟨rfl, rfl⟩) _ [6] _ (by kernel_rfl) ?_
      simp only [List.filterMap_cons, List.filterMap_nil, List.getElem?_toArray, List.getElem?_cons_zero, List.getElem?_cons_succ]
      show wpQuiet _ _ _ _ [_] _
      iterate 1 go_big_quiet_step (fail)
      refine wpQuiet_nil ?_
      refine MixedC.effect (i := 9) rfl rfl ?_
      intro Q hQ
      go_wp2_with fail
      refine (rsum_any k l _ (by omega)).mono ?_
      rintro e w5 ⟨rfl, hb⟩
      have hK9 : Keeps [] w2 w5 := hK5.below hb hK5.size
      clear hb
      go_wp2_with fail
      refine hQ _ _ (Mx.of hK9) ?_
      clear hQ
      refine MixedC.effect (i := 12) rfl rfl ?_
      intro Q hQ
      go_wp2_with fail
      refine (rsum_any k t _ (by omega)).mono ?_
      rintro e w6 ⟨rfl, hb⟩
      have hK12 : Keeps [] w2 w6 := hK9.below hb hK9.size
      clear hb
      go_wp2_with fail
      refine hQ _ _ (Mx.of hK12) ?_
      clear hQ
      refine MixedC.reads (k := 1) (.inr ⟨rfl, rfl⟩) _ [13, 14, 15] _ (by kernel_rfl) ?_
      simp only [List.filterMap_cons, List.filterMap_nil, List.getElem?_toArray, List.getElem?_cons_zero, List.getElem?_cons_succ]
      show wpQuiet _ _ _ _ [_, _, _] _
      iterate 3 go_big_quiet_step (fail)
      refine wpQuiet_nil ?_
      unfold MixedC.HL
      have hbel := hB2.trans (hK12.toBelow hB2.size (by simp))
      go_wp2_with fail
      go_ret
      exact ⟨rfl, hbel⟩
    · have ea : ∀ w', (Op.equalIn 10000 25 (.agg (uarr8 16 (sumf k l))) (.agg (uarr8 16 (sumf k t)))).run Try.prog w' = .ok false w' := fun w' => eql25 w' _ _ false ⟨(fun h => by cases h), fun h => absurd h hs⟩
      clear hs
      go_wp2_with fail
      clear h1 h4
      refine MixedC.wp_region (fun w' => ∃ u, w' = mix [] w2 u) [(1, 0), (1, 1), (0, 3), (0, 4), (0, 7), (0, 8), (0, 10), (0, 11), (2, 2), (2, 5), (0, 6), (2, 9), (2, 12), (1, 13), (1, 14), (1, 15)] (by kernel_rfl) (by kernel_rfl) (Mx.drew0 _ _) ?_
      refine MixedC.read_row (i := 0) rfl rfl 23 (.tmp 3) rfl (w.heap.size) rfl 23 (karr k) _ (hk2.drew) Try.underlying23 rfl (by kernel_rfl) ?_
      simp only [List.getElem_toArray, List.getElem_cons_zero, List.getElem_cons_succ, Act.put, List.setIfInBounds_toArray, List.set_cons_succ, List.set_cons_zero]
      refine MixedC.reads (k := 1) (.inr ⟨rfl, rfl⟩) _ [1] _ (by kernel_rfl) ?_
      simp only [List.filterMap_cons, List.filterMap_nil, List.getElem?_toArray, List.getElem?_cons_zero, List.getElem?_cons_succ]
      show wpQuiet _ _ _ _ [_] _
      iterate 1 go_big_quiet_step (fail)
      refine wpQuiet_nil ?_
      refine MixedC.read_row0 (i := 3) rfl rfl 23 (.tmp 3) rfl (w.heap.size) rfl 23 (karr k) _ (by rintro _ ⟨u, rfl⟩; exact (mix_keeps [] w2 u).blk hk2 (by simp)) Try.underlying23 rfl (by kernel_rfl) ?_
      simp only [List.getElem_toArray, List.getElem_cons_zero, List.getElem_cons_succ, Act.put, List.setIfInBounds_toArray, List.set_cons_succ, List.set_cons_zero]
      refine MixedC.reads (k := 0) (.inl ⟨rfl, rfl⟩) _ [4] _ (by kernel_rfl) ?_
      simp only [List.filterMap_cons, List.filterMap_nil, List.getElem?_toArray, List.getElem?_cons_zero, List.getElem?_cons_succ]
      show wpQuiet _ _ _ _ [_] _
      iterate 1 go_big_quiet_step (fail)
      refine wpQuiet_nil ?_
      refine MixedC.read_row0 (i := 7) rfl rfl 23 (.tmp 3) rfl (w.heap.size) rfl 23 (karr k) _ (by rintro _ ⟨u, rfl⟩; exact (mix_keeps [] w2 u).blk hk2 (by simp)) Try.underlying23 rfl (by kernel_rfl) ?_
      simp only [List.getElem_toArray, List.getElem_cons_zero, List.getElem_cons_succ, Act.put, List.setIfInBounds_toArray, List.set_cons_succ, List.set_cons_zero]
      refine MixedC.reads (k := 0) (.inl ⟨rfl, rfl⟩) _ [8] _ (by kernel_rfl) ?_
      simp only [List.filterMap_cons, List.filterMap_nil, List.getElem?_toArray, List.getElem?_cons_zero, List.getElem?_cons_succ]
      show wpQuiet _ _ _ _ [_] _
      iterate 1 go_big_quiet_step (fail)
      refine wpQuiet_nil ?_
      refine MixedC.read_row0 (i := 10) rfl rfl 23 (.tmp 3) rfl (w.heap.size) rfl 23 (karr k) _ (by rintro _ ⟨u, rfl⟩; exact (mix_keeps [] w2 u).blk hk2 (by simp)) Try.underlying23 rfl (by kernel_rfl) ?_
      simp only [List.getElem_toArray, List.getElem_cons_zero, List.getElem_cons_succ, Act.put, List.setIfInBounds_toArray, List.set_cons_succ, List.set_cons_zero]
      refine MixedC.reads (k := 0) (.inl ⟨rfl, rfl⟩) _ [11] _ (by kernel_rfl) ?_
      simp only [List.filterMap_cons, List.filterMap_nil, List.getElem?_toArray, List.getElem?_cons_zero, List.getElem?_cons_succ]
      show wpQuiet _ _ _ _ [_] _
      iterate 1 go_big_quiet_step (fail)
      refine wpQuiet_nil ?_
      refine MixedC.effect (i := 2) rfl rfl ?_
      intro Q hQ
      go_wp2_with fail
      refine (sum_any k l _ (by omega)).mono ?_
      rintro e w3 ⟨rfl, hb⟩
      have hK2 : Keeps [] w2 w3 := (Keeps.refl [] w2).drew.below hb (Nat.le_refl _)
      clear hb
      go_wp2_with fail
      refine hQ _ _ (Mx.of hK2) ?_
      clear hQ
      refine MixedC.effect (i := 5) rfl rfl ?_
      intro Q hQ
      go_wp2_with fail
      refine (sum_any k t _ (by omega)).mono ?_
      rintro e w4 ⟨rfl, hb⟩
      have hK5 : Keeps [] w2 w4 := hK2.below hb hK2.size
      clear hb
      go_wp2_with fail
      refine hQ _ _ (Mx.of hK5) ?_
      clear hQ
      refine MixedC.reads (k := 0) (.inl ⟨rfl, rfl⟩) _ [6] _ (by kernel_rfl) ?_
      simp only [List.filterMap_cons, List.filterMap_nil, List.getElem?_toArray, List.getElem?_cons_zero, List.getElem?_cons_succ]
      show wpQuiet _ _ _ _ [_] _
      iterate 1 go_big_quiet_step (fail)
      refine wpQuiet_nil ?_
      refine MixedC.effect (i := 9) rfl rfl ?_
      intro Q hQ
      go_wp2_with fail
      refine (rsum_any k l _ (by omega)).mono ?_
      rintro e w5 ⟨rfl, hb⟩
      have hK9 : Keeps [] w2 w5 := hK5.below hb hK5.size
      clear hb
      go_wp2_with fail
      refine hQ _ _ (Mx.of hK9) ?_
      clear hQ
      refine MixedC.effect (i := 12) rfl rfl ?_
      intro Q hQ
      go_wp2_with fail
      refine (rsum_any k t _ (by omega)).mono ?_
      rintro e w6 ⟨rfl, hb⟩
      have hK12 : Keeps [] w2 w6 := hK9.below hb hK9.size
      clear hb
      go_wp2_with fail
      refine hQ _ _ (Mx.of hK12) ?_
      clear hQ
      refine MixedC.reads (k := 1) (.inr ⟨rfl, rfl⟩) _ [13, 14, 15] _ (by kernel_rfl) ?_
      simp only [List.filterMap_cons, List.filterMap_nil, List.getElem?_toArray, List.getElem?_cons_zero, List.getElem?_cons_succ]
      show wpQuiet _ _ _ _ [_, _, _] _
      iterate 3 go_big_quiet_step (fail)
      refine wpQuiet_nil ?_
      unfold MixedC.HL
      have hbel := hB2.trans (hK12.toBelow hB2.size (by simp))
      go_wp2_with fail
      go_ret
      exact ⟨rfl, hbel⟩
end Go.Proofs.Ytpjgdocgenpbbaa

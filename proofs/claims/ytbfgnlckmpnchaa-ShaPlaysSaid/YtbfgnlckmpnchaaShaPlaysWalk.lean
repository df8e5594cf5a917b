/-
  ShaPlays: the sum of any text, and of any words a block, are the document's: the walk of the law (written by wip/tools/sha_plays.py).
-/
import Derived.Test.YtbfgnlckmpnchaaFirstBWalk
import Derived.Test.YtbfgnlckmpnchaaRSum
namespace Go.Proofs.Ytbfgnlckmpnchaa
open Go.RowKit
set_option linter.unusedVariables false
set_option linter.unusedSimpArgs false
theorem wf_take (l : List UInt8) : wf (l.take 64) = wf l := wf_congr fun i hi => bt_take l 64 i hi
set_option maxRecDepth 100000 in
set_option maxHeartbeats 4000000 in
theorem plays_walk (s : ByteArray) (h : Nat → UInt32) (w : World) : Calls Try.prog 8 #[.string s, .agg (w32 8 h)] w fun e w' => e = .returned (.bool true) ∧ Below w.heap.size w w' := by
  rw [tx_of s]
  generalize s.toList = l
  have hk0 : Blk (w.alloc (.cells (w32 8 h) 31)) w.heap.size 31 (w32 8 h) := Blk.made w 31 _
  have hb0 := belowA w (.cells (w32 8 h) 31)
  by_cases hl : 400 < l.length
  · have gl : (400 : Int) < (l.length : Int) := by omega
    go_enter Try.func8, Try.ntmps8
    go_wp2_with fail
    refine (awake_any _).mono ?_; rintro e w1 ⟨rfl, hb1⟩
    have hB1 := hb0.trans (hb1.mono (by simp))
    go_wp2_with fail
    refine (awake_any _).mono ?_; rintro e w2 ⟨rfl, hb2⟩
    go_wp2_with fail
    go_ret
    exact ⟨rfl, hB1.trans (hb2.mono hB1.size)⟩
  · have gl : ¬ (400 : Int) < (l.length : Int) := by omega
    have e34 : ∀ w', (Op.equalIn 10000 34 (.agg (b8 32 (shaf l))) (.agg (b8 32 (shaf l)))).run Try.prog w' = .ok true w' := fun w' => eql34 w' _ _ true ⟨fun _ _ _ => rfl, fun _ => rfl⟩
    go_enter Try.func8, Try.ntmps8
    go_wp2_with fail
    refine (awake_any _).mono ?_; rintro e w1 ⟨rfl, hb1⟩
    have hk1 := hk0.kept hb1
    have hB1 := hb0.trans (hb1.mono (by simp))
    clear hb1 hk0 hb0
    go_wp2_with fail
    refine (sha_any l (by omega) _).mono ?_; rintro e w2 ⟨rfl, hb2⟩
    have hk2 := hk1.kept hb2
    have hB2 := hB1.trans (hb2.mono hB1.size)
    clear hb2 hk1 hB1
    go_wp2_with fail
    refine (rsum_any l (by omega) _).mono ?_; rintro e w3 ⟨rfl, hb3⟩
    have hk3 := hk2.kept hb3
    have hB3 := hB2.trans (hb3.mono hB2.size)
    clear hb3 hk2 hB2
    go_wp2_with fail
    refine (fill_any l (by omega) _).mono ?_; rintro e w4 ⟨rfl, hb4⟩
    have hk4 := hk3.kept hb4
    have hB4 := hB3.trans (hb4.mono hB3.size)
    clear hb4 hk3 hB3
    go_wp2_with fail
    refine (rfill_any l (by omega) _).mono ?_; rintro e wr ⟨rfl, hb5⟩
    have hk := hk4.kept hb5
    have hB := hB4.trans (hb5.mono hB4.size)
    clear hb5 hk4 hB4 e34
    by_cases h64 : l.length < 64
    · have g64 : (l.length : Int) < 64 := by omega
      have hd : decide ((l.length : Int) < 64) = true := decide_eq_true g64
      go_wp2_with fail
      go_quiet (fail)
      go_wp2_with fail
      go_ret
      exact ⟨rfl, below_many hB _⟩
    · have g64 : ¬ (l.length : Int) < 64 := by omega
      have hd : decide ((l.length : Int) < 64) = false := decide_eq_false g64
      have g64' : (64 : Int) ≤ (l.length : Int) := by omega
      have hl64 : (l.take 64).length = 64 := by rw [List.length_take]; omega
      obtain ⟨F, hF⟩ : ∃ F, mixf h (wf l) kf = F := ⟨_, rfl⟩
      have hc1 : ∀ w, Calls Try.prog 21 #[.agg (w32 8 h), .string (tx l)] w fun e w' => e = .returned (.agg (w32 8 F)) ∧ Below w.heap.size w w' := fun w => by rw [← hF]; exact block_any h l (by omega) (by omega) w
      have hc2 : ∀ w, Calls Try.prog 25 #[.agg (w32 8 h), .string (tx (l.take 64)), .agg (w32 64 kf)] w fun e w' => e = .returned (.agg (w32 8 F)) ∧ Below w.heap.size w w' := fun w => by rw [← hF, ← wf_take]; exact rblock_any h kf (l.take 64) hl64 w
      have ea : ∀ w', (Op.equalIn 10000 31 (.agg (w32 8 F)) (.agg (w32 8 F))).run Try.prog w' = .ok true w' := fun w' => eql31 w' F F true ⟨fun _ _ _ => rfl, fun _ => rfl⟩
      have HC1 := keep hc1
      have HC2 := keep hc2
      clear hc1 hc2 hF
      go_wp2_with fail
      refine MixedC.wp_region (fun w' => ∃ u, w' = mix [] wr u) [(1, 0), (1, 1), (1, 2), (1, 3), (1, 4), (1, 5), (0, 7), (0, 8), (0, 9), (2, 6), (2, 10), (2, 11), (1, 12), (1, 13), (1, 14)] (by kernel_rfl) (by kernel_rfl) (Mx.drew0 _ _) ?_
      refine MixedC.reads (k := 1) (.inr ⟨rfl, rfl⟩) _ [0, 1, 2, 3] _ (by kernel_rfl) ?_
      simp only [List.filterMap_cons, List.filterMap_nil, List.getElem?_toArray, List.getElem?_cons_zero, List.getElem?_cons_succ]
      show wpQuiet _ _ _ _ [_, _, _, _] _
      iterate 4 go_big_quiet_step (fail)
      refine wpQuiet_nil ?_
      refine MixedC.read_row_w (i := 4) rfl (by rfl) 31 (.tmp 3) rfl (w.heap.size) rfl 31 (w32 8 h) _ (hk.drew) Try.underlying31 rfl (by kernel_rfl) ?_
      simp only [List.getElem_toArray, List.getElem_cons_zero, List.getElem_cons_succ, Act.put, List.setIfInBounds_toArray, List.set_cons_succ, List.set_cons_zero]
      refine MixedC.reads (k := 1) (.inr ⟨rfl, rfl⟩) _ [5] _ (by kernel_rfl) ?_
      simp only [List.filterMap_cons, List.filterMap_nil, List.getElem?_toArray, List.getElem?_cons_zero, List.getElem?_cons_succ]
      show wpQuiet _ _ _ _ [_] _
      iterate 1 go_big_quiet_step (fail)
      refine wpQuiet_nil ?_
      refine MixedC.read_row0_w (i := 7) rfl (by rfl) 31 (.tmp 3) rfl (w.heap.size) rfl 31 (w32 8 h) _ (by rintro _ ⟨u, rfl⟩; exact (mix_keeps [] wr u).blk hk (by simp)) Try.underlying31 rfl (by kernel_rfl) ?_
      simp only [List.getElem_toArray, List.getElem_cons_zero, List.getElem_cons_succ, Act.put, List.setIfInBounds_toArray, List.set_cons_succ, List.set_cons_zero]
      refine MixedC.reads (k := 0) (.inl ⟨rfl, rfl⟩) _ [8, 9] _ (by kernel_rfl) ?_
      simp only [List.filterMap_cons, List.filterMap_nil, List.getElem?_toArray, List.getElem?_cons_zero, List.getElem?_cons_succ]
      show wpQuiet _ _ _ _ [_, _] _
      iterate 2 go_big_quiet_step (fail)
      refine wpQuiet_nil ?_
      refine MixedC.effect_w (i := 6) rfl (by rfl) ?_
      intro Q hQ
      have HQ := keep hQ
      clear hQ
      go_wp2_with fail
      refine (HC1.out _).mono ?_
      rintro e w6 ⟨rfl, hb⟩
      have hK6 : Keeps [] wr w6 := (Keeps.refl [] wr).drew.below hb (Nat.le_refl _)
      clear hb
      go_wp2_with fail
      refine HQ.out _ _ (Mx.of hK6) ?_
      clear HQ
      refine MixedC.effect_w (i := 10) rfl (by rfl) ?_
      intro Q hQ
      have HQ := keep hQ
      clear hQ
      go_wp2_with fail
      refine (rconstants_any _).mono ?_
      rintro e w7 ⟨rfl, hb⟩
      have hK10 : Keeps [] wr w7 := hK6.below hb hK6.size
      clear hb
      go_wp2_with fail
      refine HQ.out _ _ (Mx.of hK10) ?_
      clear HQ
      refine MixedC.effect_w (i := 11) rfl (by rfl) ?_
      intro Q hQ
      have HQ := keep hQ
      clear hQ
      go_wp2_with fail
      refine (HC2.out _).mono ?_
      rintro e w8 ⟨rfl, hb⟩
      have hK11 : Keeps [] wr w8 := hK10.below hb hK10.size
      clear hb
      go_wp2_with fail
      refine HQ.out _ _ (Mx.of hK11) ?_
      clear HQ
      refine MixedC.reads (k := 1) (.inr ⟨rfl, rfl⟩) _ [12, 13, 14] _ (by kernel_rfl) ?_
      simp only [List.filterMap_cons, List.filterMap_nil, List.getElem?_toArray, List.getElem?_cons_zero, List.getElem?_cons_succ]
      show wpQuiet _ _ _ _ [_, _, _] _
      iterate 3 go_big_quiet_step (fail)
      refine wpQuiet_nil ?_
      unfold MixedC.HL
      have hbel := hB.trans (hK11.toBelow hB.size (by simp))
      go_wp2_with fail
      go_ret
      exact ⟨rfl, hbel⟩
end Go.Proofs.Ytbfgnlckmpnchaa

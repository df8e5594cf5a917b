/-
  MacPlays: any keyed sum, any root, any keys are the document's: the walk of the law (written by wip/tools/mac_plays.py).
-/
import Derived.Test.YtbfgnlckmpnchaaMacKeys0
import Derived.Test.YtbfgnlckmpnchaaMacRKeys
import Derived.Test.YtbfgnlckmpnchaaMixedMid
namespace Go.Proofs.Ytbfgnlckmpnchaa
open Go.RowKit
set_option linter.unusedVariables false
set_option linter.unusedSimpArgs false
set_option maxRecDepth 100000 in
theorem mroot_any (l s : List UInt8) (hl : l.length < 800000) (hs : s.length < 800000) (w : World) : Calls Try.prog 32 #[.string (tx l), .string (tx s)] w fun e w' => e = .returned (.agg (b8 32 (msum l s))) ∧ Below w.heap.size w w' := by
  have hr : Blk (w.alloc (.cells #[.int .u8 0, .int .u8 0, .int .u8 0, .int .u8 0, .int .u8 0, .int .u8 0, .int .u8 0, .int .u8 0, .int .u8 0, .int .u8 0, .int .u8 0, .int .u8 0, .int .u8 0, .int .u8 0, .int .u8 0, .int .u8 0, .int .u8 0, .int .u8 0, .int .u8 0, .int .u8 0, .int .u8 0, .int .u8 0, .int .u8 0, .int .u8 0, .int .u8 0, .int .u8 0, .int .u8 0, .int .u8 0, .int .u8 0, .int .u8 0, .int .u8 0, .int .u8 0] 34)) w.heap.size 34 #[.int .u8 0, .int .u8 0, .int .u8 0, .int .u8 0, .int .u8 0, .int .u8 0, .int .u8 0, .int .u8 0, .int .u8 0, .int .u8 0, .int .u8 0, .int .u8 0, .int .u8 0, .int .u8 0, .int .u8 0, .int .u8 0, .int .u8 0, .int .u8 0, .int .u8 0, .int .u8 0, .int .u8 0, .int .u8 0, .int .u8 0, .int .u8 0, .int .u8 0, .int .u8 0, .int .u8 0, .int .u8 0, .int .u8 0, .int .u8 0, .int .u8 0, .int .u8 0] := Blk.made w 34 _
  have hb := belowA w (.cells #[.int .u8 0, .int .u8 0, .int .u8 0, .int .u8 0, .int .u8 0, .int .u8 0, .int .u8 0, .int .u8 0, .int .u8 0, .int .u8 0, .int .u8 0, .int .u8 0, .int .u8 0, .int .u8 0, .int .u8 0, .int .u8 0, .int .u8 0, .int .u8 0, .int .u8 0, .int .u8 0, .int .u8 0, .int .u8 0, .int .u8 0, .int .u8 0, .int .u8 0, .int .u8 0, .int .u8 0, .int .u8 0, .int .u8 0, .int .u8 0, .int .u8 0, .int .u8 0] 34)
  go_enter Try.func32, Try.ntmps32
  go_wp2_with fail
  refine (msum_any l s hl hs _).mono ?_
  rintro e w1 ⟨rfl, hb1⟩
  have hr1 := hr.kept hb1
  have hB1 := hb.trans (hb1.mono hb.size)
  go_wp2_with (refine wpList_store_row rfl 34 (.tmp 4) (.tmp 7) rfl w.heap.size (b8 32 (msum l s)) rfl rfl 34 _ hr1 (by kernel_rfl) (by unfold b8; rw [arr_size]; rfl) (arr_one _ _ fun i => rfl) ?_)
  refine bodyPost_ret (results_c rfl _ _ w.heap.size 34 _ _ _ rfl (hr1.setRow (b8 32 (msum l s))) Try.underlying34 (by kernel_rfl)) rfl ?_
  exact ⟨rfl, below_row hB1 (Nat.le_refl _) _⟩
set_option maxRecDepth 100000 in
set_option maxHeartbeats 8000000 in
theorem macplays_walk (a b : ByteArray) (n : Int) (w : World) : Calls Try.prog 14 #[.string a, .string b, .int .i64 n] w fun e w' => e = .returned (.bool true) ∧ Below w.heap.size w w' := by
  rw [tx_of a, tx_of b]
  generalize a.toList = l
  generalize b.toList = s
  by_cases hl : 300 < l.length
  · have gl : (300 : Int) < (l.length : Int) := by omega
    go_enter Try.func14, Try.ntmps14
    go_wp2_with fail
    refine (mawake_any _).mono ?_; rintro e w1 ⟨rfl, hb1⟩
    go_wp2_with fail
    refine (mawake_any _).mono ?_; rintro e w2 ⟨rfl, hb2⟩
    go_wp2_with fail
    go_ret
    exact ⟨rfl, hb1.trans (hb2.mono hb1.size)⟩
  · have gl : ¬ (300 : Int) < (l.length : Int) := by omega
    by_cases hs : 300 < s.length
    · have gs : (300 : Int) < (s.length : Int) := by omega
      go_enter Try.func14, Try.ntmps14
      go_wp2_with fail
      refine (mawake_any _).mono ?_; rintro e w1 ⟨rfl, hb1⟩
      go_wp2_with fail
      refine (mawake_any _).mono ?_; rintro e w2 ⟨rfl, hb2⟩
      go_wp2_with fail
      go_ret
      exact ⟨rfl, hb1.trans (hb2.mono hb1.size)⟩
    · have gs : ¬ (300 : Int) < (s.length : Int) := by omega
      obtain ⟨F, hF⟩ : ∃ F, msum l s = F := ⟨_, rfl⟩
      have hc1 : ∀ w, Calls Try.prog 28 #[.string (tx l), .string (tx s)] w fun e w' => e = .returned (.agg (b8 32 F)) ∧ Below w.heap.size w w' := fun w => by rw [← hF]; exact msum_any l s (by omega) (by omega) w
      have hc2 : ∀ w, Calls Try.prog 32 #[.string (tx l), .string (tx s)] w fun e w' => e = .returned (.agg (b8 32 F)) ∧ Below w.heap.size w w' := fun w => by rw [← hF]; exact mroot_any l s (by omega) (by omega) w
      have hc3 : ∀ w, Calls Try.prog 31 #[.string (tx l), .string (tx s)] w fun e w' => e = .returned (.agg (b8 32 F)) ∧ Below w.heap.size w w' := fun w => by rw [← hF]; exact rmsum_any l s (by omega) (by omega) w
      have e34 : ∀ w', (Op.equalIn 10000 34 (.agg (b8 32 F)) (.agg (b8 32 F))).run Try.prog w' = .ok true w' := fun w' => eql34 w' _ _ true ⟨fun _ _ _ => rfl, fun _ => rfl⟩
      have HC1 := keep hc1
      have HC2 := keep hc2
      have HC3 := keep hc3
      clear hc1 hc2 hc3 hF
      go_enter Try.func14, Try.ntmps14
      go_wp2_with fail
      refine (mawake_any _).mono ?_; rintro e w1 ⟨rfl, hb1⟩
      go_wp2_with fail
      refine (HC3.out _).mono ?_; rintro e w2 ⟨rfl, hb2⟩
      have hB2 := hb1.trans (hb2.mono hb1.size)
      have hX0 := Blk.made w2 33 #[.int .u8 0, .int .u8 0, .int .u8 0, .int .u8 0, .int .u8 0, .int .u8 0, .int .u8 0, .int .u8 0, .int .u8 0, .int .u8 0, .int .u8 0, .int .u8 0, .int .u8 0, .int .u8 0, .int .u8 0, .int .u8 0, .int .u8 0, .int .u8 0, .int .u8 0, .int .u8 0, .int .u8 0, .int .u8 0, .int .u8 0, .int .u8 0, .int .u8 0, .int .u8 0, .int .u8 0, .int .u8 0, .int .u8 0, .int .u8 0, .int .u8 0, .int .u8 0]
      have hX : Blk ((w2.alloc (.cells #[.int .u8 0, .int .u8 0, .int .u8 0, .int .u8 0, .int .u8 0, .int .u8 0, .int .u8 0, .int .u8 0, .int .u8 0, .int .u8 0, .int .u8 0, .int .u8 0, .int .u8 0, .int .u8 0, .int .u8 0, .int .u8 0, .int .u8 0, .int .u8 0, .int .u8 0, .int .u8 0, .int .u8 0, .int .u8 0, .int .u8 0, .int .u8 0, .int .u8 0, .int .u8 0, .int .u8 0, .int .u8 0, .int .u8 0, .int .u8 0, .int .u8 0, .int .u8 0] 33)).setRow w2.heap.size (b8 32 F)) w2.heap.size 33 (b8 32 F) := hX0.setRow _
      have hB := below_row (hB2.alloc hB2.size (.cells #[.int .u8 0, .int .u8 0, .int .u8 0, .int .u8 0, .int .u8 0, .int .u8 0, .int .u8 0, .int .u8 0, .int .u8 0, .int .u8 0, .int .u8 0, .int .u8 0, .int .u8 0, .int .u8 0, .int .u8 0, .int .u8 0, .int .u8 0, .int .u8 0, .int .u8 0, .int .u8 0, .int .u8 0, .int .u8 0, .int .u8 0, .int .u8 0, .int .u8 0, .int .u8 0, .int .u8 0, .int .u8 0, .int .u8 0, .int .u8 0, .int .u8 0, .int .u8 0] 33)) hB2.size (b8 32 F)
      clear hb1 hb2
      go_wp2_with (refine wpList_store_row rfl 33 (.tmp 7) (.tmp 26) rfl w2.heap.size (b8 32 F) rfl rfl 33 _ hX0 (by kernel_rfl) (by unfold b8; rw [arr_size]; rfl) (arr_one _ _ fun i => rfl) ?_)
      simp only [Act.put]
      clear hX0 hB2
      generalize (w2.alloc (.cells #[.int .u8 0, .int .u8 0, .int .u8 0, .int .u8 0, .int .u8 0, .int .u8 0, .int .u8 0, .int .u8 0, .int .u8 0, .int .u8 0, .int .u8 0, .int .u8 0, .int .u8 0, .int .u8 0, .int .u8 0, .int .u8 0, .int .u8 0, .int .u8 0, .int .u8 0, .int .u8 0, .int .u8 0, .int .u8 0, .int .u8 0, .int .u8 0, .int .u8 0, .int .u8 0, .int .u8 0, .int .u8 0, .int .u8 0, .int .u8 0, .int .u8 0, .int .u8 0] 33)).setRow w2.heap.size (b8 32 F) = wr at *
      generalize w2.heap.size = X at *
      refine MixedC.wp_region (fun w' => ∃ u, w' = mix [] wr u) [(1, 0), (1, 1), (0, 3), (2, 2), (1, 4), (1, 5), (1, 6), (1, 7), (0, 9), (2, 8), (1, 10), (1, 11)] (by kernel_rfl) (by kernel_rfl) (Mx.drew0 _ _) ?_
      refine MixedC.reads (k := 1) (.inr ⟨rfl, rfl⟩) _ [0, 1] _ (by kernel_rfl) ?_
      simp only [List.filterMap_cons, List.filterMap_nil, List.getElem?_toArray, List.getElem?_cons_zero, List.getElem?_cons_succ]
      show wpQuiet _ _ _ _ [_, _] _
      iterate 2 go_big_quiet_step (fail)
      refine wpQuiet_nil ?_
      refine MixedC.read_row0 (i := 3) rfl rfl 33 (.tmp 7) rfl (X) rfl 33 (b8 32 F) _ (by rintro _ ⟨u, rfl⟩; exact (mix_keeps [] wr u).blk hX (by simp)) Try.underlying33 rfl (by kernel_rfl) ?_
      simp only [List.getElem_toArray, List.getElem_cons_zero, List.getElem_cons_succ, Act.put, List.setIfInBounds_toArray, List.set_cons_succ, List.set_cons_zero]
      refine MixedC.effect (i := 2) rfl rfl ?_
      intro Q hQ
      have HQ := keep hQ
      clear hQ
      go_wp2_with fail
      refine (HC1.out _).mono ?_
      rintro e w6 ⟨rfl, hb⟩
      have hK2 : Keeps [] wr w6 := (Keeps.refl [] wr).drew.below hb (Nat.le_refl _)
      clear hb
      go_wp2_with fail
      refine HQ.out _ _ (Mx.of hK2) ?_
      clear HQ
      refine MixedC.reads (k := 1) (.inr ⟨rfl, rfl⟩) _ [4, 5, 6, 7] _ (by kernel_rfl) ?_
      simp only [List.filterMap_cons, List.filterMap_nil, List.getElem?_toArray, List.getElem?_cons_zero, List.getElem?_cons_succ]
      show wpQuiet _ _ _ _ [_, _, _, _] _
      iterate 4 go_big_quiet_step (fail)
      refine wpQuiet_nil ?_
      refine MixedC.read_row0_w (i := 9) rfl (by rfl) 33 (.tmp 7) rfl (X) rfl 33 (b8 32 F) _ (by rintro _ ⟨u, rfl⟩; exact (mix_keeps [] wr u).blk hX (by simp)) Try.underlying33 rfl (by kernel_rfl) ?_
      simp only [List.getElem_toArray, List.getElem_cons_zero, List.getElem_cons_succ, Act.put, List.setIfInBounds_toArray, List.set_cons_succ, List.set_cons_zero]
      refine MixedC.effect_w (i := 8) rfl (by rfl) ?_
      intro Q hQ
      have HQ := keep hQ
      clear hQ
      go_wp2_with fail
      refine (HC2.out _).mono ?_
      rintro e w7 ⟨rfl, hb⟩
      have hK8 : Keeps [] wr w7 := hK2.below hb hK2.size
      clear hb
      go_wp2_with fail
      refine HQ.out _ _ (Mx.of hK8) ?_
      clear HQ
      refine MixedC.reads (k := 1) (.inr ⟨rfl, rfl⟩) _ [10, 11] _ (by kernel_rfl) ?_
      simp only [List.filterMap_cons, List.filterMap_nil, List.getElem?_toArray, List.getElem?_cons_zero, List.getElem?_cons_succ]
      show wpQuiet _ _ _ _ [_, _] _
      iterate 2 go_big_quiet_step (fail)
      refine wpQuiet_nil ?_
      unfold MixedC.HL
      have hX7 := hK8.blk hX (by simp)
      have hB7 := hB.trans (hK8.toBelow hB.size (by simp))
      clear hK2 hK8 hX hB e34
      by_cases n0 : n < 0
      · have HN0 : n < 0 ∨ 255 < n := .inl n0
        go_wp2_with (refine wpList_load_row rfl 33 (.tmp 7) rfl X rfl 33 (b8 32 F) (0, 0) _ hX7 Try.underlying33 rfl (by kernel_rfl) ?_)
        refine (keys_none F s n (by omega) _).mono ?_; rintro e w8 ⟨rfl, hb8⟩
        have hB8 := hB7.trans (hb8.mono hB7.size)
        go_wp2_with fail
        go_ret
        exact ⟨rfl, hB8⟩
      · by_cases n255 : 255 < n
        · have HN0 : n < 0 ∨ 255 < n := .inr n255
          go_wp2_with (refine wpList_load_row rfl 33 (.tmp 7) rfl X rfl 33 (b8 32 F) (0, 0) _ hX7 Try.underlying33 rfl (by kernel_rfl) ?_)
          refine (keys_none F s n (by omega) _).mono ?_; rintro e w8 ⟨rfl, hb8⟩
          have hB8 := hB7.trans (hb8.mono hB7.size)
          go_wp2_with fail
          go_ret
          exact ⟨rfl, hB8⟩
        · obtain ⟨m, rfl⟩ : ∃ m : Nat, n = (m : Int) := ⟨n.toNat, by omega⟩
          by_cases n4 : (4 : Int) < (m : Int)
          · have hm255 : m ≤ 255 := by omega
            go_wp2_with (refine wpList_load_row rfl 33 (.tmp 7) rfl X rfl 33 (b8 32 F) (0, 0) _ hX7 Try.underlying33 rfl (by kernel_rfl) ?_)
            refine (keys_any F s m (by omega) (by omega) _).mono ?_; rintro e w8 ⟨va, rfl, hva, hb8⟩
            obtain ⟨aa, ca, rfl, hca1, hca2⟩ := hva.form
            have hX8 := hX7.kept hb8
            have hB8 := hB7.trans (hb8.mono hB7.size)
            clear hb8 hX7 hB7
            clear hva
            go_wp2_with fail
            go_ret
            exact ⟨rfl, hB8⟩
          · have hm4 : m ≤ 4 := by omega
            go_wp2_with (refine wpList_load_row rfl 33 (.tmp 7) rfl X rfl 33 (b8 32 F) (0, 0) _ hX7 Try.underlying33 rfl (by kernel_rfl) ?_)
            refine (keys_any F s m (by omega) (by omega) _).mono ?_; rintro e w8 ⟨va, rfl, hva, hb8⟩
            obtain ⟨aa, ca, rfl, hca1, hca2⟩ := hva.form
            have hX8 := hX7.kept hb8
            have hB8 := hB7.trans (hb8.mono hB7.size)
            clear hb8 hX7 hB7
            go_wp2_with (refine wpList_load_row rfl 33 (.tmp 7) rfl X rfl 33 (b8 32 F) (0, 0) _ hX8 Try.underlying33 rfl (by kernel_rfl) ?_)
            refine (rkeys_any F s m (by omega) (by omega) _).mono ?_; rintro e w9 ⟨vb, rfl, hvb, hb9⟩
            obtain ⟨ab, cb, rfl, hcb1, hcb2⟩ := hvb.form
            have hva9 : Keyed 34 w9 0 (.slice aa m ca) (kkey F s) m := (hva.below hb9).mono (Nat.zero_le _)
            have hvb9 : Keyed 33 w9 0 (.slice ab m cb) (kkey F s) m := hvb.mono (Nat.zero_le _)
            have hB9 := hB8.trans (hb9.mono hB8.size)
            clear hb9 hX8 hB8 hva hvb
            go_wp2_with fail
            go_loopw [10] (fun z wr => ∃ i : Nat, i ≤ m ∧ z = .int .i64 i ∧ Keyed 34 wr 0 (.slice aa m ca) (kkey F s) m ∧ Keyed 33 wr 0 (.slice ab m cb) (kkey F s) m ∧ Below w.heap.size w wr) (fun z _ => m - (intOf z).toNat)
            case atStart => exact ⟨0, Nat.zero_le _, rfl, hva9, hvb9, hB9⟩
            case round =>
              clear hva9 hvb9 hB9
              obtain ⟨i, hi, rfl, hva, hvb, hB⟩ := hrel
              by_cases him : i < m
              · have gim : (i : Int) < (m : Int) := by omega
                obtain ⟨ga, rfl, -, hga, ra⟩ := hva.at_ him
                obtain ⟨gb, rfl, -, hgb, rb⟩ := hvb.at_ him
                obtain ⟨f, hf⟩ : ∃ f, kkey F s i = f := ⟨_, rfl⟩
                rw [hf] at ra rb
                clear hf
                have e34 : ∀ w', (Op.equalIn 10000 34 (.agg (b8 32 f)) (.agg (b8 32 f))).run Try.prog w' = .ok true w' := fun w' => eql34 w' _ _ true ⟨fun _ _ _ => rfl, fun _ => rfl⟩
                have hmm : ((m : Int) != (m : Int)) = false := by simp
                go_wp2_with fail
                refine MixedC.wp_region (fun w' => ∃ u, w' = mix [] wr u) [(1, 0), (1, 1), (1, 2), (1, 3), (1, 4), (1, 5), (1, 6), (1, 7), (1, 8), (1, 9), (1, 10), (1, 11), (1, 12), (1, 13), (1, 14), (1, 15)] (by kernel_rfl) (by kernel_rfl) (Mx.drew0 _ _) ?_
                refine MixedC.reads (k := 1) (.inr ⟨rfl, rfl⟩) _ [0, 1, 2, 3, 4, 5, 6, 7, 8] _ (by kernel_rfl) ?_
                simp only [List.filterMap_cons, List.filterMap_nil, List.getElem?_toArray, List.getElem?_cons_zero, List.getElem?_cons_succ]
                show wpQuiet _ _ _ _ [_, _, _, _, _, _, _, _, _] _
                iterate 9 go_big_quiet_step (fail)
                refine wpQuiet_nil ?_
                refine MixedC.read_mid (i := 9) rfl (by rfl) 34 (.tmp 76) rfl (ga) (i * 32) rfl (b8 32 (f)) _ (ra) Try.underlying34 rfl (by rw [b8_list_length]; kernel_rfl) ?_
                simp only [List.getElem_toArray, List.getElem_cons_zero, List.getElem_cons_succ, Act.put, List.setIfInBounds_toArray, List.set_cons_succ, List.set_cons_zero]
                refine MixedC.reads (k := 1) (.inr ⟨rfl, rfl⟩) _ [10, 11, 12] _ (by kernel_rfl) ?_
                simp only [List.filterMap_cons, List.filterMap_nil, List.getElem?_toArray, List.getElem?_cons_zero, List.getElem?_cons_succ]
                show wpQuiet _ _ _ _ [_, _, _] _
                iterate 3 go_big_quiet_step (fail)
                refine wpQuiet_nil ?_
                refine MixedC.read_mid (i := 13) rfl (by rfl) 33 (.tmp 80) rfl (gb) (i * 32) rfl (b8 32 (f)) _ (rb) Try.underlying33 rfl (by rw [b8_list_length]; kernel_rfl) ?_
                simp only [List.getElem_toArray, List.getElem_cons_zero, List.getElem_cons_succ, Act.put, List.setIfInBounds_toArray, List.set_cons_succ, List.set_cons_zero]
                refine MixedC.reads (k := 1) (.inr ⟨rfl, rfl⟩) _ [14, 15] _ (by kernel_rfl) ?_
                simp only [List.filterMap_cons, List.filterMap_nil, List.getElem?_toArray, List.getElem?_cons_zero, List.getElem?_cons_succ]
                show wpQuiet _ _ _ _ [_, _] _
                iterate 2 go_big_quiet_step (fail)
                refine wpQuiet_nil ?_
                unfold MixedC.HL
                have hva2 : Keyed 34 wr.drew 0 (.slice (some ⟨ga, 0, none⟩) m ca) (kkey F s) m := hva
                have hvb2 : Keyed 33 wr.drew 0 (.slice (some ⟨gb, 0, none⟩) m cb) (kkey F s) m := hvb
                have hB2 := hB.drew
                clear hva hvb hB ra rb
                go_wp2_with fail
                go_roundw
                case rel => exact ⟨i + 1, by omega, by go_num, hva2, hvb2, hB2⟩
                case measure => simp [intOf]; omega
              · have gim : ¬ (i : Int) < (m : Int) := by omega
                clear hva hvb
                go_wp2_with fail
                go_ret
                exact ⟨rfl, hB⟩
end Go.Proofs.Ytbfgnlckmpnchaa

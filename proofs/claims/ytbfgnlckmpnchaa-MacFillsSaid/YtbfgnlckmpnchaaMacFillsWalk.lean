/-
  MacFills: a key, and that with zero bytes behind, have the same sums; a longer key is its sum: the walk of the law (written by wip/tools/mac_fills.py).
-/
import Derived.Test.YtbfgnlckmpnchaaMacAwake
import Derived.Test.YtbfgnlckmpnchaaRSum
namespace Go.Proofs.Ytbfgnlckmpnchaa
open Go.RowKit
set_option linter.unusedVariables false
set_option linter.unusedSimpArgs false
theorem fk_sum {l : List UInt8} (h : 64 < l.length) : fk (tl 32 (shaf l)) = fk l := by
  unfold fk
  rw [if_pos h, if_neg (by rw [tl_length]; omega), tl_length]
theorem fk_zeros (l : List UInt8) (i : Nat) (h : l.length + i ≤ 64) : fk (l ++ List.replicate i 0) = fk l := by
  unfold fk
  rw [if_neg (by rw [List.length_append, List.length_replicate]; omega), if_neg (by omega), List.length_append, List.length_replicate, List.append_assoc, List.replicate_append_replicate]
  congr 2
  omega
theorem msum_congr {k k' : List UInt8} (h : fk k = fk k') (s : List UInt8) : msum k s = msum k' s := by unfold msum; rw [h]
set_option maxRecDepth 100000 in
set_option maxHeartbeats 4000000 in
theorem macfills_walk (a b : ByteArray) (n : UInt8) (w : World) : Calls Try.prog 10 #[.string a, .string b, v8 n] w fun e w' => e = .returned (.bool true) ∧ Below w.heap.size w w' := by
  rw [tx_of a, tx_of b]
  generalize a.toList = l
  generalize b.toList = s
  by_cases hl : 300 < l.length
  · have gl : (300 : Int) < (l.length : Int) := by omega
    go_enter Try.func10, Try.ntmps10
    go_wp2_with fail
    refine (mawake_any _).mono ?_; rintro e w1 ⟨rfl, hb1⟩
    go_wp2_with fail
    refine (mawake_any _).mono ?_; rintro e w2 ⟨rfl, hb2⟩
    go_wp2_with fail
    go_ret
    exact ⟨rfl, hb1.trans (hb2.mono hb1.size)⟩
  · have gl : ¬ (300 : Int) < (l.length : Int) := by omega
    by_cases hs : 300 < s.length
    · have gs : (300 : Int) < (s.length : Int) := by omega
      go_enter Try.func10, Try.ntmps10
      go_wp2_with fail
      refine (mawake_any _).mono ?_; rintro e w1 ⟨rfl, hb1⟩
      go_wp2_with fail
      refine (mawake_any _).mono ?_; rintro e w2 ⟨rfl, hb2⟩
      go_wp2_with fail
      go_ret
      exact ⟨rfl, hb1.trans (hb2.mono hb1.size)⟩
    · have gs : ¬ (300 : Int) < (s.length : Int) := by omega
      by_cases h64 : 64 < l.length
      · have g64 : (64 : Int) < (l.length : Int) := by omega
        have hms := msum_congr (fk_sum h64) s
        obtain ⟨F, hF⟩ : ∃ F, msum l s = F := ⟨_, rfl⟩
        rw [hF] at hms
        have hc1 : ∀ w, Calls Try.prog 28 #[.string (tx l), .string (tx s)] w fun e w' => e = .returned (.agg (b8 32 F)) ∧ Below w.heap.size w w' := fun w => by rw [← hF]; exact msum_any l s (by omega) (by omega) w
        have hc2 : ∀ w, Calls Try.prog 28 #[.string (tx (tl 32 (shaf l))), .string (tx s)] w fun e w' => e = .returned (.agg (b8 32 F)) ∧ Below w.heap.size w w' := fun w => by rw [← hms]; exact msum_any _ s (by rw [tl_length]; omega) (by omega) w
        have e34 : ∀ w', (Op.equalIn 10000 34 (.agg (b8 32 F)) (.agg (b8 32 F))).run Try.prog w' = .ok true w' := fun w' => eql34 w' _ _ true ⟨fun _ _ _ => rfl, fun _ => rfl⟩
        have HC1 := keep hc1
        have HC2 := keep hc2
        clear hc1 hc2 hms hF
        go_enter Try.func10, Try.ntmps10
        go_wp2_with fail
        refine (mawake_any _).mono ?_; rintro e w1 ⟨rfl, hb1⟩
        go_wp2_with fail
        refine (rsum_any l (by omega) _).mono ?_; rintro e w2 ⟨rfl, hb2⟩
        have hB2 := hb1.trans (hb2.mono hb1.size)
        have hX := Blk.made w2 33 #[.int .u8 0, .int .u8 0, .int .u8 0, .int .u8 0, .int .u8 0, .int .u8 0, .int .u8 0, .int .u8 0, .int .u8 0, .int .u8 0, .int .u8 0, .int .u8 0, .int .u8 0, .int .u8 0, .int .u8 0, .int .u8 0, .int .u8 0, .int .u8 0, .int .u8 0, .int .u8 0, .int .u8 0, .int .u8 0, .int .u8 0, .int .u8 0, .int .u8 0, .int .u8 0, .int .u8 0, .int .u8 0, .int .u8 0, .int .u8 0, .int .u8 0, .int .u8 0]
        have hX2 : Blk ((w2.alloc (.cells #[.int .u8 0, .int .u8 0, .int .u8 0, .int .u8 0, .int .u8 0, .int .u8 0, .int .u8 0, .int .u8 0, .int .u8 0, .int .u8 0, .int .u8 0, .int .u8 0, .int .u8 0, .int .u8 0, .int .u8 0, .int .u8 0, .int .u8 0, .int .u8 0, .int .u8 0, .int .u8 0, .int .u8 0, .int .u8 0, .int .u8 0, .int .u8 0, .int .u8 0, .int .u8 0, .int .u8 0, .int .u8 0, .int .u8 0, .int .u8 0, .int .u8 0, .int .u8 0] 33)).setRow w2.heap.size (b8 32 (shaf l))) w2.heap.size 33 (b8 32 (shaf l)) := hX.setRow _
        have hB := below_row (hB2.alloc hB2.size (.cells #[.int .u8 0, .int .u8 0, .int .u8 0, .int .u8 0, .int .u8 0, .int .u8 0, .int .u8 0, .int .u8 0, .int .u8 0, .int .u8 0, .int .u8 0, .int .u8 0, .int .u8 0, .int .u8 0, .int .u8 0, .int .u8 0, .int .u8 0, .int .u8 0, .int .u8 0, .int .u8 0, .int .u8 0, .int .u8 0, .int .u8 0, .int .u8 0, .int .u8 0, .int .u8 0, .int .u8 0, .int .u8 0, .int .u8 0, .int .u8 0, .int .u8 0, .int .u8 0] 33)) hB2.size (b8 32 (shaf l))
        clear hb1 hb2
        go_wp2_with (refine wpList_store_row rfl 33 (.tmp 7) (.tmp 27) rfl w2.heap.size (b8 32 (shaf l)) rfl rfl 33 _ hX (by kernel_rfl) (by unfold b8; rw [arr_size]; rfl) (arr_one _ _ fun i => rfl) ?_)
        simp only [Act.put]
        clear hX hB2
        generalize (w2.alloc (.cells #[.int .u8 0, .int .u8 0, .int .u8 0, .int .u8 0, .int .u8 0, .int .u8 0, .int .u8 0, .int .u8 0, .int .u8 0, .int .u8 0, .int .u8 0, .int .u8 0, .int .u8 0, .int .u8 0, .int .u8 0, .int .u8 0, .int .u8 0, .int .u8 0, .int .u8 0, .int .u8 0, .int .u8 0, .int .u8 0, .int .u8 0, .int .u8 0, .int .u8 0, .int .u8 0, .int .u8 0, .int .u8 0, .int .u8 0, .int .u8 0, .int .u8 0, .int .u8 0] 33)).setRow w2.heap.size (b8 32 (shaf l)) = wr at *
        generalize w2.heap.size = B at *
        have cv : ∀ u, (convert 43 9 (.slice (some ⟨B, 0, none⟩) 32 32)).run Try.prog (mix [] wr u) = .ok (.string (tx (tl 32 (shaf l)))) (mix [] wr u) := fun u => back32 ((mix_keeps [] wr u).blk hX2 (by simp))
        obtain ⟨X, hX⟩ : ∃ X, tl 32 (shaf l) = X := ⟨_, rfl⟩
        rw [hX] at cv HC2
        clear hX hX2
        refine MixedC.wp_region (fun w' => ∃ u, w' = mix [] wr u) [(1, 0), (1, 1), (0, 3), (0, 4), (0, 5), (2, 2), (2, 6), (1, 7), (1, 8)] (by kernel_rfl) (by kernel_rfl) (Mx.drew0 _ _) ?_
        refine MixedC.reads (k := 1) (.inr ⟨rfl, rfl⟩) _ [0, 1] _ (by kernel_rfl) ?_
        simp only [List.filterMap_cons, List.filterMap_nil, List.getElem?_toArray, List.getElem?_cons_zero, List.getElem?_cons_succ]
        show wpQuiet _ _ _ _ [_, _] _
        iterate 2 go_big_quiet_step (fail)
        refine wpQuiet_nil ?_
        refine MixedC.reads (k := 0) (.inl ⟨rfl, rfl⟩) _ [3, 4, 5] _ (by kernel_rfl) ?_
        simp only [List.filterMap_cons, List.filterMap_nil, List.getElem?_toArray, List.getElem?_cons_zero, List.getElem?_cons_succ]
        show wpQuiet _ _ _ _ [_, _, _] _
        iterate 3 go_big_quiet_step (fail)
        refine wpQuiet_nil ?_
        refine MixedC.effect (i := 2) rfl rfl ?_
        intro Q hQ
        have HQ := keep hQ
        clear hQ
        go_wp2_with fail
        refine (HC1.out _).mono ?_
        rintro e w6 ⟨rfl, hb⟩
        have hK2 : Keeps [] wr w6 := (Keeps.refl [] wr).drew.below hb (Nat.le_refl _)
        clear hb
        go_wp2_with fail
        refine HQ.out _ _ (Mx.of hK2) ?_
        clear HQ
        refine MixedC.effect (i := 6) rfl rfl ?_
        intro Q hQ
        have HQ := keep hQ
        clear hQ
        go_wp2_with fail
        refine (HC2.out _).mono ?_
        rintro e w7 ⟨rfl, hb⟩
        have hK6 : Keeps [] wr w7 := hK2.below hb hK2.size
        clear hb
        go_wp2_with fail
        refine HQ.out _ _ (Mx.of hK6) ?_
        clear HQ
        refine MixedC.reads (k := 1) (.inr ⟨rfl, rfl⟩) _ [7, 8] _ (by kernel_rfl) ?_
        simp only [List.filterMap_cons, List.filterMap_nil, List.getElem?_toArray, List.getElem?_cons_zero, List.getElem?_cons_succ]
        show wpQuiet _ _ _ _ [_, _] _
        iterate 2 go_big_quiet_step (fail)
        refine wpQuiet_nil ?_
        unfold MixedC.HL
        have hbel := hB.trans (hK6.toBelow hB.size (by simp))
        go_wp2_with fail
        go_ret
        exact ⟨rfl, hbel⟩
      · have g64 : ¬ (64 : Int) < (l.length : Int) := by omega
        obtain ⟨F, hF⟩ : ∃ F, msum l s = F := ⟨_, rfl⟩
        have hc1 : ∀ w, Calls Try.prog 28 #[.string (tx l), .string (tx s)] w fun e w' => e = .returned (.agg (b8 32 F)) ∧ Below w.heap.size w w' := fun w => by rw [← hF]; exact msum_any l s (by omega) (by omega) w
        have hc2 : ∀ i, l.length + i ≤ 64 → ∀ w, Calls Try.prog 28 #[.string (tx (l ++ List.replicate i 0)), .string (tx s)] w fun e w' => e = .returned (.agg (b8 32 F)) ∧ Below w.heap.size w w' := fun i hi w => by
          rw [← hF, ← msum_congr (fk_zeros l i hi) s]
          exact msum_any _ s (by rw [List.length_append, List.length_replicate]; omega) (by omega) w
        have e34 : ∀ w', (Op.equalIn 10000 34 (.agg (b8 32 F)) (.agg (b8 32 F))).run Try.prog w' = .ok true w' := fun w' => eql34 w' _ _ true ⟨fun _ _ _ => rfl, fun _ => rfl⟩
        have HC1 := keep hc1
        have HC2 := keep hc2
        clear hc1 hc2 hF
        obtain ⟨m, hm⟩ : ∃ m, n.toNat = m := ⟨_, rfl⟩
        have hm256 : m < 256 := by rw [← hm]; exact n.toNat_lt
        go_enter Try.func10, Try.ntmps10
        go_wp2_with fail
        refine (mawake_any _).mono ?_; rintro e w1 ⟨rfl, hb1⟩
        go_wp2_with fail
        go_loopw [8, 9] (fun v z wr => ∃ i : Nat, i ≤ m ∧ l.length + i ≤ 64 ∧ z = .int .i64 i ∧ v = .string (tx (l ++ List.replicate i 0)) ∧ Below w.heap.size w wr) (fun _ z _ => m - (intOf z).toNat)
        case atStart => exact ⟨0, Nat.zero_le _, by omega, rfl, by simp, hb1⟩
        case round =>
          clear hb1
          obtain ⟨i, hi, hli, rfl, rfl, hB⟩ := hrel
          have hAl : (l ++ List.replicate i (0 : UInt8)).length = l.length + i := by simp
          have hnx : l ++ List.replicate i (0 : UInt8) ++ [0] = l ++ List.replicate (i + 1) 0 := by rw [List.append_assoc, ← List.replicate_succ']
          have hc := HC2.out i hli
          obtain ⟨A, hA⟩ : ∃ A, l ++ List.replicate i (0 : UInt8) = A := ⟨_, rfl⟩
          rw [hA] at hAl hnx hc ⊢
          have HNX := keep hnx
          have HC := keep hc
          have hAl1 : A.length ≤ l.length + i := by omega
          have hAl2 : l.length + i ≤ A.length := by omega
          have gcat : A.length + 1 ≤ 9223372036854775807 := by omega
          clear hA hnx hc hAl
          by_cases him : i < m
          · have gim : (i : Int) < (m : Int) := by omega
            by_cases hA64 : A.length < 64
            · have gA64 : (A.length : Int) < 64 := by omega
              go_wp2_with fail
              rw [HNX.out]
              go_roundw
              case rel => exact ⟨i + 1, by omega, by omega, by go_num, rfl, hB⟩
              case measure => simp [intOf]; omega
            · have gA64 : ¬ (A.length : Int) < 64 := by omega
              go_wp2_with fail
              refine (HC.out _).mono ?_; rintro e w2 ⟨rfl, hb2⟩
              have hB2 := hB.trans (hb2.mono hB.size)
              clear hB hb2
              go_wp2_with fail
              refine (HC1.out _).mono ?_; rintro e w3 ⟨rfl, hb3⟩
              have hB3 := hB2.trans (hb3.mono hB2.size)
              go_wp2_with fail
              go_ret
              exact ⟨rfl, hB3⟩
          · have gim : ¬ (i : Int) < (m : Int) := by omega
            go_wp2_with fail
            refine (HC.out _).mono ?_; rintro e w2 ⟨rfl, hb2⟩
            have hB2 := hB.trans (hb2.mono hB.size)
            clear hB hb2
            go_wp2_with fail
            refine (HC1.out _).mono ?_; rintro e w3 ⟨rfl, hb3⟩
            have hB3 := hB2.trans (hb3.mono hB2.size)
            go_wp2_with fail
            go_ret
            exact ⟨rfl, hB3⟩
end Go.Proofs.Ytbfgnlckmpnchaa

/-
  sha: of a block's text the first 64 bytes count alone; '==' of eight words.
-/
import Derived.Test.YtbfgnlckmpnchaaAwake
namespace Go.Proofs.Ytbfgnlckmpnchaa
open Go.RowKit
set_option linter.unusedVariables false
set_option linter.unusedSimpArgs false
theorem eql31 (w : World) (f g : Nat → UInt32) (b : Bool) (hb : b = true ↔ ∀ i, i < 8 → f i = g i) : (Op.equalIn 10000 31 (.agg (w32 8 f)) (.agg (w32 8 g))).run Try.prog w = .ok b w :=
  run_equalIn_ints w 9998 31 27 8 .u32 Try.underlying31 Try.underlying27 (by kernel_rfl) (fun x : UInt32 => (x.toNat : Int)) (fun a b h => UInt32.toNat_inj.1 (by omega)) _ _ f g (fun i hi => arr_get _ hi) (fun i hi => arr_get _ hi) b hb
theorem wl_congr {a b : List UInt8} (h : ∀ i, i < 64 → bt a i = bt b i) : ∀ j, wl a j = wl b j
  | 0 => rfl
  | j + 1 => by
    rw [wl, wl, wl_congr h j]
    unfold wnext
    by_cases h16 : j < 16
    · rw [if_pos h16, if_pos h16]
      unfold word4
      rw [h _ (by omega), h _ (by omega), h _ (by omega), h _ (by omega)]
    · rw [if_neg h16, if_neg h16]
theorem wf_congr {a b : List UInt8} (h : ∀ i, i < 64 → bt a i = bt b i) : wf a = wf b := by
  funext i
  unfold wf
  rw [wl_congr h]
theorem bt_take (l : List UInt8) (n i : Nat) (h : i < n) : bt (l.take n) i = bt l i := by simp [bt, List.getElem?_take_of_lt h]
theorem wf_app (l m : List UInt8) (h : 64 ≤ l.length) : wf (l ++ m) = wf (l.take 64) := wf_congr fun i hi => by rw [bt_app_left (by omega), bt_take l 64 i hi]
theorem block_pair (h : Nat → UInt32) (l m : List UInt8) (hl : 64 ≤ l.length) (hl2 : l.length ≤ 400) (hm : m.length ≤ 400) : ∃ F : Nat → UInt32,
    (∀ w, Calls Try.prog 21 #[.agg (w32 8 h), .string (tx (l ++ m))] w fun e w' => e = .returned (.agg (w32 8 F)) ∧ Below w.heap.size w w') ∧
    (∀ w, Calls Try.prog 21 #[.agg (w32 8 h), .string (tx (l.take 64))] w fun e w' => e = .returned (.agg (w32 8 F)) ∧ Below w.heap.size w w') := by
  refine ⟨mixf h (wf (l ++ m)) kf, fun w => block_any h (l ++ m) (by rw [List.length_append]; omega) (by rw [List.length_append]; omega) w, fun w => ?_⟩
  rw [wf_app l m hl]
  exact block_any h (l.take 64) (by rw [List.length_take]; omega) (by rw [List.length_take]; omega) w
set_option maxRecDepth 100000 in
set_option maxHeartbeats 4000000 in
theorem firstb_walk (h : Nat → UInt32) (s t : ByteArray) (w : World) : Calls Try.prog 9 #[.agg (w32 8 h), .string s, .string t] w fun e w' => e = .returned (.bool true) ∧ Below w.heap.size w w' := by
  rw [tx_of s, tx_of t]
  generalize s.toList = l
  generalize t.toList = m
  have hk0 : Blk (w.alloc (.cells (w32 8 h) 31)) w.heap.size 31 (w32 8 h) := Blk.made w 31 _
  have hb0 := belowA w (.cells (w32 8 h) 31)
  by_cases hl : 400 < l.length
  · have gl : (400 : Int) < (l.length : Int) := by omega
    go_enter Try.func9, Try.ntmps9
    go_wp2_with fail
    refine (awake_any _).mono ?_; rintro e w1 ⟨rfl, hb1⟩
    have hB1 := hb0.trans (hb1.mono (by simp))
    go_wp2_with fail
    refine (awake_any _).mono ?_; rintro e w2 ⟨rfl, hb2⟩
    go_wp2_with fail
    go_ret
    exact ⟨rfl, hB1.trans (hb2.mono hB1.size)⟩
  · have gl : ¬ (400 : Int) < (l.length : Int) := by omega
    by_cases hm : 400 < m.length
    · have gm : (400 : Int) < (m.length : Int) := by omega
      go_enter Try.func9, Try.ntmps9
      go_wp2_with fail
      refine (awake_any _).mono ?_; rintro e w1 ⟨rfl, hb1⟩
      have hB1 := hb0.trans (hb1.mono (by simp))
      go_wp2_with fail
      refine (awake_any _).mono ?_; rintro e w2 ⟨rfl, hb2⟩
      go_wp2_with fail
      go_ret
      exact ⟨rfl, hB1.trans (hb2.mono hB1.size)⟩
    · have gm : ¬ (400 : Int) < (m.length : Int) := by omega
      go_enter Try.func9, Try.ntmps9
      go_wp2_with fail
      refine (awake_any _).mono ?_; rintro e w1 ⟨rfl, hb1⟩
      have hk1 := hk0.kept hb1
      have hB1 := hb0.trans (hb1.mono (by simp))
      clear hk0 hb0 hb1
      by_cases h64 : l.length < 64
      · have g64 : (l.length : Int) < 64 := by omega
        have ea : ∀ w', (Op.equalIn 10000 31 (.agg (w32 8 h)) (.agg (w32 8 h))).run Try.prog w' = .ok true w' := fun w' => eql31 w' h h true ⟨fun _ _ _ => rfl, fun _ => rfl⟩
        go_wp2_with fail
        refine MixedC.wp_region (fun w' => ∃ u, w' = mix [] w1 u) [(1, 0), (1, 1), (0, 3), (2, 2), (1, 4), (1, 5)] (by kernel_rfl) (by kernel_rfl) (Mx.drew0 _ _) ?_
        refine MixedC.read_row (i := 0) rfl rfl 31 (.tmp 3) rfl (w.heap.size) rfl 31 (w32 8 h) _ (hk1.drew) Try.underlying31 rfl (by kernel_rfl) ?_
        simp only [List.getElem_toArray, List.getElem_cons_zero, List.getElem_cons_succ, Act.put, List.setIfInBounds_toArray, List.set_cons_succ, List.set_cons_zero]
        refine MixedC.reads (k := 1) (.inr ⟨rfl, rfl⟩) _ [1] _ (by kernel_rfl) ?_
        simp only [List.filterMap_cons, List.filterMap_nil, List.getElem?_toArray, List.getElem?_cons_zero, List.getElem?_cons_succ]
        show wpQuiet _ _ _ _ [_] _
        iterate 1 go_big_quiet_step (fail)
        refine wpQuiet_nil ?_
        refine MixedC.read_row0 (i := 3) rfl rfl 31 (.tmp 3) rfl (w.heap.size) rfl 31 (w32 8 h) _ (by rintro _ ⟨u, rfl⟩; exact (mix_keeps [] w1 u).blk hk1 (by simp)) Try.underlying31 rfl (by kernel_rfl) ?_
        simp only [List.getElem_toArray, List.getElem_cons_zero, List.getElem_cons_succ, Act.put, List.setIfInBounds_toArray, List.set_cons_succ, List.set_cons_zero]
        refine MixedC.effect (i := 2) rfl rfl ?_
        intro Q hQ
        have HQ := keep hQ
        clear hQ
        go_wp2_with fail
        refine (block_short h l h64 _).mono ?_
        rintro e w2 ⟨rfl, hb⟩
        have hK2 : Keeps [] w1 w2 := (Keeps.refl [] w1).drew.below hb (Nat.le_refl _)
        clear hb
        go_wp2_with fail
        refine HQ.out _ _ (Mx.of hK2) ?_
        clear HQ
        refine MixedC.reads (k := 1) (.inr ⟨rfl, rfl⟩) _ [4, 5] _ (by kernel_rfl) ?_
        simp only [List.filterMap_cons, List.filterMap_nil, List.getElem?_toArray, List.getElem?_cons_zero, List.getElem?_cons_succ]
        show wpQuiet _ _ _ _ [_, _] _
        iterate 2 go_big_quiet_step (fail)
        refine wpQuiet_nil ?_
        unfold MixedC.HL
        have hbel := hB1.trans (hK2.toBelow hB1.size (by simp))
        go_wp2_with fail
        go_ret
        exact ⟨rfl, hbel⟩
      · have g64 : ¬ (l.length : Int) < 64 := by omega
        have hla : 64 ≤ (l ++ m).length := by rw [List.length_append]; omega
        have hlb : (l ++ m).length < 1000000 := by rw [List.length_append]; omega
        have hcat : l.length + m.length ≤ 9223372036854775807 := by omega
        have hl64 : (l.take 64).length = 64 := by rw [List.length_take]; omega
        have g64' : (64 : Int) ≤ (l.length : Int) := by omega
        obtain ⟨F, hc1, hc2⟩ := block_pair h l m (by omega) (by omega) (by omega)
        have ea : ∀ w', (Op.equalIn 10000 31 (.agg (w32 8 F)) (.agg (w32 8 F))).run Try.prog w' = .ok true w' := fun w' => eql31 w' F F true ⟨fun _ _ _ => rfl, fun _ => rfl⟩
        have HC1 := keep hc1
        have HC2 := keep hc2
        clear hc1 hc2
        go_wp2_with fail
        refine MixedC.wp_region (fun w' => ∃ u, w' = mix [] w1 u) [(1, 0), (1, 1), (1, 2), (1, 3), (0, 5), (0, 6), (0, 7), (2, 4), (2, 8), (1, 9), (1, 10)] (by kernel_rfl) (by kernel_rfl) (Mx.drew0 _ _) ?_
        refine MixedC.read_row (i := 0) rfl rfl 31 (.tmp 3) rfl (w.heap.size) rfl 31 (w32 8 h) _ (hk1.drew) Try.underlying31 rfl (by kernel_rfl) ?_
        simp only [List.getElem_toArray, List.getElem_cons_zero, List.getElem_cons_succ, Act.put, List.setIfInBounds_toArray, List.set_cons_succ, List.set_cons_zero]
        refine MixedC.reads (k := 1) (.inr ⟨rfl, rfl⟩) _ [1, 2, 3] _ (by kernel_rfl) ?_
        simp only [List.filterMap_cons, List.filterMap_nil, List.getElem?_toArray, List.getElem?_cons_zero, List.getElem?_cons_succ]
        show wpQuiet _ _ _ _ [_, _, _] _
        iterate 3 go_big_quiet_step (fail)
        refine wpQuiet_nil ?_
        refine MixedC.read_row0 (i := 5) rfl rfl 31 (.tmp 3) rfl (w.heap.size) rfl 31 (w32 8 h) _ (by rintro _ ⟨u, rfl⟩; exact (mix_keeps [] w1 u).blk hk1 (by simp)) Try.underlying31 rfl (by kernel_rfl) ?_
        simp only [List.getElem_toArray, List.getElem_cons_zero, List.getElem_cons_succ, Act.put, List.setIfInBounds_toArray, List.set_cons_succ, List.set_cons_zero]
        refine MixedC.reads (k := 0) (.inl ⟨rfl, rfl⟩) _ [6, 7] _ (by kernel_rfl) ?_
        simp only [List.filterMap_cons, List.filterMap_nil, List.getElem?_toArray, List.getElem?_cons_zero, List.getElem?_cons_succ]
        show wpQuiet _ _ _ _ [_, _] _
        iterate 2 go_big_quiet_step (fail)
        refine wpQuiet_nil ?_
        refine MixedC.effect (i := 4) rfl rfl ?_
        intro Q hQ
        have HQ := keep hQ
        clear hQ
        go_wp2_with fail
        refine (HC1.out _).mono ?_
        rintro e w2 ⟨rfl, hb⟩
        have hK4 : Keeps [] w1 w2 := (Keeps.refl [] w1).drew.below hb (Nat.le_refl _)
        clear hb
        go_wp2_with fail
        refine HQ.out _ _ (Mx.of hK4) ?_
        clear HQ
        refine MixedC.effect (i := 8) rfl rfl ?_
        intro Q hQ
        have HQ := keep hQ
        clear hQ
        go_wp2_with fail
        refine (HC2.out _).mono ?_
        rintro e w3 ⟨rfl, hb⟩
        have hK8 : Keeps [] w1 w3 := hK4.below hb hK4.size
        clear hb
        go_wp2_with fail
        refine HQ.out _ _ (Mx.of hK8) ?_
        clear HQ
        refine MixedC.reads (k := 1) (.inr ⟨rfl, rfl⟩) _ [9, 10] _ (by kernel_rfl) ?_
        simp only [List.filterMap_cons, List.filterMap_nil, List.getElem?_toArray, List.getElem?_cons_zero, List.getElem?_cons_succ]
        show wpQuiet _ _ _ _ [_, _] _
        iterate 2 go_big_quiet_step (fail)
        refine wpQuiet_nil ?_
        unfold MixedC.HL
        have hbel := hB1.trans (hK8.toBelow hB1.size (by simp))
        go_wp2_with fail
        go_ret
        exact ⟨rfl, hbel⟩
end Go.Proofs.Ytbfgnlckmpnchaa

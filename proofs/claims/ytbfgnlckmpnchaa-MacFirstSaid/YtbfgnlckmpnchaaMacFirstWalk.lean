/-
  MacFirst: the first keys are the same, however many are asked for: the walk of the law (written by wip/tools/mac_first.py).
-/
import Derived.Test.YtbfgnlckmpnchaaMacKeys0
import Derived.Test.YtbfgnlckmpnchaaMixedMid
import Derived.Deep.QuietTactic
import Derived.BigQuiet
namespace Go.Proofs.Ytbfgnlckmpnchaa
open Go.RowKit
set_option linter.unusedVariables false
set_option linter.unusedSimpArgs false
set_option maxRecDepth 100000 in
set_option maxHeartbeats 8000000 in
theorem macfirst_walk (root : Nat → UInt8) (s : ByteArray) (n m : UInt8) (w : World) : Calls Try.prog 12 #[.agg (b8 32 root), .string s, v8 n, v8 m] w fun e w' => e = .returned (.bool true) ∧ Below w.heap.size w w' := by
  rw [tx_of s]
  generalize s.toList = l
  have hk0 : Blk (w.alloc (.cells (b8 32 root) 34)) w.heap.size 34 (b8 32 root) := Blk.made w 34 _
  have hb0 := belowA w (.cells (b8 32 root) 34)
  by_cases hl : 300 < l.length
  · have gl : (300 : Int) < (l.length : Int) := by omega
    go_enter Try.func12, Try.ntmps12
    go_wp2_with fail
    refine (mawake_any _).mono ?_; rintro e w1 ⟨rfl, hb1⟩
    have hB1 := hb0.trans (hb1.mono (by simp))
    go_wp2_with fail
    refine (mawake_any _).mono ?_; rintro e w2 ⟨rfl, hb2⟩
    go_wp2_with fail
    go_ret
    exact ⟨rfl, hB1.trans (hb2.mono hB1.size)⟩
  · have gl : ¬ (300 : Int) < (l.length : Int) := by omega
    obtain ⟨p, hp⟩ : ∃ p, n.toNat % 5 = p := ⟨_, rfl⟩
    obtain ⟨q, hq⟩ : ∃ q, m.toNat % 5 = q := ⟨_, rfl⟩
    have hp5 : p < 5 := by omega
    have hq5 : q < 5 := by omega
    have hpi : ((n.toNat : Int) % 5) = (p : Int) := by omega
    have hqi : ((m.toNat : Int) % 5) = (q : Int) := by omega
    clear hp hq
    go_enter Try.func12, Try.ntmps12
    go_wp2_with fail
    refine (mawake_any _).mono ?_; rintro e wr ⟨rfl, hb1⟩
    have hR := hk0.kept hb1
    have hB := hb0.trans (hb1.mono (by simp))
    clear hb1 hk0 hb0
    go_wp2_with fail
    refine MixedC.wp_region (fun w' => ∃ u, w' = mix [] wr u) [(1, 0), (1, 1), (1, 2), (1, 3), (1, 4), (0, 6), (0, 7), (0, 8), (0, 9), (0, 10), (2, 5), (2, 11), (1, 12), (1, 13)] (by kernel_rfl) (by kernel_rfl) (Mx.drew0 _ _) ?_
    refine MixedC.read_row (i := 0) rfl rfl 34 (.tmp 4) rfl (w.heap.size) rfl 34 (b8 32 root) _ (hR.drew) Try.underlying34 rfl (by kernel_rfl) ?_
    simp only [List.getElem_toArray, List.getElem_cons_zero, List.getElem_cons_succ, Act.put, List.setIfInBounds_toArray, List.set_cons_succ, List.set_cons_zero]
    refine MixedC.reads (k := 1) (.inr ⟨rfl, rfl⟩) _ [1, 2, 3, 4] _ (by kernel_rfl) ?_
    simp only [List.filterMap_cons, List.filterMap_nil, List.getElem?_toArray, List.getElem?_cons_zero, List.getElem?_cons_succ]
    show wpQuiet _ _ _ _ [_, _, _, _] _
    iterate 4 go_big_quiet_step (fail)
    refine wpQuiet_nil ?_
    refine MixedC.read_row0 (i := 6) rfl rfl 34 (.tmp 4) rfl (w.heap.size) rfl 34 (b8 32 root) _ (by rintro _ ⟨u, rfl⟩; exact (mix_keeps [] wr u).blk hR (by simp)) Try.underlying34 rfl (by kernel_rfl) ?_
    simp only [List.getElem_toArray, List.getElem_cons_zero, List.getElem_cons_succ, Act.put, List.setIfInBounds_toArray, List.set_cons_succ, List.set_cons_zero]
    refine MixedC.reads (k := 0) (.inl ⟨rfl, rfl⟩) _ [7, 8, 9, 10] _ (by kernel_rfl) ?_
    simp only [List.filterMap_cons, List.filterMap_nil, List.getElem?_toArray, List.getElem?_cons_zero, List.getElem?_cons_succ]
    show wpQuiet _ _ _ _ [_, _, _, _] _
    iterate 4 go_big_quiet_step (fail)
    refine wpQuiet_nil ?_
    refine MixedC.effect (i := 5) rfl rfl ?_
    intro Q hQ
    have HQ := keep hQ
    clear hQ
    go_wp2_with fail
    refine (keys_any root l p (by omega) (by omega) _).mono ?_
    rintro e w6 ⟨va, rfl, hva, hb⟩
    have hK5 : Keeps [] wr w6 := (Keeps.refl [] wr).drew.below hb (Nat.le_refl _)
    obtain ⟨aa, ca, rfl, hca1, hca2⟩ := hva.form
    clear hb
    go_wp2_with fail
    refine HQ.out _ _ (Mx.of hK5) ?_
    clear HQ
    refine MixedC.effect (i := 11) rfl rfl ?_
    intro Q hQ
    have HQ := keep hQ
    clear hQ
    go_wp2_with fail
    refine (keys_any root l q (by omega) (by omega) _).mono ?_
    rintro e w7 ⟨vb, rfl, hvb, hb⟩
    have hK11 : Keeps [] wr w7 := hK5.below hb hK5.size
    obtain ⟨ab, cb, rfl, hcb1, hcb2⟩ := hvb.form
    have hva := hva.below hb
    clear hb
    go_wp2_with fail
    refine HQ.out _ _ (Mx.of hK11) ?_
    clear HQ
    refine MixedC.reads (k := 1) (.inr ⟨rfl, rfl⟩) _ [12, 13] _ (by kernel_rfl) ?_
    simp only [List.filterMap_cons, List.filterMap_nil, List.getElem?_toArray, List.getElem?_cons_zero, List.getElem?_cons_succ]
    show wpQuiet _ _ _ _ [_, _] _
    iterate 2 go_big_quiet_step (fail)
    refine wpQuiet_nil ?_
    unfold MixedC.HL
    have hB2 := hB.trans (hK11.toBelow hB.size (by simp))
    clear hK5 hK11 hR hB
    go_wp2_with fail
    go_loopw [11] (fun z wr => ∃ i : Nat, i ≤ p ∧ z = .int .i64 i ∧ Keyed 34 wr 0 (.slice aa p ca) (kkey root l) p ∧ Keyed 34 wr 0 (.slice ab q cb) (kkey root l) q ∧ Below w.heap.size w wr) (fun z _ => p - (intOf z).toNat)
    case atStart => exact ⟨0, Nat.zero_le _, rfl, hva.mono (Nat.zero_le _), hvb.mono (Nat.zero_le _), hB2⟩
    case round =>
      clear hva hvb hB2
      obtain ⟨i, hi, rfl, hva, hvb, hB⟩ := hrel
      by_cases hip : i < p
      · have gip : (i : Int) < (p : Int) := by omega
        by_cases hiq : i < q
        · have giq : (i : Int) < (q : Int) := by omega
          obtain ⟨ga, rfl, -, hga, ra⟩ := hva.at_ hip
          obtain ⟨gb, rfl, -, hgb, rb⟩ := hvb.at_ hiq
          obtain ⟨f, hf⟩ : ∃ f, kkey root l i = f := ⟨_, rfl⟩
          rw [hf] at ra rb
          clear hf
          have e34 : ∀ w', (Op.equalIn 10000 34 (.agg (b8 32 f)) (.agg (b8 32 f))).run Try.prog w' = .ok true w' := fun w' => eql34 w' _ _ true ⟨fun _ _ _ => rfl, fun _ => rfl⟩
          go_wp2_with fail
          refine MixedC.wp_region (fun w' => ∃ u, w' = mix [] wr u) [(1, 0), (1, 1), (1, 2), (1, 3), (1, 4), (1, 5), (1, 6), (1, 7), (1, 8)] (by kernel_rfl) (by kernel_rfl) (Mx.drew0 _ _) ?_
          refine MixedC.reads (k := 1) (.inr ⟨rfl, rfl⟩) _ [0, 1, 2] _ (by kernel_rfl) ?_
          simp only [List.filterMap_cons, List.filterMap_nil, List.getElem?_toArray, List.getElem?_cons_zero, List.getElem?_cons_succ]
          show wpQuiet _ _ _ _ [_, _, _] _
          iterate 3 go_big_quiet_step (fail)
          refine wpQuiet_nil ?_
          refine MixedC.read_mid (i := 3) rfl (by rfl) 34 (.tmp 46) rfl (ga) (i * 32) rfl (b8 32 (f)) _ (ra) Try.underlying34 rfl (by rw [b8_list_length]; kernel_rfl) ?_
          simp only [List.getElem_toArray, List.getElem_cons_zero, List.getElem_cons_succ, Act.put, List.setIfInBounds_toArray, List.set_cons_succ, List.set_cons_zero]
          refine MixedC.reads (k := 1) (.inr ⟨rfl, rfl⟩) _ [4, 5, 6] _ (by kernel_rfl) ?_
          simp only [List.filterMap_cons, List.filterMap_nil, List.getElem?_toArray, List.getElem?_cons_zero, List.getElem?_cons_succ]
          show wpQuiet _ _ _ _ [_, _, _] _
          iterate 3 go_big_quiet_step (fail)
          refine wpQuiet_nil ?_
          refine MixedC.read_mid (i := 7) rfl (by rfl) 34 (.tmp 50) rfl (gb) (i * 32) rfl (b8 32 (f)) _ (rb) Try.underlying34 rfl (by rw [b8_list_length]; kernel_rfl) ?_
          simp only [List.getElem_toArray, List.getElem_cons_zero, List.getElem_cons_succ, Act.put, List.setIfInBounds_toArray, List.set_cons_succ, List.set_cons_zero]
          refine MixedC.reads (k := 1) (.inr ⟨rfl, rfl⟩) _ [8] _ (by kernel_rfl) ?_
          simp only [List.filterMap_cons, List.filterMap_nil, List.getElem?_toArray, List.getElem?_cons_zero, List.getElem?_cons_succ]
          show wpQuiet _ _ _ _ [_] _
          iterate 1 go_big_quiet_step (fail)
          refine wpQuiet_nil ?_
          unfold MixedC.HL
          have hva2 : Keyed 34 wr.drew 0 (.slice (some ⟨ga, 0, none⟩) p ca) (kkey root l) p := hva
          have hvb2 : Keyed 34 wr.drew 0 (.slice (some ⟨gb, 0, none⟩) q cb) (kkey root l) q := hvb
          have hB2 := hB.drew
          clear hva hvb hB ra rb
          go_wp2_with fail
          go_roundw
          case rel => exact ⟨i + 1, by omega, by go_num, hva2, hvb2, hB2⟩
          case measure => simp [intOf]; omega
        · have giq : ¬ (i : Int) < (q : Int) := by omega
          clear hva hvb
          go_wp2_with fail
          go_ret
          exact ⟨rfl, hB⟩
      · have gip : ¬ (i : Int) < (p : Int) := by omega
        clear hva hvb
        go_wp2_with fail
        go_ret
        exact ⟨rfl, hB⟩
end Go.Proofs.Ytbfgnlckmpnchaa

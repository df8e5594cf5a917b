/-
  MacKeys: each key is the keyed sum of the one ahead, the info, and its count: the walk of the law (written by wip/tools/mac_keysl.py).
-/
import Derived.Test.YtbfgnlckmpnchaaMacKeys0
import Derived.Test.YtbfgnlckmpnchaaMixedMid
import Derived.Deep.QuietTactic
import Derived.BigQuiet
namespace Go.Proofs.Ytbfgnlckmpnchaa
open Go.RowKit
set_option linter.unusedVariables false
set_option linter.unusedSimpArgs false
/-- 'string(x[:])' of an array of 32 bytes in the middle of a block. -/
theorem backMid {w : World} {g o : Nat} {f : Nat → UInt8} (h : w.rangeAt g o (b8 32 f).toList) : (convert 43 9 (.slice (some ⟨g, o, none⟩) 32 32)).run Try.prog w = .ok (.string (tx (tl 32 f))) w := by
  have hc : ∀ (j : Nat) (hj : j < (tl 32 f).length), w.cell? (Addr.add ⟨g, o, none⟩ j) = some (.int .u8 ((tl 32 f)[j].toNat : Int)) := fun j hj => by
    have hj' : j < 32 := by simpa [tl] using hj
    rw [bt_eq hj, bt_tl _ hj', Addr.add_mid]
    exact h j _ (by simp [b8, arr, hj']; rfl)
  have := run_convert_bytes_back (P := Try.prog) w 43 9 5 ⟨g, o, none⟩ 32 (tl 32 f) Try.underlying43 Try.underlying5 Try.underlying9 hc
  rw [tl_length] at this
  exact this
set_option maxRecDepth 100000 in
set_option maxHeartbeats 8000000 in
theorem mackeys_walk (root : Nat → UInt8) (s : ByteArray) (n : UInt8) (w : World) : Calls Try.prog 13 #[.agg (b8 32 root), .string s, v8 n] w fun e w' => e = .returned (.bool true) ∧ Below w.heap.size w w' := by
  rw [tx_of s]
  generalize s.toList = l
  have hk0 : Blk (w.alloc (.cells (b8 32 root) 34)) w.heap.size 34 (b8 32 root) := Blk.made w 34 _
  have hb0 := belowA w (.cells (b8 32 root) 34)
  by_cases hl : 300 < l.length
  · have gl : (300 : Int) < (l.length : Int) := by omega
    go_enter Try.func13, Try.ntmps13
    go_wp2_with fail
    refine (mawake_any _).mono ?_; rintro e w1 ⟨rfl, hb1⟩
    have hB1 := hb0.trans (hb1.mono (by simp))
    go_wp2_with fail
    refine (mawake_any _).mono ?_; rintro e w2 ⟨rfl, hb2⟩
    go_wp2_with fail
    go_ret
    exact ⟨rfl, hB1.trans (hb2.mono hB1.size)⟩
  · have gl : ¬ (300 : Int) < (l.length : Int) := by omega
    obtain ⟨p, hp⟩ : ∃ p, n.toNat % 6 = p := ⟨_, rfl⟩
    have hp5 : p < 6 := by omega
    have hpi : ((n.toNat : Int) % 6) = (p : Int) := by omega
    clear hp
    go_enter Try.func13, Try.ntmps13
    go_wp2_with fail
    refine (mawake_any _).mono ?_; rintro e w1 ⟨rfl, hb1⟩
    have hR := hk0.kept hb1
    have hB := hb0.trans (hb1.mono (by simp))
    clear hb1 hk0 hb0
    go_wp2_with (refine wpList_load_row rfl 34 (.tmp 3) rfl w.heap.size rfl 34 (b8 32 root) (0, 0) _ hR Try.underlying34 rfl (by kernel_rfl) ?_)
    refine (keys_any root l p (by omega) (by omega) _).mono ?_
    rintro e w2 ⟨va, rfl, hva, hb2⟩
    obtain ⟨aa, ca, rfl, hca1, hca2⟩ := hva.form
    have hR2 := hR.kept hb2
    have hB2 := hB.trans (hb2.mono hB.size)
    clear hb2 hR hB
    go_wp2_with fail
    go_loopw [8, 9] (fun v z wr => ∃ i : Nat, i ≤ p ∧ z = .int .i64 i ∧ v = .string (tx (kprev root l i)) ∧ Keyed 34 wr 0 (.slice aa p ca) (kkey root l) p ∧ Blk wr w.heap.size 34 (b8 32 root) ∧ Below w.heap.size w wr) (fun _ z _ => p - (intOf z).toNat)
    case atStart => exact ⟨0, Nat.zero_le _, rfl, rfl, hva.mono (Nat.zero_le _), hR2, hB2⟩
    case round =>
      clear hva hR2 hB2
      obtain ⟨i, hi, rfl, rfl, hva, hR, hB⟩ := hrel
      by_cases hip : i < p
      · have gip : (i : Int) < (p : Int) := by omega
        have gi256 : (i : Int) + 1 < 256 := by omega
        obtain ⟨ga, rfl, -, hga, ra⟩ := hva.at_ hip
        have hms : msum (tl 32 root) (kprev root l i ++ l ++ [UInt8.ofNat (i + 1)]) = kkey root l i := rfl
        have hkp : tl 32 (kkey root l i) = kprev root l (i + 1) := rfl
        have hkl := kprev_length root l i
        obtain ⟨f, hf⟩ : ∃ f, kkey root l i = f := ⟨_, rfl⟩
        rw [hf] at ra hms hkp
        obtain ⟨A, hA⟩ : ∃ A, kprev root l i = A := ⟨_, rfl⟩
        rw [hA] at hms hkl ⊢
        obtain ⟨ai, hai⟩ : ∃ ai, A ++ l = ai := ⟨_, rfl⟩
        have hail : ai.length ≤ 400 := by rw [← hai, List.length_append]; omega
        rw [hai] at hms
        obtain ⟨b, hbb⟩ : ∃ b, UInt8.ofNat (i + 1) = b := ⟨_, rfl⟩
        have hcb : (.int .u8 ((i : Int) + 1) : Value) = v8 b := by
          rw [← hbb]
          unfold v8
          rw [UInt8.toNat_ofNat', Nat.mod_eq_of_lt (by omega)]
          rfl
        rw [hbb] at hms
        obtain ⟨m, hm⟩ : ∃ m, ai ++ [b] = m := ⟨_, rfl⟩
        have hml : m.length ≤ 401 := by rw [← hm, List.length_append]; simp; omega
        rw [hm] at hms
        have hC : ∀ w, Calls Try.prog 28 #[.string (tx (tl 32 root)), .string (tx m)] w fun e w' => e = .returned (.agg (b8 32 f)) ∧ Below w.heap.size w w' := fun w => by
          rw [← hms]
          exact msum_any _ _ (by rw [tl_length]; omega) (by omega) w
        have HC := keep hC
        have HAI := keep hai
        have HM := keep hm
        have HKP := keep hkp
        have HFE := keep hf
        have cv : ∀ u, (convert 43 9 (.slice (some ⟨w.heap.size, 0, none⟩) 32 32)).run Try.prog (mix [] wr u) = .ok (.string (tx (tl 32 root))) (mix [] wr u) := fun u => back32 ((mix_keeps [] wr u).blk hR (by simp))
        have cw : (convert 43 9 (.slice (some ⟨wr.heap.size, 0, none⟩) 1 1)).run Try.prog (wr.alloc (.cells #[.int .u8 ((i : Int) + 1)] 5)).drew = .ok (.string (tx [b])) (wr.alloc (.cells #[.int .u8 ((i : Int) + 1)] 5)).drew := by
          rw [hcb]
          exact back_one (P := Try.prog) wr.drew b 43 9 5 5 Try.underlying43 Try.underlying5 Try.underlying9
        have e34 : ∀ w', (Op.equalIn 10000 34 (.agg (b8 32 f)) (.agg (b8 32 f))).run Try.prog w' = .ok true w' := fun w' => eql34 w' _ _ true ⟨fun _ _ _ => rfl, fun _ => rfl⟩
        have g1 : A.length + l.length ≤ 9223372036854775807 := by omega
        have g2 : ai.length + 1 ≤ 9223372036854775807 := by omega
        clear hC hai hm hms hkp hf hA hbb hcb
        go_wp2_with fail
        refine MixedC.wp_region (fun w' => ∃ u, w' = mix [] wr u) [(0, 0), (0, 1), (0, 2), (0, 3), (0, 4), (0, 5), (0, 6), (0, 7), (0, 8), (1, 9), (1, 10), (1, 11), (2, 12), (1, 13), (1, 14), (2, 15), (1, 16)] (by kernel_rfl) (by kernel_rfl) (Mx.drew0 _ _) ?_
        refine MixedC.reads (k := 0) (.inl ⟨rfl, rfl⟩) _ [0, 1, 2] _ (by kernel_rfl) ?_
        simp only [List.filterMap_cons, List.filterMap_nil, List.getElem?_toArray, List.getElem?_cons_zero, List.getElem?_cons_succ]
        show wpQuiet _ _ _ _ [_, _, _] _
        iterate 3 go_big_quiet_step (fail)
        refine wpQuiet_nil ?_
        refine MixedC.read_mid0 (i := 3) rfl (by rfl) 34 (.tmp 32) rfl (ga) (i * 32) rfl (b8 32 (f)) _ (by rintro _ ⟨u, rfl⟩; exact rangeAt_mix ra hga) Try.underlying34 rfl (by rw [b8_list_length]; kernel_rfl) ?_
        simp only [List.getElem_toArray, List.getElem_cons_zero, List.getElem_cons_succ, Act.put, List.setIfInBounds_toArray, List.set_cons_succ, List.set_cons_zero]
        refine MixedC.reads (k := 0) (.inl ⟨rfl, rfl⟩) _ [4, 5, 6, 7, 8] _ (by kernel_rfl) ?_
        simp only [List.filterMap_cons, List.filterMap_nil, List.getElem?_toArray, List.getElem?_cons_zero, List.getElem?_cons_succ]
        show wpQuiet _ _ _ _ [_, _, _, _, _] _
        iterate 5 go_big_quiet_step (fail)
        refine wpQuiet_nil ?_
        rw [HAI.out]
        refine MixedC.reads (k := 1) (.inr ⟨rfl, rfl⟩) _ [9, 10, 11] _ (by kernel_rfl) ?_
        simp only [List.filterMap_cons, List.filterMap_nil, List.getElem?_toArray, List.getElem?_cons_zero, List.getElem?_cons_succ]
        show wpQuiet _ _ _ _ [_, _, _] _
        iterate 3 go_big_quiet_step (fail)
        refine wpQuiet_nil ?_
        refine MixedC.effect (i := 12) rfl rfl ?_
        intro Q hQ
        have HQ := keep hQ
        clear hQ
        go_wp2_with fail
        refine HQ.out _ _ (Mx.of ((Keeps.refl [] wr).drew.alloc _)) ?_
        clear HQ
        refine MixedC.reads (k := 1) (.inr ⟨rfl, rfl⟩) _ [13, 14] _ (by kernel_rfl) ?_
        simp only [List.filterMap_cons, List.filterMap_nil, List.getElem?_toArray, List.getElem?_cons_zero, List.getElem?_cons_succ]
        show wpQuiet _ _ _ _ [_, _] _
        iterate 2 go_big_quiet_step (fail)
        refine wpQuiet_nil ?_
        rw [HM.out]
        refine MixedC.effect (i := 15) rfl rfl ?_
        intro Q hQ
        have HQ := keep hQ
        clear hQ
        go_wp2_with fail
        refine (HC.out _).mono ?_
        rintro e w7 ⟨rfl, hb⟩
        have hK15 : Keeps [] wr w7 := (((Keeps.refl [] wr).drew.alloc _).below hb (by simp))
        clear hb
        go_wp2_with fail
        refine HQ.out _ _ (Mx.of hK15) ?_
        clear HQ
        refine MixedC.reads (k := 1) (.inr ⟨rfl, rfl⟩) _ [16] _ (by kernel_rfl) ?_
        simp only [List.filterMap_cons, List.filterMap_nil, List.getElem?_toArray, List.getElem?_cons_zero, List.getElem?_cons_succ]
        show wpQuiet _ _ _ _ [_] _
        iterate 1 go_big_quiet_step (fail)
        refine wpQuiet_nil ?_
        unfold MixedC.HL
        have hva2 := hva.keeps hK15 (by simp)
        have hR2 := hK15.blk hR (by simp)
        have hB2 := hB.trans (hK15.toBelow hB.size (by simp))
        obtain ⟨ga', hga', -, -, ra2⟩ := hva2.at_ hip
        injection hga' with hga'
        injection hga' with hga'
        subst hga'
        clear hva hR hB hK15 cv cw e34 ra
        rw [HFE.out] at ra2
        have hbm := backMid ra2
        go_wp2_with fail
        go_roundw
        case rel => exact ⟨i + 1, by omega, by go_num, congrArg (fun z => Value.string (tx z)) HKP.out, hva2, hR2, hB2⟩
        case measure => simp [intOf]; omega
      · have gip : ¬ (i : Int) < (p : Int) := by omega
        clear hva hR
        go_wp2_with fail
        go_ret
        exact ⟨rfl, hB⟩
end Go.Proofs.Ytbfgnlckmpnchaa

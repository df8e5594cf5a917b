/-
  PolyRest: the rest of any number is the document's, and its own rest: the walk of the law (written by wip/tools/rest04w.py).
-/
import Derived.Test.YtpjgdocgenpbbaaRefSumWalk
import Derived.Test.YtpjgdocgenpbbaaMixedC
import Derived.Deep.QuietTactic
import Derived.BigQuiet
namespace Go.Proofs.Ytpjgdocgenpbbaa
open Go.RowKit
set_option linter.unusedVariables false
set_option linter.unusedSimpArgs false
theorem below_many {B : Nat} {w w' : World} (h : Below B w w') (n : Nat) : Below B w (w'.drewN n) := ⟨h.os, h.tape, h.output, h.size, h.block⟩
theorem dg_of_val {a b : List Nat} (ha : Dig a) (hb : Dig b) (h : leI a = leI b) (i : Nat) : dg a i = dg b i := by
  rw [← dg_div ha, ← dg_div hb, h]
set_option maxRecDepth 100000 in
set_option maxHeartbeats 4000000 in
theorem rest_walk (a b c : UInt64) (w : World) : Calls Try.prog 4 #[.agg (n3 a b c)] w fun e w' => e = .returned (.bool true) ∧ Below w.heap.size w w' := by
  have hk0 : Blk (w.alloc (.cells (n3 a b c) 30)) w.heap.size 30 (n3 a b c) := Blk.made w 30 _
  have hb0 := belowA w (.cells (n3 a b c) 30)
  go_enter Try.func4, Try.ntmps4
  unfold n3
  go_wp2_with fail
  refine (awake_any _).mono ?_
  rintro e w1 ⟨rfl, hb1⟩
  have hk1 := hk0.kept hb1
  have hB1 := hb0.trans (hb1.mono (by simp))
  clear hk0 hb0 hb1
  have hs1 := hk1.lt
  go_wp2_with (refine wpList_load_row rfl 30 (.tmp 1) rfl w.heap.size rfl 30 (n3 a b c) (0, 0) _ hk1 Try.underlying30 rfl (by kernel_rfl) ?_)
  refine (rest_any a b c _).mono ?_
  rintro e w2 ⟨x, y, z, rfl, hv, hb2⟩
  have hk2 := hk1.kept hb2
  have hB2 := hB1.trans (hb2.mono hB1.size)
  have hs2 := hk2.lt
  clear hk1 hB1 hb2
  have hM : ∀ cs : Array Value, Blk ((w2.alloc (.cells cs 30)).setRow w2.heap.size (n3 x y z)) w2.heap.size 30 (n3 x y z) := fun cs => (Blk.made w2 30 cs).setRow _
  have hK : ∀ cs : Array Value, Blk ((w2.alloc (.cells cs 30)).setRow w2.heap.size (n3 x y z)) w.heap.size 30 (n3 a b c) := fun cs => (hk2.alloc _).otherRow (by omega) _
  have hB : ∀ cs : Array Value, Below w.heap.size w ((w2.alloc (.cells cs 30)).setRow w2.heap.size (n3 x y z)) := fun cs => below_row (hB2.alloc hB2.size _) hB2.size _
  have HV := keep hv
  clear hv
  go_wp2_with (first
    | (refine wpList_store_row rfl 30 (.tmp 3) (.tmp 10) rfl w2.heap.size (n3 x y z) rfl rfl 30 _ (Blk.made w2 30 _) (by kernel_rfl) (by rfl) (n3_one _ _ _) ?_)
    | (refine wpList_load_row rfl 30 (.tmp 1) rfl w.heap.size rfl 30 (n3 a b c) (0, 0) _ (hK _) Try.underlying30 rfl (by kernel_rfl) ?_))
  generalize hcz : (#[.int .u64 0, .int .u64 0, .int .u64 0] : Array Value) = cz
  have hM := hM cz
  have hK := hK cz
  have hB := hB cz
  clear hcz hk2 hB2
  generalize hZ : w2.heap.size = Z at *
  generalize (w2.alloc (.cells cz 30)).setRow Z (n3 x y z) = w3 at *
  clear hZ
  refine (bytes_any a b c _).mono ?_
  rintro e w4 ⟨v4, rfl, hO4, hb4⟩
  have hN4 : Nums w4 v4 (bd (tl 24 (byf a b c))) := hO4.mono (Nat.zero_le _)
  obtain ⟨a4, c4, rfl, -, -⟩ := hN4.formN (bd_tl_length 24 _)
  have hM4 := hM.kept hb4
  have hB4 := hB.trans (hb4.mono hB.size)
  clear hO4 hb4 hM hK hB
  go_wp2_with fail
  have h32 : leI (bd (tl 24 (byf a b c))) < 256 ^ 32 := by
    rw [leI_byf]
    exact Nat.lt_of_lt_of_le (V3_lt a b c) (by decide)
  refine (rrest_any _ _ _ _ w4 hN4 (bd_tl_length 24 _) (bd_dig _) (by omega) h32).mono ?_
  rintro e w5 ⟨v5, ly, rfl, hO5, hd5, hv5, hl5, hb5⟩
  rw [leI_byf] at hv5
  have hN5 : Nums w5 v5 ly := hO5.mono (Nat.zero_le _)
  obtain ⟨a5, c5, rfl, -, -⟩ := hN5.formN hl5
  have hM5 := hM4.kept hb5
  have hB5 := hB4.trans (hb5.mono hB4.size)
  have HV5 := keep hv5
  clear hO5 hb5 hM4 hB4 hN4 hv5 h32
  go_wp2_with (refine wpList_load_row rfl 30 (.tmp 3) rfl Z rfl 30 (n3 x y z) (0, 0) _ hM5 Try.underlying30 rfl (by kernel_rfl) ?_)
  refine (bytes_any x y z _).mono ?_
  rintro e w6 ⟨v6, rfl, hO6, hb6⟩
  have hN6 : Nums w6 v6 (bd (tl 24 (byf x y z))) := hO6.mono (Nat.zero_le _)
  obtain ⟨a6, c6, rfl, -, -⟩ := hN6.formN (bd_tl_length 24 _)
  have hN5' : Nums w6 (.slice a5 17 c5) ly := Own.below hN5 hb6
  have hM6 := hM5.kept hb6
  have hB6 := hB5.trans (hb6.mono hB5.size)
  have hdg : ∀ i, dg (bd (tl 24 (byf x y z))) i = dg ly i := fun i => dg_of_val (bd_dig _) hd5 (by rw [leI_byf, HV.out, HV5.out]) i
  have HDG := keep hdg
  have hl24 : (bd (tl 24 (byf x y z))).length = 24 := bd_tl_length 24 _
  have HL24 := keep hl24
  have hdz : Dig (bd (tl 24 (byf x y z))) := bd_dig _
  generalize bd (tl 24 (byf x y z)) = lz at *
  clear hO6 hb6 hM5 hB5 hN5 hdg hl24
  have HL5 := keep hl5
  clear hl5
  go_wp2_with fail
  go_loopw [6] (fun t wr => ∃ i : Nat, i ≤ 24 ∧ t = .int .i64 i ∧ Blk wr Z 30 (n3 x y z) ∧ Nums wr (.slice a6 24 c6) lz ∧ Nums wr (.slice a5 17 c5) ly ∧ Below w.heap.size w wr) (fun t _ => 24 - (intOf t).toNat)
  case atStart => exact ⟨0, Nat.zero_le _, rfl, hM6, hN6, hN5', hB6⟩
  case round =>
    obtain ⟨i, hi, rfl, hM, hN, hY, hB⟩ := hrel
    clear hM6 hN6 hN5' hB6
    have HB := keep hB
    clear hB
    by_cases h24 : i < 24
    · have g24 : (i : Int) < 24 := by omega
      obtain ⟨gz, oz, rfl, hgz, cz1⟩ := hN.at_ (i := i) (by rw [HL24.out]; exact h24)
      unfold nv at cz1
      by_cases h17 : i < 17
      · have g17 : (i : Int) < 17 := by omega
        obtain ⟨gy, oy, rfl, hgy, cy1⟩ := hY.at_ (i := i) (by rw [HL5.out]; exact h17)
        unfold nv at cy1
        rw [← HDG.out i] at cy1
        have hd17 : decide ((17 : Int) ≤ (i : Int)) = false := by simp; omega
        go_wp2_with fail
        go_quiet (fail)
        go_wp2_with fail
        go_roundw
        case rel => exact ⟨i + 1, by omega, by go_num, hM, hN, hY, below_many HB.out _⟩
        case measure => simp [intOf]; omega
      · have g17 : ¬ (i : Int) < 17 := by omega
        have g17' : decide ((i : Int) < 17) = false := by simp; omega
        have g17'' : (17 : Int) ≤ (i : Int) := by omega
        have hz0 : dg lz i = 0 := by rw [HDG.out i, dg_none (by rw [HL5.out]; omega)]
        rw [hz0] at cz1
        clear hz0
        go_wp2_with fail
        go_quiet (fail)
        go_wp2_with fail
        go_roundw
        case rel => exact ⟨i + 1, by omega, by go_num, hM, hN, hY, below_many HB.out _⟩
        case measure => simp [intOf]; omega
    · have g24 : ¬ (i : Int) < 24 := by omega
      clear hN hY
      obtain ⟨wo, rfl⟩ : ∃ wo : World, wo = wr := ⟨_, rfl⟩
      have hx : V3 x y z < pr := by rw [HV.out]; exact Nat.mod_lt _ (by simp [pr])
      have ea : ∀ w', (Op.equalIn 10000 30 (.agg (n3 x y z)) (.agg (n3 x y z))).run Try.prog w' = .ok true w' := fun w' => eql30 w' x y z x y z true ⟨fun _ => ⟨rfl, rfl, rfl⟩, fun _ => rfl⟩
      have HX := keep hx
      clear hx
      go_wp2_with fail
      refine MixedC.wp_region (fun w' => ∃ u, w' = mix [] wo u) [(1, 0), (0, 2), (2, 1), (1, 3), (1, 4)] (by kernel_rfl) (by kernel_rfl) (Mx.drew0 _ _) ?_
      refine MixedC.read_row (i := 0) rfl rfl 30 (.tmp 3) rfl (Z) rfl 30 (n3 x y z) _ (hM.drew) Try.underlying30 rfl (by kernel_rfl) ?_
      simp only [List.getElem_toArray, List.getElem_cons_zero, List.getElem_cons_succ, Act.put, List.setIfInBounds_toArray, List.set_cons_succ, List.set_cons_zero]
      refine MixedC.read_row0 (i := 2) rfl rfl 30 (.tmp 3) rfl (Z) rfl 30 (n3 x y z) _ (by rintro _ ⟨u, rfl⟩; exact (mix_keeps [] wo u).blk hM (by simp)) Try.underlying30 rfl (by kernel_rfl) ?_
      simp only [List.getElem_toArray, List.getElem_cons_zero, List.getElem_cons_succ, Act.put, List.setIfInBounds_toArray, List.set_cons_succ, List.set_cons_zero]
      refine MixedC.effect (i := 1) rfl rfl ?_
      intro Q hQ
      go_wp2_with fail
      refine (rest_any x y z _).mono ?_
      rintro e w7 ⟨x', y', z', rfl, hv7, hb⟩
      rw [Nat.mod_eq_of_lt HX.out] at hv7
      obtain ⟨rfl, rfl, rfl⟩ := V3_inj hv7
      have hK1 : Keeps [] wo w7 := (Keeps.refl [] wo).drew.below hb (Nat.le_refl _)
      clear hb hv7
      go_wp2_with fail
      refine hQ _ _ (Mx.of hK1) ?_
      clear hQ
      refine MixedC.reads (k := 1) (.inr ⟨rfl, rfl⟩) _ [3, 4] _ (by kernel_rfl) ?_
      simp only [List.filterMap_cons, List.filterMap_nil, List.getElem?_toArray, List.getElem?_cons_zero, List.getElem?_cons_succ]
      show wpQuiet _ _ _ _ [_, _] _
      iterate 2 go_big_quiet_step (fail)
      refine wpQuiet_nil ?_
      unfold MixedC.HL
      have hbel := HB.out.trans (hK1.toBelow HB.out.size (by simp))
      go_wp2_with fail
      go_ret
      exact ⟨rfl, hbel⟩
end Go.Proofs.Ytpjgdocgenpbbaa

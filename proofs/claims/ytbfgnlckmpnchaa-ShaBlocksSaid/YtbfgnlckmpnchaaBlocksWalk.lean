/-
  ShaBlocks: a sum is made block by block: the walk of the law (written by wip/tools/sha_blocks.py).
-/
import Derived.Test.YtbfgnlckmpnchaaFirstBWalk
import Derived.Test.YtbfgnlckmpnchaaPrimes
import Derived.Deep.QuietTactic
import Derived.BigQuiet
namespace Go.Proofs.Ytbfgnlckmpnchaa
open Go.RowKit
set_option linter.unusedVariables false
set_option linter.unusedSimpArgs false
theorem wf_drop (t : List UInt8) (j : Nat) : wf (t.drop (64 * j)) = wf (blk t j) := wf_congr fun i hi => by
  unfold blk
  rw [bt_take _ 64 i hi]
structure SB (N V : Nat) (w wr : World) (h v : Nat → UInt32) : Prop where
  hh : Blk wr N 31 (w32 8 h)
  hv : Blk wr V 31 (w32 8 v)
  bel : Below N w wr
  lt : N < V
section
variable {N V i : Nat} {w wr w' : World} {h v u : Nat → UInt32}
theorem SB.below (s : SB N V w wr h v) (hb : Below wr.heap.size wr w') : SB N V w w' h v := by
  obtain ⟨a, b, c, d⟩ := s
  exact ⟨a.kept hb, b.kept hb, c.trans (hb.mono (by have := b.lt; omega)), d⟩
theorem SB.store (s : SB N V w wr h v) (u : Nat → UInt32) : SB N V w (wr.setRow V (w32 8 u)) h u := by
  obtain ⟨a, b, c, d⟩ := s
  exact ⟨a.otherRow (by omega) _, b.setRow _, below_row c (by omega) _, d⟩
theorem SB.keeps (s : SB N V w wr h v) (hk : Keeps [] wr w') : SB N V w w' h v := s.below (hk.toBelow (Nat.le_refl _) (by simp))
theorem SB.many (s : SB N V w wr h v) (n : Nat) : SB N V w (wr.drewN n) h v := ⟨s.hh, s.hv, ⟨s.bel.os, s.bel.tape, s.bel.output, s.bel.size, s.bel.block⟩, s.lt⟩
theorem SB.cell (s : SB N V w wr h (upw u i)) : SB N V w (wr.setCell ⟨V, i, none⟩ (v32 (u i))) h (upw u (i + 1)) := by
  obtain ⟨a, b, c, d⟩ := s
  have b2 := b.set i (v32 (u i))
  rw [upw_set] at b2
  exact ⟨a.other (by simp; omega) _, b2, c.setCell (by simp; omega) _, d⟩
end
set_option maxRecDepth 100000 in
set_option maxHeartbeats 8000000 in
theorem blocks_walk (s : ByteArray) (h : Nat → UInt32) (w : World) : Calls Try.prog 7 #[.string s, .agg (w32 8 h)] w fun e w' => e = .returned (.bool true) ∧ Below w.heap.size w w' := by
  rw [tx_of s]
  generalize s.toList = l
  have hk0 : Blk (w.alloc (.cells (w32 8 h) 31)) w.heap.size 31 (w32 8 h) := Blk.made w 31 _
  have hb0 := belowA w (.cells (w32 8 h) 31)
  by_cases hl : 400 < l.length
  · have gl : (400 : Int) < (l.length : Int) := by omega
    go_enter Try.func7, Try.ntmps7
    go_wp2_with fail
    refine (awake_any _).mono ?_; rintro e w1 ⟨rfl, hb1⟩
    have hB1 := hb0.trans (hb1.mono (by simp))
    go_wp2_with fail
    refine (awake_any _).mono ?_; rintro e w2 ⟨rfl, hb2⟩
    go_wp2_with fail
    go_ret
    exact ⟨rfl, hB1.trans (hb2.mono hB1.size)⟩
  · have gl : ¬ (400 : Int) < (l.length : Int) := by omega
    have hz : w32 8 (upw hf 0) = #[.int .u32 0, .int .u32 0, .int .u32 0, .int .u32 0, .int .u32 0, .int .u32 0, .int .u32 0, .int .u32 0] := by
      unfold w32
      rw [show (fun i => v32 (upw hf 0 i)) = fun _ => v32 0 from by funext i; simp [upw]]
      rfl
    go_enter Try.func7, Try.ntmps7
    go_wp2_with fail
    refine (awake_any _).mono ?_; rintro e w1 ⟨rfl, hb1⟩
    have hk1 := hk0.kept hb1
    have hB1 := hb0.trans (hb1.mono (by simp))
    clear hb1 hk0 hb0
    go_wp2_with fail
    refine (fill_any l (by omega) _).mono ?_
    rintro e w2 ⟨rfl, hb2⟩
    have hk2 := hk1.kept hb2
    have hB2 := hB1.trans (hb2.mono hB1.size)
    clear hb2 hk1 hB1
    have ht64 := fillf_64 l
    have htl : (fillf l).length < 1000000 := by rw [fillf_length]; unfold zc; omega
    have hsh : shaf l = by8 (hs (fillf l) ((fillf l).length / 64)) := rfl
    have HSH := keep hsh
    clear hsh
    generalize fillf l = t at *
    have hS : SB w.heap.size w2.heap.size w (w2.alloc (.cells (w32 8 (upw hf 0)) 31)) h (upw hf 0) := ⟨hk2.alloc _, Blk.made w2 31 _, hB2.alloc hB2.size _, hk2.lt⟩
    clear hk2 hB2
    go_wp2_with fail
    rw [← hz]
    clear hz
    generalize w2.alloc (.cells (w32 8 (upw hf 0)) 31) = w3 at *
    generalize w2.heap.size = V at *
    go_loopw [7] (fun z wr => ∃ i : Nat, i ≤ 8 ∧ z = .int .i64 i ∧ SB w.heap.size V w wr h (upw hf i)) (fun z _ => 8 - (intOf z).toNat)
    case atStart => exact ⟨0, Nat.zero_le _, rfl, hS⟩
    case round =>
      clear hS
      obtain ⟨i, hi, rfl, hS⟩ := hrel
      by_cases hin : i < 8
      · have gin : (i : Int) < 8 := by omega
        go_wp2_with fail
        refine Calls.mono (show Calls Try.prog 18 #[.int .i64 8] _ _ from rprimes_any 8 (by omega) _) ?_
        rintro e w4 ⟨v4, rfl, hO, hb4⟩
        have hNm : Nums w4 v4 (primes 8) := hO.mono (Nat.zero_le _)
        obtain ⟨a, c, rfl, hc1, hc2⟩ := hNm.formN (primes_length (n := 8) (by omega))
        have hS4 := hS.below hb4
        have hil : i < (primes 8).length := by rw [primes_length (by omega)]; exact hin
        obtain ⟨g, off, rfl, hg, hcl⟩ := hNm.at_ hil
        unfold nv at hcl
        have hq : dg (primes 8) i ≤ 1000 := by
          rw [← dg_eq hil]
          have hm := List.getElem_mem hil
          have := (prs_mem (List.mem_of_mem_take hm)).1
          omega
        have hfi : hf i = rootf (dg (primes 8) i) 2 := rfl
        clear hO hb4 hS hNm hil
        generalize dg (primes 8) i = q at *
        go_wp2_with fail
        refine Calls.mono (show Calls Try.prog 19 #[.int .i64 (q : Int), .int .i64 2] _ _ from root_any q 2 hq (by omega) _) ?_
        rintro e w5 ⟨rfl, hb5⟩
        rw [← hfi]
        have hS5 := hS4.below hb5
        have c2 := hS5.hv.at_ (arr_get (fun j => v32 (upw hf i j)) hin)
        have f2 := hS5.hv.free i
        have hS6 := hS5.cell
        clear hb5 hS4 hS5 hcl hfi
        go_wp2_with fail
        go_roundw
        case rel => exact ⟨i + 1, by omega, by go_num, hS6⟩
        case measure => simp [intOf]; omega
      · have gin : ¬ (i : Int) < 8 := by omega
        have hS0 : SB w.heap.size V w wr h (hs t 0) := by
          obtain ⟨a, b, c, d⟩ := hS
          obtain rfl : i = 8 := by omega
          rw [upw_done] at b
          exact ⟨a, b, c, d⟩
        clear hS
        go_wp2_with fail
        obtain ⟨wo, rfl⟩ : ∃ wo : World, wo = wr := ⟨_, rfl⟩
        go_loopw [8] (fun z wr => ∃ j : Nat, 64 * j ≤ t.length ∧ z = .int .i64 ((64 * j : Nat) : Int) ∧ SB w.heap.size V w wr h (hs t j)) (fun z _ => t.length - (intOf z).toNat)
        case atStart => exact ⟨0, Nat.zero_le _, rfl, hS0⟩
        case round =>
          clear hS0
          obtain ⟨j, hj, rfl, hS⟩ := hrel
          by_cases hjt : 64 * j + 64 ≤ t.length
          · have hXl : (t.drop (64 * j)).length = t.length - 64 * j := List.length_drop
            have hXX : (t.drop (64 * j)).take (t.length - 64 * j) = t.drop (64 * j) := List.take_of_length_le (by rw [hXl]; exact Nat.le_refl _)
            have hwd := wf_drop t j
            have hnx : mixf (hs t j) (wf (t.drop (64 * j))) kf = hs t (j + 1) := by rw [hwd]; rfl
            obtain ⟨X, hX⟩ : ∃ X, t.drop (64 * j) = X := ⟨_, rfl⟩
            rw [hX] at hXl hnx
            have hXX := hXX.trans hX
            have gX : 64 ≤ X.length := by omega
            have gX2 : X.length < 1000000 := by omega
            obtain ⟨q, hq⟩ : ∃ q, 64 * j = q := ⟨_, rfl⟩
            rw [hq] at hj hjt hXX ⊢
            have HX := keep hXX
            have gq : (q : Int) + 64 ≤ (t.length : Int) := by omega
            have gq2 : (q : Int) ≤ (t.length : Int) := by omega
            obtain ⟨v, hv⟩ : ∃ v, hs t j = v := ⟨_, rfl⟩
            rw [hv] at hnx hS
            obtain ⟨v2, hv2⟩ : ∃ v2, mixf v (wf X) kf = v2 := ⟨_, rfl⟩
            have hc : ∀ w, Calls Try.prog 21 #[.agg (w32 8 v), .string (tx X)] w fun e w' => e = .returned (.agg (w32 8 v2)) ∧ Below w.heap.size w w' := fun w => by rw [← hv2]; exact block_any v X gX gX2 w
            have HC := keep hc
            rw [hv2] at hnx
            have HV2 := keep hnx
            clear hX hXX hwd hXl hc hnx hv hv2
            go_wp2_with fail
            refine MixedC.wp_region (fun w' => ∃ u, w' = mix [] wr u) [(1, 0), (1, 1), (1, 2), (1, 3), (2, 4), (3, 5)] (by kernel_rfl) (by kernel_rfl) (Mx.drew0 _ _) ?_
            refine MixedC.read_row (i := 0) rfl rfl 31 (.tmp 6) rfl (V) rfl 31 (w32 8 v) _ (hS.hv.drew) Try.underlying31 rfl (by kernel_rfl) ?_
            simp only [List.getElem_toArray, List.getElem_cons_zero, List.getElem_cons_succ, Act.put, List.setIfInBounds_toArray, List.set_cons_succ, List.set_cons_zero]
            refine MixedC.reads (k := 1) (.inr ⟨rfl, rfl⟩) _ [1, 2, 3] _ (by kernel_rfl) ?_
            simp only [List.filterMap_cons, List.filterMap_nil, List.getElem?_toArray, List.getElem?_cons_zero, List.getElem?_cons_succ]
            show wpQuiet _ _ _ _ [_, _, _] _
            iterate 3 go_big_quiet_step (fail)
            refine wpQuiet_nil ?_
            rw [HX.out]
            refine MixedC.effect (i := 4) rfl rfl ?_
            intro Q hQ
            have HQ := keep hQ
            clear hQ
            go_wp2_with fail
            refine (HC.out _).mono ?_
            rintro e w6 ⟨rfl, hb⟩
            have hK4 : Keeps [] wr w6 := (Keeps.refl [] wr).drew.below hb (Nat.le_refl _)
            clear hb
            go_wp2_with fail
            refine HQ.out _ _ (Mx.of hK4) ?_
            clear HQ
            have hS1 := hS.keeps hK4
            have h1 := hS1.hv
            have hS2 := hS1.store v2
            refine MixedC.effect_last (i := 5) rfl rfl ?_
            intro Q hQ
            have HQ := keep hQ
            clear hQ
            go_wp2_with (refine wpList_store_row rfl 31 (.tmp 6) (.tmp 43) rfl V (w32 8 v2) rfl rfl 31 _ h1 (by kernel_rfl) (by unfold w32; rw [arr_size, arr_size]) (arr_one _ _ fun i => rfl) ?_)
            refine HQ.out _ _ ?_
            unfold MixedC.HL
            simp only [Act.put, List.getElem_toArray, List.getElem_cons_zero, List.getElem_cons_succ]
            clear HQ h1 hS1
            generalize w6.setRow V (w32 8 v2) = w7 at *
            clear hK4 hS
            go_wp2_with fail
            go_roundw
            case rel => exact ⟨j + 1, by omega, congrArg (Value.int .i64) (by omega), by rw [← HV2.out]; exact hS2⟩
            case measure => simp [intOf]; omega
          · have hjt' : 64 * j = t.length := by omega
            have hq : t.length / 64 = j := by omega
            have hsh := HSH.out
            rw [hq] at hsh
            have gjt : ¬ ((64 * j : Nat) : Int) + 64 ≤ (t.length : Int) := by omega
            obtain ⟨q, hq⟩ : ∃ q, 64 * j = q := ⟨_, rfl⟩
            rw [hq] at gjt ⊢
            have hql : q < 1000000 := by omega
            obtain ⟨v, hv⟩ : ∃ v, hs t j = v := ⟨_, rfl⟩
            rw [hv] at hS hsh
            have HSH2 := keep hsh
            clear hsh hv hq hjt' hjt
            go_wp2_with fail
            refine (sha_any l (by omega) _).mono ?_
            rintro e w5 ⟨rfl, hb5⟩
            have hS5 := (hS.below hb5).below (belowA w5 (.cells #[.int .u8 0, .int .u8 0, .int .u8 0, .int .u8 0, .int .u8 0, .int .u8 0, .int .u8 0, .int .u8 0, .int .u8 0, .int .u8 0, .int .u8 0, .int .u8 0, .int .u8 0, .int .u8 0, .int .u8 0, .int .u8 0, .int .u8 0, .int .u8 0, .int .u8 0, .int .u8 0, .int .u8 0, .int .u8 0, .int .u8 0, .int .u8 0, .int .u8 0, .int .u8 0, .int .u8 0, .int .u8 0, .int .u8 0, .int .u8 0, .int .u8 0, .int .u8 0] 34))
            have hX := Blk.made w5 34 #[.int .u8 0, .int .u8 0, .int .u8 0, .int .u8 0, .int .u8 0, .int .u8 0, .int .u8 0, .int .u8 0, .int .u8 0, .int .u8 0, .int .u8 0, .int .u8 0, .int .u8 0, .int .u8 0, .int .u8 0, .int .u8 0, .int .u8 0, .int .u8 0, .int .u8 0, .int .u8 0, .int .u8 0, .int .u8 0, .int .u8 0, .int .u8 0, .int .u8 0, .int .u8 0, .int .u8 0, .int .u8 0, .int .u8 0, .int .u8 0, .int .u8 0, .int .u8 0]
            have hVX : V < w5.heap.size := (hS.below hb5).hv.lt
            clear hb5 hS
            go_wp2_with (refine wpList_store_row rfl 34 (.tmp 9) (.tmp 45) rfl w5.heap.size (b8 32 (shaf l)) rfl rfl 34 _ hX (by kernel_rfl) (by unfold b8; rw [arr_size]; rfl) (arr_one _ _ fun i => rfl) ?_)
            have hX6 := hX.setRow (b8 32 (shaf l))
            have hS6 : SB w.heap.size V w ((w5.alloc (.cells #[.int .u8 0, .int .u8 0, .int .u8 0, .int .u8 0, .int .u8 0, .int .u8 0, .int .u8 0, .int .u8 0, .int .u8 0, .int .u8 0, .int .u8 0, .int .u8 0, .int .u8 0, .int .u8 0, .int .u8 0, .int .u8 0, .int .u8 0, .int .u8 0, .int .u8 0, .int .u8 0, .int .u8 0, .int .u8 0, .int .u8 0, .int .u8 0, .int .u8 0, .int .u8 0, .int .u8 0, .int .u8 0, .int .u8 0, .int .u8 0, .int .u8 0, .int .u8 0] 34)).setRow w5.heap.size (b8 32 (shaf l))) h v := by
              obtain ⟨a, b, c, d⟩ := hS5
              exact ⟨a.otherRow (by omega) _, b.otherRow (by omega) _, below_row c (by omega) _, d⟩
            clear hX hS5
            generalize (w5.alloc (.cells #[.int .u8 0, .int .u8 0, .int .u8 0, .int .u8 0, .int .u8 0, .int .u8 0, .int .u8 0, .int .u8 0, .int .u8 0, .int .u8 0, .int .u8 0, .int .u8 0, .int .u8 0, .int .u8 0, .int .u8 0, .int .u8 0, .int .u8 0, .int .u8 0, .int .u8 0, .int .u8 0, .int .u8 0, .int .u8 0, .int .u8 0, .int .u8 0, .int .u8 0, .int .u8 0, .int .u8 0, .int .u8 0, .int .u8 0, .int .u8 0, .int .u8 0, .int .u8 0] 34)).setRow w5.heap.size (b8 32 (shaf l)) = w6 at *
            generalize w5.heap.size = B at *
            go_loopw [10] (fun z wr => ∃ i : Nat, i ≤ 32 ∧ z = .int .i64 i ∧ SB w.heap.size V w wr h v ∧ Blk wr B 34 (b8 32 (shaf l))) (fun z _ => 32 - (intOf z).toNat)
            case atStart => exact ⟨0, Nat.zero_le _, rfl, hS6, hX6⟩
            case round =>
              clear hS6 hX6
              obtain ⟨i, hi, rfl, hS, hX⟩ := hrel
              by_cases h32 : i < 32
              · have g32 : (i : Int) < 32 := by omega
                have g4 : (i : Int) / 4 < 8 := by omega
                have c1 := hS.hv.at_ (arr_get (fun q => v32 (v q)) (show i / 4 < 8 by omega))
                have c2 := hX.at_ (arr_get (fun q => v8 (shaf l q)) h32)
                have hby : shaf l i = (v (i / 4) >>> UInt32.ofNat (24 - 8 * (i % 4))).toUInt8 := by rw [HSH2.out]; rfl
                rw [hby] at c2
                have hsh : ∀ t, binOp .shr t (v32 (v (i / 4))) (.int .i64 (24 - 8 * ((i : Int) % 4))) = pure (v32 (v (i / 4) >>> UInt32.ofNat (24 - 8 * (i % 4)))) := fun t => by
                  have := v32_shr t .i64 (v (i / 4)) (24 - 8 * ((i : Int) % 4)) (by omega) (by omega)
                  rw [this, show (24 - 8 * ((i : Int) % 4)).toNat = 24 - 8 * (i % 4) by omega]
                generalize v (i / 4) >>> UInt32.ofNat (24 - 8 * (i % 4)) = y at *
                clear hby
                go_wp2_with fail
                go_quiet (fail)
                have hS2 := hS.many nq
                have hX2 : Blk (wr.drewN nq) B 34 (b8 32 (shaf l)) := hX
                clear hS hX c1 c2
                go_wp2_with fail
                go_roundw
                case rel => exact ⟨i + 1, by omega, by go_num, hS2, hX2⟩
                case measure => simp [intOf]; omega
              · have g32 : ¬ (i : Int) < 32 := by omega
                have hH := hS.hh
                have hBel := hS.bel
                have ea : ∀ w', (Op.equalIn 10000 31 (.agg (w32 8 h)) (.agg (w32 8 h))).run Try.prog w' = .ok true w' := fun w' => eql31 w' h h true ⟨fun _ _ _ => rfl, fun _ => rfl⟩
                clear hS hX
                obtain ⟨S, hS⟩ : ∃ S, l.take (min (l.length : Int) 63).toNat = S := ⟨_, rfl⟩
                have hSl : S.length < 64 := by rw [← hS, List.length_take]; omega
                have HS := keep hS
                clear hS
                go_wp2_with fail
                refine MixedC.wp_region (fun w' => ∃ u, w' = mix [] wr u) [(1, 0), (1, 1), (1, 2), (1, 3), (1, 4), (1, 5), (0, 7), (2, 6), (1, 8), (1, 9)] (by kernel_rfl) (by kernel_rfl) (Mx.drew0 _ _) ?_
                refine MixedC.read_row (i := 0) rfl rfl 31 (.tmp 3) rfl (w.heap.size) rfl 31 (w32 8 h) _ (hH.drew) Try.underlying31 rfl (by kernel_rfl) ?_
                simp only [List.getElem_toArray, List.getElem_cons_zero, List.getElem_cons_succ, Act.put, List.setIfInBounds_toArray, List.set_cons_succ, List.set_cons_zero]
                refine MixedC.reads (k := 1) (.inr ⟨rfl, rfl⟩) _ [1, 2, 3, 4, 5] _ (by kernel_rfl) ?_
                simp only [List.filterMap_cons, List.filterMap_nil, List.getElem?_toArray, List.getElem?_cons_zero, List.getElem?_cons_succ]
                show wpQuiet _ _ _ _ [_, _, _, _, _] _
                iterate 5 go_big_quiet_step (fail)
                refine wpQuiet_nil ?_
                rw [HS.out]
                refine MixedC.read_row0 (i := 7) rfl rfl 31 (.tmp 3) rfl (w.heap.size) rfl 31 (w32 8 h) _ (by rintro _ ⟨u, rfl⟩; exact (mix_keeps [] wr u).blk hH (by simp)) Try.underlying31 rfl (by kernel_rfl) ?_
                simp only [List.getElem_toArray, List.getElem_cons_zero, List.getElem_cons_succ, Act.put, List.setIfInBounds_toArray, List.set_cons_succ, List.set_cons_zero]
                refine MixedC.effect (i := 6) rfl rfl ?_
                intro Q hQ
                have HQ := keep hQ
                clear hQ
                go_wp2_with fail
                refine (block_short h S hSl _).mono ?_
                rintro e w8 ⟨rfl, hb⟩
                have hK6 : Keeps [] wr w8 := (Keeps.refl [] wr).drew.below hb (Nat.le_refl _)
                clear hb
                go_wp2_with fail
                refine HQ.out _ _ (Mx.of hK6) ?_
                clear HQ
                refine MixedC.reads (k := 1) (.inr ⟨rfl, rfl⟩) _ [8, 9] _ (by kernel_rfl) ?_
                simp only [List.filterMap_cons, List.filterMap_nil, List.getElem?_toArray, List.getElem?_cons_zero, List.getElem?_cons_succ]
                show wpQuiet _ _ _ _ [_, _] _
                iterate 2 go_big_quiet_step (fail)
                refine wpQuiet_nil ?_
                unfold MixedC.HL
                have hbel := hBel.trans (hK6.toBelow hBel.size (by simp))
                go_wp2_with fail
                go_ret
                exact ⟨rfl, hbel⟩
end Go.Proofs.Ytbfgnlckmpnchaa

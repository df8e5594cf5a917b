/-
  poly: the document's sum of a text: the walk (written by wip/tools/rsum04.py).
-/
import Derived.Test.YtpjgdocgenpbbaaRefSumPlain
import Derived.Test.YtpjgdocgenpbbaaRefPlusWalk
import Derived.Test.YtpjgdocgenpbbaaRefTimesWalk
import Derived.Test.YtpjgdocgenpbbaaRefRestWalk
namespace Go.Proofs.Ytpjgdocgenpbbaa
open Go.RowKit
set_option linter.unusedVariables false
set_option linter.unusedSimpArgs false
set_option maxRecDepth 100000 in
set_option maxHeartbeats 4000000 in
theorem rsum_any (k : Nat → UInt8) (l : List UInt8) (w : World) (hl : l.length < 1000000) : Calls Try.prog 15 #[.agg (karr k), .string (tx l)] w fun e w' => e = .returned (.agg (uarr8 16 (sumf k l))) ∧ Below w.heap.size w w' := by
  obtain ⟨i0, hi0, hz0, hz1, hz2⟩ := info_parts info3i
  have hk0 : Blk (w.alloc (.cells (karr k) 22)) w.heap.size 22 (karr k) := Blk.made w 22 _
  go_enter Try.func15, Try.ntmps15
  go_wp2_with (refine wpList_load_row rfl 22 (.tmp 2) rfl w.heap.size rfl 22 (karr k) (0, 0) _ (hk0.alloc _) Try.underlying22 rfl (by kernel_rfl) ?_)
  refine (rclamp_any k _).mono ?_
  rintro e w1 ⟨vr, rfl, hO, hb1⟩
  have hRS : RS w.heap.size w w1 k vr := ⟨(hk0.alloc _).kept hb1, ⟨_, (madeA w _ 25 _).kept hb1, rfl⟩, hO.mono (Nat.zero_le _), (belowB w _ _).trans (hb1.mono (by simp; omega))⟩
  clear hO hb1 hk0
  obtain ⟨ar, cr, rfl, -, -⟩ := hRS.hr.formN (bd_tl_length 16 _)
  have hA0 : Nums (w1.alloc (.cells #[.int .i64 0] 3)) (.slice (some ⟨w1.heap.size, 0, none⟩) 1 1) [0] := Own.one w1 0 3 (.int .i64 0) (Nat.zero_le _)
  have hRS1 := hRS.below (belowA w1 (.cells #[.int .i64 0] 3))
  clear hRS
  go_wp2_with fail
  go_loopw [6, 7] (fun v z wr => ∃ (j : Nat) (al : List Nat), (j = 0 ∨ 16 * j < l.length + 16) ∧ z = .int .i64 ((16 * j : Nat) : Int) ∧ RS w.heap.size w wr k (.slice ar 16 cr) ∧ Nums wr v al ∧ Dig al ∧ 1 ≤ al.length ∧ al.length ≤ 17 ∧ Hid (leI al = accs (rk k) l j)) (fun _ z _ => l.length + 16 - (intOf z).toNat)
  case atStart => exact ⟨0, [0], .inl rfl, rfl, hRS1, hA0, (fun x hx => by simp at hx; omega), by simp, by simp, keep (by simp [leI, accs])⟩
  case round =>
    obtain ⟨j, al, hj, rfl, hR, hA, hda, hal1, hal2, HV⟩ := hrel
    clear hRS1 hA0
    obtain ⟨aa, ca, rfl, -, hca⟩ := hA.formN rfl
    have hsw : w.heap.size + 1 < wr.heap.size := by obtain ⟨cs, h, _⟩ := hR.res; exact h.lt
    rw [show ((16 * j : Nat) : Int) = 16 * (j : Int) by omega]
    by_cases h4 : 16 * j < l.length
    · have g4 : 16 * (j : Int) < (l.length : Int) := by omega
      go_wp2_with fail
      obtain ⟨wo, rfl⟩ : ∃ wo : World, wo = wr := ⟨_, rfl⟩
      have hS0 := D2.start wo
      go_loopw [8, 9] (fun v z wr => ∃ i : Nat, i ≤ 16 ∧ 16 * j + i ≤ l.length ∧ z = .int .i64 ((16 * j + i : Nat) : Int) ∧ D2 wo.heap.size wo wr v (.slice none 0 0) (bd ((l.drop (16 * j)).take i)) []) (fun _ z _ => l.length - (intOf z).toNat)
      case atStart => exact ⟨0, Nat.zero_le _, by omega, rfl, hS0⟩
      case round =>
        obtain ⟨i, hi16, hil, rfl, hD⟩ := hrel
        clear hS0
        have hln : (bd ((l.drop (16 * j)).take i)).length = i := by rw [bd_length, List.length_take, List.length_drop]; omega
        obtain ⟨ab, cb, rfl, hcb1, hcb2⟩ := hD.formN hln
        have hsz := hD.size
        by_cases hi : i < 16 ∧ 16 * j + i < l.length
        · obtain ⟨hi1, hi2⟩ := hi
          have gi1 : (i : Int) < 16 := by omega
          have gi2 : 16 * (j : Int) + (i : Int) < (l.length : Int) := by omega
          have hidx := idx_tx (P := Try.prog) 9 Try.underlying9 l .i64 (16 * (j : Int) + (i : Int)) (16 * j + i) (by omega) (by omega)
          have hnx := bd_take l j i hi2
          obtain ⟨b, hb⟩ : ∃ b, bt l (16 * j + i) = b := ⟨_, rfl⟩
          rw [hb] at hidx hnx
          have HNX := keep hnx
          clear hnx hb
          have hnew : ∀ wz : World, (wz.alloc (.cells #[.int .i64 ((b.toNat : Int))] 3)).cell? ⟨wz.heap.size, 0, none⟩ = some (.int .i64 ((b.toNat : Int))) := fun wz => (Blk.made wz 3 #[.int .i64 ((b.toNat : Int))]).at_ rfl
          have hOo := hD.ha
          have HXL : ((bd ((l.drop (16 * j)).take i)).map nv).length < 1099511627776 := by rw [List.length_map, hln]; omega
          go_wp2_with (at_builtin; refine wpList_append_one _ rfl (.tmp 36) (.tmp 41) 32 rfl (wo.heap.size) 3 i0 (.int .i64 0) 8 Try.underlying32 hi0 hz0 hz1 hz2 rfl (.slice ab i cb) ((bd ((l.drop (16 * j)).take i)).map nv) rfl (hOo.alloc _) _ 1 (.int .i64 ((b.toNat : Int))) rfl (hnew _) rfl HXL (by omega) (by simp; omega) ?_
                       intro v4 w4 hown4 hg4 hv4
                       have hD2 := hD.grow _ hg4 hown4 hv4 (by rw [(rfl : (.int .i64 (b.toNat : Int) : Value) = nv b.toNat)]; exact HNX.out)
                       clear hg4 hv4 hown4 hOo hnew HXL)
          go_roundw
          case rel => exact ⟨i + 1, by omega, by omega, by go_num, hD2⟩
          case measure => simp [intOf]; omega
        · have hch := chunk_all l j i hi16 (by omega)
          rw [hch] at hD hln
          have hcl := chunk_len l j
          have hout : (¬ (i : Int) < 16) ∨ ((i : Int) < 16 ∧ ¬ 16 * (j : Int) + (i : Int) < (l.length : Int)) := by omega
          have hacc := accs_step k l j
          have HACC := keep hacc
          clear hacc hch
          rcases hout with gi1 | ⟨gi1, gi2⟩
          all_goals
            have hnew : ∀ wz : World, (wz.alloc (.cells #[.int .i64 (1)] 3)).cell? ⟨wz.heap.size, 0, none⟩ = some (.int .i64 (1)) := fun wz => (Blk.made wz 3 #[.int .i64 (1)]).at_ rfl
            have hOo := hD.ha
            have HXL : ((bd (chunk l j)).map nv).length < 1099511627776 := by rw [List.length_map, hln]; omega
            go_wp2_with (at_builtin; refine wpList_append_one _ rfl (.tmp 43) (.tmp 44) 32 rfl (wo.heap.size) 3 i0 (.int .i64 0) 8 Try.underlying32 hi0 hz0 hz1 hz2 rfl (.slice ab i cb) ((bd (chunk l j)).map nv) rfl (hOo.alloc _) _ 1 (.int .i64 (1)) rfl (hnew _) rfl HXL (by omega) (by simp; omega) ?_
                         intro v4 w4 hown4 hg4 hv4
                         have hD2 := hD.grow _ hg4 hown4 hv4 (by rw [(rfl : (.int .i64 1 : Value) = nv 1)]; exact bd_one (chunk l j))
                         clear hg4 hv4 hown4 hOo hnew HXL)
            obtain ⟨ab, cb, rfl, hcb1, hcb2⟩ := hD2.formN (n := i + 1) (by rw [bd_length, List.length_append, ← bd_length, hln]; rfl)
            have hA2 : Nums w4 _ al := Own.below hA hD2.bel
            have hR2 := hR.below hD2.bel
            have hB2 : Nums w4 _ _ := hD2.ha.mono (Nat.zero_le _)
            have hlb : (bd (chunk l j ++ [1])).length = i + 1 := by rw [bd_length, List.length_append, ← bd_length, hln]; rfl
            have hbel2 := hD2.bel
            clear hD hD2 hA hR
            refine (rplus_any _ _ _ _ _ _ al (bd (chunk l j ++ [1])) w4 hA2 hB2 rfl hlb hda (bd_dig _) (by omega) (by omega)).mono ?_
            rintro e w5 ⟨v5, l5, rfl, hO5, hd5, hv5, hl5, hb5⟩
            have hl5b : i + 1 ≤ 17 := by omega
            obtain ⟨a5, c5, rfl, -, -⟩ := Nums.formN (hO5.mono (Nat.zero_le _)) rfl
            have hN5 : Nums w5 _ l5 := hO5.mono (Nat.zero_le _)
            have hR5 := hR2.below hb5
            have hbel5 := hbel2.trans (hb5.mono (hbel2.size))
            rw [bd_leI] at hv5
            have HV5 := keep hv5
            clear hv5 hO5 hb5 hR2 hA2 hB2 hbel2
            go_wp2_with fail
            refine (rtimes_any _ _ _ _ _ _ l5 (bd (tl 16 (clampf k))) w5 hN5 hR5.hr rfl (bd_tl_length 16 _) hd5 (bd_dig _) (by omega) (by omega) (by omega)).mono ?_
            rintro e w6 ⟨v6, l6, rfl, hO6, hd6, hv6, hl6, hb6⟩
            obtain ⟨a6, c6, rfl, -, -⟩ := Nums.formN (hO6.mono (Nat.zero_le _)) hl6
            have hN6 : Nums w6 _ l6 := hO6.mono (Nat.zero_le _)
            have hR6 := hR5.below hb6
            have hbel6 := hbel5.trans (hb6.mono (hbel5.size))
            have hv6' : leI l6 = (accs (rk k) l j + leN (chunk l j ++ [1])) * rk k := by rw [hv6, HV5.out, HV.out, bd_leI, rk_leN]
            have HV6 := keep hv6'
            clear hv6 hv6' hO6 hb6 hR5 hN5 hbel5
            go_wp2_with fail
            refine (rrest_any _ _ _ l6 w6 hN6 hl6 hd6 (by omega) (by rw [HV6.out]; exact HACC.out.1)).mono ?_
            rintro e w7 ⟨v7, l7, rfl, hO7, hd7, hv7, hl7, hb7⟩
            have hN7 : Nums w7 v7 l7 := hO7.mono (Nat.zero_le _)
            have hR7 := hR6.below hb7
            rw [HV6.out, HACC.out.2] at hv7
            have HV7 := keep hv7
            clear hv7 hO7 hb7 hR6 hN6 hbel6
            go_wp2_with fail
            go_roundw
            case rel => exact ⟨j + 1, l7, by omega, by go_num, hR7, hN7, hd7, by omega, by omega, HV7⟩
            case measure => simp [intOf]; omega
    · have g4 : ¬ 16 * (j : Int) < (l.length : Int) := by omega
      have hjn : j = nch l := by unfold nch; omega
      rw [hjn] at HV
      go_wp2_with fail
      clear hjn
      obtain ⟨wo, rfl⟩ : ∃ wo : World, wo = wr := ⟨_, rfl⟩
      have hS0 := D2.start wo
      go_loopw [10, 11] (fun v z wr => ∃ i : Nat, i ≤ 16 ∧ z = .int .i64 ((16 + i : Nat) : Int) ∧ D2 wo.heap.size wo wr v (.slice none 0 0) (bd (tl i fun q => k (16 + q))) []) (fun _ z _ => 32 - (intOf z).toNat)
      case atStart => exact ⟨0, Nat.zero_le _, rfl, hS0⟩
      case round =>
        obtain ⟨i, hi16, rfl, hD⟩ := hrel
        clear hS0
        have hln : (bd (tl i fun q => k (16 + q))).length = i := bd_tl_length i _
        obtain ⟨ab, cb, rfl, hcb1, hcb2⟩ := hD.formN hln
        have hsz := hD.size
        by_cases hi : i < 16
        · have gi1 : (16 : Int) + (i : Int) < 32 := by omega
          have hcell := (hR.key.kept hD.bel).at_ (arr_get (fun i => v8 (k i)) (show 16 + i < 32 by omega))
          have hnx := bd_next i (fun q => k (16 + q))
          obtain ⟨b, hb⟩ : ∃ b, k (16 + i) = b := ⟨_, rfl⟩
          rw [hb] at hcell hnx
          have HNX := keep hnx
          clear hnx hb
          have hnew : ∀ wz : World, (wz.alloc (.cells #[.int .i64 ((b.toNat : Int))] 3)).cell? ⟨wz.heap.size, 0, none⟩ = some (.int .i64 ((b.toNat : Int))) := fun wz => (Blk.made wz 3 #[.int .i64 ((b.toNat : Int))]).at_ rfl
          have hOo := hD.ha
          have HXL : ((bd (tl i fun q => k (16 + q))).map nv).length < 1099511627776 := by rw [List.length_map, hln]; omega
          go_wp2_with (at_builtin; refine wpList_append_one _ rfl (.tmp 56) (.tmp 61) 32 rfl (wo.heap.size) 3 i0 (.int .i64 0) 8 Try.underlying32 hi0 hz0 hz1 hz2 rfl (.slice ab i cb) ((bd (tl i fun q => k (16 + q))).map nv) rfl (hOo.alloc _) _ 1 (.int .i64 ((b.toNat : Int))) rfl (hnew _) rfl HXL (by omega) (by simp; omega) ?_
                       intro v4 w4 hown4 hg4 hv4
                       have hD2 := hD.grow _ hg4 hown4 hv4 (by rw [(rfl : (.int .i64 (b.toNat : Int) : Value) = nv b.toNat)]; exact HNX.out)
                       clear hg4 hv4 hown4 hOo hnew HXL)
          go_roundw
          case rel => exact ⟨i + 1, by omega, by go_num, hD2⟩
          case measure => simp [intOf]; omega
        · have gi1 : ¬ (16 : Int) + (i : Int) < 32 := by omega
          obtain rfl : i = 16 := by omega
          have hA2 : Nums wr _ al := Own.below hA hD.bel
          have hR2 := hR.below hD.bel
          have hB2 : Nums wr _ _ := hD.ha.mono (Nat.zero_le _)
          clear hD hA hR
          go_wp2_with fail
          refine (rplus_any _ _ _ _ _ _ al (bd (tl 16 fun q => k (16 + q))) wr hA2 hB2 rfl hln hda (bd_dig _) (by omega) (by omega)).mono ?_
          rintro e w5 ⟨v5, lo, rfl, hO5, hd5, hv5, hl5, hb5⟩
          obtain ⟨a5, c5, rfl, -, hc5⟩ := Nums.formN (hO5.mono (Nat.zero_le _)) rfl
          have hN5 : Nums w5 _ lo := hO5.mono (Nat.zero_le _)
          have hR5 := hR2.below hb5
          rw [HV.out, bd_leI] at hv5
          have hsd := fun i => sum_digit k l hd5 hv5 i
          have HSD := keep hsd
          clear hv5 hO5 hb5 hR2 hA2 hB2 hsd
          go_wp2_with fail
          have hz16 : uarr8 16 (up8 (sumf k l) 0) = #[.int .u8 0, .int .u8 0, .int .u8 0, .int .u8 0, .int .u8 0, .int .u8 0, .int .u8 0, .int .u8 0, .int .u8 0, .int .u8 0, .int .u8 0, .int .u8 0, .int .u8 0, .int .u8 0, .int .u8 0, .int .u8 0] := by
            unfold uarr8
            rw [show (fun i => v8 (up8 (sumf k l) 0 i)) = fun _ => v8 0 from by funext i; simp [up8]]
            rfl
          have hR6 := hR5.below (belowA w5 (.cells #[.int .u8 0, .int .u8 0, .int .u8 0, .int .u8 0, .int .u8 0, .int .u8 0, .int .u8 0, .int .u8 0, .int .u8 0, .int .u8 0, .int .u8 0, .int .u8 0, .int .u8 0, .int .u8 0, .int .u8 0, .int .u8 0] 25))
          have hN6 : Nums _ _ lo := hN5.alloc (.cells #[.int .u8 0, .int .u8 0, .int .u8 0, .int .u8 0, .int .u8 0, .int .u8 0, .int .u8 0, .int .u8 0, .int .u8 0, .int .u8 0, .int .u8 0, .int .u8 0, .int .u8 0, .int .u8 0, .int .u8 0, .int .u8 0] 25)
          have hO6 := Blk.made w5 25 #[.int .u8 0, .int .u8 0, .int .u8 0, .int .u8 0, .int .u8 0, .int .u8 0, .int .u8 0, .int .u8 0, .int .u8 0, .int .u8 0, .int .u8 0, .int .u8 0, .int .u8 0, .int .u8 0, .int .u8 0, .int .u8 0]
          rw [← hz16] at hO6 hR6 hN6
          have hBlt : w.heap.size + 1 < w5.heap.size := by obtain ⟨cs, h, _⟩ := hR5.res; exact h.lt
          have hNB : (.slice a5 lo.length c5 : Value).ownBlock ≠ some w5.heap.size := fun e => by have := (Own.row hN5 _ e).2; omega
          clear hN5 hR5
          generalize hB : w5.heap.size = B at *
          rw [← hz16]
          generalize w5.alloc (.cells (uarr8 16 (up8 (sumf k l) 0)) 25) = w6 at *
          obtain ⟨-, hres, -, hbl⟩ := hR6
          go_loopw [13] (fun z wr => ∃ i : Nat, i ≤ 16 ∧ z = .int .i64 i ∧ (∃ cs, Blk wr (w.heap.size + 1) 25 cs ∧ cs.size = 16) ∧ Below w.heap.size w wr ∧ Nums wr (.slice a5 lo.length c5) lo ∧ Blk wr B 25 (uarr8 16 (up8 (sumf k l) i))) (fun z _ => 16 - (intOf z).toNat)
          case atStart => exact ⟨0, Nat.zero_le _, rfl, hres, hbl, hN6, hO6⟩
          case round =>
            clear hres hbl hN6 hO6
            obtain ⟨i, hi16, rfl, ⟨cs, hc1, hc2⟩, hbl, hN, hO⟩ := hrel
            have hBu : (.int .u8 0 : Value) = v8 0 := rfl
            clear hBu
            by_cases hi : i < 16 ∧ i < lo.length
            · obtain ⟨hi1, hi2⟩ := hi
              have gi1 : (i : Int) < 16 := by omega
              have gi2 : (i : Int) < (lo.length : Int) := by omega
              obtain ⟨ga, oa, rfl, hga, ca1⟩ := hN.at_ hi2
              unfold nv at ca1
              have hdl := hd5.lt i
              have c2 := hO.at_ (arr_get (fun j => v8 (up8 (sumf k l) i j)) hi1)
              have f2 := hO.free i
              have hO2 := hO.set i (v8 (sumf k l i))
              rw [up8_set] at hO2
              have hgB : ga ≠ B := fun e => hNB (by rw [← e]; rfl)
              have hN2 : Nums (wr.setCell ⟨B, i, none⟩ (v8 (sumf k l i))) (.slice (some ⟨ga, oa, none⟩) lo.length c5) lo := Own.setCell hN hNB _
              have hf : Blk (wr.setCell ⟨B, i, none⟩ (v8 (sumf k l i))) (w.heap.size + 1) 25 cs := hc1.other (by simp; omega) _
              have hbl2 : Below w.heap.size w (wr.setCell ⟨B, i, none⟩ (v8 (sumf k l i))) := hbl.setCell (by simp; omega) _
              have hq : (.int .u8 (dg lo i : Int) : Value) = v8 (sumf k l i) := by rw [v8, HSD.out i]
              have HQ := keep hq
              clear hq hN hO hc1 hbl
              go_wp2_with fail
              rw [HQ.out]
              go_roundw
              case rel => exact ⟨i + 1, by omega, by go_num, ⟨cs, hf, hc2⟩, hbl2, hN2, hO2⟩
              case measure => simp [intOf]; omega
            · have hout : (¬ (i : Int) < 16) ∨ ((i : Int) < 16 ∧ ¬ (i : Int) < (lo.length : Int)) := by omega
              have hO2 : Blk wr B 25 (uarr8 16 (sumf k l)) := by
                rw [up8_rest (sumf k l) i (fun j h1 h2 => by
                  apply UInt8.toNat_inj.1
                  rw [HSD.out j, dg_none (by omega)]
                  rfl)] at hO
                exact hO
              clear hO hN hi
              rcases hout with gi1 | ⟨gi1, gi2⟩
              all_goals
                go_wp2_with (first
                  | (refine wpList_load_row rfl 25 (.tmp 12) rfl B rfl 25 (uarr8 16 (sumf k l)) (0, 0) _ hO2 Try.underlying25 rfl (by kernel_rfl) ?_)
                  | (refine wpList_store_row rfl 25 (.tmp 4) (.tmp 83) rfl (w.heap.size + 1) (uarr8 16 (sumf k l)) rfl rfl 25 cs hc1 (by kernel_rfl) (by rw [hc2]; exact (arr_size _ _).symm) (arr_one _ _ fun i => rfl) ?_))
                refine bodyPost_ret (results_c rfl _ _ (w.heap.size + 1) 25 _ _ _ rfl (hc1.setRow (uarr8 16 (sumf k l))) Try.underlying25 (by kernel_rfl)) rfl ?_
                exact ⟨rfl, below_row hbl (by omega) _⟩
end Go.Proofs.Ytpjgdocgenpbbaa

/-
  sha: the document's root: is a number, to a power, no more than another one? (written by wip/tools/sha_rfits.py).
-/
import Derived.Test.YtbfgnlckmpnchaaRTimes
namespace Go.Proofs.Ytbfgnlckmpnchaa
open Go.RowKit
set_option linter.unusedVariables false
set_option linter.unusedSimpArgs false
set_option maxHeartbeats 4000000 in
theorem rfits_any (x n p : Nat) (hx : x < 549755813888) (hn : n ≤ 1000) (hp : p ≤ 3) (w : World) :
    Calls Try.prog 36 #[.int .i64 (x : Int), .int .i64 (n : Int), .int .i64 (p : Int)] w fun e w' => e = .returned (.bool (fitsB x n p)) ∧ Below w.heap.size w w' := by
  obtain ⟨i0, hi0, hz0, hz1, hz2⟩ := info_parts info3i
  have hO1 : Own (w.alloc (.cells #[.int .i64 1] 3)) 0 (.slice (some ⟨w.heap.size, 0, none⟩) 1 1) [.int .i64 1] := Own.one w 0 3 _ (Nat.zero_le _)
  have hN1 : Nums (w.alloc (.cells #[.int .i64 1] 3)) (.slice (some ⟨w.heap.size, 0, none⟩) 1 1) [1] := hO1
  have hb1 := belowA w (.cells #[.int .i64 1] 3)
  have hd1 : Dig [1] := fun y hy => by simp at hy; omega
  clear hO1
  go_enter Try.func36, Try.ntmps36
  go_wp2_with fail
  generalize w.alloc (.cells #[.int .i64 1] 3) = w0 at *
  go_loopw [7, 8] (fun v z wr => ∃ (i : Nat) (lo : List Nat), i ≤ p ∧ z = .int .i64 i ∧ Nums wr v lo ∧ Dig lo ∧ leI lo = x ^ i ∧ lo.length ≤ 1 + 5 * i ∧ Below w.heap.size w wr) (fun _ z _ => p - (intOf z).toNat)
  case atStart => exact ⟨0, [1], Nat.zero_le _, rfl, hN1, hd1, rfl, by simp, hb1⟩
  case round =>
    clear hN1 hb1 hd1
    obtain ⟨i, lo, hi, rfl, hN, hd, hv, hl, hB⟩ := hrel
    obtain ⟨a, c, rfl, hc1, hc2⟩ := hN.formN rfl
    by_cases hip : i < p
    · have gip : (i : Int) < (p : Int) := by omega
      go_wp2_with fail
      refine Calls.mono (show Calls Try.prog 58 #[.slice a lo.length c, .int .i64 (x : Int)] _ _ from rtimes_any a lo.length c lo x _ hN rfl hd (by omega) hx) ?_
      rintro e w2 ⟨v2, lo2, rfl, hO2, hd2, hv2, hl2, hb2⟩
      have hN2 : Nums w2 v2 lo2 := hO2.mono (Nat.zero_le _)
      have hB2 := hB.trans (hb2.mono hB.size)
      have hv3 : leI lo2 = x ^ (i + 1) := by rw [hv2, hv, Nat.pow_succ]
      clear hO2 hb2 hv2 hN hB hv hd
      go_wp2_with fail
      go_roundw
      case rel => exact ⟨i + 1, lo2, by omega, by go_num, hN2, hd2, hv3, by omega, hB2⟩
      case measure => simp [intOf]; omega
    · have gip : ¬ (i : Int) < (p : Int) := by omega
      obtain rfl : i = p := by omega
      have hfits := fitsB_of (n := n) hv
      obtain ⟨w1, rfl⟩ : ∃ w1, w1 = wr := ⟨_, rfl⟩
      obtain ⟨w3, hmk, hO3, hb3⟩ := make_nums (P := Try.prog) w1 w1.heap.size 25 3 (4 * i) Try.underlying25 info3i (by omega) (Nat.le_refl _) (4 * (i : Int)) (by omega)
      have hD : D2 w1.heap.size w1 w3 (.slice (some ⟨w1.heap.size, 0, none⟩) (4 * i) (4 * i)) (.slice none 0 0) (List.replicate (4 * i) 0) [] :=
        ⟨hO3, Own.nil _ _, (fun _ _ h2 => by cases h2), hb3, Nat.le_refl _⟩
      have hsz3 := hD.size
      have hfin : ∀ w5 v5, D2 w1.heap.size w1 w5 v5 (.slice none 0 0) (List.replicate (4 * i) 0 ++ [n % 256] ++ [n / 256]) [] → Nums w5 (.slice a lo.length c) lo ∧ Nums w5 v5 (mm n i) ∧ Below w.heap.size w w5 := fun w5 v5 h => ⟨Own.below hN h.bel, h.ha.mono (Nat.zero_le _), hB.trans (h.bel.mono hB.size)⟩
      have HFIN := keep hfin
      have HFITS := keep hfits
      have hv1 : (.int .i64 ((n : Int) % 256) : Value) = nv (n % 256) := congrArg (Value.int .i64) (by omega)
      have hv2 : (.int .i64 ((n : Int) / 256) : Value) = nv (n / 256) := congrArg (Value.int .i64) (by omega)
      have HV1 := keep hv1
      have HV2 := keep hv2
      clear hO3 hb3 hfin hfits hv1 hv2 hN hB hv
      have hnew1 : ∀ wz : World, (wz.alloc (.cells #[.int .i64 ((n : Int) % 256)] 3)).cell? ⟨wz.heap.size, 0, none⟩ = some (.int .i64 ((n : Int) % 256)) := fun wz => (Blk.made wz 3 #[.int .i64 ((n : Int) % 256)]).at_ rfl
      have hOo := hD.ha
      have HXL : ((List.replicate (4 * i) 0).map nv).length < 1099511627776 := by rw [List.length_map]; simp; omega
      have hnew2 : ∀ wz : World, (wz.alloc (.cells #[.int .i64 ((n : Int) / 256)] 3)).cell? ⟨wz.heap.size, 0, none⟩ = some (.int .i64 ((n : Int) / 256)) := fun wz => (Blk.made wz 3 #[.int .i64 ((n : Int) / 256)]).at_ rfl
      go_wp2_with (first
        | (at_builtin; refine wpList_append_one _ rfl (.tmp 25) (.tmp 28) 25 rfl (w1.heap.size) 3 i0 (.int .i64 0) 8 Try.underlying25 hi0 hz0 hz1 hz2 rfl (.slice (some ⟨w1.heap.size, 0, none⟩) (4 * i) (4 * i)) ((List.replicate (4 * i) 0).map nv) rfl (hOo.alloc _) _ 1 (.int .i64 ((n : Int) % 256)) rfl (hnew1 _) rfl HXL (by omega) (by simp; omega) ?_
           intro v4 w4 hown4 hg4 hv4
           have hD4 := hD.grow _ hg4 hown4 hv4 (by rw [HV1.out]; exact map_nv_snoc _ _)
           obtain ⟨a4, c4, rfl, hc41, hc42⟩ := hD4.formN (n := 4 * i + 1) (by simp)
           have hsz4 := hD4.size
           have HXM : ((List.replicate (4 * i) 0 ++ [n % 256]).map nv).length < 1099511627776 := by rw [List.length_map]; simp; omega
           clear hg4 hv4 hown4 hOo hnew1 HXL hmk hD)
        | (at_builtin; refine wpList_append_one _ rfl (.tmp 30) (.tmp 33) 25 rfl (w1.heap.size) 3 i0 (.int .i64 0) 8 Try.underlying25 hi0 hz0 hz1 hz2 rfl (.slice a4 (4 * i + 1) c4) ((List.replicate (4 * i) 0 ++ [n % 256]).map nv) rfl (hD4.ha.alloc _) _ 1 (.int .i64 ((n : Int) / 256)) rfl (hnew2 _) rfl HXM (by omega) (by simp; omega) ?_
           intro v5 w5 hown5 hg5 hv5
           have hD5 := hD4.grow _ hg5 hown5 hv5 (by rw [HV2.out]; exact map_nv_snoc _ _)
           obtain ⟨hNa, hNb, hBel⟩ := HFIN.out _ _ hD5
           obtain ⟨b, d, rfl, hd1, hd2⟩ := hNb.formN (mm_len n i)
           clear hg5 hv5 hown5 hnew2 HXM hD4 hD5 hsz4))
      all_goals
        have hmd := mm_dig (n := n) (p := i) hn
        go_loop [10] (fun z => ∃ j, j ≤ lo.length + 4 * i + 2 ∧ z = .int .i64 ((j : Int) - 1) ∧ ∀ k, j ≤ k → dg lo k = dg (mm n i) k) (fun z => (intOf z + 1).toNat)
        case atStart =>
          first
          | exact ⟨lo.length, by omega, rfl, fun k hk => by rw [dg_none hk, dg_none (by rw [mm_len]; omega)]⟩
          | exact ⟨4 * i + 2, by omega, by go_num, fun k hk => by rw [dg_none (by omega), dg_none (by rw [mm_len]; omega)]⟩
        case round =>
          obtain ⟨j, hj, rfl, hall⟩ := hrel
          by_cases hj0 : j = 0
          · subst hj0
            have hres : fitsB x n i = true := by rw [HFITS.out]; exact decide_eq_true (cmp_eq fun k => hall k (Nat.zero_le _))
            have HRES := keep hres
            clear hres hall
            go_wp2_with fail
            go_ret
            exact ⟨congrArg (fun z => Ending.returned (Value.bool z)) HRES.out.symm, hBel⟩
          · obtain ⟨k, rfl⟩ : ∃ k, j = k + 1 := ⟨j - 1, by omega⟩
            rw [show (((k + 1 : Nat) : Int) - 1) = (k : Int) by omega]
            by_cases hka : k < lo.length
            · have gka : (k : Int) < (lo.length : Int) := by omega
              by_cases hkb : k < 4 * i + 2
              · have gkb : (k : Int) < 4 * (i : Int) + 2 := by omega
                obtain ⟨ga, oa, rfl, hga, ca⟩ := hNa.at_ hka
                unfold nv at ca
                obtain ⟨gb, ob, rfl, hgb, cb⟩ := hNb.at_ (by rw [mm_len]; exact hkb)
                unfold nv at cb
                have la := hd.lt k
                have lb := hmd.lt k
                obtain ⟨A, hA⟩ : ∃ A, dg lo k = A := ⟨_, rfl⟩
                rw [hA] at ca la
                obtain ⟨B, hB⟩ : ∃ B, dg (mm n i) k = B := ⟨_, rfl⟩
                rw [hB] at cb lb
                by_cases hAB : A = B
                · have heq : ∀ q, k ≤ q → dg lo q = dg (mm n i) q := fun q hq => by
                    rcases Nat.lt_or_ge k q with h | h
                    · exact hall q h
                    · obtain rfl : q = k := by omega
                      rw [hA, hB]; exact hAB
                  have gne : ((A : Int) != (B : Int)) = false := by simp only [bne_eq_false_iff_eq]; omega
                  have HEQ := keep heq
                  clear heq hA hB hall
                  go_wp2_with fail
                  go_round
                  case rel => exact ⟨k, by omega, by go_num, HEQ.out⟩
                  case measure => simp [intOf]
                · by_cases hlt : A < B
                  · have hres : fitsB x n i = true := by
                      rw [HFITS.out, ← cmp_ne hd hmd (j := k) (fun q hq => hall q hq) (by rw [hA, hB]; omega), hA, hB]
                      simp only [decide_eq_true_eq, decide_eq_false_iff_not]; omega
                    have gne : ((A : Int) != (B : Int)) = true := by simp only [bne_iff_ne, ne_eq]; omega
                    have glt : (A : Int) < (B : Int) := by omega
                    have HRES := keep hres
                    clear hres hA hB hall
                    go_wp2_with fail
                    go_ret
                    first
                    | exact ⟨congrArg (fun z => Ending.returned (Value.bool z)) HRES.out.symm, hBel⟩
                    | exact ⟨congrArg (fun z => Ending.returned (Value.bool z)) ((decide_eq_true (by omega)).trans HRES.out.symm), hBel⟩
                  · have hres : fitsB x n i = false := by
                      rw [HFITS.out, ← cmp_ne hd hmd (j := k) (fun q hq => hall q hq) (by rw [hA, hB]; omega), hA, hB]
                      simp only [decide_eq_true_eq, decide_eq_false_iff_not]; omega
                    have gne : ((A : Int) != (B : Int)) = true := by simp only [bne_iff_ne, ne_eq]; omega
                    have glt : ¬ (A : Int) < (B : Int) := by omega
                    have HRES := keep hres
                    clear hres hA hB hall
                    go_wp2_with fail
                    go_ret
                    first
                    | exact ⟨congrArg (fun z => Ending.returned (Value.bool z)) HRES.out.symm, hBel⟩
                    | exact ⟨congrArg (fun z => Ending.returned (Value.bool z)) ((decide_eq_true (by omega)).trans HRES.out.symm), hBel⟩
              · have gkb : ¬ (k : Int) < 4 * (i : Int) + 2 := by omega
                obtain ⟨ga, oa, rfl, hga, ca⟩ := hNa.at_ hka
                unfold nv at ca
                have eb : dg (mm n i) k = 0 := dg_none (by rw [mm_len]; omega)
                have la := hd.lt k
                obtain ⟨A, hA⟩ : ∃ A, dg lo k = A := ⟨_, rfl⟩
                rw [hA] at ca la
                have hB : dg (mm n i) k = 0 := eb
                by_cases hAB : A = 0
                · have heq : ∀ q, k ≤ q → dg lo q = dg (mm n i) q := fun q hq => by
                    rcases Nat.lt_or_ge k q with h | h
                    · exact hall q h
                    · obtain rfl : q = k := by omega
                      rw [hA, hB]; exact hAB
                  have gne : ((A : Int) != 0) = false := by simp only [bne_eq_false_iff_eq]; omega
                  have HEQ := keep heq
                  clear heq hA hB hall
                  go_wp2_with fail
                  go_round
                  case rel => exact ⟨k, by omega, by go_num, HEQ.out⟩
                  case measure => simp [intOf]
                · have hres : fitsB x n i = false := by
                    rw [HFITS.out, ← cmp_ne hd hmd (j := k) (fun q hq => hall q hq) (by rw [hA, hB]; omega), hA, hB]
                    simp only [decide_eq_true_eq, decide_eq_false_iff_not]; omega
                  have gne : ((A : Int) != (0 : Int)) = true := by simp only [bne_iff_ne, ne_eq]; omega
                  have glt : ¬ (A : Int) < (0 : Int) := by omega
                  have HRES := keep hres
                  clear hres hA hB hall
                  go_wp2_with fail
                  go_ret
                  first
                  | exact ⟨congrArg (fun z => Ending.returned (Value.bool z)) HRES.out.symm, hBel⟩
                  | exact ⟨congrArg (fun z => Ending.returned (Value.bool z)) ((decide_eq_true (by omega)).trans HRES.out.symm), hBel⟩
            · have gka : ¬ (k : Int) < (lo.length : Int) := by omega
              by_cases hkb : k < 4 * i + 2
              · have gkb : (k : Int) < 4 * (i : Int) + 2 := by omega
                have ea : dg lo k = 0 := dg_none (by omega)
                obtain ⟨gb, ob, rfl, hgb, cb⟩ := hNb.at_ (by rw [mm_len]; exact hkb)
                unfold nv at cb
                have lb := hmd.lt k
                have hA : dg lo k = 0 := ea
                obtain ⟨B, hB⟩ : ∃ B, dg (mm n i) k = B := ⟨_, rfl⟩
                rw [hB] at cb lb
                by_cases hAB : 0 = B
                · have heq : ∀ q, k ≤ q → dg lo q = dg (mm n i) q := fun q hq => by
                    rcases Nat.lt_or_ge k q with h | h
                    · exact hall q h
                    · obtain rfl : q = k := by omega
                      rw [hA, hB]; exact hAB
                  have gne : ((0 : Int) != (B : Int)) = false := by simp only [bne_eq_false_iff_eq]; omega
                  have HEQ := keep heq
                  clear heq hA hB hall
                  go_wp2_with fail
                  go_round
                  case rel => exact ⟨k, by omega, by go_num, HEQ.out⟩
                  case measure => simp [intOf]
                · have hres : fitsB x n i = true := by
                    rw [HFITS.out, ← cmp_ne hd hmd (j := k) (fun q hq => hall q hq) (by rw [hA, hB]; omega), hA, hB]
                    simp only [decide_eq_true_eq, decide_eq_false_iff_not]; omega
                  have gne : ((0 : Int) != (B : Int)) = true := by simp only [bne_iff_ne, ne_eq]; omega
                  have glt : (0 : Int) < (B : Int) := by omega
                  have HRES := keep hres
                  clear hres hA hB hall
                  go_wp2_with fail
                  go_ret
                  first
                  | exact ⟨congrArg (fun z => Ending.returned (Value.bool z)) HRES.out.symm, hBel⟩
                  | exact ⟨congrArg (fun z => Ending.returned (Value.bool z)) ((decide_eq_true (by omega)).trans HRES.out.symm), hBel⟩
              · have gkb : ¬ (k : Int) < 4 * (i : Int) + 2 := by omega
                have ea : dg lo k = 0 := dg_none (by omega)
                have eb : dg (mm n i) k = 0 := dg_none (by rw [mm_len]; omega)
                have hA : dg lo k = 0 := ea
                have hB : dg (mm n i) k = 0 := eb
                have heq : ∀ q, k ≤ q → dg lo q = dg (mm n i) q := fun q hq => by
                  rcases Nat.lt_or_ge k q with h | h
                  · exact hall q h
                  · obtain rfl : q = k := by omega
                    rw [hA, hB]
                have HEQ := keep heq
                clear heq hA hB hall
                go_wp2_with fail
                go_round
                case rel => exact ⟨k, by omega, by go_num, HEQ.out⟩
                case measure => simp [intOf]
end Go.Proofs.Ytbfgnlckmpnchaa

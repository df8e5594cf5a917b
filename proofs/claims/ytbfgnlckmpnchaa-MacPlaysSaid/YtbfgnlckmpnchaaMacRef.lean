/-
  mac: the document's keyed sum: the walk (written by wip/tools/mac_ref.py).
-/
import Derived.Test.YtbfgnlckmpnchaaMacAwake
import Derived.Test.YtbfgnlckmpnchaaRSum
import Derived.Test.YtbfgnlckmpnchaaOwnText
namespace Go.Proofs.Ytbfgnlckmpnchaa
open Go.RowKit
set_option linter.unusedVariables false
set_option linter.unusedSimpArgs false
theorem info5b : (Try.prog.info? 5).map (fun i => (i.zero, i.size, i.bytes)) = some (some (.int .u8 0), 1, 1) := by kernel_rfl
theorem text_any (f : Nat → UInt8) (w : World) : Calls Try.prog 47 #[.agg (b8 32 f)] w fun e w' => e = .returned (.string (tx (tl 32 f))) ∧ Below w.heap.size w w' := by
  have hcv := back32 (Blk.made w 33 (b8 32 f))
  have hb := belowA w (.cells (b8 32 f) 33)
  go_enter Try.func47, Try.ntmps47
  go_wp2_with fail
  go_ret
  exact ⟨rfl, hb⟩
set_option maxHeartbeats 4000000 in
theorem with_any (l : List UInt8) (b : UInt8) (hl : l.length < 1000000) (w : World) : Calls Try.prog 48 #[.string (tx l), v8 b] w fun e w' => e = .returned (.string (tx (xb l b))) ∧ Below w.heap.size w w' := by
  obtain ⟨i0, hi0, hz0, hz1, hz2⟩ := info_parts info5b
  go_enter Try.func48, Try.ntmps48
  go_wp2_with fail
  go_loopw [5, 6] (fun v z wr => ∃ i : Nat, i ≤ l.length ∧ z = .int .i64 i ∧ Own wr w.heap.size v ((tl i fun j => bt l j ^^^ b).map v8) ∧ Below w.heap.size w wr) (fun _ z _ => l.length - (intOf z).toNat)
  case atStart => exact ⟨0, Nat.zero_le _, rfl, Own.nil _ _, Below.refl _ _⟩
  case round =>
    obtain ⟨i, hi, rfl, hO, hB⟩ := hrel
    obtain ⟨a, c, rfl, hc1, hc2, -⟩ := hO.form
    have hlen : ((tl i fun j => bt l j ^^^ b).map v8).length = i := by rw [List.length_map, tl_length]
    rw [hlen] at hO hc1 ⊢
    by_cases hil : i < l.length
    · have gil : (i : Int) < (l.length : Int) := by omega
      have i0x := idx_tx (P := Try.prog) 9 Try.underlying9 l .i64 (i : Int) i rfl hil
      have hsn : (tl i fun j => bt l j ^^^ b).map v8 ++ [v8 (bt l i ^^^ b)] = (tl (i + 1) fun j => bt l j ^^^ b).map v8 := by rw [map_v8_snoc, ← tl_succ]
      have hnew : ∀ wz : World, (wz.alloc (.cells #[v8 (bt l i ^^^ b)] 5)).cell? ⟨wz.heap.size, 0, none⟩ = some (v8 (bt l i ^^^ b)) := fun wz => (Blk.made wz 5 #[v8 (bt l i ^^^ b)]).at_ rfl
      have hsz := hB.size
      have HXL : ((tl i fun j => bt l j ^^^ b).map v8).length < 1099511627776 := by rw [hlen]; omega
      obtain ⟨xs, hxs⟩ : ∃ xs, (tl i fun j => bt l j ^^^ b).map v8 = xs := ⟨_, rfl⟩
      rw [hxs] at hO hsn hlen HXL
      have hc3 : c ≤ 9223372036854775807 := by simp only [maxLen] at hc2; omega
      have hOl : Own wr w.heap.size (.slice a xs.length c) xs := by rw [hlen]; exact hO
      have hfin : ∀ v4 w4, Own w4 w.heap.size v4 (xs ++ [v8 (bt l i ^^^ b)]) → (wr.alloc (.cells #[v8 (bt l i ^^^ b)] 5)).grownBy w4 (.slice a i c : Value).ownBlock → Own w4 w.heap.size v4 ((tl (i + 1) fun j => bt l j ^^^ b).map v8) ∧ Below w.heap.size w w4 := fun v4 w4 h1 h2 =>
        ⟨by rw [← hsn]; exact h1, (hB.alloc hsz _).grown h2 (by simp; omega) (fun k hk => (hO.row k hk).1)⟩
      have HFIN := keep hfin
      have HLEN := keep hlen
      have hOo := hO
      clear hfin hsn hxs hO hlen hOl hB hc2
      go_wp2_with (at_builtin; refine wpList_append_one _ rfl (.tmp 13) (.tmp 19) 43 rfl w.heap.size 5 i0 (.int .u8 0) 1 Try.underlying43 hi0 hz0 hz1 hz2 rfl (.slice a i c) xs rfl (hOo.alloc _) _ 1 (v8 (bt l i ^^^ b)) rfl (hnew _) rfl HXL (by omega) (by simp; omega) ?_
                   intro v4 w4 hown4 hg4 hv4
                   have hf4 := HFIN.out v4 w4 hown4 hg4
                   clear hg4 hv4 hown4 hOo hnew HXL HFIN)
      go_roundw
      case rel => exact ⟨i + 1, by omega, by go_num, hf4⟩
      case measure => simp [intOf]; omega
    · have gil : ¬ (i : Int) < (l.length : Int) := by omega
      obtain rfl : i = l.length := by omega
      have hbk : (convert 43 9 (.slice a l.length c)).run Try.prog wr = .ok (.string (tx (xb l b))) wr := Own.back (P := Try.prog) hO 43 9 5 Try.underlying43 Try.underlying5 Try.underlying9
      clear hO hlen
      go_wp2_with fail
      go_ret
      exact ⟨rfl, hB⟩
set_option maxRecDepth 100000 in
set_option maxHeartbeats 8000000 in
theorem rmsum_any (l s : List UInt8) (hl : l.length < 800000) (hs : s.length < 800000) (w : World) : Calls Try.prog 31 #[.string (tx l), .string (tx s)] w fun e w' => e = .returned (.agg (b8 32 (msum l s))) ∧ Below w.heap.size w w' := by
  have hr1 : Blk (w.alloc (.cells #[.int .u8 0, .int .u8 0, .int .u8 0, .int .u8 0, .int .u8 0, .int .u8 0, .int .u8 0, .int .u8 0, .int .u8 0, .int .u8 0, .int .u8 0, .int .u8 0, .int .u8 0, .int .u8 0, .int .u8 0, .int .u8 0, .int .u8 0, .int .u8 0, .int .u8 0, .int .u8 0, .int .u8 0, .int .u8 0, .int .u8 0, .int .u8 0, .int .u8 0, .int .u8 0, .int .u8 0, .int .u8 0, .int .u8 0, .int .u8 0, .int .u8 0, .int .u8 0] 33)) w.heap.size 33 #[.int .u8 0, .int .u8 0, .int .u8 0, .int .u8 0, .int .u8 0, .int .u8 0, .int .u8 0, .int .u8 0, .int .u8 0, .int .u8 0, .int .u8 0, .int .u8 0, .int .u8 0, .int .u8 0, .int .u8 0, .int .u8 0, .int .u8 0, .int .u8 0, .int .u8 0, .int .u8 0, .int .u8 0, .int .u8 0, .int .u8 0, .int .u8 0, .int .u8 0, .int .u8 0, .int .u8 0, .int .u8 0, .int .u8 0, .int .u8 0, .int .u8 0, .int .u8 0] := Blk.made w 33 _
  have hB1 := belowA w (.cells #[.int .u8 0, .int .u8 0, .int .u8 0, .int .u8 0, .int .u8 0, .int .u8 0, .int .u8 0, .int .u8 0, .int .u8 0, .int .u8 0, .int .u8 0, .int .u8 0, .int .u8 0, .int .u8 0, .int .u8 0, .int .u8 0, .int .u8 0, .int .u8 0, .int .u8 0, .int .u8 0, .int .u8 0, .int .u8 0, .int .u8 0, .int .u8 0, .int .u8 0, .int .u8 0, .int .u8 0, .int .u8 0, .int .u8 0, .int .u8 0, .int .u8 0, .int .u8 0] 33)
  have hm : msum l s = shaf (xb (fk l) 92 ++ tl 32 (shaf (xb (fk l) 54 ++ s))) := rfl
  by_cases h64 : 64 < l.length
  · have g64 : (64 : Int) < (l.length : Int) := by omega
    have hfk : tl 32 (shaf l) ++ List.replicate (64 - (tl 32 (shaf l)).length) 0 = fk l := by unfold fk; rw [if_pos h64, tl_length]
    go_enter Try.func31, Try.ntmps31
    go_wp2_with fail
    generalize w.alloc (.cells #[.int .u8 0, .int .u8 0, .int .u8 0, .int .u8 0, .int .u8 0, .int .u8 0, .int .u8 0, .int .u8 0, .int .u8 0, .int .u8 0, .int .u8 0, .int .u8 0, .int .u8 0, .int .u8 0, .int .u8 0, .int .u8 0, .int .u8 0, .int .u8 0, .int .u8 0, .int .u8 0, .int .u8 0, .int .u8 0, .int .u8 0, .int .u8 0, .int .u8 0, .int .u8 0, .int .u8 0, .int .u8 0, .int .u8 0, .int .u8 0, .int .u8 0, .int .u8 0] 33) = w0 at *
    refine (rsum_any l (by omega) _).mono ?_
    rintro e w1 ⟨rfl, hb1⟩
    have hr1 := hr1.kept hb1
    have hB1 := hB1.trans (hb1.mono hB1.size)
    clear hb1
    go_wp2_with fail
    refine (text_any (shaf l) _).mono ?_
    rintro e w2 ⟨rfl, hb1⟩
    have hr1 := hr1.kept hb1
    have hB1 := hB1.trans (hb1.mono hB1.size)
    clear hb1
    have hK : (tl 32 (shaf l)).length ≤ 64 := by rw [tl_length]; omega
    obtain ⟨K, hKK⟩ : ∃ K, tl 32 (shaf l) = K := ⟨_, rfl⟩
    rw [hKK] at hK hfk ⊢
    have HFK := keep hfk
    clear hfk hKK
    go_wp2_with fail
    go_loopw [0] (fun v wr => ∃ k : Nat, K.length + k ≤ 64 ∧ v = .string (tx (K ++ List.replicate k 0)) ∧ wr = w2) (fun v _ => match v with | .string s => 64 - s.size | _ => 0)
    case atStart => exact ⟨0, by omega, by simp, rfl⟩
    case round =>
      obtain ⟨k, hk, rfl, rfl⟩ := hrel
      have hAl : (K ++ List.replicate k (0 : UInt8)).length = K.length + k := by simp
      by_cases hkz : K.length + k < 64
      · have hnx : K ++ List.replicate k (0 : UInt8) ++ [0] = K ++ List.replicate (k + 1) 0 := by rw [List.append_assoc, ← List.replicate_succ']
        obtain ⟨A, hA⟩ : ∃ A, K ++ List.replicate k (0 : UInt8) = A := ⟨_, rfl⟩
        rw [hA] at hAl hnx ⊢
        have gA : (A.length : Int) < 64 := by omega
        have gAl : A.length + 1 ≤ 9223372036854775807 := by omega
        have HNX := keep hnx
        have hA1 : A.length ≤ K.length + k := by omega
        have hA2 : K.length + k ≤ A.length := by omega
        clear hA hnx hAl
        go_wp2_with fail
        rw [HNX.out]
        go_roundw
        case rel => exact ⟨k + 1, by omega, rfl, trivial⟩
        case measure => simp [tx_size]; omega
      · have hfk := HFK.out
        rw [show 64 - K.length = k by omega] at hfk
        rw [hfk]
        have hkl := fk_length l
        generalize fk l = k at *
        have hkl1 : k.length ≤ 64 := by omega
        have hkl2 : ¬ (k.length : Int) < 64 := by omega
        clear hAl hfk hkl HFK
        go_wp2_with fail
        refine Calls.mono (show Calls Try.prog 48 #[.string (tx k), .int .u8 92] _ _ from with_any k 92 (by omega) _) ?_
        rintro e w2 ⟨rfl, hb2⟩
        have hr2 := hr1.kept hb2
        have hB2 := hB1.trans (hb2.mono hB1.size)
        clear hb2
        have hYl : (xb k 92).length ≤ 64 := by rw [xb_length]; omega
        obtain ⟨Y, hY⟩ : ∃ Y, xb k 92 = Y := ⟨_, rfl⟩
        rw [hY] at hm hYl ⊢
        clear hY
        go_wp2_with fail
        refine Calls.mono (show Calls Try.prog 48 #[.string (tx k), .int .u8 54] _ _ from with_any k 54 (by omega) _) ?_
        rintro e w3 ⟨rfl, hb3⟩
        have hr3 := hr2.kept hb3
        have hB3 := hB2.trans (hb3.mono hB2.size)
        clear hb3 hr2 hB2
        have hZl : (xb k 54).length ≤ 64 := by rw [xb_length]; omega
        obtain ⟨Z, hZ⟩ : ∃ Z, xb k 54 = Z := ⟨_, rfl⟩
        rw [hZ] at hm hZl ⊢
        clear hZ
        have g1 : Z.length + s.length ≤ 9223372036854775807 := by omega
        have hZs : (Z ++ s).length ≤ 800064 := by rw [List.length_append]; omega
        obtain ⟨ZS, hZS⟩ : ∃ ZS, Z ++ s = ZS := ⟨_, rfl⟩
        rw [hZS] at hm hZs
        have HZS := keep hZS
        clear hZS
        go_wp2_with fail
        rw [HZS.out]
        refine (rsum_any ZS (by omega) _).mono ?_
        rintro e w4 ⟨rfl, hb4⟩
        have hr4 := hr3.kept hb4
        have hB4 := hB3.trans (hb4.mono hB3.size)
        clear hb4 hr3 hB3
        go_wp2_with fail
        refine (text_any (shaf ZS) _).mono ?_
        rintro e w5 ⟨rfl, hb5⟩
        have hr5 := hr4.kept hb5
        have hB5 := hB4.trans (hb5.mono hB4.size)
        clear hb5 hr4 hB4
        have hXl : (tl 32 (shaf ZS)).length ≤ 32 := by rw [tl_length]; omega
        obtain ⟨X, hX⟩ : ∃ X, tl 32 (shaf ZS) = X := ⟨_, rfl⟩
        rw [hX] at hm hXl ⊢
        have g2 : Y.length + X.length ≤ 9223372036854775807 := by omega
        have hYX : (Y ++ X).length ≤ 100 := by rw [List.length_append]; omega
        obtain ⟨YX, hYXe⟩ : ∃ YX, Y ++ X = YX := ⟨_, rfl⟩
        rw [hYXe] at hm hYX
        have HYX := keep hYXe
        have HM := keep hm
        clear hX hYXe hm
        go_wp2_with fail
        rw [HYX.out]
        refine (rsum_any YX (by omega) _).mono ?_
        rintro e w6 ⟨rfl, hb6⟩
        have hr6 := hr5.kept hb6
        have hB6 := hB5.trans (hb6.mono hB5.size)
        clear hb6 hr5 hB5
        go_wp2_with (refine wpList_store_row rfl 33 (.tmp 4) (.tmp 25) rfl w.heap.size (b8 32 (shaf YX)) rfl rfl 33 _ hr6 (by kernel_rfl) (by unfold b8; rw [arr_size]; rfl) (arr_one _ _ fun i => rfl) ?_)
        refine bodyPost_ret (results_c rfl _ _ w.heap.size 33 _ _ _ rfl (hr6.setRow (b8 32 (shaf YX))) Try.underlying33 (by kernel_rfl)) rfl ?_
        exact ⟨by rw [HM.out], below_row hB6 (Nat.le_refl _) _⟩
  · have g64 : ¬ (64 : Int) < (l.length : Int) := by omega
    have hfk : l ++ List.replicate (64 - l.length) 0 = fk l := by unfold fk; rw [if_neg h64]
    have HFK := keep hfk
    clear hfk
    go_enter Try.func31, Try.ntmps31
    go_wp2_with fail
    generalize w.alloc (.cells #[.int .u8 0, .int .u8 0, .int .u8 0, .int .u8 0, .int .u8 0, .int .u8 0, .int .u8 0, .int .u8 0, .int .u8 0, .int .u8 0, .int .u8 0, .int .u8 0, .int .u8 0, .int .u8 0, .int .u8 0, .int .u8 0, .int .u8 0, .int .u8 0, .int .u8 0, .int .u8 0, .int .u8 0, .int .u8 0, .int .u8 0, .int .u8 0, .int .u8 0, .int .u8 0, .int .u8 0, .int .u8 0, .int .u8 0, .int .u8 0, .int .u8 0, .int .u8 0] 33) = w2 at *
    go_loopw [0] (fun v wr => ∃ k : Nat, l.length + k ≤ 64 ∧ v = .string (tx (l ++ List.replicate k 0)) ∧ wr = w2) (fun v _ => match v with | .string s => 64 - s.size | _ => 0)
    case atStart => exact ⟨0, by omega, by simp, rfl⟩
    case round =>
      obtain ⟨k, hk, rfl, rfl⟩ := hrel
      have hAl : (l ++ List.replicate k (0 : UInt8)).length = l.length + k := by simp
      by_cases hkz : l.length + k < 64
      · have hnx : l ++ List.replicate k (0 : UInt8) ++ [0] = l ++ List.replicate (k + 1) 0 := by rw [List.append_assoc, ← List.replicate_succ']
        obtain ⟨A, hA⟩ : ∃ A, l ++ List.replicate k (0 : UInt8) = A := ⟨_, rfl⟩
        rw [hA] at hAl hnx ⊢
        have gA : (A.length : Int) < 64 := by omega
        have gAl : A.length + 1 ≤ 9223372036854775807 := by omega
        have HNX := keep hnx
        have hA1 : A.length ≤ l.length + k := by omega
        have hA2 : l.length + k ≤ A.length := by omega
        clear hA hnx hAl
        go_wp2_with fail
        rw [HNX.out]
        go_roundw
        case rel => exact ⟨k + 1, by omega, rfl, trivial⟩
        case measure => simp [tx_size]; omega
      · have hfk := HFK.out
        rw [show 64 - l.length = k by omega] at hfk
        rw [hfk]
        have hkl := fk_length l
        generalize fk l = k at *
        have hkl1 : k.length ≤ 64 := by omega
        have hkl2 : ¬ (k.length : Int) < 64 := by omega
        clear hAl hfk hkl HFK
        go_wp2_with fail
        refine Calls.mono (show Calls Try.prog 48 #[.string (tx k), .int .u8 92] _ _ from with_any k 92 (by omega) _) ?_
        rintro e w2 ⟨rfl, hb2⟩
        have hr2 := hr1.kept hb2
        have hB2 := hB1.trans (hb2.mono hB1.size)
        clear hb2
        have hYl : (xb k 92).length ≤ 64 := by rw [xb_length]; omega
        obtain ⟨Y, hY⟩ : ∃ Y, xb k 92 = Y := ⟨_, rfl⟩
        rw [hY] at hm hYl ⊢
        clear hY
        go_wp2_with fail
        refine Calls.mono (show Calls Try.prog 48 #[.string (tx k), .int .u8 54] _ _ from with_any k 54 (by omega) _) ?_
        rintro e w3 ⟨rfl, hb3⟩
        have hr3 := hr2.kept hb3
        have hB3 := hB2.trans (hb3.mono hB2.size)
        clear hb3 hr2 hB2
        have hZl : (xb k 54).length ≤ 64 := by rw [xb_length]; omega
        obtain ⟨Z, hZ⟩ : ∃ Z, xb k 54 = Z := ⟨_, rfl⟩
        rw [hZ] at hm hZl ⊢
        clear hZ
        have g1 : Z.length + s.length ≤ 9223372036854775807 := by omega
        have hZs : (Z ++ s).length ≤ 800064 := by rw [List.length_append]; omega
        obtain ⟨ZS, hZS⟩ : ∃ ZS, Z ++ s = ZS := ⟨_, rfl⟩
        rw [hZS] at hm hZs
        have HZS := keep hZS
        clear hZS
        go_wp2_with fail
        rw [HZS.out]
        refine (rsum_any ZS (by omega) _).mono ?_
        rintro e w4 ⟨rfl, hb4⟩
        have hr4 := hr3.kept hb4
        have hB4 := hB3.trans (hb4.mono hB3.size)
        clear hb4 hr3 hB3
        go_wp2_with fail
        refine (text_any (shaf ZS) _).mono ?_
        rintro e w5 ⟨rfl, hb5⟩
        have hr5 := hr4.kept hb5
        have hB5 := hB4.trans (hb5.mono hB4.size)
        clear hb5 hr4 hB4
        have hXl : (tl 32 (shaf ZS)).length ≤ 32 := by rw [tl_length]; omega
        obtain ⟨X, hX⟩ : ∃ X, tl 32 (shaf ZS) = X := ⟨_, rfl⟩
        rw [hX] at hm hXl ⊢
        have g2 : Y.length + X.length ≤ 9223372036854775807 := by omega
        have hYX : (Y ++ X).length ≤ 100 := by rw [List.length_append]; omega
        obtain ⟨YX, hYXe⟩ : ∃ YX, Y ++ X = YX := ⟨_, rfl⟩
        rw [hYXe] at hm hYX
        have HYX := keep hYXe
        have HM := keep hm
        clear hX hYXe hm
        go_wp2_with fail
        rw [HYX.out]
        refine (rsum_any YX (by omega) _).mono ?_
        rintro e w6 ⟨rfl, hb6⟩
        have hr6 := hr5.kept hb6
        have hB6 := hB5.trans (hb6.mono hB5.size)
        clear hb6 hr5 hB5
        go_wp2_with (refine wpList_store_row rfl 33 (.tmp 4) (.tmp 25) rfl w.heap.size (b8 32 (shaf YX)) rfl rfl 33 _ hr6 (by kernel_rfl) (by unfold b8; rw [arr_size]; rfl) (arr_one _ _ fun i => rfl) ?_)
        refine bodyPost_ret (results_c rfl _ _ w.heap.size 33 _ _ _ rfl (hr6.setRow (b8 32 (shaf YX))) Try.underlying33 (by kernel_rfl)) rfl ?_
        exact ⟨by rw [HM.out], below_row hB6 (Nat.le_refl _) _⟩

end Go.Proofs.Ytbfgnlckmpnchaa

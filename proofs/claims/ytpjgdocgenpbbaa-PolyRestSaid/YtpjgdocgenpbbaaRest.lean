/-
  poly: Rest: a number's rest by 2 to the 130, less 5.
-/
import Derived.Test.YtpjgdocgenpbbaaNum
namespace Go.Proofs.Ytpjgdocgenpbbaa
open Go.RowKit
def fold (v : Nat) : Nat := v % 1361129467683753853853498429727072845824 + 5 * (v / 1361129467683753853853498429727072845824)
theorem fold_two (v : Nat) (h : v < 6277101735386680763835789423207666416102355444464034512896) : fold (fold v) < 1361129467683753853853498429727072845824 ∧ fold (fold v) % pr = v % pr := by
  unfold fold pr
  omega
structure RR (N : Nat) (w wr : World) (x y z : UInt64) : Prop where
  h0 : ∃ cs, Blk wr (N + 1) 30 cs ∧ cs.size = 3
  h1 : Blk wr (N + 1 + 1) 41 (n3 x y z)
  bel : Below N w wr
theorem RR.size {N : Nat} {w wr : World} {x y z : UInt64} (h : RR N w wr x y z) : N + 1 + 1 < wr.heap.size := h.h1.lt
theorem RR.many {N : Nat} {w wr : World} {x y z : UInt64} (h : RR N w wr x y z) (n : Nat) : RR N w (wr.drewN n) x y z := ⟨h.h0, h.h1, ⟨h.bel.os, h.bel.tape, h.bel.output, h.bel.size, h.bel.block⟩⟩
theorem rest_any (a b c : UInt64) (w : World) : Calls Try.prog 12 #[.agg (n3 a b c)] w fun e w' => ∃ x y z, e = .returned (.agg (n3 x y z)) ∧ V3 x y z = V3 a b c % pr ∧ Below w.heap.size w w' := by
  have hA : RR w.heap.size w (((w.alloc (.cells (n3 a b c) 30)).alloc (.cells (n3 0 0 0) 30)).alloc (.cells (n3 a b c) 41)) a b c :=
    ⟨⟨_, (madeA w _ 30 _).alloc _, rfl⟩, madeB w _ _ 41 _, belowC _ _ _ _⟩
  go_enter Try.func12, Try.ntmps12
  unfold n3
  go_wp2_with fail
  generalize hN : w.heap.size = N at *
  go_loopw [9] (fun t wr => ∃ j : Nat, j ≤ 2 ∧ t = .int .i64 j ∧ ∃ x y z, V3 x y z = Nat.repeat fold j (V3 a b c) ∧ RR N w wr x y z) (fun t _ => 2 - (intOf t).toNat)
  case atStart => exact ⟨0, Nat.zero_le _, rfl, a, b, c, rfl, hA⟩
  case round =>
    obtain ⟨j, hj, rfl, x, y, z, hV, hR⟩ := hrel
    clear hA
    have hs := hR.size
    have c0 : wr.cell? ⟨N + 1 + 1, 0, none⟩ = some (v64 x) := hR.h1.at_ (i := 0) rfl
    have c1 : wr.cell? ⟨N + 1 + 1, 1, none⟩ = some (v64 y) := hR.h1.at_ (i := 1) rfl
    have c2 : wr.cell? ⟨N + 1 + 1, 2, none⟩ = some (v64 z) := hR.h1.at_ (i := 2) rfl
    by_cases h4 : j < 2
    · have g4 : (j : Int) < 2 := by omega
      go_wp2_with fail
      go_quiet (fail)
      have hR2 := hR.many nq
      clear hR c0 c1 c2
      generalize wr.drewN nq = w2 at *
      have c0 : w2.cell? ⟨N + 1 + 1, 0, none⟩ = some (v64 x) := hR2.h1.at_ (i := 0) rfl
      have c1 : w2.cell? ⟨N + 1 + 1, 1, none⟩ = some (v64 y) := hR2.h1.at_ (i := 1) rfl
      have c2 : w2.cell? ⟨N + 1 + 1, 2, none⟩ = some (v64 z) := hR2.h1.at_ (i := 2) rfl
      go_wp2_with fail
      refine Calls.mono (show Calls Try.prog 20 #[v64 (shr64 z 2), v64 5] _ _ from mul64_any (shr64 z 2) 5 _) ?_
      rintro e w3 ⟨hi, lo, rfl, hm, rfl⟩
      go_wp2_with fail
      refine Calls.mono (show Calls Try.prog 17 #[.agg (n3 x y (z &&& 3)), .agg (n3 lo hi 0)] _ _ from plus_any x y (z &&& 3) lo hi 0 _) ?_
      rintro e w3 ⟨x', y', z', rfl, hp, hb⟩
      have hV' : V3 x' y' z' = Nat.repeat fold (j + 1) (V3 a b c) := by
        have e1 : (shr64 z 2).toNat = z.toNat / 2 ^ 2 := shr_nat z 2 2 rfl (by omega)
        have e2 : (z &&& 3).toNat = z.toNat % 2 ^ 2 := and_nat z 3 2 rfl
        have e5 : (5 : UInt64).toNat = 5 := rfl
        have e0 : (0 : UInt64).toNat = 0 := rfl
        have hx := x.toNat_lt; have hy := y.toNat_lt; have hz := z.toNat_lt
        have hlo := lo.toNat_lt; have hhi := hi.toNat_lt
        show _ = fold (Nat.repeat fold j (V3 a b c))
        rw [← hV, hp]
        rw [e1, e5] at hm
        have hq : V3 x y z / 1361129467683753853853498429727072845824 = z.toNat / 4 := by unfold V3; omega
        have hr : V3 x y z % 1361129467683753853853498429727072845824 = x.toNat + 18446744073709551616 * y.toNat + 340282366920938463463374607431768211456 * (z.toNat % 4) := by unfold V3; omega
        unfold fold
        rw [hq, hr]
        have hl : V3 lo hi 0 = z.toNat / 4 * 5 := by unfold V3; rw [e0]; omega
        have hl2 : V3 x y (z &&& 3) = x.toNat + 18446744073709551616 * y.toNat + 340282366920938463463374607431768211456 * (z.toNat % 4) := by unfold V3; rw [e2]
        rw [hl, hl2, Nat.mod_eq_of_lt (by omega)]
        omega
      have hR3 : RR N w (w3.setRow (N + 1 + 1) (n3 x' y' z')) x' y' z' := by
        have hs2 := hR2.size
        obtain ⟨⟨cs, h0, h00⟩, h1, hbel⟩ := hR2
        exact ⟨⟨cs, (h0.kept hb).otherRow (by omega) _, h00⟩, (h1.kept hb).setRow _, below_row (hbel.trans (hb.mono (by omega))) (by omega) _⟩
      have hcur := hR2.h1.kept hb
      have HV := keep hV'
      clear hV' hp hm hV hR2 c0 c1 c2 hb
      go_wp2_with (refine wpList_store_row rfl 41 (.tmp 3) (.tmp 31) rfl (N + 1 + 1) (n3 x' y' z') rfl rfl 41 _ hcur (by kernel_rfl) (by rfl) (n3_one _ _ _) ?_)
      go_roundw
      case rel => exact ⟨j + 1, by omega, by go_num, x', y', z', HV.out, hR3⟩
      case measure => simp [intOf]; omega
    · have g4 : ¬ (j : Int) < 2 := by omega
      have e4 : j = 2 := by omega
      rw [e4] at hV
      have hf := fold_two (V3 a b c) (V3_lt a b c)
      have hV2 : V3 x y z = fold (fold (V3 a b c)) := hV
      rw [← hV2] at hf
      have HF := keep hf
      clear e4 hj hV hV2 hf
      obtain ⟨⟨cs, h0, h00⟩, h1, hbel⟩ := hR
      go_wp2_with (refine wpList_load_row rfl 41 (.tmp 3) rfl (N + 1 + 1) rfl 41 (n3 x y z) (0, 0) _ h1 Try.underlying41 rfl (by kernel_rfl) ?_)
      refine (less5_any x y z _ HF.out.1).mono ?_
      rintro e w3 ⟨x', y', z', rfl, hp, hb⟩
      have HP := keep (hp.trans HF.out.2)
      have h03 := h0.kept hb
      have hbel3 := hbel.trans (hb.mono (by omega))
      clear hp hb h1 h0 c0 c1 c2
      go_wp2_with (refine wpList_store_row rfl 30 (.tmp 2) (.tmp 34) rfl (N + 1) (n3 x' y' z') rfl rfl 30 cs h03 (by kernel_rfl) (by rw [h00]; rfl) (n3_one _ _ _) ?_)
      refine bodyPost_ret (results_c rfl _ _ (N + 1) 30 _ _ _ rfl (h03.setRow (n3 x' y' z')) Try.underlying30 (by kernel_rfl)) rfl ?_
      exact ⟨x', y', z', rfl, HP.out, by rw [hN]; exact below_row hbel3 (by omega) _⟩
end Go.Proofs.Ytpjgdocgenpbbaa

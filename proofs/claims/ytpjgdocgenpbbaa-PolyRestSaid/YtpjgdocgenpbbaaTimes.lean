/-
  poly: times: a number times a number of two words, folded once (written by wip/tools/times04.py).
-/
import Derived.Test.YtpjgdocgenpbbaaAdd
namespace Go.Proofs.Ytpjgdocgenpbbaa
open Go.RowKit
def px (x : Nat → UInt64) : Nat → Nat
  | 0 => 0
  | i + 1 => px x i + pw i * (x i).toNat
theorem pw_add (i j : Nat) : pw (i + j) = pw i * pw j := by
  induction j with
  | zero => simp [pw]
  | succ j ih => rw [← Nat.add_assoc]; simp only [pw, ih]; rw [Nat.mul_left_comm]
def w3 (a b c : UInt64) : Nat → UInt64 := fun i => if i = 0 then a else if i = 1 then b else c
def w2 (a b : UInt64) : Nat → UInt64 := fun i => if i = 0 then a else b
theorem px_w3 (a b c : UInt64) : px (w3 a b c) 3 = V3 a b c := by simp [px, w3, pw, V3]
def V2 (a b : UInt64) : Nat := a.toNat + 18446744073709551616 * b.toNat
theorem px_w2 (a b : UInt64) : px (w2 a b) 2 = V2 a b := by simp [px, w2, pw, V2]
structure TR (N : Nat) (w wr : World) (x r f : Nat → UInt64) : Prop where
  hx : Blk wr N 41 (uarr 3 x)
  hr : Blk wr (N + 1) 40 (uarr 2 r)
  h0 : Blk wr (N + 1 + 1) 41 (n3 0 0 0)
  ht : Blk wr (N + 1 + 1 + 1) 52 (uarr 4 f)
  bel : Below N w wr
theorem TR.keeps {N : Nat} {w wr w' : World} {x r f f' : Nat → UInt64} (h : TR N w wr x r f) (hk : Keeps [N + 1 + 1 + 1] wr w') (ht : Blk w' (N + 1 + 1 + 1) 52 (uarr 4 f')) : TR N w w' x r f' :=
  ⟨hk.blk h.hx (by simp; omega), hk.blk h.hr (by simp), hk.blk h.h0 (by simp), ht, h.bel.trans (hk.toBelow (by have := h.hx.lt; omega) (by simp; omega))⟩
theorem fold_split (f : Nat → UInt64) (h0 h1 : UInt64) (e0 : h0.toNat = (f 2).toNat / 4 + (f 3).toNat % 4 * 4611686018427387904) (e1 : h1.toNat = (f 3).toNat / 4) (l : UInt64) (el : l.toNat = (f 2).toNat % 4) :
    V3 (f 0) (f 1) l + 5 * V3 h0 h1 0 = fold (V4 f) ∧ V3 (f 0) (f 1) l < 1361129467683753853853498429727072845824 ∧ V3 h0 h1 0 < 170141183460469231731687303715884105728 := by
  have b0 := (f 0).toNat_lt; have b1 := (f 1).toNat_lt; have b2 := (f 2).toNat_lt; have b3 := (f 3).toNat_lt
  have ez : (0 : UInt64).toNat = 0 := rfl
  have hq : V4 f / 1361129467683753853853498429727072845824 = (f 2).toNat / 4 + 4611686018427387904 * (f 3).toNat := by unfold V4; omega
  have hr : V4 f % 1361129467683753853853498429727072845824 = (f 0).toNat + 18446744073709551616 * (f 1).toNat + 340282366920938463463374607431768211456 * ((f 2).toNat % 4) := by unfold V4; omega
  have hl : V3 (f 0) (f 1) l = (f 0).toNat + 18446744073709551616 * (f 1).toNat + 340282366920938463463374607431768211456 * ((f 2).toNat % 4) := by unfold V3; rw [el]
  have hh : V3 h0 h1 0 = (f 2).toNat / 4 + 4611686018427387904 * (f 3).toNat := by unfold V3; rw [e0, e1, ez]; omega
  refine ⟨?_, ?_, ?_⟩
  · unfold fold; rw [hq, hr, hl, hh]
  · rw [hl]; omega
  · rw [hh]; omega
theorem or62 (a b : UInt64) : ((shr64 a 2) ||| (shl64 b 62)).toNat = a.toNat / 4 + b.toNat % 4 * 4611686018427387904 := by
  have h1 : (shr64 a 2).toNat = a.toNat / 2 ^ 2 := shr_nat a 2 2 rfl (by omega)
  have h2 : (shl64 b 62).toNat = 2 ^ 62 * (b.toNat % 4) := by
    unfold shl64
    have : (62 : UInt64) < 64 := by decide
    rw [if_pos this, UInt64.toNat_shiftLeft, Nat.shiftLeft_eq]
    have e : (62 : UInt64).toNat % 64 = 62 := rfl
    rw [e]
    omega
  have ha := a.toNat_lt
  rw [UInt64.toNat_or, h1, h2, Nat.or_comm, ← Nat.two_pow_add_eq_or_of_lt (by omega)]
  omega
structure LR (N M : Nat) (w wr : World) (h0 h1 x y z : UInt64) : Prop where
  k0 : Blk wr (N + 1 + 1) 41 (n3 0 0 0)
  h1 : Blk wr M 41 (n3 h0 h1 0)
  h2 : Blk wr (M + 1) 41 (n3 x y z)
  bel : Below N w wr
  lt : N + 1 + 1 < M
theorem LR.step {N M : Nat} {w wr w' : World} {h0 h1 x y z : UInt64} (h : LR N M w wr h0 h1 x y z) (hb : Below wr.heap.size wr w') (x' y' z' : UInt64) : LR N M w (w'.setRow (M + 1) (n3 x' y' z')) h0 h1 x' y' z' :=
  ⟨(h.k0.kept hb).otherRow (by have := h.lt; omega) _, (h.h1.kept hb).otherRow (by omega) _, (h.h2.kept hb).setRow _, below_row (h.bel.trans (hb.mono (by have := h.k0.lt; omega))) (by have := h.lt; omega) _, h.lt⟩
set_option maxHeartbeats 1000000 in
theorem times_any (a b c r0 r1 : UInt64) (w : World) : Calls Try.prog 19 #[.agg (n3 a b c), .agg #[v64 r0, v64 r1]] w fun e w' => ∃ x y z, e = .returned (.agg (n3 x y z)) ∧
    V3 x y z = fold (V3 a b c * V2 r0 r1 % 115792089237316195423570985008687907853269984665640564039457584007913129639936) ∧ Below w.heap.size w w' := by
  have hA : TR w.heap.size w ((((w.alloc (.cells (n3 a b c) 41)).alloc (.cells #[v64 r0, v64 r1] 40)).alloc (.cells (n3 0 0 0) 41)).alloc (.cells (uarr 4 fun _ => 0) 52)) (w3 a b c) (w2 r0 r1) (fun _ => 0) :=
    ⟨(((Blk.made w 41 _).alloc _).alloc _).alloc _, ((madeA w _ 40 _).alloc _).alloc _, (madeB w _ _ 41 _).alloc _, by
      have := Blk.made (((w.alloc (.cells (n3 a b c) 41)).alloc (.cells #[v64 r0, v64 r1] 40)).alloc (.cells (n3 0 0 0) 41)) 52 (uarr 4 fun _ => 0)
      simpa using this, (belowC _ _ _ _).alloc (by simp; omega) _⟩
  have hR := px_w2 r0 r1
  have hX := px_w3 a b c
  obtain ⟨X, hXd⟩ : ∃ x, x = w3 a b c := ⟨_, rfl⟩
  obtain ⟨R, hRd⟩ : ∃ r, r = w2 r0 r1 := ⟨_, rfl⟩
  rw [← hXd] at hA hX
  rw [← hRd] at hA hR
  have HX := keep hX
  have HR := keep hR
  clear hX hR hXd hRd
  go_enter Try.func19, Try.ntmps19
  unfold n3
  go_wp2_with fail
  generalize hN : w.heap.size = N at *
  go_loopw [11] (fun z wr => ∃ (i : Nat) (f : Nat → UInt64) (e : Nat), i ≤ 3 ∧ z = .int .i64 i ∧ Hid (V4 f + pw 4 * e = px X i * px R 2) ∧ TR N w wr X R f) (fun z _ => 3 - (intOf z).toNat)
  case atStart => exact ⟨0, fun _ => 0, 0, Nat.zero_le _, rfl, keep (by simp [V4, px]), hA⟩
  case round =>
    obtain ⟨i, f, e, hi, rfl, HV, hR⟩ := hrel
    clear hA
    by_cases h4 : i < 3
    · have g4 : (i : Int) < 3 := by omega
      go_wp2_with fail
      have hB : Hid (V4 f + pw 4 * e = px X i * px R 2 + pw i * (X i).toNat * px R 0) := keep (by rw [HV.out]; simp [px])
      go_loopw [14] (fun z wr => ∃ (j : Nat) (f : Nat → UInt64) (e : Nat), j ≤ 2 ∧ z = .int .i64 j ∧ Hid (V4 f + pw 4 * e = px X i * px R 2 + pw i * (X i).toNat * px R j) ∧ TR N w wr X R f) (fun z _ => 2 - (intOf z).toNat)
      case atStart => exact ⟨0, f, e, Nat.zero_le _, rfl, hB, hR⟩
      case round =>
        obtain ⟨j, f2, e2, hj, rfl, HV2, hR2⟩ := hrel
        clear hR hB HV
        by_cases h5 : j < 2
        · have g5 : (j : Int) < 2 := by omega
          have g6 : (i : Int) + j < 4 := by omega
          have c1 := hR2.hx.at_ (uarr_get X h4)
          have c2 := hR2.hr.at_ (uarr_get R h5)
          go_wp2_with fail
          refine Mixed.wp_region (fun _ => True) [(1, 0), (1, 1), (1, 2), (1, 3), (1, 4), (1, 5), (1, 6), (1, 7), (1, 8), (2, 9)] (by kernel_rfl) (by kernel_rfl) trivial ?_
          refine Mixed.reads (k := 1) (.inr ⟨rfl, rfl⟩) _ [0, 1, 2, 3, 4, 5, 6, 7, 8] _ (by kernel_rfl) ?_
          simp only [List.filterMap_cons, List.filterMap_nil, List.getElem?_toArray, List.getElem?_cons_zero, List.getElem?_cons_succ]
          show wpQuiet _ _ _ _ [_, _, _, _, _, _, _, _, _] _
          iterate 9 go_big_quiet_step (fail)
          refine wpQuiet_nil ?_
          refine Mixed.effect (i := 9) rfl rfl ?_
          intro Q hQ
          go_wp2_with fail
          rw [show (i : Int) + j = ((i + j : Nat) : Int) by omega]
          refine (add_any (N + 1 + 1 + 1) (i + j) (by omega) (X i) (R j) f2 _ hR2.ht.drew).mono ?_
          rintro e3 w3 ⟨rfl, f3, hA3, c3, hV3⟩
          have hf := hR2.keeps ((Keeps.refl _ _).drew.trans hA3.k) hA3.h
          have HV3 : Hid (V4 f3 + pw 4 * (e2 + c3) = px X i * px R 2 + pw i * (X i).toNat * px R (j + 1)) := keep (by
            have h1 := HV2.out
            rw [pw_add] at hV3
            have hpx : px R (j + 1) = px R j + pw j * (R j).toNat := rfl
            rw [hpx, Nat.mul_add (pw i * (X i).toNat), ← Nat.add_assoc (px X i * px R 2), ← h1, Nat.mul_add (pw 4)]
            rw [show pw i * (X i).toNat * (pw j * (R j).toNat) = pw i * pw j * ((X i).toNat * (R j).toNat) by simp only [Nat.mul_assoc, Nat.mul_left_comm]]
            omega)
          clear hR2 hA3 hV3 HV2 c1 c2
          go_wp2_with fail
          refine hQ _ _ trivial ?_
          clear hQ
          unfold Mixed.HL
          go_wp2_with fail
          go_roundw
          case rel => exact ⟨j + 1, f3, e2 + c3, by omega, by go_num, HV3, hf⟩
          case measure => simp [intOf]; omega
        · have g5 : ¬ (j : Int) < 2 := by omega
          have e4 : j = 2 := by omega
          subst e4
          have HV3 : Hid (V4 f2 + pw 4 * e2 = px X (i + 1) * px R 2) := keep (by
            have hpx : px X (i + 1) = px X i + pw i * (X i).toNat := rfl
            rw [HV2.out, hpx, Nat.add_mul])
          clear HV2
          go_wp2_with fail
          go_roundw
          case rel => exact ⟨i + 1, f2, e2, by omega, by go_num, HV3, hR2⟩
          case measure => simp [intOf]; omega
    · have g4 : ¬ (i : Int) < 3 := by omega
      have e4 : i = 3 := by omega
      subst e4
      have hV4 : V4 f = V3 a b c * V2 r0 r1 % 115792089237316195423570985008687907853269984665640564039457584007913129639936 := by
        have h1 := HV.out
        rw [HX.out, HR.out] at h1
        have h2 : pw 4 = 115792089237316195423570985008687907853269984665640564039457584007913129639936 := by simp [pw]
        have b0 := (f 0).toNat_lt; have b1 := (f 1).toNat_lt; have b2 := (f 2).toNat_lt; have b3 := (f 3).toNat_lt
        rw [h2] at h1
        rw [← h1, Nat.add_mul_mod_self_left, Nat.mod_eq_of_lt]
        unfold V4; omega
      obtain ⟨l, hl⟩ : ∃ l, f 2 &&& 3 = l := ⟨_, rfl⟩
      obtain ⟨h0, hh0⟩ : ∃ h, (shr64 (f 2) 2) ||| (shl64 (f 3) 62) = h := ⟨_, rfl⟩
      obtain ⟨h1, hh1⟩ : ∃ h, shr64 (f 3) 2 = h := ⟨_, rfl⟩
      have hF := fold_split f h0 h1 (by rw [← hh0]; exact or62 _ _) (by rw [← hh1]; exact shr_nat (f 3) 2 2 rfl (by omega)) l (by rw [← hl]; exact and_nat (f 2) 3 2 rfl)
      rw [hV4] at hF
      have HF := keep hF
      clear hF hV4 HV
      have c0 : wr.cell? ⟨N + 1 + 1 + 1, 0, none⟩ = some (v64 (f 0)) := hR.ht.at_ (uarr_get f (by omega))
      have c1 : wr.cell? ⟨N + 1 + 1 + 1, 1, none⟩ = some (v64 (f 1)) := hR.ht.at_ (uarr_get f (by omega))
      have c2 : wr.cell? ⟨N + 1 + 1 + 1, 2, none⟩ = some (v64 (f 2)) := hR.ht.at_ (uarr_get f (by omega))
      have c3 : wr.cell? ⟨N + 1 + 1 + 1, 3, none⟩ = some (v64 (f 3)) := hR.ht.at_ (uarr_get f (by omega))
      have hb := hR.ht.lt
      go_wp2_with fail
      have hB : Below N w (((wr.alloc (.cells (n3 (f 0) (f 1) l) 41)).alloc (.cells (n3 h0 h1 0) 41)).alloc (.cells (n3 (f 0) (f 1) l) 41)) := hR.bel.trans ((belowC wr _ _ _).mono (by omega))
      have k0 : Blk (((wr.alloc (.cells (n3 (f 0) (f 1) l) 41)).alloc (.cells (n3 h0 h1 0) 41)).alloc (.cells (n3 (f 0) (f 1) l) 41)) (N + 1 + 1) 41 (n3 0 0 0) := ((hR.h0.alloc _).alloc _).alloc _
      have k1 : Blk (((wr.alloc (.cells (n3 (f 0) (f 1) l) 41)).alloc (.cells (n3 h0 h1 0) 41)).alloc (.cells (n3 (f 0) (f 1) l) 41)) (wr.heap.size + 1) 41 (n3 h0 h1 0) := (madeA wr _ 41 _).alloc _
      have k2 : Blk (((wr.alloc (.cells (n3 (f 0) (f 1) l) 41)).alloc (.cells (n3 h0 h1 0) 41)).alloc (.cells (n3 (f 0) (f 1) l) 41)) (wr.heap.size + 1 + 1) 41 (n3 (f 0) (f 1) l) := madeB wr _ _ 41 _
      have hA : ∃ x y z, V3 x y z = V3 (f 0) (f 1) l + 0 * V3 h0 h1 0 ∧ LR N (wr.heap.size + 1) w _ h0 h1 x y z := ⟨f 0, f 1, l, by simp, k0, k1, k2, hB, by omega⟩
      clear hR c0 c1 c2 c3 k0 k1 k2 hB
      generalize wr.heap.size + 1 = M at *
      go_loopw [53] (fun t wr => ∃ j : Nat, j ≤ 5 ∧ t = .int .i64 j ∧ ∃ x y z, V3 x y z = V3 (f 0) (f 1) l + j * V3 h0 h1 0 ∧ LR N M w wr h0 h1 x y z) (fun t _ => 5 - (intOf t).toNat)
      case atStart => exact ⟨0, Nat.zero_le _, rfl, hA⟩
      case round =>
        obtain ⟨j, hj, rfl, x, y, z, hV, hR⟩ := hrel
        clear hA
        by_cases h5 : j < 5
        · have g5 : (j : Int) < 5 := by omega
          have hs := hR.h2.lt
          go_wp2_with (first
            | (refine wpList_load_row rfl 41 (.tmp 10) rfl (M + 1) rfl 41 (n3 x y z) (0, 0) _ hR.h2 Try.underlying41 rfl (by kernel_rfl) ?_)
            | (refine wpList_load_row rfl 41 (.tmp 9) rfl M rfl 41 (n3 h0 h1 0) (0, 0) _ hR.h1 Try.underlying41 rfl (by kernel_rfl) ?_))
          refine (plus_any x y z h0 h1 0 _).mono ?_
          rintro e w3 ⟨x', y', z', rfl, hp, hb⟩
          have hV' : V3 x' y' z' = V3 (f 0) (f 1) l + (j + 1) * V3 h0 h1 0 := by
            have h3 := HF.out.2.1
            have h4 := HF.out.2.2
            have hmul : j * V3 h0 h1 0 ≤ 5 * V3 h0 h1 0 := Nat.mul_le_mul_right _ (by omega)
            rw [hp, hV, Nat.mod_eq_of_lt (by omega), Nat.add_mul, Nat.one_mul, Nat.add_assoc]
          have hf := hR.step hb x' y' z'
          have hcur := hR.h2.kept hb
          have HV := keep hV'
          clear hV' hp hV hR hb
          go_wp2_with (refine wpList_store_row rfl 41 (.tmp 10) (.tmp 57) rfl (M + 1) (n3 x' y' z') rfl rfl 41 _ hcur (by kernel_rfl) (by rfl) (n3_one _ _ _) ?_)
          go_roundw
          case rel => exact ⟨j + 1, by omega, by go_num, x', y', z', HV.out, hf⟩
          case measure => simp [intOf]; omega
        · have g5 : ¬ (j : Int) < 5 := by omega
          have e5 : j = 5 := by omega
          rw [e5, HF.out.1] at hV
          have HV := keep hV
          clear e5 hj hV
          obtain ⟨k0, k1, k2, hbel, hlt⟩ := hR
          go_wp2_with (first
            | (refine wpList_load_row rfl 41 (.tmp 10) rfl (M + 1) rfl 41 (n3 x y z) (0, 0) _ k2 Try.underlying41 rfl (by kernel_rfl) ?_)
            | (refine wpList_store_row rfl 41 (.tmp 4) (.tmp 59) rfl (N + 1 + 1) (n3 x y z) rfl rfl 41 _ k0 (by kernel_rfl) (by rfl) (n3_one _ _ _) ?_))
          refine bodyPost_ret (results_c rfl _ _ (N + 1 + 1) 41 _ _ _ rfl (k0.setRow (n3 x y z)) Try.underlying41 (by kernel_rfl)) rfl ?_
          exact ⟨x, y, z, rfl, HV.out, below_row hbel (by omega) _⟩
end Go.Proofs.Ytpjgdocgenpbbaa

/-
  poly: add: a product of two words is added to four words at a place, with carry (written by wip/tools/add04.py).
-/
import Derived.Test.YtpjgdocgenpbbaaOf
import Derived.Test.YtpjgdocgenpbbaaMixed
namespace Go.Proofs.Ytpjgdocgenpbbaa
open Go.RowKit
def V4 (f : Nat → UInt64) : Nat := (f 0).toNat + 18446744073709551616 * (f 1).toNat + 340282366920938463463374607431768211456 * (f 2).toNat + 6277101735386680763835789423207666416102355444464034512896 * (f 3).toNat
def pw : Nat → Nat
  | 0 => 1
  | i + 1 => 18446744073709551616 * pw i
def setu (f : Nat → UInt64) (j : Nat) (x : UInt64) : Nat → UInt64 := fun i => if i = j then x else f i
def uarr (n : Nat) (f : Nat → UInt64) : Array Value := arr n fun i => v64 (f i)
theorem uarr_set (n : Nat) (f : Nat → UInt64) (j : Nat) (x : UInt64) : (uarr n f).setIfInBounds j (v64 x) = uarr n (setu f j x) := by
  unfold uarr
  rw [arr_set]
  refine arr_congr fun i _ => ?_
  unfold setu
  by_cases h : i = j <;> simp [h]
theorem uarr_get {n : Nat} (f : Nat → UInt64) {i : Nat} (h : i < n) : (uarr n f)[i]? = some (v64 (f i)) := arr_get _ h
theorem V4_set (f : Nat → UInt64) (j : Nat) (x : UInt64) (hj : j < 4) : V4 (setu f j x) + pw j * (f j).toNat = V4 f + pw j * x.toNat := by
  have h : j = 0 ∨ j = 1 ∨ j = 2 ∨ j = 3 := by omega
  rcases h with rfl | rfl | rfl | rfl <;> simp [V4, setu, pw] <;> omega
structure AR (p : Nat) (w wr : World) (f : Nat → UInt64) : Prop where
  h : Blk wr p 52 (uarr 4 f)
  k : Keeps [p] w wr
theorem AR.set {p : Nat} {w wr : World} {f : Nat → UInt64} (h : AR p w wr f) (j : Nat) (x : UInt64) : AR p w (wr.drew.setCell ⟨p, j, none⟩ (v64 x)) (setu f j x) :=
  ⟨by have := h.h.drew.set j (v64 x); rwa [uarr_set] at this, h.k.drew.setCell (by simp) _⟩

set_option maxHeartbeats 1000000 in
theorem add_any (p at_ : Nat) (hat : at_ < 4) (x y : UInt64) (f : Nat → UInt64) (w : World) (hp : Blk w p 52 (uarr 4 f)) :
    Calls Try.prog 26 #[.pointer (some ⟨p, 0, none⟩), .int .i64 at_, v64 x, v64 y] w fun e w' => e = .returned (.tuple #[]) ∧ ∃ f', AR p w w' f' ∧ ∃ c, V4 f' + pw 4 * c = V4 f + pw at_ * (x.toNat * y.toNat) := by
  have hA : AR p w w f := ⟨hp, Keeps.refl _ _⟩
  have g0 : (at_ : Int) < 4 := by omega
  go_enter Try.func26, Try.ntmps26
  go_wp2_with fail
  refine (mul64_any x y w).mono ?_
  rintro e w1 ⟨hi, lo, rfl, hm, rfl⟩
  obtain ⟨s, d, hadd, hsd, hd⟩ := add64_0 (f at_) lo
  have c1 := hA.h.at_ (uarr_get f hat)
  have f1 := hA.h.free at_
  have HM := keep hm
  have HSD := keep hsd
  clear hm hsd hp
  go_wp2_with fail
  refine Mixed.wp_region (fun w' => ∃ u, w' = mix [p] w u) [(0, 0), (0, 1), (1, 2), (1, 3), (1, 4), (1, 5), (1, 6), (1, 7), (0, 12), (2, 8), (1, 9), (1, 10), (0, 11), (1, 13), (2, 14), (1, 15)] (by kernel_rfl) (by kernel_rfl) (Mx.drew0 _ _) ?_
  refine Mixed.reads (k := 0) (.inl ⟨rfl, rfl⟩) _ [0, 1] _ (by kernel_rfl) ?_
  simp only [List.filterMap_cons, List.filterMap_nil, List.getElem?_toArray, List.getElem?_cons_zero, List.getElem?_cons_succ]
  show wpQuiet _ _ _ _ [_, _] _
  iterate 2 go_big_quiet_step (fail)
  refine wpQuiet_nil ?_
  refine Mixed.reads (k := 1) (.inr ⟨rfl, rfl⟩) _ [2, 3, 4, 5, 6, 7] _ (by kernel_rfl) ?_
  simp only [List.filterMap_cons, List.filterMap_nil, List.getElem?_toArray, List.getElem?_cons_zero, List.getElem?_cons_succ]
  show wpQuiet _ _ _ _ [_, _, _, _, _, _] _
  iterate 6 go_big_quiet_step (fail)
  refine wpQuiet_nil ?_
  refine Mixed.reads (k := 0) (.inl ⟨rfl, rfl⟩) _ [12] _ (by kernel_rfl) ?_
  simp only [List.filterMap_cons, List.filterMap_nil, List.getElem?_toArray, List.getElem?_cons_zero, List.getElem?_cons_succ]
  show wpQuiet _ _ _ _ [_] _
  iterate 1 go_big_quiet_step (fail)
  refine wpQuiet_nil ?_
  refine Mixed.effect (i := 8) rfl rfl ?_
  intro Q hQ
  go_wp2_with fail
  refine hQ _ _ (Mx.drew0 _ _) ?_
  clear hQ
  refine Mixed.reads (k := 1) (.inr ⟨rfl, rfl⟩) _ [9, 10] _ (by kernel_rfl) ?_
  simp only [List.filterMap_cons, List.filterMap_nil, List.getElem?_toArray, List.getElem?_cons_zero, List.getElem?_cons_succ]
  show wpQuiet _ _ _ _ [_, _] _
  iterate 2 go_big_quiet_step (fail)
  refine wpQuiet_nil ?_
  refine Mixed.reads (k := 0) (.inl ⟨rfl, rfl⟩) _ [11] _ (by kernel_rfl) ?_
  simp only [List.filterMap_cons, List.filterMap_nil, List.getElem?_toArray, List.getElem?_cons_zero, List.getElem?_cons_succ]
  show wpQuiet _ _ _ _ [_] _
  iterate 1 go_big_quiet_step (fail)
  refine wpQuiet_nil ?_
  refine Mixed.reads (k := 1) (.inr ⟨rfl, rfl⟩) _ [13] _ (by kernel_rfl) ?_
  simp only [List.filterMap_cons, List.filterMap_nil, List.getElem?_toArray, List.getElem?_cons_zero, List.getElem?_cons_succ]
  show wpQuiet _ _ _ _ [_] _
  iterate 1 go_big_quiet_step (fail)
  refine wpQuiet_nil ?_
  refine Mixed.effect (i := 14) rfl rfl ?_
  intro Q hQ
  go_wp2_with fail
  have hB := hA.set at_ s
  refine hQ _ _ (Mx.of hB.k) ?_
  clear hQ hA c1 f1 hadd
  refine Mixed.reads (k := 1) (.inr ⟨rfl, rfl⟩) _ [15] _ (by kernel_rfl) ?_
  simp only [List.filterMap_cons, List.filterMap_nil, List.getElem?_toArray, List.getElem?_cons_zero, List.getElem?_cons_succ]
  show wpQuiet _ _ _ _ [_] _
  iterate 1 go_big_quiet_step (fail)
  refine wpQuiet_nil ?_
  unfold Mixed.HL
  have hI : ∃ g, V4 g + pw (at_ + 1) * (hi.toNat + d.toNat) = V4 f + pw at_ * (x.toNat * y.toNat) ∧ AR p w (w.drew.setCell ⟨p, at_, none⟩ (v64 s)) g := by
    refine ⟨_, ?_, hB⟩
    have h1 := V4_set f at_ s hat
    have h2 := HSD.out
    have h3 := HM.out
    rw [← h3]
    simp only [pw]
    have h4 : pw at_ * (s.toNat + 18446744073709551616 * d.toNat) = pw at_ * ((f at_).toNat + lo.toNat) := by rw [h2]
    simp only [Nat.mul_add] at h4 ⊢
    rw [Nat.mul_left_comm (pw at_) 18446744073709551616 d.toNat] at h4
    rw [Nat.mul_left_comm (pw at_) 18446744073709551616 hi.toNat, Nat.mul_assoc, Nat.mul_assoc]
    omega
  clear hB HM HSD
  go_wp2_with fail
  obtain ⟨g1, hV1, hB1⟩ := hI
  have HT := keep hV1
  clear hV1
  go_loopw [11, 8, 10] (fun z u t wr => ∃ (i : Nat) (h c : UInt64) (g : Nat → UInt64), i ≤ 4 ∧ z = .int .i64 i ∧ u = v64 h ∧ t = v64 c ∧ c.toNat ≤ 1 ∧ Hid (V4 g + pw i * (h.toNat + c.toNat) = V4 f + pw at_ * (x.toNat * y.toNat)) ∧ AR p w wr g) (fun z _ _ _ => 4 - (intOf z).toNat)
  case atStart => exact ⟨at_ + 1, hi, d, g1, by omega, by go_num, rfl, rfl, hd, HT, hB1⟩
  case round =>
    obtain ⟨i, h, c, g, hi4, rfl, rfl, rfl, hc, HV, hR⟩ := hrel
    clear HT hB1 hd
    by_cases h4 : i < 4
    · have g4 : (i : Int) < 4 := by omega
      obtain ⟨s2, d2, hadd, hsd, hd⟩ := add64_v (g i) h c hc
      have c1 := hR.h.at_ (uarr_get g h4)
      have f1 := hR.h.free i
      have hV2 : V4 (setu g i s2) + pw (i + 1) * ((0 : UInt64).toNat + d2.toNat) = V4 f + pw at_ * (x.toNat * y.toNat) := by
        have h1 := V4_set g i s2 h4
        have h2 := HV.out
        have h0 : (0 : UInt64).toNat = 0 := rfl
        rw [← h2, h0, Nat.zero_add]
        simp only [pw]
        have h4' : pw i * (s2.toNat + 18446744073709551616 * d2.toNat) = pw i * ((g i).toNat + h.toNat + c.toNat) := by rw [hsd]
        simp only [Nat.mul_add] at h4' ⊢
        rw [Nat.mul_left_comm (pw i) 18446744073709551616 d2.toNat] at h4'
        rw [Nat.mul_assoc]
        omega
      have HV2 := keep hV2
      clear hsd hV2
      go_wp2_with fail
      refine Mixed.wp_region (fun w' => ∃ u, w' = mix [p] wr u) [(0, 0), (0, 1), (1, 2), (1, 3), (1, 4), (1, 5), (1, 6), (1, 7), (1, 8), (0, 13), (2, 9), (1, 10), (1, 11), (0, 12), (1, 14), (2, 15), (1, 16)] (by kernel_rfl) (by kernel_rfl) (Mx.drew0 _ _) ?_
      refine Mixed.reads (k := 0) (.inl ⟨rfl, rfl⟩) _ [0, 1] _ (by kernel_rfl) ?_
      simp only [List.filterMap_cons, List.filterMap_nil, List.getElem?_toArray, List.getElem?_cons_zero, List.getElem?_cons_succ]
      show wpQuiet _ _ _ _ [_, _] _
      iterate 2 go_big_quiet_step (fail)
      refine wpQuiet_nil ?_
      refine Mixed.reads (k := 1) (.inr ⟨rfl, rfl⟩) _ [2, 3, 4, 5, 6, 7, 8] _ (by kernel_rfl) ?_
      simp only [List.filterMap_cons, List.filterMap_nil, List.getElem?_toArray, List.getElem?_cons_zero, List.getElem?_cons_succ]
      show wpQuiet _ _ _ _ [_, _, _, _, _, _, _] _
      iterate 7 go_big_quiet_step (fail)
      refine wpQuiet_nil ?_
      refine Mixed.reads (k := 0) (.inl ⟨rfl, rfl⟩) _ [13] _ (by kernel_rfl) ?_
      simp only [List.filterMap_cons, List.filterMap_nil, List.getElem?_toArray, List.getElem?_cons_zero, List.getElem?_cons_succ]
      show wpQuiet _ _ _ _ [_] _
      iterate 1 go_big_quiet_step (fail)
      refine wpQuiet_nil ?_
      refine Mixed.effect (i := 9) rfl rfl ?_
      intro Q hQ
      go_wp2_with fail
      refine hQ _ _ (Mx.drew0 _ _) ?_
      clear hQ
      refine Mixed.reads (k := 1) (.inr ⟨rfl, rfl⟩) _ [10, 11] _ (by kernel_rfl) ?_
      simp only [List.filterMap_cons, List.filterMap_nil, List.getElem?_toArray, List.getElem?_cons_zero, List.getElem?_cons_succ]
      show wpQuiet _ _ _ _ [_, _] _
      iterate 2 go_big_quiet_step (fail)
      refine wpQuiet_nil ?_
      refine Mixed.reads (k := 0) (.inl ⟨rfl, rfl⟩) _ [12] _ (by kernel_rfl) ?_
      simp only [List.filterMap_cons, List.filterMap_nil, List.getElem?_toArray, List.getElem?_cons_zero, List.getElem?_cons_succ]
      show wpQuiet _ _ _ _ [_] _
      iterate 1 go_big_quiet_step (fail)
      refine wpQuiet_nil ?_
      refine Mixed.reads (k := 1) (.inr ⟨rfl, rfl⟩) _ [14] _ (by kernel_rfl) ?_
      simp only [List.filterMap_cons, List.filterMap_nil, List.getElem?_toArray, List.getElem?_cons_zero, List.getElem?_cons_succ]
      show wpQuiet _ _ _ _ [_] _
      iterate 1 go_big_quiet_step (fail)
      refine wpQuiet_nil ?_
      refine Mixed.effect (i := 15) rfl rfl ?_
      intro Q hQ
      go_wp2_with fail
      have hB := hR.set i s2
      refine hQ _ _ (Mx.of ((Keeps.refl [p] wr).drew.setCell (p := ⟨p, i, none⟩) (by simp) (v64 s2))) ?_
      clear hQ hR c1 f1 hadd
      refine Mixed.reads (k := 1) (.inr ⟨rfl, rfl⟩) _ [16] _ (by kernel_rfl) ?_
      simp only [List.filterMap_cons, List.filterMap_nil, List.getElem?_toArray, List.getElem?_cons_zero, List.getElem?_cons_succ]
      show wpQuiet _ _ _ _ [_] _
      iterate 1 go_big_quiet_step (fail)
      refine wpQuiet_nil ?_
      unfold Mixed.HL
      go_wp2_with fail
      go_roundw
      case rel => exact ⟨i + 1, 0, d2, setu g i s2, by omega, by go_num, rfl, rfl, hd, HV2, hB⟩
      case measure => simp [intOf]; omega
    · have g4 : ¬ (i : Int) < 4 := by omega
      have e4 : i = 4 := by omega
      subst e4
      go_wp2_with fail
      go_end0
      exact ⟨rfl, g, hR, _, HV.out⟩
end Go.Proofs.Ytpjgdocgenpbbaa

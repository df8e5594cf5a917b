/-
  ShaWhole: of a square, or a cube, nothing stands behind the point of its root: the walk of the law.
-/
import Derived.Test.YtbfgnlckmpnchaaAwake
namespace Go.Proofs.Ytbfgnlckmpnchaa
open Go.RowKit
set_option linter.unusedVariables false
set_option linter.unusedSimpArgs false
theorem sq_root (x : Nat) (h : x < 32) : rootf (x * x) 2 = 0 := by
  have hh : ∀ i : Fin 32, rootf (i.val * i.val) 2 = 0 := by decide +kernel
  exact hh ⟨x, h⟩
theorem cube_root (x : Nat) (h : x < 11) : rootf (x * x * x) 3 = 0 := by
  have hh : ∀ i : Fin 11, rootf (i.val * i.val * i.val) 3 = 0 := by decide +kernel
  exact hh ⟨x, h⟩
theorem more_root (x : Nat) (h : 2 ≤ x) (h' : x ≤ 30) : (0 : UInt32) < rootf (x * x + 1) 2 := by
  have hh : ∀ i : Fin 31, 2 ≤ i.val → (0 : UInt32) < rootf (i.val * i.val + 1) 2 := by decide +kernel
  exact hh ⟨x, by omega⟩ h
set_option maxHeartbeats 4000000 in
theorem whole_walk (n : UInt8) (w : World) : Calls Try.prog 6 #[v8 n] w fun e w' => e = .returned (.bool true) ∧ Below w.heap.size w w' := by
  obtain ⟨x, hx⟩ : ∃ x, n.toNat % 32 = x := ⟨_, rfl⟩
  obtain ⟨y, hy⟩ : ∃ y, n.toNat % 11 = y := ⟨_, rfl⟩
  have hx32 : x < 32 := by omega
  have hy11 : y < 11 := by omega
  have hxi : ((n.toNat : Int) % 32) = (x : Int) := by omega
  have hyi : ((n.toNat : Int) % 11) = (y : Int) := by omega
  have h1 := sq_root x hx32
  have h2 := cube_root y hy11
  have h3 := more_root x
  obtain ⟨q, hq⟩ : ∃ q, x * x = q := ⟨_, rfl⟩
  obtain ⟨r, hr⟩ : ∃ r, y * y = r := ⟨_, rfl⟩
  rw [hr] at h2
  obtain ⟨s, hs⟩ : ∃ s, r * y = s := ⟨_, rfl⟩
  rw [hq] at h1 h3
  rw [hs] at h2
  have hq961 : q ≤ 961 := by rw [← hq]; exact Nat.mul_le_mul (show x ≤ 31 by omega) (show x ≤ 31 by omega)
  have hr100 : r ≤ 100 := by rw [← hr]; exact Nat.mul_le_mul (show y ≤ 10 by omega) (show y ≤ 10 by omega)
  have hs1000 : s ≤ 1000 := by rw [← hs]; exact Nat.mul_le_mul hr100 (show y ≤ 10 by omega)
  have hqi : ((x : Int) * (x : Int)) = (q : Int) := by rw [← hq]; exact (Int.natCast_mul _ _).symm
  have hri : ((y : Int) * (y : Int)) = (r : Int) := by rw [← hr]; exact (Int.natCast_mul _ _).symm
  have hsi : ((r : Int) * (y : Int)) = (s : Int) := by rw [← hs]; exact (Int.natCast_mul _ _).symm
  have H1 := keep h1
  have H2 := keep h2
  have H3 := keep h3
  clear hx hy h1 h2 h3 hq hr hs
  by_cases c2 : x < 2
  · have g2 : (x : Int) < 2 := by omega
    go_enter Try.func6, Try.ntmps6
    go_wp2_with fail
    refine (awake_any _).mono ?_; rintro e w1 ⟨rfl, hb1⟩
    go_wp2_with fail
    refine Calls.mono (show Calls Try.prog 19 #[.int .i64 (q : Int), .int .i64 2] _ _ from root_any q 2 (by omega) (by omega) _) ?_
    rintro e w2 ⟨rfl, hb2⟩
    rw [H1.out]
    go_wp2_with fail
    refine Calls.mono (show Calls Try.prog 19 #[.int .i64 (s : Int), .int .i64 3] _ _ from root_any s 3 (by omega) (by omega) _) ?_
    rintro e w3 ⟨rfl, hb3⟩
    rw [H2.out]
    go_wp2_with fail
    go_ret
    exact ⟨rfl, (hb1.trans (hb2.mono hb1.size)).trans (hb3.mono (hb1.trans (hb2.mono hb1.size)).size)⟩
  · have g2 : ¬ (x : Int) < 2 := by omega
    by_cases c30 : 30 < x
    · have g30 : (30 : Int) < (x : Int) := by omega
      go_enter Try.func6, Try.ntmps6
      go_wp2_with fail
      refine (awake_any _).mono ?_; rintro e w1 ⟨rfl, hb1⟩
      go_wp2_with fail
      refine Calls.mono (show Calls Try.prog 19 #[.int .i64 (q : Int), .int .i64 2] _ _ from root_any q 2 (by omega) (by omega) _) ?_
      rintro e w2 ⟨rfl, hb2⟩
      rw [H1.out]
      go_wp2_with fail
      refine Calls.mono (show Calls Try.prog 19 #[.int .i64 (s : Int), .int .i64 3] _ _ from root_any s 3 (by omega) (by omega) _) ?_
      rintro e w3 ⟨rfl, hb3⟩
      rw [H2.out]
      go_wp2_with fail
      go_ret
      exact ⟨rfl, (hb1.trans (hb2.mono hb1.size)).trans (hb3.mono (hb1.trans (hb2.mono hb1.size)).size)⟩
    · have g30 : ¬ (30 : Int) < (x : Int) := by omega
      have h3 := H3.out (by omega) (by omega)
      obtain ⟨z, hz⟩ : ∃ z, rootf (q + 1) 2 = z := ⟨_, rfl⟩
      rw [hz] at h3
      have hd : decide ((0 : UInt32) < z) = true := by simp [h3]
      have HZ := keep hz
      clear hz h3
      go_enter Try.func6, Try.ntmps6
      go_wp2_with fail
      refine (awake_any _).mono ?_; rintro e w1 ⟨rfl, hb1⟩
      go_wp2_with fail
      refine Calls.mono (show Calls Try.prog 19 #[.int .i64 (q : Int), .int .i64 2] _ _ from root_any q 2 (by omega) (by omega) _) ?_
      rintro e w2 ⟨rfl, hb2⟩
      rw [H1.out]
      go_wp2_with fail
      refine Calls.mono (show Calls Try.prog 19 #[.int .i64 (s : Int), .int .i64 3] _ _ from root_any s 3 (by omega) (by omega) _) ?_
      rintro e w3 ⟨rfl, hb3⟩
      rw [H2.out]
      have hb13 := (hb1.trans (hb2.mono hb1.size)).trans (hb3.mono (hb1.trans (hb2.mono hb1.size)).size)
      go_wp2_with fail
      refine Calls.mono (show Calls Try.prog 19 #[.int .i64 ((q : Int) + 1), .int .i64 2] _ _ from root_any (q + 1) 2 (by omega) (by omega) _) ?_
      rintro e w4 ⟨rfl, hb4⟩
      rw [HZ.out]
      go_wp2_with fail
      go_ret
      exact ⟨rfl, hb13.trans (hb4.mono hb13.size)⟩
end Go.Proofs.Ytbfgnlckmpnchaa

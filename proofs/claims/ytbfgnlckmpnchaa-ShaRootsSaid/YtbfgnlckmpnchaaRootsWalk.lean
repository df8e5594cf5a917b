/-
  ShaRoots: primes and roots are the document's: the walk of the law (written by wip/tools/sha_roots.py).
-/
import Derived.Test.YtbfgnlckmpnchaaAwake
import Derived.Test.YtbfgnlckmpnchaaRRoot
import Derived.Deep.QuietTactic
import Derived.BigQuiet
namespace Go.Proofs.Ytbfgnlckmpnchaa
open Go.RowKit
set_option linter.unusedVariables false
set_option linter.unusedSimpArgs false
set_option maxHeartbeats 4000000 in
theorem roots_walk (n p : Int) (w : World) : Calls Try.prog 4 #[.int .i64 n, .int .i64 p] w fun e w' => e = .returned (.bool true) ∧ Below w.heap.size w w' := by
  by_cases n0 : n < 0
  · have HNO : Hid (n < 0 ∨ 1000 < n ∨ (p ≠ 2 ∧ p ≠ 3)) := keep (.inl n0)
    go_enter Try.func4, Try.ntmps4
    go_wp2_with fail
    refine (awake_any _).mono ?_
    rintro e w1 ⟨rfl, hB1⟩
    go_wp2_with fail
    refine (primes_none n (by omega) _).mono ?_
    rintro e w2 ⟨rfl, rfl⟩
    go_wp2_with fail
    refine (root_none n p HNO.out _).mono ?_
    rintro e wa ⟨rfl, rfl⟩
    go_wp2_with fail
    go_ret
    exact ⟨rfl, hB1⟩
  · by_cases n1000 : 1000 < n
    · have HNO : Hid (n < 0 ∨ 1000 < n ∨ (p ≠ 2 ∧ p ≠ 3)) := keep (.inr (.inl n1000))
      have n100 : 100 < n := by omega
      go_enter Try.func4, Try.ntmps4
      go_wp2_with fail
      refine (awake_any _).mono ?_
      rintro e w1 ⟨rfl, hB1⟩
      go_wp2_with fail
      refine (primes_none n (by omega) _).mono ?_
      rintro e w2 ⟨rfl, rfl⟩
      go_wp2_with fail
      refine (root_none n p HNO.out _).mono ?_
      rintro e wa ⟨rfl, rfl⟩
      go_wp2_with fail
      go_ret
      exact ⟨rfl, hB1⟩
    · obtain ⟨m, rfl⟩ : ∃ m : Nat, n = (m : Int) := ⟨n.toNat, by omega⟩
      by_cases n100 : (100 : Int) < (m : Int)
      · by_cases p2 : p = 2
        · subst p2
          go_enter Try.func4, Try.ntmps4
          go_wp2_with fail
          refine (awake_any _).mono ?_
          rintro e w1 ⟨rfl, hB1⟩
          go_wp2_with fail
          refine (primes_none (m : Int) (by omega) _).mono ?_
          rintro e w2 ⟨rfl, rfl⟩
          go_wp2_with fail
          refine Calls.mono (show Calls Try.prog 19 #[.int .i64 (m : Int), .int .i64 2] _ _ from root_any m 2 (by omega) (by omega) _) ?_
          rintro e wa ⟨rfl, hba⟩
          have hBa := hB1.trans (hba.mono hB1.size)
          clear hba
          go_wp2_with fail
          refine Calls.mono (show Calls Try.prog 20 #[.int .i64 (m : Int), .int .i64 2] _ _ from rroot_any m 2 (by omega) (by omega) _) ?_
          rintro e wb ⟨rfl, hbb⟩
          have hBb := hBa.trans (hbb.mono hBa.size)
          clear hbb
          go_wp2_with fail
          go_ret
          exact ⟨rfl, hBb⟩
        · by_cases p3 : p = 3
          · subst p3
            go_enter Try.func4, Try.ntmps4
            go_wp2_with fail
            refine (awake_any _).mono ?_
            rintro e w1 ⟨rfl, hB1⟩
            go_wp2_with fail
            refine (primes_none (m : Int) (by omega) _).mono ?_
            rintro e w2 ⟨rfl, rfl⟩
            go_wp2_with fail
            refine Calls.mono (show Calls Try.prog 19 #[.int .i64 (m : Int), .int .i64 3] _ _ from root_any m 3 (by omega) (by omega) _) ?_
            rintro e wa ⟨rfl, hba⟩
            have hBa := hB1.trans (hba.mono hB1.size)
            clear hba
            go_wp2_with fail
            refine Calls.mono (show Calls Try.prog 20 #[.int .i64 (m : Int), .int .i64 3] _ _ from rroot_any m 3 (by omega) (by omega) _) ?_
            rintro e wb ⟨rfl, hbb⟩
            have hBb := hBa.trans (hbb.mono hBa.size)
            clear hbb
            go_wp2_with fail
            go_ret
            exact ⟨rfl, hBb⟩
          · have HNO : Hid ((m : Int) < 0 ∨ 1000 < (m : Int) ∨ (p ≠ 2 ∧ p ≠ 3)) := keep (.inr (.inr ⟨p2, p3⟩))
            have d2 : (p != 2) = true := by simp [p2]
            have d3 : (p != 3) = true := by simp [p3]
            go_enter Try.func4, Try.ntmps4
            go_wp2_with fail
            refine (awake_any _).mono ?_
            rintro e w1 ⟨rfl, hB1⟩
            go_wp2_with fail
            refine (primes_none (m : Int) (by omega) _).mono ?_
            rintro e w2 ⟨rfl, rfl⟩
            go_wp2_with fail
            refine (root_none (m : Int) p HNO.out _).mono ?_
            rintro e wa ⟨rfl, rfl⟩
            go_wp2_with fail
            go_ret
            exact ⟨rfl, hB1⟩
      · by_cases p2 : p = 2
        · subst p2
          go_enter Try.func4, Try.ntmps4
          go_wp2_with fail
          refine (awake_any _).mono ?_
          rintro e w1 ⟨rfl, hB1⟩
          go_wp2_with fail
          refine (primes_any m (by omega) _).mono ?_
          rintro e w2 ⟨v2, rfl, hO2, hb2⟩
          have hB2 := hB1.trans (hb2.mono hB1.size)
          have hN2 : Nums w2 v2 (primes m) := hO2.mono (Nat.zero_le _)
          obtain ⟨a2, c2, rfl, hc21, hc22⟩ := hN2.formN (primes_length (n := m) (by omega))
          clear hO2 hb2 hB1
          go_wp2_with fail
          refine (rprimes_any m (by omega) _).mono ?_
          rintro e w3 ⟨v3, rfl, hO3, hb3⟩
          have hB3 := hB2.trans (hb3.mono hB2.size)
          have hN3 : Nums w3 v3 (primes m) := hO3.mono (Nat.zero_le _)
          obtain ⟨a3, c3, rfl, hc31, hc32⟩ := hN3.formN (primes_length (n := m) (by omega))
          have hN23 : Nums w3 (.slice a2 m c2) (primes m) := Own.below hN2 hb3
          clear hO3 hb3 hN2 hB2
          go_wp2_with fail
          go_loopw [7] (fun z wr => ∃ i : Nat, i ≤ m ∧ z = .int .i64 i ∧ Nums wr (.slice a2 m c2) (primes m) ∧ Nums wr (.slice a3 m c3) (primes m) ∧ Below w.heap.size w wr) (fun z _ => m - (intOf z).toNat)
          case atStart => exact ⟨0, Nat.zero_le _, rfl, hN23, hN3, hB3⟩
          case round =>
            clear hN23 hN3 hB3
            obtain ⟨i, hi, rfl, hN2, hN3, hB⟩ := hrel
            by_cases him : i < m
            · have gim : (i : Int) < (m : Int) := by omega
              obtain ⟨g2, o2, rfl, hg2, cl2⟩ := hN2.at_ (by rw [primes_length (by omega)]; exact him)
              obtain ⟨g3, o3, rfl, hg3, cl3⟩ := hN3.at_ (by rw [primes_length (by omega)]; exact him)
              unfold nv at cl2 cl3
              have hmm : ((m : Int) != (m : Int)) = false := by simp
              have hdd : ((dg (primes m) i : Int) != (dg (primes m) i : Int)) = false := by simp
              go_wp2_with fail
              go_quiet (fail)
              have hN2' : Nums (wr.drewN nq) (.slice (some ⟨g2, o2, none⟩) m c2) (primes m) := hN2
              have hN3' : Nums (wr.drewN nq) (.slice (some ⟨g3, o3, none⟩) m c3) (primes m) := hN3
              have hB' := below_many hB nq
              clear hN2 hN3 hB cl2 cl3
              go_wp2_with fail
              go_roundw
              case rel => exact ⟨i + 1, by omega, by go_num, hN2', hN3', hB'⟩
              case measure => simp [intOf]; omega
            · have gim : ¬ (i : Int) < (m : Int) := by omega
              clear hN2 hN3
              go_wp2_with fail
              refine Calls.mono (show Calls Try.prog 19 #[.int .i64 (m : Int), .int .i64 2] _ _ from root_any m 2 (by omega) (by omega) _) ?_
              rintro e wa ⟨rfl, hba⟩
              have hBa := hB.trans (hba.mono hB.size)
              clear hba
              go_wp2_with fail
              refine Calls.mono (show Calls Try.prog 20 #[.int .i64 (m : Int), .int .i64 2] _ _ from rroot_any m 2 (by omega) (by omega) _) ?_
              rintro e wb ⟨rfl, hbb⟩
              have hBb := hBa.trans (hbb.mono hBa.size)
              clear hbb
              go_wp2_with fail
              go_ret
              exact ⟨rfl, hBb⟩
        · by_cases p3 : p = 3
          · subst p3
            go_enter Try.func4, Try.ntmps4
            go_wp2_with fail
            refine (awake_any _).mono ?_
            rintro e w1 ⟨rfl, hB1⟩
            go_wp2_with fail
            refine (primes_any m (by omega) _).mono ?_
            rintro e w2 ⟨v2, rfl, hO2, hb2⟩
            have hB2 := hB1.trans (hb2.mono hB1.size)
            have hN2 : Nums w2 v2 (primes m) := hO2.mono (Nat.zero_le _)
            obtain ⟨a2, c2, rfl, hc21, hc22⟩ := hN2.formN (primes_length (n := m) (by omega))
            clear hO2 hb2 hB1
            go_wp2_with fail
            refine (rprimes_any m (by omega) _).mono ?_
            rintro e w3 ⟨v3, rfl, hO3, hb3⟩
            have hB3 := hB2.trans (hb3.mono hB2.size)
            have hN3 : Nums w3 v3 (primes m) := hO3.mono (Nat.zero_le _)
            obtain ⟨a3, c3, rfl, hc31, hc32⟩ := hN3.formN (primes_length (n := m) (by omega))
            have hN23 : Nums w3 (.slice a2 m c2) (primes m) := Own.below hN2 hb3
            clear hO3 hb3 hN2 hB2
            go_wp2_with fail
            go_loopw [7] (fun z wr => ∃ i : Nat, i ≤ m ∧ z = .int .i64 i ∧ Nums wr (.slice a2 m c2) (primes m) ∧ Nums wr (.slice a3 m c3) (primes m) ∧ Below w.heap.size w wr) (fun z _ => m - (intOf z).toNat)
            case atStart => exact ⟨0, Nat.zero_le _, rfl, hN23, hN3, hB3⟩
            case round =>
              clear hN23 hN3 hB3
              obtain ⟨i, hi, rfl, hN2, hN3, hB⟩ := hrel
              by_cases him : i < m
              · have gim : (i : Int) < (m : Int) := by omega
                obtain ⟨g2, o2, rfl, hg2, cl2⟩ := hN2.at_ (by rw [primes_length (by omega)]; exact him)
                obtain ⟨g3, o3, rfl, hg3, cl3⟩ := hN3.at_ (by rw [primes_length (by omega)]; exact him)
                unfold nv at cl2 cl3
                have hmm : ((m : Int) != (m : Int)) = false := by simp
                have hdd : ((dg (primes m) i : Int) != (dg (primes m) i : Int)) = false := by simp
                go_wp2_with fail
                go_quiet (fail)
                have hN2' : Nums (wr.drewN nq) (.slice (some ⟨g2, o2, none⟩) m c2) (primes m) := hN2
                have hN3' : Nums (wr.drewN nq) (.slice (some ⟨g3, o3, none⟩) m c3) (primes m) := hN3
                have hB' := below_many hB nq
                clear hN2 hN3 hB cl2 cl3
                go_wp2_with fail
                go_roundw
                case rel => exact ⟨i + 1, by omega, by go_num, hN2', hN3', hB'⟩
                case measure => simp [intOf]; omega
              · have gim : ¬ (i : Int) < (m : Int) := by omega
                clear hN2 hN3
                go_wp2_with fail
                refine Calls.mono (show Calls Try.prog 19 #[.int .i64 (m : Int), .int .i64 3] _ _ from root_any m 3 (by omega) (by omega) _) ?_
                rintro e wa ⟨rfl, hba⟩
                have hBa := hB.trans (hba.mono hB.size)
                clear hba
                go_wp2_with fail
                refine Calls.mono (show Calls Try.prog 20 #[.int .i64 (m : Int), .int .i64 3] _ _ from rroot_any m 3 (by omega) (by omega) _) ?_
                rintro e wb ⟨rfl, hbb⟩
                have hBb := hBa.trans (hbb.mono hBa.size)
                clear hbb
                go_wp2_with fail
                go_ret
                exact ⟨rfl, hBb⟩
          · have HNO : Hid ((m : Int) < 0 ∨ 1000 < (m : Int) ∨ (p ≠ 2 ∧ p ≠ 3)) := keep (.inr (.inr ⟨p2, p3⟩))
            have d2 : (p != 2) = true := by simp [p2]
            have d3 : (p != 3) = true := by simp [p3]
            go_enter Try.func4, Try.ntmps4
            go_wp2_with fail
            refine (awake_any _).mono ?_
            rintro e w1 ⟨rfl, hB1⟩
            go_wp2_with fail
            refine (primes_any m (by omega) _).mono ?_
            rintro e w2 ⟨v2, rfl, hO2, hb2⟩
            have hB2 := hB1.trans (hb2.mono hB1.size)
            have hN2 : Nums w2 v2 (primes m) := hO2.mono (Nat.zero_le _)
            obtain ⟨a2, c2, rfl, hc21, hc22⟩ := hN2.formN (primes_length (n := m) (by omega))
            clear hO2 hb2 hB1
            go_wp2_with fail
            refine (rprimes_any m (by omega) _).mono ?_
            rintro e w3 ⟨v3, rfl, hO3, hb3⟩
            have hB3 := hB2.trans (hb3.mono hB2.size)
            have hN3 : Nums w3 v3 (primes m) := hO3.mono (Nat.zero_le _)
            obtain ⟨a3, c3, rfl, hc31, hc32⟩ := hN3.formN (primes_length (n := m) (by omega))
            have hN23 : Nums w3 (.slice a2 m c2) (primes m) := Own.below hN2 hb3
            clear hO3 hb3 hN2 hB2
            go_wp2_with fail
            go_loopw [7] (fun z wr => ∃ i : Nat, i ≤ m ∧ z = .int .i64 i ∧ Nums wr (.slice a2 m c2) (primes m) ∧ Nums wr (.slice a3 m c3) (primes m) ∧ Below w.heap.size w wr) (fun z _ => m - (intOf z).toNat)
            case atStart => exact ⟨0, Nat.zero_le _, rfl, hN23, hN3, hB3⟩
            case round =>
              clear hN23 hN3 hB3
              obtain ⟨i, hi, rfl, hN2, hN3, hB⟩ := hrel
              by_cases him : i < m
              · have gim : (i : Int) < (m : Int) := by omega
                obtain ⟨g2, o2, rfl, hg2, cl2⟩ := hN2.at_ (by rw [primes_length (by omega)]; exact him)
                obtain ⟨g3, o3, rfl, hg3, cl3⟩ := hN3.at_ (by rw [primes_length (by omega)]; exact him)
                unfold nv at cl2 cl3
                have hmm : ((m : Int) != (m : Int)) = false := by simp
                have hdd : ((dg (primes m) i : Int) != (dg (primes m) i : Int)) = false := by simp
                go_wp2_with fail
                go_quiet (fail)
                have hN2' : Nums (wr.drewN nq) (.slice (some ⟨g2, o2, none⟩) m c2) (primes m) := hN2
                have hN3' : Nums (wr.drewN nq) (.slice (some ⟨g3, o3, none⟩) m c3) (primes m) := hN3
                have hB' := below_many hB nq
                clear hN2 hN3 hB cl2 cl3
                go_wp2_with fail
                go_roundw
                case rel => exact ⟨i + 1, by omega, by go_num, hN2', hN3', hB'⟩
                case measure => simp [intOf]; omega
              · have gim : ¬ (i : Int) < (m : Int) := by omega
                clear hN2 hN3
                go_wp2_with fail
                refine (root_none (m : Int) p HNO.out _).mono ?_
                rintro e wa ⟨rfl, rfl⟩
                go_wp2_with fail
                go_ret
                exact ⟨rfl, hB⟩

end Go.Proofs.Ytbfgnlckmpnchaa

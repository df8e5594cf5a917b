/-
  ShaPrimes: primes rise; none is divided by another one, and each number between is: the walk of the law.
-/
import Derived.Test.YtbfgnlckmpnchaaAwake
namespace Go.Proofs.Ytbfgnlckmpnchaa
open Go.RowKit
set_option linter.unusedVariables false
set_option linter.unusedSimpArgs false
/-- The last of the first n primes. -/
theorem prs_is_take {x n : Nat} (hx : x ≤ 542) (h : (prs x).length ≤ n) : prs x = (primes n).take (prs x).length := by
  unfold primes
  rw [List.take_take, Nat.min_eq_left h]
  exact List.prefix_iff_eq_take.1 (prs_le hx)
theorem primes_sorted (i j : Nat) (h : i < j) (hj : j < 100) : dg (primes 100) i < dg (primes 100) j := by
  have hh : ∀ i : Fin 99, dg (primes 100) i.val < dg (primes 100) (i.val + 1) := by decide +kernel
  induction j with
  | zero => omega
  | succ j ih =>
    have h1 := hh ⟨j, by omega⟩
    by_cases e : i = j
    · subst e; exact h1
    · exact Nat.lt_trans (ih (by omega) (by omega)) h1
theorem dg_primes {n i : Nat} (hi : i < n) (hn : n ≤ 100) : dg (primes n) i = dg (primes 100) i := by
  unfold primes dg
  simp [List.getElem?_take_of_lt hi, List.getElem?_take_of_lt (show i < 100 by omega)]
/-- While not all of the first n are below x, the next one is x itself, or above. -/
theorem next_prime {x n : Nat} (hx : 2 ≤ x) (hn : n ≤ 100) (h : (prs x).length < n) : x ≤ dg (primes n) (prs x).length ∧ (dg (primes n) (prs x).length = x ↔ isP x = true) ∧ dg (primes n) (prs x).length < 542 := by
  have hx5 := prs_short h hn
  have hpre := prs_le (show x ≤ 542 by omega)
  obtain ⟨t, ht⟩ := hpre
  have hlen := prs_542
  have hk : dg (primes n) (prs x).length = dg (prs 542) (prs x).length := by
    unfold primes dg
    simp [List.getElem?_take_of_lt h]
  have hlt : (prs x).length < (prs 542).length := by omega
  have hmem : dg (prs 542) (prs x).length ∈ prs 542 := by rw [← dg_eq hlt]; exact List.getElem_mem hlt
  obtain ⟨m1, m2, m3⟩ := prs_mem hmem
  have hge : x ≤ dg (prs 542) (prs x).length := by
    apply Nat.le_of_not_lt
    intro hlt2
    have hin : dg (prs 542) (prs x).length ∈ prs x := List.mem_filter.2 ⟨List.mem_range.2 hlt2, m3⟩
    obtain ⟨i, hi, hie⟩ := List.getElem_of_mem hin
    have h1 : dg (prs 542) i = dg (prs 542) (prs x).length := by
      rw [← hie]
      conv => lhs; rw [← ht]
      unfold dg
      simp [List.getElem?_append_left hi, hi]
    have h2 := primes_sorted i (prs x).length hi (by omega)
    have h3 : primes 100 = prs 542 := by unfold primes; rw [List.take_of_length_le (by omega)]
    rw [h3] at h2
    omega
  rw [hk]
  refine ⟨hge, ⟨fun e => by rw [← e]; exact m3, fun hp => ?_⟩, m1⟩
  have hs := prs_succ x
  rw [hp, if_pos rfl] at hs
  have hpre2 := prs_le (show x + 1 ≤ 542 by omega)
  obtain ⟨t2, ht2⟩ := hpre2
  rw [hs] at ht2
  rw [← ht2]
  unfold dg
  simp
set_option maxRecDepth 100000 in
set_option maxHeartbeats 8000000 in
theorem primes_walk (n : UInt8) (w : World) : Calls Try.prog 5 #[v8 n] w fun e w' => e = .returned (.bool true) ∧ Below w.heap.size w w' := by
  obtain ⟨k, hk⟩ : ∃ k, n.toNat % 101 = k := ⟨_, rfl⟩
  have hk100 : k ≤ 100 := by omega
  have hki : ((n.toNat : Int) % 101) = (k : Int) := by omega
  have hpl := primes_length hk100
  have HPL := keep hpl
  clear hk hpl
  go_enter Try.func5, Try.ntmps5
  go_wp2_with fail
  refine (awake_any _).mono ?_; rintro e w1 ⟨rfl, hb1⟩
  go_wp2_with fail
  refine (primes_any k hk100 _).mono ?_; rintro e w2 ⟨v2, rfl, hO, hb2⟩
  have hB := hb1.trans (hb2.mono hb1.size)
  have hN : Nums w2 v2 (primes k) := hO.mono (Nat.zero_le _)
  obtain ⟨a, c, rfl, hc1, hc2⟩ := hN.formN HPL.out
  clear hO hb1 hb2
  go_wp2_with fail
  go_loop [4, 5] (fun az z => ∃ x : Nat, 2 ≤ x ∧ x ≤ 542 ∧ z = .int .i64 x ∧ (prs x).length ≤ k ∧ az = .int .i64 ((prs x).length : Int)) (fun _ z => 542 - (intOf z).toNat)
  case atStart => exact ⟨2, by omega, by omega, rfl, Nat.zero_le _, rfl⟩
  case round =>
    obtain ⟨x, hx2, hx542, rfl, hle, rfl⟩ := hrel
    by_cases hlt : (prs x).length < k
    · have glt : ((prs x).length : Int) < (k : Int) := by omega
      have hxlt := prs_short hlt hk100
      obtain ⟨hn1, hn2, hn3⟩ := next_prime hx2 hk100 hlt
      obtain ⟨g, off, rfl, hg, hcat⟩ := hN.at_ (i := (prs x).length) (by rw [HPL.out]; exact hlt)
      obtain ⟨g', off', e', _, hlast⟩ := hN.at_ (i := k - 1) (by rw [HPL.out]; omega)
      injection e' with e'; injection e' with e1 e2
      subst e1 e2
      have hlge : x ≤ dg (primes k) (k - 1) := by
        by_cases e : (prs x).length = k - 1
        · rw [← e]; exact hn1
        · have := primes_sorted (prs x).length (k - 1) (by omega) (by omega)
          rw [← dg_primes (n := k) (by omega) hk100, ← dg_primes (n := k) (by omega) hk100] at this
          omega
      have glge : (x : Int) ≤ (dg (primes k) (k - 1) : Int) := by omega
      have t1 : ((k : Int) - 1).toNat = k - 1 := by omega
      have p1 : (1 : Int) ≤ (k : Int) := by omega
      unfold nv at hcat hlast
      have hsame : ∀ i, i < (prs x).length → dg (primes k) i = dg (prs x) i := fun i hi => by
        have := prs_is_take hx542 hle
        rw [this]
        unfold dg
        simp [List.getElem?_take_of_lt hi]
      have HSM := keep hsame
      have HN2 := keep hn2
      obtain ⟨q, hq⟩ : ∃ q, dg (primes k) (prs x).length = q := ⟨_, rfl⟩
      rw [hq] at hcat hn1 HN2
      clear hsame hn2 hn3 hlge hq
      go_wp2_with fail
      clear hlast glge t1 p1
      go_loop [6, 7] (fun bz z => ∃ i : Nat, i ≤ (prs x).length ∧ z = .int .i64 i ∧ bz = .bool (!(((prs x).take i).all fun p => x % p != 0))) (fun _ z => (prs x).length - (intOf z).toNat)
      case atStart => exact ⟨0, Nat.zero_le _, rfl, rfl⟩
      case round =>
        obtain ⟨i, hi, rfl, rfl⟩ := hrel
        by_cases hil : i < (prs x).length
        · have gil : (i : Int) < ((prs x).length : Int) := by omega
          have gik : (i : Int) < (k : Int) := by omega
          obtain ⟨g', off', e', _, hcl⟩ := hN.at_ (i := i) (by rw [HPL.out]; omega)
          injection e' with e'; injection e' with e1 e2
          subst e1 e2
          rw [HSM.out i hil] at hcl
          unfold nv at hcl
          obtain ⟨p, hp⟩ : ∃ p, dg (prs x) i = p := ⟨_, rfl⟩
          have hpm : p ∈ prs x := by rw [← hp, ← dg_eq hil]; exact List.getElem_mem hil
          obtain ⟨hp1, hp2, -⟩ := prs_mem hpm
          rw [hp] at hcl
          have hnext : ((prs x).take (i + 1)).all (fun p => x % p != 0) = (((prs x).take i).all (fun p => x % p != 0) && (x % p != 0)) := by
            rw [List.take_succ_eq_append_getElem hil, List.all_append, dg_eq hil, hp]; simp
          have HNX := keep hnext
          clear hnext hp hpm
          obtain ⟨b, hb⟩ : ∃ b, (((prs x).take i).all fun p => x % p != 0) = b := ⟨_, rfl⟩
          rw [hb] at HNX ⊢
          clear hb
          cases b
          · go_wp2_with fail
            go_round
            case rel => exact ⟨i + 1, by omega, by go_num, by rw [HNX.out]; rfl⟩
            case measure => simp [intOf]; omega
          · by_cases hm : x % p = 0
            · have gm : (x : Int) % (p : Int) = 0 := by rw [← Int.natCast_emod, hm]; rfl
              go_wp2_with fail
              go_round
              case rel => exact ⟨i + 1, by omega, by go_num, by rw [HNX.out]; simp [hm]⟩
              case measure => simp [intOf]; omega
            · have gm : ((x : Int) % (p : Int) == 0) = false := by
                rw [← Int.natCast_emod]; simp only [beq_eq_false_iff_ne, ne_eq]; omega
              go_wp2_with fail
              go_round
              case rel => exact ⟨i + 1, by omega, by go_num, by rw [HNX.out]; simp [hm]⟩
              case measure => simp [intOf]; omega
        · have gil : ¬ (i : Int) < ((prs x).length : Int) := by omega
          obtain rfl : i = (prs x).length := by omega
          rw [List.take_length]
          have hby : ((prs x).all fun p => x % p != 0) = isP x := byPrimes_eq x hx2 hxlt
          rw [hby]
          have hsu := prs_succ x
          cases hb : isP x
          · rw [hb] at hsu
            simp only [Bool.false_eq_true, if_false, List.append_nil] at hsu
            have hne : q ≠ x := fun e => by have := HN2.out.1 e; rw [hb] at this; cases this
            have hne1 : ((q : Int) == (x : Int)) = false := by simp only [beq_eq_false_iff_ne, ne_eq]; omega
            have hl1 : (prs (x + 1)).length = (prs x).length := by rw [hsu]
            have HL1 := keep hl1
            clear hsu hb hby hl1 hne
            go_wp2_with fail
            go_round
            case rel => exact ⟨_, _, _, ⟨x + 1, by omega, by omega, by go_num, by rw [HL1.out]; exact hle, by rw [HL1.out]⟩, rfl, rfl, rfl⟩
            case measure => simp [intOf]; omega
          · rw [hb] at hsu
            simp only [if_true] at hsu
            have hqx : q = x := HN2.out.2 hb
            subst hqx
            have hl1 : (prs (q + 1)).length = (prs q).length + 1 := by rw [hsu, List.length_append]; rfl
            have HL1 := keep hl1
            clear hsu hb hby hl1
            go_wp2_with fail
            go_round
            case rel => exact ⟨_, _, _, ⟨q + 1, by omega, by omega, by go_num, by rw [HL1.out]; omega, by rw [HL1.out]; go_num⟩, rfl, rfl, rfl⟩
            case measure => simp [intOf]; omega
    · have glt : ¬ ((prs x).length : Int) < (k : Int) := by omega
      have hl : (prs x).length = k := by omega
      rw [hl] at glt ⊢
      clear hl hle
      go_wp2_with fail
      go_ret
      exact ⟨rfl, hB⟩
end Go.Proofs.Ytbfgnlckmpnchaa

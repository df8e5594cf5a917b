/-
  sha: the first primes: the program's walk, and the document's (written by wip/tools/sha_primes.py).
-/
import Derived.Test.YtbfgnlckmpnchaaPrimesPlain
namespace Go.Proofs.Ytbfgnlckmpnchaa
open Go.RowKit
set_option linter.unusedVariables false
set_option linter.unusedSimpArgs false
theorem nv_snoc_if (l : List Nat) (x : Nat) (b : Bool) : (if b then l.map nv ++ [nv x] else l.map nv) = (l ++ (if b then [x] else [])).map nv := by cases b <;> simp
set_option maxHeartbeats 2000000 in
theorem primes_none (n : Int) (h : n < 0 ∨ 100 < n) (w : World) : Calls Try.prog 17 #[.int .i64 n] w fun e w' => e = .returned (.slice none 0 0) ∧ w' = w := by
  rcases h with h | h
  all_goals
    have h' : ¬ (n < 0 ∧ 100 < n) := by omega
    go_enter Try.func17, Try.ntmps17
    go_wp2_with fail
    go_ret
    exact ⟨rfl, rfl⟩
set_option maxRecDepth 100000 in
set_option maxHeartbeats 4000000 in
theorem primes_any (n : Nat) (hn : n ≤ 100) (w : World) : Calls Try.prog 17 #[.int .i64 (n : Int)] w fun e w' => ∃ v, e = .returned v ∧ Own w' w.heap.size v ((primes n).map nv) ∧ Below w.heap.size w w' := by
  obtain ⟨i0, hi0, hz0, hz1, hz2⟩ := info_parts info3i
  have hD0 := D2.start w
  have g1 : ¬ (n : Int) < 0 := by omega
  have g2 : ¬ (100 : Int) < (n : Int) := by omega
  go_enter Try.func17, Try.ntmps17
  generalize hN : w.heap.size = N at *
  have HN := keep hN
  clear hN
  go_wp2_with fail
  go_loopw [3, 4] (fun v z wr => ∃ x : Nat, 2 ≤ x ∧ x ≤ 542 ∧ z = .int .i64 x ∧ (prs x).length ≤ n ∧ D2 N w wr v (.slice none 0 0) (prs x) []) (fun _ z _ => 542 - (intOf z).toNat)
  case atStart => exact ⟨2, by omega, by omega, rfl, Nat.zero_le _, hD0⟩
  case round =>
    obtain ⟨x, hx2, hx542, rfl, hle, hD⟩ := hrel
    clear hD0
    obtain ⟨a, c, rfl, hc1, hc2⟩ := hD.form'
    have hsz := hD.size
    by_cases hlt : (prs x).length < n
    · have glt : ((prs x).length : Int) < (n : Int) := by omega
      have hxlt := prs_short hlt hn
      go_wp2_with fail
      go_loop [5, 22] (fun b i => ∃ j : Nat, j ≤ (prs x).length ∧ i = .int .i64 j ∧ b = .bool (((prs x).take j).all fun p => x % p != 0)) (fun _ i => (prs x).length - (intOf i).toNat)
      case atStart => exact ⟨0, Nat.zero_le _, rfl, rfl⟩
      case round =>
        obtain ⟨j, hj, rfl, rfl⟩ := hrel
        by_cases hjl : j < (prs x).length
        · have gjl : (j : Int) < ((prs x).length : Int) := by omega
          obtain ⟨g, off, rfl, hg⟩ := hD.addr (by omega)
          have hcl := hD.cellA hjl
          obtain ⟨p, hp⟩ : ∃ p, dg (prs x) j = p := ⟨_, rfl⟩
          have hpm : p ∈ prs x := by rw [← hp, ← dg_eq hjl]; exact List.getElem_mem hjl
          obtain ⟨hp1, hp2, -⟩ := prs_mem hpm
          rw [hp] at hcl
          have hnext : ((prs x).take (j + 1)).all (fun p => x % p != 0) = (((prs x).take j).all (fun p => x % p != 0) && (x % p != 0)) := by
            rw [List.take_succ_eq_append_getElem hjl, List.all_append, dg_eq hjl, hp]; simp
          have HNX := keep hnext
          clear hnext hp hpm
          obtain ⟨b, hb⟩ : ∃ b, (((prs x).take j).all fun p => x % p != 0) = b := ⟨_, rfl⟩
          rw [hb] at HNX ⊢
          have HB := keep hb
          clear hb
          cases b
          · go_wp2_with fail
            go_round
            case rel => exact ⟨j + 1, by omega, by go_num, by rw [HNX.out]; rfl⟩
            case measure => simp [intOf]; omega
          · by_cases hm : x % p = 0
            · have gm : (x : Int) % (p : Int) = 0 := by rw [← Int.natCast_emod, hm]; rfl
              go_wp2_with fail
              go_round
              case rel => exact ⟨j + 1, by omega, by go_num, by rw [HNX.out]; simp [hm]⟩
              case measure => simp [intOf]; omega
            · have gm : ((x : Int) % (p : Int) != 0) = true := by
                rw [← Int.natCast_emod]; simp only [bne_iff_ne, ne_eq]; omega
              go_wp2_with fail
              go_round
              case rel => exact ⟨j + 1, by omega, by go_num, by rw [HNX.out]; simp [hm]⟩
              case measure => simp [intOf]; omega
        · have gjl : ¬ (j : Int) < ((prs x).length : Int) := by omega
          obtain rfl : j = (prs x).length := by omega
          rw [List.take_length]
          have hby : ((prs x).all fun p => x % p != 0) = isP x := byPrimes_eq x hx2 hxlt
          rw [hby]
          have hsu := prs_succ x
          cases hb : isP x
          · rw [hb] at hsu
            simp only [Bool.false_eq_true, if_false, List.append_nil] at hsu
            have hle2 : (prs (x + 1)).length ≤ n := by rw [hsu]; exact hle
            have hD2 : D2 N w wr (.slice a (prs x).length c) (.slice none 0 0) (prs (x + 1)) [] := by rw [hsu]; exact hD
            have HL := keep hle2
            have HD := keep hD2
            clear hsu hb hby hle2 hD2
            go_wp2_with fail
            go_roundw
            case rel => exact ⟨x + 1, by omega, by omega, by go_num, HL.out, HD.out⟩
            case measure => simp [intOf]; omega
          · rw [hb] at hsu
            simp only [if_true] at hsu
            have hle2 : (prs (x + 1)).length ≤ n := by rw [hsu, List.length_append]; simp; omega
            have HL := keep hle2
            have HS := keep hsu
            clear hsu hb hby hle2
            have hnew : ∀ wz : World, (wz.alloc (.cells #[.int .i64 ((x : Int))] 3)).cell? ⟨wz.heap.size, 0, none⟩ = some (.int .i64 ((x : Int))) := fun wz => (Blk.made wz 3 #[.int .i64 ((x : Int))]).at_ rfl
            have hOo := hD.ha
            have HXL : ((prs x).map nv).length < 1099511627776 := by rw [List.length_map]; omega
            go_wp2_with (at_builtin; refine wpList_append_one _ rfl (.tmp 35) (.tmp 37) 25 rfl (N) 3 i0 (.int .i64 0) 8 Try.underlying25 hi0 hz0 hz1 hz2 rfl (.slice a (prs x).length c) ((prs x).map nv) rfl (hOo.alloc _) _ 1 (.int .i64 ((x : Int))) rfl (hnew _) rfl HXL (by omega) (by simp; omega) ?_
                         intro v4 w4 hown4 hg4 hv4
                         have hD2 := hD.grow _ hg4 hown4 hv4 (by rw [(rfl : (.int .i64 (x : Int) : Value) = nv x)]; exact map_nv_snoc (prs x) x)
                         clear hg4 hv4 hown4 hOo hnew HXL)
            rw [← HS.out] at hD2
            go_roundw
            case rel => exact ⟨x + 1, by omega, by omega, by go_num, HL.out, hD2⟩
            case measure => simp [intOf]; omega
    · have glt : ¬ ((prs x).length : Int) < (n : Int) := by omega
      have hl : (prs x).length = n := by omega
      have hpr := primes_of hx542 hl
      have hF : Own wr N (.slice a (prs x).length c) ((primes n).map nv) ∧ Below N w wr := ⟨by rw [← hpr]; exact hD.ha, hD.bel⟩
      have HF := keep hF
      clear hD hl hpr hF
      go_wp2_with fail
      go_ret
      exact ⟨_, rfl, HF.out⟩
set_option maxRecDepth 100000 in
set_option maxHeartbeats 4000000 in
theorem rprimes_any (n : Nat) (hn : n ≤ 100) (w : World) : Calls Try.prog 18 #[.int .i64 (n : Int)] w fun e w' => ∃ v, e = .returned v ∧ Own w' w.heap.size v ((primes n).map nv) ∧ Below w.heap.size w w' := by
  obtain ⟨i0, hi0, hz0, hz1, hz2⟩ := info_parts info3i
  have hD0 := D2.start w
  go_enter Try.func18, Try.ntmps18
  generalize hN : w.heap.size = N at *
  have HN := keep hN
  clear hN
  go_wp2_with fail
  go_loopw [3, 4] (fun v z wr => ∃ x : Nat, 2 ≤ x ∧ x ≤ 542 ∧ z = .int .i64 x ∧ (prs x).length ≤ n ∧ D2 N w wr v (.slice none 0 0) (prs x) []) (fun _ z _ => 542 - (intOf z).toNat)
  case atStart => exact ⟨2, by omega, by omega, rfl, Nat.zero_le _, hD0⟩
  case round =>
    obtain ⟨x, hx2, hx542, rfl, hle, hD⟩ := hrel
    clear hD0
    obtain ⟨a, c, rfl, hc1, hc2⟩ := hD.form'
    have hsz := hD.size
    by_cases hlt : (prs x).length < n
    · have glt : ((prs x).length : Int) < (n : Int) := by omega
      have hxlt := prs_short hlt hn
      go_wp2_with fail
      go_loop [5, 6] (fun b i => ∃ d : Nat, 2 ≤ d ∧ ((d - 1) * (d - 1) ≤ x ∨ d = 2) ∧ i = .int .i64 d ∧ b = .bool (!byRoots x d)) (fun _ i => 600 - (intOf i).toNat)
      case atStart => exact ⟨2, by omega, .inr rfl, rfl, by rw [byRoots_two]; rfl⟩
      case round =>
        obtain ⟨d, hd2, hdd, rfl, rfl⟩ := hrel
        have hd600 : d < 600 := by
          rcases hdd with h | h
          · apply Nat.lt_of_not_le
            intro h6
            have := Nat.mul_le_mul (show 599 ≤ d - 1 by omega) (show 599 ≤ d - 1 by omega)
            omega
          · omega
        obtain ⟨q, hq⟩ : ∃ q, d * d = q := ⟨_, rfl⟩
        have hq6 : q < 360000 := by rw [← hq]; have := Nat.mul_le_mul (show d ≤ 599 by omega) (show d ≤ 599 by omega); omega
        have hqi : ((d : Int) * (d : Int)) = (q : Int) := by rw [← hq]; exact (Int.natCast_mul _ _).symm
        by_cases hdx : q ≤ x
        · have gdx : (q : Int) ≤ (x : Int) := by omega
          have hsu := byRoots_succ x d hd2
          have HSU := keep hsu
          have HQ := keep hq
          obtain ⟨b, hb⟩ : ∃ b, byRoots x d = b := ⟨_, rfl⟩
          rw [hb] at HSU ⊢
          clear hsu hb hq hdd
          by_cases hm : x % d = 0
          · have gm : (x : Int) % (d : Int) = 0 := by rw [← Int.natCast_emod, hm]; rfl
            go_wp2_with fail
            go_round
            case rel => exact ⟨d + 1, by omega, .inl (by rw [Nat.add_sub_cancel, HQ.out]; exact hdx), by go_num, by rw [HSU.out]; simp [hm]⟩
            case measure => simp [intOf]; omega
          · have gm : ((x : Int) % (d : Int) == 0) = false := by
              rw [← Int.natCast_emod]; simp only [beq_eq_false_iff_ne, ne_eq]; omega
            go_wp2_with fail
            go_round
            case rel => exact ⟨d + 1, by omega, .inl (by rw [Nat.add_sub_cancel, HQ.out]; exact hdx), by go_num, by rw [HSU.out]; simp [hm]⟩
            case measure => simp [intOf]; omega
        · have gdx : ¬ (q : Int) ≤ (x : Int) := by omega
          have hby := byRoots_eq x d hx2 hxlt hd2 hdd (by rw [hq]; omega)
          rw [hby]
          have hsu := prs_succ x
          clear hdd hq
          cases hb : isP x
          · rw [hb] at hsu
            simp only [Bool.false_eq_true, if_false, List.append_nil] at hsu
            have hle2 : (prs (x + 1)).length ≤ n := by rw [hsu]; exact hle
            have hD2 : D2 N w wr (.slice a (prs x).length c) (.slice none 0 0) (prs (x + 1)) [] := by rw [hsu]; exact hD
            have HL := keep hle2
            have HD := keep hD2
            clear hsu hb hby hle2 hD2
            go_wp2_with fail
            go_roundw
            case rel => exact ⟨x + 1, by omega, by omega, by go_num, HL.out, HD.out⟩
            case measure => simp [intOf]; omega
          · rw [hb] at hsu
            simp only [if_true] at hsu
            have hle2 : (prs (x + 1)).length ≤ n := by rw [hsu, List.length_append]; simp; omega
            have HL := keep hle2
            have HS := keep hsu
            clear hsu hb hby hle2
            have hnew : ∀ wz : World, (wz.alloc (.cells #[.int .i64 ((x : Int))] 3)).cell? ⟨wz.heap.size, 0, none⟩ = some (.int .i64 ((x : Int))) := fun wz => (Blk.made wz 3 #[.int .i64 ((x : Int))]).at_ rfl
            have hOo := hD.ha
            have HXL : ((prs x).map nv).length < 1099511627776 := by rw [List.length_map]; omega
            go_wp2_with (at_builtin; refine wpList_append_one _ rfl (.tmp 26) (.tmp 28) 25 rfl (N) 3 i0 (.int .i64 0) 8 Try.underlying25 hi0 hz0 hz1 hz2 rfl (.slice a (prs x).length c) ((prs x).map nv) rfl (hOo.alloc _) _ 1 (.int .i64 ((x : Int))) rfl (hnew _) rfl HXL (by omega) (by simp; omega) ?_
                         intro v4 w4 hown4 hg4 hv4
                         have hD2 := hD.grow _ hg4 hown4 hv4 (by rw [(rfl : (.int .i64 (x : Int) : Value) = nv x)]; exact map_nv_snoc (prs x) x)
                         clear hg4 hv4 hown4 hOo hnew HXL)
            rw [← HS.out] at hD2
            go_roundw
            case rel => exact ⟨x + 1, by omega, by omega, by go_num, HL.out, hD2⟩
            case measure => simp [intOf]; omega
    · have glt : ¬ ((prs x).length : Int) < (n : Int) := by omega
      have hl : (prs x).length = n := by omega
      have hpr := primes_of hx542 hl
      have hF : Own wr N (.slice a (prs x).length c) ((primes n).map nv) ∧ Below N w wr := ⟨by rw [← hpr]; exact hD.ha, hD.bel⟩
      have HF := keep hF
      clear hD hl hpr hF
      go_wp2_with fail
      go_ret
      exact ⟨_, rfl, HF.out⟩
end Go.Proofs.Ytbfgnlckmpnchaa

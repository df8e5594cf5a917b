/-
  sha: the document's constants: the walks (written by wip/tools/sha_rconsts.py).
-/
import Derived.Test.YtbfgnlckmpnchaaRRoot
import Derived.Test.YtbfgnlckmpnchaaConsts
import Derived.Test.YtbfgnlckmpnchaaPrimes
namespace Go.Proofs.Ytbfgnlckmpnchaa
open Go.RowKit
set_option linter.unusedVariables false
set_option linter.unusedSimpArgs false
set_option maxRecDepth 100000 in
set_option maxHeartbeats 4000000 in
theorem rconstants_any (w : World) : Calls Try.prog 26 #[] w fun e w' => e = .returned (.agg (w32 64 kf)) ∧ Below w.heap.size w w' := by
  have hz : w32 64 (upw kf 0) = #[.int .u32 0, .int .u32 0, .int .u32 0, .int .u32 0, .int .u32 0, .int .u32 0, .int .u32 0, .int .u32 0, .int .u32 0, .int .u32 0, .int .u32 0, .int .u32 0, .int .u32 0, .int .u32 0, .int .u32 0, .int .u32 0, .int .u32 0, .int .u32 0, .int .u32 0, .int .u32 0, .int .u32 0, .int .u32 0, .int .u32 0, .int .u32 0, .int .u32 0, .int .u32 0, .int .u32 0, .int .u32 0, .int .u32 0, .int .u32 0, .int .u32 0, .int .u32 0, .int .u32 0, .int .u32 0, .int .u32 0, .int .u32 0, .int .u32 0, .int .u32 0, .int .u32 0, .int .u32 0, .int .u32 0, .int .u32 0, .int .u32 0, .int .u32 0, .int .u32 0, .int .u32 0, .int .u32 0, .int .u32 0, .int .u32 0, .int .u32 0, .int .u32 0, .int .u32 0, .int .u32 0, .int .u32 0, .int .u32 0, .int .u32 0, .int .u32 0, .int .u32 0, .int .u32 0, .int .u32 0, .int .u32 0, .int .u32 0, .int .u32 0, .int .u32 0] := by
    unfold w32
    rw [show (fun i => v32 (upw kf 0 i)) = fun _ => v32 0 from by funext i; simp [upw]]
    rfl
  have h0 := (Blk.made w 39 #[.int .u32 0, .int .u32 0, .int .u32 0, .int .u32 0, .int .u32 0, .int .u32 0, .int .u32 0, .int .u32 0, .int .u32 0, .int .u32 0, .int .u32 0, .int .u32 0, .int .u32 0, .int .u32 0, .int .u32 0, .int .u32 0, .int .u32 0, .int .u32 0, .int .u32 0, .int .u32 0, .int .u32 0, .int .u32 0, .int .u32 0, .int .u32 0, .int .u32 0, .int .u32 0, .int .u32 0, .int .u32 0, .int .u32 0, .int .u32 0, .int .u32 0, .int .u32 0, .int .u32 0, .int .u32 0, .int .u32 0, .int .u32 0, .int .u32 0, .int .u32 0, .int .u32 0, .int .u32 0, .int .u32 0, .int .u32 0, .int .u32 0, .int .u32 0, .int .u32 0, .int .u32 0, .int .u32 0, .int .u32 0, .int .u32 0, .int .u32 0, .int .u32 0, .int .u32 0, .int .u32 0, .int .u32 0, .int .u32 0, .int .u32 0, .int .u32 0, .int .u32 0, .int .u32 0, .int .u32 0, .int .u32 0, .int .u32 0, .int .u32 0, .int .u32 0]).alloc (.cells #[.int .u32 0, .int .u32 0, .int .u32 0, .int .u32 0, .int .u32 0, .int .u32 0, .int .u32 0, .int .u32 0, .int .u32 0, .int .u32 0, .int .u32 0, .int .u32 0, .int .u32 0, .int .u32 0, .int .u32 0, .int .u32 0, .int .u32 0, .int .u32 0, .int .u32 0, .int .u32 0, .int .u32 0, .int .u32 0, .int .u32 0, .int .u32 0, .int .u32 0, .int .u32 0, .int .u32 0, .int .u32 0, .int .u32 0, .int .u32 0, .int .u32 0, .int .u32 0, .int .u32 0, .int .u32 0, .int .u32 0, .int .u32 0, .int .u32 0, .int .u32 0, .int .u32 0, .int .u32 0, .int .u32 0, .int .u32 0, .int .u32 0, .int .u32 0, .int .u32 0, .int .u32 0, .int .u32 0, .int .u32 0, .int .u32 0, .int .u32 0, .int .u32 0, .int .u32 0, .int .u32 0, .int .u32 0, .int .u32 0, .int .u32 0, .int .u32 0, .int .u32 0, .int .u32 0, .int .u32 0, .int .u32 0, .int .u32 0, .int .u32 0, .int .u32 0] 39)
  have h1 := madeA w (.cells #[.int .u32 0, .int .u32 0, .int .u32 0, .int .u32 0, .int .u32 0, .int .u32 0, .int .u32 0, .int .u32 0, .int .u32 0, .int .u32 0, .int .u32 0, .int .u32 0, .int .u32 0, .int .u32 0, .int .u32 0, .int .u32 0, .int .u32 0, .int .u32 0, .int .u32 0, .int .u32 0, .int .u32 0, .int .u32 0, .int .u32 0, .int .u32 0, .int .u32 0, .int .u32 0, .int .u32 0, .int .u32 0, .int .u32 0, .int .u32 0, .int .u32 0, .int .u32 0, .int .u32 0, .int .u32 0, .int .u32 0, .int .u32 0, .int .u32 0, .int .u32 0, .int .u32 0, .int .u32 0, .int .u32 0, .int .u32 0, .int .u32 0, .int .u32 0, .int .u32 0, .int .u32 0, .int .u32 0, .int .u32 0, .int .u32 0, .int .u32 0, .int .u32 0, .int .u32 0, .int .u32 0, .int .u32 0, .int .u32 0, .int .u32 0, .int .u32 0, .int .u32 0, .int .u32 0, .int .u32 0, .int .u32 0, .int .u32 0, .int .u32 0, .int .u32 0] 39) 39 #[.int .u32 0, .int .u32 0, .int .u32 0, .int .u32 0, .int .u32 0, .int .u32 0, .int .u32 0, .int .u32 0, .int .u32 0, .int .u32 0, .int .u32 0, .int .u32 0, .int .u32 0, .int .u32 0, .int .u32 0, .int .u32 0, .int .u32 0, .int .u32 0, .int .u32 0, .int .u32 0, .int .u32 0, .int .u32 0, .int .u32 0, .int .u32 0, .int .u32 0, .int .u32 0, .int .u32 0, .int .u32 0, .int .u32 0, .int .u32 0, .int .u32 0, .int .u32 0, .int .u32 0, .int .u32 0, .int .u32 0, .int .u32 0, .int .u32 0, .int .u32 0, .int .u32 0, .int .u32 0, .int .u32 0, .int .u32 0, .int .u32 0, .int .u32 0, .int .u32 0, .int .u32 0, .int .u32 0, .int .u32 0, .int .u32 0, .int .u32 0, .int .u32 0, .int .u32 0, .int .u32 0, .int .u32 0, .int .u32 0, .int .u32 0, .int .u32 0, .int .u32 0, .int .u32 0, .int .u32 0, .int .u32 0, .int .u32 0, .int .u32 0, .int .u32 0]
  have hb := belowB w (.cells #[.int .u32 0, .int .u32 0, .int .u32 0, .int .u32 0, .int .u32 0, .int .u32 0, .int .u32 0, .int .u32 0, .int .u32 0, .int .u32 0, .int .u32 0, .int .u32 0, .int .u32 0, .int .u32 0, .int .u32 0, .int .u32 0, .int .u32 0, .int .u32 0, .int .u32 0, .int .u32 0, .int .u32 0, .int .u32 0, .int .u32 0, .int .u32 0, .int .u32 0, .int .u32 0, .int .u32 0, .int .u32 0, .int .u32 0, .int .u32 0, .int .u32 0, .int .u32 0, .int .u32 0, .int .u32 0, .int .u32 0, .int .u32 0, .int .u32 0, .int .u32 0, .int .u32 0, .int .u32 0, .int .u32 0, .int .u32 0, .int .u32 0, .int .u32 0, .int .u32 0, .int .u32 0, .int .u32 0, .int .u32 0, .int .u32 0, .int .u32 0, .int .u32 0, .int .u32 0, .int .u32 0, .int .u32 0, .int .u32 0, .int .u32 0, .int .u32 0, .int .u32 0, .int .u32 0, .int .u32 0, .int .u32 0, .int .u32 0, .int .u32 0, .int .u32 0] 39) (.cells #[.int .u32 0, .int .u32 0, .int .u32 0, .int .u32 0, .int .u32 0, .int .u32 0, .int .u32 0, .int .u32 0, .int .u32 0, .int .u32 0, .int .u32 0, .int .u32 0, .int .u32 0, .int .u32 0, .int .u32 0, .int .u32 0, .int .u32 0, .int .u32 0, .int .u32 0, .int .u32 0, .int .u32 0, .int .u32 0, .int .u32 0, .int .u32 0, .int .u32 0, .int .u32 0, .int .u32 0, .int .u32 0, .int .u32 0, .int .u32 0, .int .u32 0, .int .u32 0, .int .u32 0, .int .u32 0, .int .u32 0, .int .u32 0, .int .u32 0, .int .u32 0, .int .u32 0, .int .u32 0, .int .u32 0, .int .u32 0, .int .u32 0, .int .u32 0, .int .u32 0, .int .u32 0, .int .u32 0, .int .u32 0, .int .u32 0, .int .u32 0, .int .u32 0, .int .u32 0, .int .u32 0, .int .u32 0, .int .u32 0, .int .u32 0, .int .u32 0, .int .u32 0, .int .u32 0, .int .u32 0, .int .u32 0, .int .u32 0, .int .u32 0, .int .u32 0] 39)
  rw [← hz] at h0 h1 hb
  go_enter Try.func26, Try.ntmps26
  go_wp2_with fail
  rw [← hz]
  generalize hwA : (w.alloc (.cells (w32 64 (upw kf 0)) 39)).alloc (.cells (w32 64 (upw kf 0)) 39) = wA at *
  clear hwA
  refine Calls.mono (show Calls Try.prog 18 #[.int .i64 64] _ _ from rprimes_any 64 (by omega) _) ?_
  rintro e w1 ⟨v1, rfl, hO, hb1⟩
  have hN : Nums w1 v1 (primes 64) := hO.mono (Nat.zero_le _)
  obtain ⟨a, c, rfl, hc1, hc2⟩ := hN.formN (primes_length (n := 64) (by omega))
  have hR0 : Blk w1 w.heap.size 39 (w32 64 (upw kf 0)) := h0.kept hb1
  have hR1 : Blk w1 (w.heap.size + 1) 39 (w32 64 (upw kf 0)) := h1.kept hb1
  have hB := hb.trans (hb1.mono hb.size)
  have hNB : (.slice a 64 c : Value).ownBlock ≠ some (w.heap.size + 1) := fun e => by
    have h2 := (Own.row hO _ e).1
    have h3 := h1.lt
    omega
  clear hO hb1 h0 h1 hb hz
  go_wp2_with fail
  go_loopw [3] (fun z wr => ∃ i : Nat, i ≤ 64 ∧ z = .int .i64 i ∧ Blk wr w.heap.size 39 (w32 64 (upw kf 0)) ∧ Blk wr (w.heap.size + 1) 39 (w32 64 (upw kf i)) ∧ Nums wr (.slice a 64 c) (primes 64) ∧ Below w.heap.size w wr) (fun z _ => 64 - (intOf z).toNat)
  case atStart => exact ⟨0, Nat.zero_le _, rfl, hR0, hR1, hN, hB⟩
  case round =>
    clear hR0 hR1 hN hB
    obtain ⟨i, hi, rfl, hR0, hR1, hN, hB⟩ := hrel
    by_cases hin : i < 64
    · have gin : (i : Int) < 64 := by omega
      have hil : i < (primes 64).length := by rw [primes_length (by omega)]; exact hin
      obtain ⟨g, off, rfl, hg, hcl⟩ := hN.at_ hil
      unfold nv at hcl
      have hq : dg (primes 64) i ≤ 1000 := by
        rw [← dg_eq hil]
        have hm := List.getElem_mem hil
        have := (prs_mem (List.mem_of_mem_take hm)).1
        omega
      have hfi : kf i = rootf (dg (primes 64) i) 3 := rfl
      generalize dg (primes 64) i = q at *
      go_wp2_with fail
      refine Calls.mono (show Calls Try.prog 20 #[.int .i64 (q : Int), .int .i64 3] _ _ from rroot_any q 3 hq (by omega) _) ?_
      rintro e w2 ⟨rfl, hb2⟩
      rw [← hfi]
      have hR0' := hR0.kept hb2
      have hR1' := hR1.kept hb2
      have hN' : Nums w2 (.slice (some ⟨g, off, none⟩) 64 c) (primes 64) := Own.below hN hb2
      have hB' := hB.trans (hb2.mono hB.size)
      clear hb2 hR0 hR1 hN hB hcl
      have c2 := hR1'.at_ (arr_get (fun j => v32 (upw kf i j)) hin)
      have f2 := hR1'.free i
      have k0 := hR0'.other (p := ⟨w.heap.size + 1, i, none⟩) (by simp) (v32 (kf i))
      have k1 := hR1'.set i (v32 (kf i))
      rw [upw_set] at k1
      have k2 : Nums (w2.setCell ⟨w.heap.size + 1, i, none⟩ (v32 (kf i))) (.slice (some ⟨g, off, none⟩) 64 c) (primes 64) := Own.setCell hN' hNB _
      have k3 := hB'.setCell (p := ⟨w.heap.size + 1, i, none⟩) (by simp) (v32 (kf i))
      clear hR0' hR1' hN' hB' hfi
      go_wp2_with fail
      go_roundw
      case rel => exact ⟨i + 1, by omega, by go_num, k0, k1, k2, k3⟩
      case measure => simp [intOf]; omega
    · have gin : ¬ (i : Int) < 64 := by omega
      obtain rfl : i = 64 := by omega
      rw [upw_done] at hR1
      clear hN
      go_wp2_with (first
        | (refine wpList_load_row rfl 39 (.tmp 1) rfl (w.heap.size + 1) rfl 39 (w32 64 kf) (0, 0) _ hR1 Try.underlying39 rfl (by kernel_rfl) ?_)
        | (refine wpList_store_row rfl 39 (.tmp 0) (.tmp 16) rfl w.heap.size (w32 64 kf) rfl rfl 39 _ hR0 (by kernel_rfl) (by unfold w32; rw [arr_size, arr_size]) (arr_one _ _ fun i => rfl) ?_))
      refine bodyPost_ret (results_c rfl _ _ w.heap.size 39 _ _ _ rfl (hR0.setRow (w32 64 kf)) Try.underlying39 (by kernel_rfl)) rfl ?_
      exact ⟨rfl, below_row hB (Nat.le_refl _) _⟩
set_option maxRecDepth 100000 in
set_option maxHeartbeats 4000000 in
theorem rfirst_any (w : World) : Calls Try.prog 41 #[] w fun e w' => e = .returned (.agg (w32 8 hf)) ∧ Below w.heap.size w w' := by
  have hz : w32 8 (upw hf 0) = #[.int .u32 0, .int .u32 0, .int .u32 0, .int .u32 0, .int .u32 0, .int .u32 0, .int .u32 0, .int .u32 0] := by
    unfold w32
    rw [show (fun i => v32 (upw hf 0 i)) = fun _ => v32 0 from by funext i; simp [upw]]
    rfl
  have h0 := (Blk.made w 31 #[.int .u32 0, .int .u32 0, .int .u32 0, .int .u32 0, .int .u32 0, .int .u32 0, .int .u32 0, .int .u32 0]).alloc (.cells #[.int .u32 0, .int .u32 0, .int .u32 0, .int .u32 0, .int .u32 0, .int .u32 0, .int .u32 0, .int .u32 0] 31)
  have h1 := madeA w (.cells #[.int .u32 0, .int .u32 0, .int .u32 0, .int .u32 0, .int .u32 0, .int .u32 0, .int .u32 0, .int .u32 0] 31) 31 #[.int .u32 0, .int .u32 0, .int .u32 0, .int .u32 0, .int .u32 0, .int .u32 0, .int .u32 0, .int .u32 0]
  have hb := belowB w (.cells #[.int .u32 0, .int .u32 0, .int .u32 0, .int .u32 0, .int .u32 0, .int .u32 0, .int .u32 0, .int .u32 0] 31) (.cells #[.int .u32 0, .int .u32 0, .int .u32 0, .int .u32 0, .int .u32 0, .int .u32 0, .int .u32 0, .int .u32 0] 31)
  rw [← hz] at h0 h1 hb
  go_enter Try.func41, Try.ntmps41
  go_wp2_with fail
  rw [← hz]
  generalize hwA : (w.alloc (.cells (w32 8 (upw hf 0)) 31)).alloc (.cells (w32 8 (upw hf 0)) 31) = wA at *
  clear hwA
  refine Calls.mono (show Calls Try.prog 18 #[.int .i64 8] _ _ from rprimes_any 8 (by omega) _) ?_
  rintro e w1 ⟨v1, rfl, hO, hb1⟩
  have hN : Nums w1 v1 (primes 8) := hO.mono (Nat.zero_le _)
  obtain ⟨a, c, rfl, hc1, hc2⟩ := hN.formN (primes_length (n := 8) (by omega))
  have hR0 : Blk w1 w.heap.size 31 (w32 8 (upw hf 0)) := h0.kept hb1
  have hR1 : Blk w1 (w.heap.size + 1) 31 (w32 8 (upw hf 0)) := h1.kept hb1
  have hB := hb.trans (hb1.mono hb.size)
  have hNB : (.slice a 8 c : Value).ownBlock ≠ some (w.heap.size + 1) := fun e => by
    have h2 := (Own.row hO _ e).1
    have h3 := h1.lt
    omega
  clear hO hb1 h0 h1 hb hz
  go_wp2_with fail
  go_loopw [3] (fun z wr => ∃ i : Nat, i ≤ 8 ∧ z = .int .i64 i ∧ Blk wr w.heap.size 31 (w32 8 (upw hf 0)) ∧ Blk wr (w.heap.size + 1) 31 (w32 8 (upw hf i)) ∧ Nums wr (.slice a 8 c) (primes 8) ∧ Below w.heap.size w wr) (fun z _ => 8 - (intOf z).toNat)
  case atStart => exact ⟨0, Nat.zero_le _, rfl, hR0, hR1, hN, hB⟩
  case round =>
    clear hR0 hR1 hN hB
    obtain ⟨i, hi, rfl, hR0, hR1, hN, hB⟩ := hrel
    by_cases hin : i < 8
    · have gin : (i : Int) < 8 := by omega
      have hil : i < (primes 8).length := by rw [primes_length (by omega)]; exact hin
      obtain ⟨g, off, rfl, hg, hcl⟩ := hN.at_ hil
      unfold nv at hcl
      have hq : dg (primes 8) i ≤ 1000 := by
        rw [← dg_eq hil]
        have hm := List.getElem_mem hil
        have := (prs_mem (List.mem_of_mem_take hm)).1
        omega
      have hfi : hf i = rootf (dg (primes 8) i) 2 := rfl
      generalize dg (primes 8) i = q at *
      go_wp2_with fail
      refine Calls.mono (show Calls Try.prog 20 #[.int .i64 (q : Int), .int .i64 2] _ _ from rroot_any q 2 hq (by omega) _) ?_
      rintro e w2 ⟨rfl, hb2⟩
      rw [← hfi]
      have hR0' := hR0.kept hb2
      have hR1' := hR1.kept hb2
      have hN' : Nums w2 (.slice (some ⟨g, off, none⟩) 8 c) (primes 8) := Own.below hN hb2
      have hB' := hB.trans (hb2.mono hB.size)
      clear hb2 hR0 hR1 hN hB hcl
      have c2 := hR1'.at_ (arr_get (fun j => v32 (upw hf i j)) hin)
      have f2 := hR1'.free i
      have k0 := hR0'.other (p := ⟨w.heap.size + 1, i, none⟩) (by simp) (v32 (hf i))
      have k1 := hR1'.set i (v32 (hf i))
      rw [upw_set] at k1
      have k2 : Nums (w2.setCell ⟨w.heap.size + 1, i, none⟩ (v32 (hf i))) (.slice (some ⟨g, off, none⟩) 8 c) (primes 8) := Own.setCell hN' hNB _
      have k3 := hB'.setCell (p := ⟨w.heap.size + 1, i, none⟩) (by simp) (v32 (hf i))
      clear hR0' hR1' hN' hB' hfi
      go_wp2_with fail
      go_roundw
      case rel => exact ⟨i + 1, by omega, by go_num, k0, k1, k2, k3⟩
      case measure => simp [intOf]; omega
    · have gin : ¬ (i : Int) < 8 := by omega
      obtain rfl : i = 8 := by omega
      rw [upw_done] at hR1
      clear hN
      go_wp2_with (first
        | (refine wpList_load_row rfl 31 (.tmp 1) rfl (w.heap.size + 1) rfl 31 (w32 8 hf) (0, 0) _ hR1 Try.underlying31 rfl (by kernel_rfl) ?_)
        | (refine wpList_store_row rfl 31 (.tmp 0) (.tmp 16) rfl w.heap.size (w32 8 hf) rfl rfl 31 _ hR0 (by kernel_rfl) (by unfold w32; rw [arr_size, arr_size]) (arr_one _ _ fun i => rfl) ?_))
      refine bodyPost_ret (results_c rfl _ _ w.heap.size 31 _ _ _ rfl (hR0.setRow (w32 8 hf)) Try.underlying31 (by kernel_rfl)) rfl ?_
      exact ⟨rfl, below_row hB (Nat.le_refl _) _⟩
end Go.Proofs.Ytbfgnlckmpnchaa

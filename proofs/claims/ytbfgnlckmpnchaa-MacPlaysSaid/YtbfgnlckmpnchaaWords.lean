/-
  sha: a block's words: the program's walk (written by wip/tools/sha_words.py).
-/
import Derived.Test.YtbfgnlckmpnchaaConsts
import Derived.Test.YtbfgnlckmpnchaaMixedC
namespace Go.Proofs.Ytbfgnlckmpnchaa
open Go.RowKit
set_option linter.unusedVariables false
set_option linter.unusedSimpArgs false
def gw (p : List UInt32) (i : Nat) : UInt32 := p.getD i 0
/-- Four bytes as a word. -/
def word4 (l : List UInt8) (j : Nat) : UInt32 := (bt l (4 * j)).toUInt32 <<< 24 ||| (bt l (4 * j + 1)).toUInt32 <<< 16 ||| (bt l (4 * j + 2)).toUInt32 <<< 8 ||| (bt l (4 * j + 3)).toUInt32
/-- The next word behind those that there are. -/
def wnext (l : List UInt8) (p : List UInt32) (j : Nat) : UInt32 := if j < 16 then word4 l j else gw p (j - 16) + two (gw p (j - 15)) 7 18 3 + gw p (j - 7) + two (gw p (j - 2)) 17 19 10
def wl (l : List UInt8) : Nat → List UInt32
  | 0 => []
  | j + 1 => wl l j ++ [wnext l (wl l j) j]
def wf (l : List UInt8) (i : Nat) : UInt32 := gw (wl l 64) i
theorem gw_left {a b : List UInt32} {i : Nat} (h : i < a.length) : gw (a ++ b) i = gw a i := by simp [gw, List.getElem?_append_left h]
theorem gw_last (a : List UInt32) (x : UInt32) : gw (a ++ [x]) a.length = x := by simp [gw]
theorem wl_length (l : List UInt8) : ∀ j, (wl l j).length = j
  | 0 => rfl
  | j + 1 => by rw [wl, List.length_append, wl_length l j]; rfl
theorem wl_add (l : List UInt8) (j : Nat) : ∀ d i, i < j → gw (wl l (j + d)) i = gw (wl l j) i
  | 0, _, _ => rfl
  | d + 1, i, h => by
    rw [← Nat.add_assoc, wl]
    rw [gw_left (by rw [wl_length]; omega)]
    exact wl_add l j d i h
theorem wf_at (l : List UInt8) {i j : Nat} (h : i < j) (hj : j ≤ 64) : gw (wl l j) i = wf l i := by
  have := wl_add l j (64 - j) i h
  rw [Nat.add_sub_cancel' hj] at this
  exact this.symm
theorem wf_next (l : List UInt8) {j : Nat} (hj : j < 64) : wf l j = wnext l (wl l j) j := by
  rw [← wf_at l (show j < j + 1 by omega) hj]
  rw [wl]
  have := gw_last (wl l j) (wnext l (wl l j) j)
  rwa [wl_length] at this
theorem wf_low (l : List UInt8) {j : Nat} (hj : j < 16) : wf l j = word4 l j := by rw [wf_next l (by omega), wnext, if_pos hj]
theorem wf_high (l : List UInt8) (i : Nat) (hi : i + 16 < 64) : wf l (i + 16) = wf l i + two (wf l (i + 1)) 7 18 3 + wf l (i + 9) + two (wf l (i + 14)) 17 19 10 := by
  rw [wf_next l hi, wnext, if_neg (by omega), show i + 16 - 16 = i by omega, show i + 16 - 15 = i + 1 by omega, show i + 16 - 7 = i + 9 by omega, show i + 16 - 2 = i + 14 by omega,
    wf_at l (by omega) (by omega), wf_at l (by omega) (by omega), wf_at l (by omega) (by omega), wf_at l (by omega) (by omega)]
set_option maxRecDepth 100000 in
set_option maxHeartbeats 4000000 in
theorem words_any (l : List UInt8) (hl : 64 ≤ l.length) (hl2 : l.length < 1000000) (w : World) : Calls Try.prog 38 #[.string (tx l)] w fun e w' => e = .returned (.agg (w32 64 (wf l))) ∧ Below w.heap.size w w' := by
  have hz : w32 64 (upw (wf l) 0) = #[.int .u32 0, .int .u32 0, .int .u32 0, .int .u32 0, .int .u32 0, .int .u32 0, .int .u32 0, .int .u32 0, .int .u32 0, .int .u32 0, .int .u32 0, .int .u32 0, .int .u32 0, .int .u32 0, .int .u32 0, .int .u32 0, .int .u32 0, .int .u32 0, .int .u32 0, .int .u32 0, .int .u32 0, .int .u32 0, .int .u32 0, .int .u32 0, .int .u32 0, .int .u32 0, .int .u32 0, .int .u32 0, .int .u32 0, .int .u32 0, .int .u32 0, .int .u32 0, .int .u32 0, .int .u32 0, .int .u32 0, .int .u32 0, .int .u32 0, .int .u32 0, .int .u32 0, .int .u32 0, .int .u32 0, .int .u32 0, .int .u32 0, .int .u32 0, .int .u32 0, .int .u32 0, .int .u32 0, .int .u32 0, .int .u32 0, .int .u32 0, .int .u32 0, .int .u32 0, .int .u32 0, .int .u32 0, .int .u32 0, .int .u32 0, .int .u32 0, .int .u32 0, .int .u32 0, .int .u32 0, .int .u32 0, .int .u32 0, .int .u32 0, .int .u32 0] := by
    unfold w32
    rw [show (fun i => v32 (upw (wf l) 0 i)) = fun _ => v32 0 from by funext i; simp [upw]]
    rfl
  have h0 := (Blk.made w 39 #[.int .u32 0, .int .u32 0, .int .u32 0, .int .u32 0, .int .u32 0, .int .u32 0, .int .u32 0, .int .u32 0, .int .u32 0, .int .u32 0, .int .u32 0, .int .u32 0, .int .u32 0, .int .u32 0, .int .u32 0, .int .u32 0, .int .u32 0, .int .u32 0, .int .u32 0, .int .u32 0, .int .u32 0, .int .u32 0, .int .u32 0, .int .u32 0, .int .u32 0, .int .u32 0, .int .u32 0, .int .u32 0, .int .u32 0, .int .u32 0, .int .u32 0, .int .u32 0, .int .u32 0, .int .u32 0, .int .u32 0, .int .u32 0, .int .u32 0, .int .u32 0, .int .u32 0, .int .u32 0, .int .u32 0, .int .u32 0, .int .u32 0, .int .u32 0, .int .u32 0, .int .u32 0, .int .u32 0, .int .u32 0, .int .u32 0, .int .u32 0, .int .u32 0, .int .u32 0, .int .u32 0, .int .u32 0, .int .u32 0, .int .u32 0, .int .u32 0, .int .u32 0, .int .u32 0, .int .u32 0, .int .u32 0, .int .u32 0, .int .u32 0, .int .u32 0]).alloc (.cells #[.int .u32 0, .int .u32 0, .int .u32 0, .int .u32 0, .int .u32 0, .int .u32 0, .int .u32 0, .int .u32 0, .int .u32 0, .int .u32 0, .int .u32 0, .int .u32 0, .int .u32 0, .int .u32 0, .int .u32 0, .int .u32 0, .int .u32 0, .int .u32 0, .int .u32 0, .int .u32 0, .int .u32 0, .int .u32 0, .int .u32 0, .int .u32 0, .int .u32 0, .int .u32 0, .int .u32 0, .int .u32 0, .int .u32 0, .int .u32 0, .int .u32 0, .int .u32 0, .int .u32 0, .int .u32 0, .int .u32 0, .int .u32 0, .int .u32 0, .int .u32 0, .int .u32 0, .int .u32 0, .int .u32 0, .int .u32 0, .int .u32 0, .int .u32 0, .int .u32 0, .int .u32 0, .int .u32 0, .int .u32 0, .int .u32 0, .int .u32 0, .int .u32 0, .int .u32 0, .int .u32 0, .int .u32 0, .int .u32 0, .int .u32 0, .int .u32 0, .int .u32 0, .int .u32 0, .int .u32 0, .int .u32 0, .int .u32 0, .int .u32 0, .int .u32 0] 39)
  have h1 := madeA w (.cells #[.int .u32 0, .int .u32 0, .int .u32 0, .int .u32 0, .int .u32 0, .int .u32 0, .int .u32 0, .int .u32 0, .int .u32 0, .int .u32 0, .int .u32 0, .int .u32 0, .int .u32 0, .int .u32 0, .int .u32 0, .int .u32 0, .int .u32 0, .int .u32 0, .int .u32 0, .int .u32 0, .int .u32 0, .int .u32 0, .int .u32 0, .int .u32 0, .int .u32 0, .int .u32 0, .int .u32 0, .int .u32 0, .int .u32 0, .int .u32 0, .int .u32 0, .int .u32 0, .int .u32 0, .int .u32 0, .int .u32 0, .int .u32 0, .int .u32 0, .int .u32 0, .int .u32 0, .int .u32 0, .int .u32 0, .int .u32 0, .int .u32 0, .int .u32 0, .int .u32 0, .int .u32 0, .int .u32 0, .int .u32 0, .int .u32 0, .int .u32 0, .int .u32 0, .int .u32 0, .int .u32 0, .int .u32 0, .int .u32 0, .int .u32 0, .int .u32 0, .int .u32 0, .int .u32 0, .int .u32 0, .int .u32 0, .int .u32 0, .int .u32 0, .int .u32 0] 39) 39 #[.int .u32 0, .int .u32 0, .int .u32 0, .int .u32 0, .int .u32 0, .int .u32 0, .int .u32 0, .int .u32 0, .int .u32 0, .int .u32 0, .int .u32 0, .int .u32 0, .int .u32 0, .int .u32 0, .int .u32 0, .int .u32 0, .int .u32 0, .int .u32 0, .int .u32 0, .int .u32 0, .int .u32 0, .int .u32 0, .int .u32 0, .int .u32 0, .int .u32 0, .int .u32 0, .int .u32 0, .int .u32 0, .int .u32 0, .int .u32 0, .int .u32 0, .int .u32 0, .int .u32 0, .int .u32 0, .int .u32 0, .int .u32 0, .int .u32 0, .int .u32 0, .int .u32 0, .int .u32 0, .int .u32 0, .int .u32 0, .int .u32 0, .int .u32 0, .int .u32 0, .int .u32 0, .int .u32 0, .int .u32 0, .int .u32 0, .int .u32 0, .int .u32 0, .int .u32 0, .int .u32 0, .int .u32 0, .int .u32 0, .int .u32 0, .int .u32 0, .int .u32 0, .int .u32 0, .int .u32 0, .int .u32 0, .int .u32 0, .int .u32 0, .int .u32 0]
  have hb := belowB w (.cells #[.int .u32 0, .int .u32 0, .int .u32 0, .int .u32 0, .int .u32 0, .int .u32 0, .int .u32 0, .int .u32 0, .int .u32 0, .int .u32 0, .int .u32 0, .int .u32 0, .int .u32 0, .int .u32 0, .int .u32 0, .int .u32 0, .int .u32 0, .int .u32 0, .int .u32 0, .int .u32 0, .int .u32 0, .int .u32 0, .int .u32 0, .int .u32 0, .int .u32 0, .int .u32 0, .int .u32 0, .int .u32 0, .int .u32 0, .int .u32 0, .int .u32 0, .int .u32 0, .int .u32 0, .int .u32 0, .int .u32 0, .int .u32 0, .int .u32 0, .int .u32 0, .int .u32 0, .int .u32 0, .int .u32 0, .int .u32 0, .int .u32 0, .int .u32 0, .int .u32 0, .int .u32 0, .int .u32 0, .int .u32 0, .int .u32 0, .int .u32 0, .int .u32 0, .int .u32 0, .int .u32 0, .int .u32 0, .int .u32 0, .int .u32 0, .int .u32 0, .int .u32 0, .int .u32 0, .int .u32 0, .int .u32 0, .int .u32 0, .int .u32 0, .int .u32 0] 39) (.cells #[.int .u32 0, .int .u32 0, .int .u32 0, .int .u32 0, .int .u32 0, .int .u32 0, .int .u32 0, .int .u32 0, .int .u32 0, .int .u32 0, .int .u32 0, .int .u32 0, .int .u32 0, .int .u32 0, .int .u32 0, .int .u32 0, .int .u32 0, .int .u32 0, .int .u32 0, .int .u32 0, .int .u32 0, .int .u32 0, .int .u32 0, .int .u32 0, .int .u32 0, .int .u32 0, .int .u32 0, .int .u32 0, .int .u32 0, .int .u32 0, .int .u32 0, .int .u32 0, .int .u32 0, .int .u32 0, .int .u32 0, .int .u32 0, .int .u32 0, .int .u32 0, .int .u32 0, .int .u32 0, .int .u32 0, .int .u32 0, .int .u32 0, .int .u32 0, .int .u32 0, .int .u32 0, .int .u32 0, .int .u32 0, .int .u32 0, .int .u32 0, .int .u32 0, .int .u32 0, .int .u32 0, .int .u32 0, .int .u32 0, .int .u32 0, .int .u32 0, .int .u32 0, .int .u32 0, .int .u32 0, .int .u32 0, .int .u32 0, .int .u32 0, .int .u32 0] 39)
  rw [← hz] at h0 h1 hb
  go_enter Try.func38, Try.ntmps38
  go_wp2_with fail
  rw [← hz]
  generalize hwA : (w.alloc (.cells (w32 64 (upw (wf l) 0)) 39)).alloc (.cells (w32 64 (upw (wf l) 0)) 39) = wA at *
  clear hwA hz
  go_loopw [5] (fun z wr => ∃ i : Nat, i ≤ 64 ∧ z = .int .i64 i ∧ Blk wr w.heap.size 39 (w32 64 (upw (wf l) 0)) ∧ Blk wr (w.heap.size + 1) 39 (w32 64 (upw (wf l) i)) ∧ Below w.heap.size w wr) (fun z _ => 64 - (intOf z).toNat)
  case atStart => exact ⟨0, Nat.zero_le _, rfl, h0, h1, hb⟩
  case round =>
    clear h0 h1 hb
    obtain ⟨j, hj, rfl, hR0, hR1, hB⟩ := hrel
    by_cases hin : j < 64
    · have gin : (j : Int) < 64 := by omega
      have hltB := hR1.lt
      have f2 := hR1.free j
      have k0 := hR0.drew.other (p := ⟨w.heap.size + 1, j, none⟩) (by simp) (v32 (wf l j))
      have k1 := hR1.drew.set j (v32 (wf l j))
      rw [upw_set] at k1
      have k3 := hB.drew.setCell (p := ⟨w.heap.size + 1, j, none⟩) (by simp) (v32 (wf l j))
      have c2 := hR1.at_ (arr_get (fun i => v32 (upw (wf l) j i)) hin)
      by_cases h16 : j < 16
      · have g16 : (j : Int) < 16 := by omega
        have i0 := idx_tx (P := Try.prog) 9 Try.underlying9 l .i64 (4 * (j : Int)) (4 * j) (by omega) (by omega)
        have i1 := idx_tx (P := Try.prog) 9 Try.underlying9 l .i64 (4 * (j : Int) + 1) (4 * j + 1) (by omega) (by omega)
        have i2 := idx_tx (P := Try.prog) 9 Try.underlying9 l .i64 (4 * (j : Int) + 2) (4 * j + 2) (by omega) (by omega)
        have i3 := idx_tx (P := Try.prog) 9 Try.underlying9 l .i64 (4 * (j : Int) + 3) (4 * j + 3) (by omega) (by omega)
        have hw : wf l j = word4 l j := wf_low l h16
        unfold word4 at hw
        have HW := keep hw
        clear hw
        go_wp2_with fail
        refine MixedC.wp_region (fun _ => True) [(1, 0), (1, 1), (1, 2), (1, 3), (1, 4), (1, 5), (1, 6), (1, 7), (1, 8), (1, 9), (1, 10), (1, 11), (1, 12), (1, 13), (1, 14), (1, 15), (1, 16), (1, 17), (1, 18), (1, 19), (1, 20), (1, 21), (1, 22), (1, 23), (1, 24), (1, 25), (1, 26), (1, 27), (1, 28), (1, 29), (1, 30), (2, 31)] (by kernel_rfl) (by kernel_rfl) trivial ?_
        refine MixedC.reads (k := 1) (.inr ⟨rfl, rfl⟩) _ [0, 1, 2, 3, 4, 5, 6, 7, 8, 9, 10, 11, 12, 13, 14, 15, 16, 17, 18, 19, 20, 21, 22, 23, 24, 25, 26, 27, 28, 29, 30] _ (by kernel_rfl) ?_
        simp only [List.filterMap_cons, List.filterMap_nil, List.getElem?_toArray, List.getElem?_cons_zero, List.getElem?_cons_succ]
        show wpQuiet _ _ _ _ [_, _, _, _, _, _, _, _, _, _, _, _, _, _, _, _, _, _, _, _, _, _, _, _, _, _, _, _, _, _, _] _
        iterate 31 go_big_quiet_step (fail)
        refine wpQuiet_nil ?_
        refine MixedC.effect (i := 31) rfl rfl ?_
        intro Q hQ
        have HQ := keep hQ
        clear hQ hR0 hR1 hB
        go_wp2_with fail
        rw [← HW.out]
        refine HQ.out _ _ trivial ?_
        unfold MixedC.HL
        clear HQ
        go_wp2_with fail
        go_roundw
        case rel => exact ⟨j + 1, by omega, by go_num, k0, k1, k3⟩
        case measure => simp [intOf]; omega
      · have g16 : ¬ (j : Int) < 16 := by omega
        have ci : ∀ d, d < j → ∀ u, (mix [] wr u).cell? ⟨w.heap.size + 1, d, none⟩ = some (v32 (wf l d)) := fun d hd u => by
          rw [mix_cell [] wr u (by simpa using hltB) (by simp)]
          have := hR1.at_ (arr_get (fun q => v32 (upw (wf l) j q)) (show d < 64 by omega))
          rwa [show upw (wf l) j d = wf l d from by simp [upw, hd]] at this
        have ci' : ∀ d, d < j → wr.cell? ⟨w.heap.size + 1, d, none⟩ = some (v32 (wf l d)) := fun d hd => by
          have := hR1.at_ (arr_get (fun q => v32 (upw (wf l) j q)) (show d < 64 by omega))
          rwa [show upw (wf l) j d = wf l d from by simp [upw, hd]] at this
        have a0 := ci (j - 16) (by omega)
        have a9 := ci (j - 7) (by omega)
        have a14 := ci (j - 2) (by omega)
        have a1 := ci' (j - 15) (by omega)
        have hw : wf l j = wf l (j - 16) + two (wf l (j - 15)) 7 18 3 + wf l (j - 7) + two (wf l (j - 2)) 17 19 10 := by
          have := wf_high l (j - 16) (by omega)
          rwa [show j - 16 + 16 = j by omega, show j - 16 + 1 = j - 15 by omega, show j - 16 + 9 = j - 7 by omega, show j - 16 + 14 = j - 2 by omega] at this
        have HW := keep hw
        clear hw ci ci'
        go_wp2_with fail
        have t16 : ((j : Int) - 16).toNat = j - 16 := by omega
        have t15 : ((j : Int) - 15).toNat = j - 15 := by omega
        have t7 : ((j : Int) - 7).toNat = j - 7 := by omega
        have t2 : ((j : Int) - 2).toNat = j - 2 := by omega
        have p16 : (16 : Int) ≤ (j : Int) := by omega
        have p15 : (15 : Int) ≤ (j : Int) := by omega
        have p7 : (7 : Int) ≤ (j : Int) := by omega
        have p2 : (2 : Int) ≤ (j : Int) := by omega
        have q16 : (j : Int) - 16 < 64 := by omega
        have q15 : (j : Int) - 15 < 64 := by omega
        have q7 : (j : Int) - 7 < 64 := by omega
        have q2 : (j : Int) - 2 < 64 := by omega
        refine MixedC.wp_region (fun w' => ∃ u, w' = mix [] wr u) [(0, 0), (0, 1), (0, 2), (0, 3), (0, 4), (1, 5), (1, 6), (1, 7), (1, 8), (0, 11), (0, 12), (0, 13), (0, 14), (0, 16), (0, 17), (0, 18), (0, 19), (2, 9), (0, 10), (0, 15), (2, 20), (1, 21), (1, 22), (3, 23)] (by kernel_rfl) (by kernel_rfl) (Mx.drew0 _ _) ?_
        refine MixedC.reads (k := 0) (.inl ⟨rfl, rfl⟩) _ [0, 1, 2, 3, 4] _ (by kernel_rfl) ?_
        simp only [List.filterMap_cons, List.filterMap_nil, List.getElem?_toArray, List.getElem?_cons_zero, List.getElem?_cons_succ]
        show wpQuiet _ _ _ _ [_, _, _, _, _] _
        iterate 5 go_big_quiet_step (fail)
        refine wpQuiet_nil ?_
        refine MixedC.reads (k := 1) (.inr ⟨rfl, rfl⟩) _ [5, 6, 7, 8] _ (by kernel_rfl) ?_
        simp only [List.filterMap_cons, List.filterMap_nil, List.getElem?_toArray, List.getElem?_cons_zero, List.getElem?_cons_succ]
        show wpQuiet _ _ _ _ [_, _, _, _] _
        iterate 4 go_big_quiet_step (fail)
        refine wpQuiet_nil ?_
        refine MixedC.reads (k := 0) (.inl ⟨rfl, rfl⟩) _ [11, 12, 13, 14, 16, 17, 18, 19] _ (by kernel_rfl) ?_
        simp only [List.filterMap_cons, List.filterMap_nil, List.getElem?_toArray, List.getElem?_cons_zero, List.getElem?_cons_succ]
        show wpQuiet _ _ _ _ [_, _, _, _, _, _, _, _] _
        iterate 8 go_big_quiet_step (fail)
        refine wpQuiet_nil ?_
        refine MixedC.effect (i := 9) rfl rfl ?_
        intro Q hQ
        have HQ := keep hQ
        clear hQ
        go_wp2_with fail
        refine Calls.mono (show Calls Try.prog 60 #[v32 (wf l (j - 15)), .int .i64 7, .int .i64 18, .int .i64 3] _ _ from two_any 7 18 3 (by simp) _ _) ?_
        rintro e w' ⟨rfl, rfl⟩
        go_wp2_with fail
        refine HQ.out _ _ (Mx.of (Keeps.refl [] wr).drew.drew) ?_
        clear HQ
        refine MixedC.reads (k := 0) (.inl ⟨rfl, rfl⟩) _ [10, 15] _ (by kernel_rfl) ?_
        simp only [List.filterMap_cons, List.filterMap_nil, List.getElem?_toArray, List.getElem?_cons_zero, List.getElem?_cons_succ]
        show wpQuiet _ _ _ _ [_, _] _
        iterate 2 go_big_quiet_step (fail)
        refine wpQuiet_nil ?_
        refine MixedC.effect (i := 20) rfl rfl ?_
        intro Q hQ
        have HQ := keep hQ
        clear hQ
        go_wp2_with fail
        refine Calls.mono (show Calls Try.prog 60 #[v32 (wf l (j - 2)), .int .i64 17, .int .i64 19, .int .i64 10] _ _ from two_any 17 19 10 (by simp) _ _) ?_
        rintro e w' ⟨rfl, rfl⟩
        go_wp2_with fail
        refine HQ.out _ _ (Mx.of (Keeps.refl [] wr).drew.drew.drew) ?_
        clear HQ
        refine MixedC.reads (k := 1) (.inr ⟨rfl, rfl⟩) _ [21, 22] _ (by kernel_rfl) ?_
        simp only [List.filterMap_cons, List.filterMap_nil, List.getElem?_toArray, List.getElem?_cons_zero, List.getElem?_cons_succ]
        show wpQuiet _ _ _ _ [_, _] _
        iterate 2 go_big_quiet_step (fail)
        refine wpQuiet_nil ?_
        refine MixedC.effect_last (i := 23) rfl rfl ?_
        intro Q hQ
        have HQ := keep hQ
        clear hQ hR0 hR1 hB
        have k0 := k0.drew.drew
        have k1 := k1.drew.drew
        have k3 := k3.drew.drew
        go_wp2_with fail
        rw [← HW.out]
        refine HQ.out _ _ ?_
        unfold MixedC.HL
        clear HQ
        go_wp2_with fail
        go_roundw
        case rel => exact ⟨j + 1, by omega, by go_num, k0, k1, k3⟩
        case measure => simp [intOf]; omega
    · have gin : ¬ (j : Int) < 64 := by omega
      obtain rfl : j = 64 := by omega
      rw [upw_done] at hR1
      go_wp2_with (first
        | (refine wpList_load_row rfl 39 (.tmp 3) rfl (w.heap.size + 1) rfl 39 (w32 64 (wf l)) (0, 0) _ hR1 Try.underlying39 rfl (by kernel_rfl) ?_)
        | (refine wpList_store_row rfl 39 (.tmp 2) (.tmp 65) rfl w.heap.size (w32 64 (wf l)) rfl rfl 39 _ hR0 (by kernel_rfl) (by unfold w32; rw [arr_size, arr_size]) (arr_one _ _ fun i => rfl) ?_))
      refine bodyPost_ret (results_c rfl _ _ w.heap.size 39 _ _ _ rfl (hR0.setRow (w32 64 (wf l))) Try.underlying39 (by kernel_rfl)) rfl ?_
      exact ⟨rfl, below_row hB (Nat.le_refl _) _⟩
end Go.Proofs.Ytbfgnlckmpnchaa

/-
  sha: the document's block: the walk (written by wip/tools/sha_rblock.py).
-/
import Derived.Test.YtbfgnlckmpnchaaRWord
import Derived.Test.YtbfgnlckmpnchaaMixed8
import Derived.Deep.QuietTactic
import Derived.BigQuiet
namespace Go.Proofs.Ytbfgnlckmpnchaa
open Go.RowKit
set_option linter.unusedVariables false
set_option linter.unusedSimpArgs false
theorem not_sub (x : UInt32) : 4294967295 - x = ~~~x := by
  apply UInt32.toNat_inj.1
  have hx := x.toNat_lt
  rw [UInt32.toNat_sub, UInt32.toNat_not, show (4294967295 : UInt32).toNat = 4294967295 from rfl, show UInt32.size = 4294967296 from rfl]
  omega
theorem u32_arc (a b c : UInt32) : a + b + c = a + c + b := by rw [UInt32.add_assoc, UInt32.add_comm b c, ← UInt32.add_assoc]
structure RK (N : Nat) (w wr : World) (h kv wv : Nat → UInt32) : Prop where
  hh : Blk wr N 31 (w32 8 h)
  hk : Blk wr (N + 1) 39 (w32 64 kv)
  hr : Blk wr (N + 1 + 1) 31 #[.int .u32 0, .int .u32 0, .int .u32 0, .int .u32 0, .int .u32 0, .int .u32 0, .int .u32 0, .int .u32 0]
  hw : Blk wr (N + 1 + 1 + 1) 39 (w32 64 wv)
  bel : Below N w wr
section
variable {N i : Nat} {w wr w' : World} {h kv u : Nat → UInt32}
theorem RK.drew (s : RK N w wr h kv u) : RK N w wr.drew h kv u := ⟨s.hh.drew, s.hk.drew, s.hr.drew, s.hw.drew, s.bel.drew⟩
theorem RK.many (s : RK N w wr h kv u) (n : Nat) : RK N w (wr.drewN n) h kv u := ⟨s.hh, s.hk, s.hr, s.hw, below_many s.bel n⟩
theorem RK.cell (s : RK N w wr h kv (upw u i)) : RK N w (wr.setCell ⟨N + 1 + 1 + 1, i, none⟩ (v32 (u i))) h kv (upw u (i + 1)) := by
  obtain ⟨a, b, c, d, e⟩ := s
  have d2 := d.set i (v32 (u i))
  rw [upw_set] at d2
  exact ⟨a.other (by simp <;> omega) _, b.other (by simp <;> omega) _, c.other (by simp <;> omega) _, d2, e.setCell (by simp <;> omega) _⟩
end
set_option maxRecDepth 100000 in
set_option maxHeartbeats 16000000 in
theorem rblock_any (h kv : Nat → UInt32) (l : List UInt8) (hl : l.length = 64) (w : World) : Calls Try.prog 25 #[.agg (w32 8 h), .string (tx l), .agg (w32 64 kv)] w fun e w' => e = .returned (.agg (w32 8 (mixf h (wf l) kv))) ∧ Below w.heap.size w w' := by
  have hz : w32 64 (upw (wf l) 0) = #[.int .u32 0, .int .u32 0, .int .u32 0, .int .u32 0, .int .u32 0, .int .u32 0, .int .u32 0, .int .u32 0, .int .u32 0, .int .u32 0, .int .u32 0, .int .u32 0, .int .u32 0, .int .u32 0, .int .u32 0, .int .u32 0, .int .u32 0, .int .u32 0, .int .u32 0, .int .u32 0, .int .u32 0, .int .u32 0, .int .u32 0, .int .u32 0, .int .u32 0, .int .u32 0, .int .u32 0, .int .u32 0, .int .u32 0, .int .u32 0, .int .u32 0, .int .u32 0, .int .u32 0, .int .u32 0, .int .u32 0, .int .u32 0, .int .u32 0, .int .u32 0, .int .u32 0, .int .u32 0, .int .u32 0, .int .u32 0, .int .u32 0, .int .u32 0, .int .u32 0, .int .u32 0, .int .u32 0, .int .u32 0, .int .u32 0, .int .u32 0, .int .u32 0, .int .u32 0, .int .u32 0, .int .u32 0, .int .u32 0, .int .u32 0, .int .u32 0, .int .u32 0, .int .u32 0, .int .u32 0, .int .u32 0, .int .u32 0, .int .u32 0, .int .u32 0] := by
    unfold w32
    rw [show (fun i => v32 (upw (wf l) 0 i)) = fun _ => v32 0 from by funext i; simp [upw]]
    rfl
  have g0 : Blk (w.alloc (.cells (w32 8 h) 31)) w.heap.size 31 (w32 8 h) := Blk.made w 31 _
  have g1 := madeA w (.cells (w32 8 h) 31) 39 (w32 64 kv)
  have g2 := madeB w (.cells (w32 8 h) 31) (.cells (w32 64 kv) 39) 31 #[.int .u32 0, .int .u32 0, .int .u32 0, .int .u32 0, .int .u32 0, .int .u32 0, .int .u32 0, .int .u32 0]
  have gb := belowC w (.cells (w32 8 h) 31) (.cells (w32 64 kv) 39) (.cells #[.int .u32 0, .int .u32 0, .int .u32 0, .int .u32 0, .int .u32 0, .int .u32 0, .int .u32 0, .int .u32 0] 31)
  have gs : (((w.alloc (.cells (w32 8 h) 31)).alloc (.cells (w32 64 kv) 39)).alloc (.cells #[.int .u32 0, .int .u32 0, .int .u32 0, .int .u32 0, .int .u32 0, .int .u32 0, .int .u32 0, .int .u32 0] 31)).heap.size = w.heap.size + 1 + 1 + 1 := by simp
  have g3 := Blk.made (((w.alloc (.cells (w32 8 h) 31)).alloc (.cells (w32 64 kv) 39)).alloc (.cells #[.int .u32 0, .int .u32 0, .int .u32 0, .int .u32 0, .int .u32 0, .int .u32 0, .int .u32 0, .int .u32 0] 31)) 39 (w32 64 (upw (wf l) 0))
  rw [gs] at g3
  have hS : RK w.heap.size w ((((w.alloc (.cells (w32 8 h) 31)).alloc (.cells (w32 64 kv) 39)).alloc (.cells #[.int .u32 0, .int .u32 0, .int .u32 0, .int .u32 0, .int .u32 0, .int .u32 0, .int .u32 0, .int .u32 0] 31)).alloc (.cells (w32 64 (upw (wf l) 0)) 39)) h kv (upw (wf l) 0) :=
    ⟨((g0.alloc _).alloc _).alloc _, (g1.alloc _).alloc _, g2.alloc _, g3, gb.alloc (by omega) _⟩
  clear g0 g1 g2 g3 gb gs
  go_enter Try.func25, Try.ntmps25
  go_wp2_with fail
  rw [← hz]
  clear hz
  generalize ((((w.alloc (.cells (w32 8 h) 31)).alloc (.cells (w32 64 kv) 39)).alloc (.cells #[.int .u32 0, .int .u32 0, .int .u32 0, .int .u32 0, .int .u32 0, .int .u32 0, .int .u32 0, .int .u32 0] 31)).alloc (.cells (w32 64 (upw (wf l) 0)) 39)) = w0 at *
  go_loopw [8] (fun z wr => ∃ j : Nat, j ≤ 64 ∧ z = .int .i64 j ∧ RK w.heap.size w wr h kv (upw (wf l) j)) (fun z _ => 64 - (intOf z).toNat)
  case atStart => exact ⟨0, Nat.zero_le _, rfl, hS⟩
  case round =>
    clear hS
    obtain ⟨j, hj, rfl, hS⟩ := hrel
    by_cases hin : j < 64
    · have gin : (j : Int) < 64 := by omega
      have f2 := hS.hw.free j
      have c2 := hS.hw.at_ (arr_get (fun i => v32 (upw (wf l) j i)) hin)
      by_cases h16 : j < 16
      · have g16 : (j : Int) < 16 := by omega
        have i0 := idx_tx (P := Try.prog) 9 Try.underlying9 l .i64 (4 * (j : Int)) (4 * j) (by omega) (by omega)
        have i1 := idx_tx (P := Try.prog) 9 Try.underlying9 l .i64 (4 * (j : Int) + 1) (4 * j + 1) (by omega) (by omega)
        have i2 := idx_tx (P := Try.prog) 9 Try.underlying9 l .i64 (4 * (j : Int) + 2) (4 * j + 2) (by omega) (by omega)
        have i3 := idx_tx (P := Try.prog) 9 Try.underlying9 l .i64 (4 * (j : Int) + 3) (4 * j + 3) (by omega) (by omega)
        have hw : (((bt l (4 * j)).toUInt32 * 256 + (bt l (4 * j + 1)).toUInt32) * 256 + (bt l (4 * j + 2)).toUInt32) * 256 + (bt l (4 * j + 3)).toUInt32 = wf l j := by rw [word4_mul, ← wf_low l h16]
        have k1 := hS.drew.cell
        have HW := keep hw
        clear hw hS
        go_wp2_with fail
        refine MixedC.wp_region (fun _ => True) [(1, 0), (1, 1), (1, 2), (1, 3), (1, 4), (1, 5), (1, 6), (1, 7), (1, 8), (1, 9), (1, 10), (1, 11), (1, 12), (1, 13), (1, 14), (1, 15), (1, 16), (1, 17), (1, 18), (1, 19), (1, 20), (1, 21), (1, 22), (1, 23), (1, 24), (1, 25), (1, 26), (1, 27), (1, 28), (1, 29), (1, 30), (2, 31)] (by kernel_rfl) (by kernel_rfl) trivial ?_
        refine MixedC.reads (k := 1) (.inr ⟨rfl, rfl⟩) _ [0, 1, 2, 3, 4, 5, 6, 7, 8, 9, 10, 11, 12, 13, 14, 15, 16, 17, 18, 19, 20, 21, 22, 23, 24, 25, 26, 27, 28, 29, 30] _ (by kernel_rfl) ?_
        simp only [List.filterMap_cons, List.filterMap_nil, List.getElem?_toArray, List.getElem?_cons_zero, List.getElem?_cons_succ]
        show wpQuiet _ _ _ _ [_, _, _, _, _, _, _, _, _, _, _, _, _, _, _, _, _, _, _, _, _, _, _, _, _, _, _, _, _, _, _] _
        iterate 31 go_big_quiet_step (fail)
        refine wpQuiet_nil ?_
        refine MixedC.effect (i := 31) rfl rfl ?_
        intro Q hQ
        have HQ := keep hQ
        clear hQ
        go_wp2_with fail
        rw [HW.out]
        refine HQ.out _ _ trivial ?_
        unfold MixedC.HL
        clear HQ
        go_wp2_with fail
        go_roundw
        case rel => exact ⟨j + 1, by omega, by go_num, k1⟩
        case measure => simp [intOf]; omega
      · have g16 : ¬ (j : Int) < 16 := by omega
        have hltB := hS.hw.lt
        have ci : ∀ d, d < j → ∀ u, (mix [] wr u).cell? ⟨w.heap.size + 1 + 1 + 1, d, none⟩ = some (v32 (wf l d)) := fun d hd u => by
          rw [mix_cell [] wr u (by simpa using hltB) (by simp)]
          have := hS.hw.at_ (arr_get (fun q => v32 (upw (wf l) j q)) (show d < 64 by omega))
          rwa [show upw (wf l) j d = wf l d from by simp [upw, hd]] at this
        have ci' : ∀ d, d < j → wr.cell? ⟨w.heap.size + 1 + 1 + 1, d, none⟩ = some (v32 (wf l d)) := fun d hd => by
          have := hS.hw.at_ (arr_get (fun q => v32 (upw (wf l) j q)) (show d < 64 by omega))
          rwa [show upw (wf l) j d = wf l d from by simp [upw, hd]] at this
        have hw : wf l (j - 16) + wf l (j - 7) + two (wf l (j - 15)) 7 18 3 + two (wf l (j - 2)) 17 19 10 = wf l j := by
          have := wf_high l (j - 16) (by omega)
          rw [show j - 16 + 16 = j by omega, show j - 16 + 1 = j - 15 by omega, show j - 16 + 9 = j - 7 by omega, show j - 16 + 14 = j - 2 by omega] at this
          rw [this, u32_arc (wf l (j - 16))]
        unfold two at hw
        have a0 := ci (j - 16) (by omega)
        have a9 := ci (j - 7) (by omega)
        have a14 := ci' (j - 2) (by omega)
        have a1 := ci' (j - 15) (by omega)
        obtain ⟨x, hx⟩ : ∃ x, wf l (j - 15) = x := ⟨_, rfl⟩
        obtain ⟨y, hy⟩ : ∃ y, wf l (j - 2) = y := ⟨_, rfl⟩
        obtain ⟨x0, hx0⟩ : ∃ x, wf l (j - 16) = x := ⟨_, rfl⟩
        obtain ⟨y0, hy0⟩ : ∃ y, wf l (j - 7) = y := ⟨_, rfl⟩
        rw [hx, hy, hx0, hy0] at hw
        have hw : x0 + y0 + (ror x 7 ^^^ ror x 18 ^^^ x >>> 3) + (ror y 17 ^^^ ror y 19 ^^^ y >>> 10) = wf l j := hw
        rw [hx] at a1
        rw [hy] at a14
        rw [hx0] at a0
        rw [hy0] at a9
        have HW := keep hw
        clear hw ci ci' hx hy hx0 hy0
        go_wp2_with fail
        have t16 : ((j : Int) - 16).toNat = j - 16 := by omega
        have t15 : ((j : Int) - 15).toNat = j - 15 := by omega
        have t7 : ((j : Int) - 7).toNat = j - 7 := by omega
        have t2 : ((j : Int) - 2).toNat = j - 2 := by omega
        have p16 : (16 : Int) ≤ (j : Int) := by omega
        have p15 : (15 : Int) ≤ (j : Int) := by omega
        have p7 : (7 : Int) ≤ (j : Int) := by omega
        have p2 : (2 : Int) ≤ (j : Int) := by omega
        have q16 : (j : Int) - 16 < 64 := by omega
        have q15 : (j : Int) - 15 < 64 := by omega
        have q7 : (j : Int) - 7 < 64 := by omega
        have q2 : (j : Int) - 2 < 64 := by omega
        go_quiet (fail)
        have k1 := (hS.many nq).drew.cell
        have hz1 : ∀ u, (mix [] (wr.drewN nq) u).cell? ⟨w.heap.size + 1 + 1 + 1, j - 16, none⟩ = some (v32 x0) := fun u => (mix_cell [] _ u (by simpa using hltB) (by simp)).trans (by have := a0 wr; rw [mix_cell [] wr wr (by simpa using hltB) (by simp)] at this; exact this)
        have hz2 : ∀ u, (mix [] (wr.drewN nq) u).cell? ⟨w.heap.size + 1 + 1 + 1, j - 7, none⟩ = some (v32 y0) := fun u => (mix_cell [] _ u (by simpa using hltB) (by simp)).trans (by have := a9 wr; rw [mix_cell [] wr wr (by simpa using hltB) (by simp)] at this; exact this)
        have f2 : (wr.drewN nq).frozen? ⟨w.heap.size + 1 + 1 + 1, j, none⟩ = false := f2
        have c2 : (wr.drewN nq).cell? ⟨w.heap.size + 1 + 1 + 1, j, none⟩ = some (v32 (upw (wf l) j j)) := c2
        clear a0 a9 a14 a1 hS hltB
        generalize wr.drewN nq = wr at *
        go_wp2_with fail
        refine MixedC.wp_region (fun w' => ∃ u, w' = mix [] wr u) [(0, 0), (0, 1), (0, 2), (0, 3), (0, 4), (0, 5), (0, 6), (0, 7), (0, 8), (0, 9), (1, 10), (0, 12), (0, 15), (0, 19), (0, 21), (0, 24), (2, 11), (2, 13), (0, 14), (2, 16), (0, 17), (0, 18), (2, 20), (2, 22), (0, 23), (2, 25), (1, 26), (1, 27), (1, 28), (3, 29)] (by kernel_rfl) (by kernel_rfl) (Mx.drew0 _ _) ?_
        refine MixedC.reads (k := 0) (.inl ⟨rfl, rfl⟩) _ [0, 1, 2, 3, 4, 5, 6, 7, 8, 9] _ (by kernel_rfl) ?_
        simp only [List.filterMap_cons, List.filterMap_nil, List.getElem?_toArray, List.getElem?_cons_zero, List.getElem?_cons_succ]
        show wpQuiet _ _ _ _ [_, _, _, _, _, _, _, _, _, _] _
        iterate 10 go_big_quiet_step (fail)
        refine wpQuiet_nil ?_
        refine MixedC.reads (k := 1) (.inr ⟨rfl, rfl⟩) _ [10] _ (by kernel_rfl) ?_
        simp only [List.filterMap_cons, List.filterMap_nil, List.getElem?_toArray, List.getElem?_cons_zero, List.getElem?_cons_succ]
        show wpQuiet _ _ _ _ [_] _
        iterate 1 go_big_quiet_step (fail)
        refine wpQuiet_nil ?_
        refine MixedC.reads (k := 0) (.inl ⟨rfl, rfl⟩) _ [12, 15, 19, 21, 24] _ (by kernel_rfl) ?_
        simp only [List.filterMap_cons, List.filterMap_nil, List.getElem?_toArray, List.getElem?_cons_zero, List.getElem?_cons_succ]
        show wpQuiet _ _ _ _ [_, _, _, _, _] _
        iterate 5 go_big_quiet_step (fail)
        refine wpQuiet_nil ?_
        refine MixedC.effect (i := 11) rfl rfl ?_
        intro Q hQ
        have HQ := keep hQ
        clear hQ
        go_wp2_with fail
        refine Calls.mono (show Calls Try.prog 42 #[v32 x, .int .i64 7] _ _ from right_any 7 (by omega) x _) ?_
        rintro e w2 ⟨rfl, hw2⟩
        rw [hw2]
        clear hw2
        go_wp2_with fail
        refine HQ.out _ _ (Mx.of (Keeps.refl [] wr).drew) ?_
        clear HQ
        refine MixedC.effect (i := 13) rfl rfl ?_
        intro Q hQ
        have HQ := keep hQ
        clear hQ
        go_wp2_with fail
        refine Calls.mono (show Calls Try.prog 42 #[v32 x, .int .i64 18] _ _ from right_any 18 (by omega) x _) ?_
        rintro e w2 ⟨rfl, hw2⟩
        rw [hw2]
        clear hw2
        go_wp2_with fail
        refine HQ.out _ _ (Mx.of (Keeps.refl [] wr).drew) ?_
        clear HQ
        refine MixedC.reads (k := 0) (.inl ⟨rfl, rfl⟩) _ [14] _ (by kernel_rfl) ?_
        simp only [List.filterMap_cons, List.filterMap_nil, List.getElem?_toArray, List.getElem?_cons_zero, List.getElem?_cons_succ]
        show wpQuiet _ _ _ _ [_] _
        iterate 1 go_big_quiet_step (fail)
        refine wpQuiet_nil ?_
        refine MixedC.effect (i := 16) rfl rfl ?_
        intro Q hQ
        have HQ := keep hQ
        clear hQ
        go_wp2_with fail
        refine Calls.mono (show Calls Try.prog 43 #[v32 x, .int .i64 3] _ _ from shift_any 3 (by omega) x _) ?_
        rintro e w2 ⟨rfl, hw2⟩
        rw [hw2]
        clear hw2
        go_wp2_with fail
        refine HQ.out _ _ (Mx.of (Keeps.refl [] wr).drew) ?_
        clear HQ
        refine MixedC.reads (k := 0) (.inl ⟨rfl, rfl⟩) _ [17, 18] _ (by kernel_rfl) ?_
        simp only [List.filterMap_cons, List.filterMap_nil, List.getElem?_toArray, List.getElem?_cons_zero, List.getElem?_cons_succ]
        show wpQuiet _ _ _ _ [_, _] _
        iterate 2 go_big_quiet_step (fail)
        refine wpQuiet_nil ?_
        refine MixedC.effect (i := 20) rfl rfl ?_
        intro Q hQ
        have HQ := keep hQ
        clear hQ
        go_wp2_with fail
        refine Calls.mono (show Calls Try.prog 42 #[v32 y, .int .i64 17] _ _ from right_any 17 (by omega) y _) ?_
        rintro e w2 ⟨rfl, hw2⟩
        rw [hw2]
        clear hw2
        go_wp2_with fail
        refine HQ.out _ _ (Mx.of (Keeps.refl [] wr).drew) ?_
        clear HQ
        refine MixedC.effect (i := 22) rfl rfl ?_
        intro Q hQ
        have HQ := keep hQ
        clear hQ
        go_wp2_with fail
        refine Calls.mono (show Calls Try.prog 42 #[v32 y, .int .i64 19] _ _ from right_any 19 (by omega) y _) ?_
        rintro e w2 ⟨rfl, hw2⟩
        rw [hw2]
        clear hw2
        go_wp2_with fail
        refine HQ.out _ _ (Mx.of (Keeps.refl [] wr).drew) ?_
        clear HQ
        refine MixedC.reads (k := 0) (.inl ⟨rfl, rfl⟩) _ [23] _ (by kernel_rfl) ?_
        simp only [List.filterMap_cons, List.filterMap_nil, List.getElem?_toArray, List.getElem?_cons_zero, List.getElem?_cons_succ]
        show wpQuiet _ _ _ _ [_] _
        iterate 1 go_big_quiet_step (fail)
        refine wpQuiet_nil ?_
        refine MixedC.effect (i := 25) rfl rfl ?_
        intro Q hQ
        have HQ := keep hQ
        clear hQ
        go_wp2_with fail
        refine Calls.mono (show Calls Try.prog 43 #[v32 y, .int .i64 10] _ _ from shift_any 10 (by omega) y _) ?_
        rintro e w2 ⟨rfl, hw2⟩
        rw [hw2]
        clear hw2
        go_wp2_with fail
        refine HQ.out _ _ (Mx.of (Keeps.refl [] wr).drew) ?_
        clear HQ
        refine MixedC.reads (k := 1) (.inr ⟨rfl, rfl⟩) _ [26, 27, 28] _ (by kernel_rfl) ?_
        simp only [List.filterMap_cons, List.filterMap_nil, List.getElem?_toArray, List.getElem?_cons_zero, List.getElem?_cons_succ]
        show wpQuiet _ _ _ _ [_, _, _] _
        iterate 3 go_big_quiet_step (fail)
        refine wpQuiet_nil ?_
        refine MixedC.effect_last (i := 29) rfl rfl ?_
        intro Q hQ
        have HQ := keep hQ
        clear hQ
        go_wp2_with fail
        rw [HW.out]
        refine HQ.out _ _ ?_
        unfold MixedC.HL
        clear HQ
        go_wp2_with fail
        go_roundw
        case rel => exact ⟨j + 1, by omega, by go_num, k1⟩
        case measure => simp [intOf]; omega
    · have gin : ¬ (j : Int) < 64 := by omega
      have hS0 : RK w.heap.size w wr h kv (wf l) := by
        obtain ⟨a, b, c, d, e⟩ := hS
        obtain rfl : j = 64 := by omega
        rw [upw_done] at d
        exact ⟨a, b, c, d, e⟩
      clear hS
      obtain ⟨wv, hwv⟩ : ∃ wv, wf l = wv := ⟨_, rfl⟩
      rw [hwv] at hS0
      have HWV := keep hwv
      clear hwv
      have c0 := hS0.hh.at_ (arr_get (fun i => v32 (h i)) (show 0 < 8 by omega))
      have c1 := hS0.hh.at_ (arr_get (fun i => v32 (h i)) (show 1 < 8 by omega))
      have c2 := hS0.hh.at_ (arr_get (fun i => v32 (h i)) (show 2 < 8 by omega))
      have c3 := hS0.hh.at_ (arr_get (fun i => v32 (h i)) (show 3 < 8 by omega))
      have c4 := hS0.hh.at_ (arr_get (fun i => v32 (h i)) (show 4 < 8 by omega))
      have c5 := hS0.hh.at_ (arr_get (fun i => v32 (h i)) (show 5 < 8 by omega))
      have c6 := hS0.hh.at_ (arr_get (fun i => v32 (h i)) (show 6 < 8 by omega))
      have c7 := hS0.hh.at_ (arr_get (fun i => v32 (h i)) (show 7 < 8 by omega))
      go_wp2_with fail
      go_quiet (fail)
      have hS1 := hS0.many nq
      clear hS0 c0 c1 c2 c3 c4 c5 c6 c7
      generalize wr.drewN nq = wr at *
      go_wp2_with fail
      obtain ⟨wo, rfl⟩ : ∃ wo : World, wo = wr := ⟨_, rfl⟩
      go_loopw [11, 12, 13, 14, 15, 16, 17, 18, 19] (fun va vb vc vd ve vf vg vi z wr => ∃ (j : Nat) (a b c d e f g i : UInt32), j ≤ 64 ∧ z = .int .i64 j ∧ va = v32 a ∧ vb = v32 b ∧ vc = v32 c ∧ vd = v32 d ∧ ve = v32 e ∧ vf = v32 f ∧ vg = v32 g ∧ vi = v32 i ∧ Hid (vs h wv kv j = [a, b, c, d, e, f, g, i]) ∧ RK w.heap.size w wr h kv wv) (fun _ _ _ _ _ _ _ _ z _ => 64 - (intOf z).toNat)
      case atStart => exact ⟨0, _, _, _, _, _, _, _, _, Nat.zero_le _, rfl, rfl, rfl, rfl, rfl, rfl, rfl, rfl, rfl, keep rfl, hS1⟩
      case round =>
        clear hS1
        obtain ⟨j, a, b, c, d, e, f, g, i, hj, rfl, rfl, rfl, rfl, rfl, rfl, rfl, rfl, rfl, HV, hS⟩ := hrel
        by_cases hlt : j < 64
        · have glt : (j : Int) < 64 := by omega
          have cw := hS.hw.at_ (arr_get (fun q => v32 (wv q)) hlt)
          have ck := hS.hk.at_ (arr_get (fun q => v32 (kv q)) hlt)
          have hstep : vs h wv kv (j + 1) = vn [a, b, c, d, e, f, g, i] (wv j) (kv j) := by rw [← HV.out]; rfl
          obtain ⟨x, hx⟩ : ∃ x, wv j = x := ⟨_, rfl⟩
          obtain ⟨y, hy⟩ : ∃ y, kv j = y := ⟨_, rfl⟩
          rw [hx] at cw hstep
          rw [hy] at ck hstep
          obtain ⟨s1, hs1⟩ : ∃ s1, three e 6 11 25 = s1 := ⟨_, rfl⟩
          obtain ⟨s0, hs0⟩ : ∃ s0, three a 2 13 22 = s0 := ⟨_, rfl⟩
          have hth : ror e 6 ^^^ ror e 11 ^^^ ror e 25 = s1 := hs1
          have htu : ror a 2 ^^^ ror a 13 ^^^ ror a 22 = s0 := hs0
          have hvn : vn [a, b, c, d, e, f, g, i] x y = [i + s1 + (e &&& f ^^^ ~~~e &&& g) + y + x + (s0 + (a &&& b ^^^ a &&& c ^^^ b &&& c)), a, b, c, d + (i + s1 + (e &&& f ^^^ ~~~e &&& g) + y + x), e, f, g] := by
            rw [← hs1, ← hs0]; rfl
          rw [← not_sub e] at hvn
          rw [hvn] at hstep
          have HTH := keep hth
          have HTU := keep htu
          clear hth htu hs1 hs0 hvn
          have HST := keep hstep
          clear hstep hx hy
          go_wp2_with fail
          refine Calls.mono (show Calls Try.prog 42 #[v32 e, .int .i64 6] _ _ from right_any 6 (by omega) e _) ?_
          rintro _ w2 ⟨rfl, hw2⟩
          rw [hw2]
          clear hw2
          go_wp2_with fail
          refine Calls.mono (show Calls Try.prog 42 #[v32 e, .int .i64 11] _ _ from right_any 11 (by omega) e _) ?_
          rintro _ w2 ⟨rfl, hw2⟩
          rw [hw2]
          clear hw2
          go_wp2_with fail
          refine Calls.mono (show Calls Try.prog 42 #[v32 e, .int .i64 25] _ _ from right_any 25 (by omega) e _) ?_
          rintro _ w2 ⟨rfl, hw2⟩
          rw [hw2]
          clear hw2
          go_wp2_with fail
          rw [HTH.out]
          go_quiet (fail)
          have hS2 := hS.many nq
          clear hS cw ck
          generalize wr.drewN nq = wr at *
          obtain ⟨T, hT⟩ : ∃ T, i + s1 + (e &&& f ^^^ (4294967295 - e) &&& g) + y + x = T := ⟨_, rfl⟩
          rw [hT]
          have hstep := HST.out
          rw [hT] at hstep
          have HST2 := keep hstep
          clear hT hstep HST HTH
          go_wp2_with fail
          refine Calls.mono (show Calls Try.prog 42 #[v32 a, .int .i64 2] _ _ from right_any 2 (by omega) a _) ?_
          rintro _ w2 ⟨rfl, hw2⟩
          rw [hw2]
          clear hw2
          go_wp2_with fail
          refine Calls.mono (show Calls Try.prog 42 #[v32 a, .int .i64 13] _ _ from right_any 13 (by omega) a _) ?_
          rintro _ w2 ⟨rfl, hw2⟩
          rw [hw2]
          clear hw2
          go_wp2_with fail
          refine Calls.mono (show Calls Try.prog 42 #[v32 a, .int .i64 22] _ _ from right_any 22 (by omega) a _) ?_
          rintro _ w2 ⟨rfl, hw2⟩
          rw [hw2]
          clear hw2
          go_wp2_with fail
          rw [HTU.out]
          go_roundw
          case rel => exact ⟨j + 1, _, _, _, _, _, _, _, _, by omega, by go_num, rfl, rfl, rfl, rfl, rfl, rfl, rfl, rfl, HST2, hS2⟩
          case measure => simp [intOf]; omega
        · have glt : ¬ (j : Int) < 64 := by omega
          obtain rfl : j = 64 := by omega
          have hv := HV.out
          rw [← HWV.out] at hv
          have hfin : (#[v32 (h 0 + a), v32 (h 1 + b), v32 (h 2 + c), v32 (h 3 + d), v32 (h 4 + e), v32 (h 5 + f), v32 (h 6 + g), v32 (h 7 + i)] : Array Value) = w32 8 (mixf h (wf l) kv) := by
            have e8 : ∀ F : Nat → UInt32, w32 8 F = #[v32 (F 0), v32 (F 1), v32 (F 2), v32 (F 3), v32 (F 4), v32 (F 5), v32 (F 6), v32 (F 7)] := fun F => rfl
            rw [e8]
            unfold mixf
            rw [hv]
            rw [UInt32.add_comm (h 0), UInt32.add_comm (h 1), UInt32.add_comm (h 2), UInt32.add_comm (h 3), UInt32.add_comm (h 4), UInt32.add_comm (h 5), UInt32.add_comm (h 6), UInt32.add_comm (h 7)]
            rfl
          have HFIN := keep hfin
          have hbel := hS.bel
          have hr := hS.hr
          have c0 := hS.hh.at_ (arr_get (fun i => v32 (h i)) (show 0 < 8 by omega))
          have c1 := hS.hh.at_ (arr_get (fun i => v32 (h i)) (show 1 < 8 by omega))
          have c2 := hS.hh.at_ (arr_get (fun i => v32 (h i)) (show 2 < 8 by omega))
          have c3 := hS.hh.at_ (arr_get (fun i => v32 (h i)) (show 3 < 8 by omega))
          have c4 := hS.hh.at_ (arr_get (fun i => v32 (h i)) (show 4 < 8 by omega))
          have c5 := hS.hh.at_ (arr_get (fun i => v32 (h i)) (show 5 < 8 by omega))
          have c6 := hS.hh.at_ (arr_get (fun i => v32 (h i)) (show 6 < 8 by omega))
          have c7 := hS.hh.at_ (arr_get (fun i => v32 (h i)) (show 7 < 8 by omega))
          have fr := hr.free 0
          clear hS hfin hv
          go_wp2_with (refine wpList_store_row rfl 31 (.tmp 6) (.tmp 211) rfl (w.heap.size + 1 + 1) #[v32 (h 0 + a), v32 (h 1 + b), v32 (h 2 + c), v32 (h 3 + d), v32 (h 4 + e), v32 (h 5 + f), v32 (h 6 + g), v32 (h 7 + i)] rfl rfl 31 _ hr (by kernel_rfl) (by rw [HFIN.out]; unfold w32; rw [arr_size]; rfl) (by rw [HFIN.out]; exact arr_one _ _ fun i => rfl) ?_)
          rw [HFIN.out]
          refine bodyPost_ret (results_c rfl _ _ (w.heap.size + 1 + 1) 31 _ _ _ rfl (hr.setRow (w32 8 (mixf h (wf l) kv))) Try.underlying31 (by kernel_rfl)) rfl ?_
          exact ⟨rfl, below_row hbel (by omega) _⟩
end Go.Proofs.Ytbfgnlckmpnchaa

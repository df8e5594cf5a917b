/-
  PolyBits: keys that are the same but for bits that are made 0 have the same sums; of an r of 0 it is s: the walk of the law (written by wip/tools/bits04.py).
-/
import Derived.Test.YtpjgdocgenpbbaaBitsPlain
import Derived.Test.YtpjgdocgenpbbaaMixedC
namespace Go.Proofs.Ytpjgdocgenpbbaa
open Go.RowKit
structure PB (N Z : Nat) (w wr : World) (k z wf : Nat → UInt8) : Prop where
  key : Blk wr N 23 (karr k)
  hz : Blk wr Z 23 (karr z)
  hw : Blk wr (Z + 1) 25 (uarr8 16 wf)
  bel : Below N w wr
  lt : N < Z
section
variable {N Z : Nat} {w wr w' : World} {k z wf : Nat → UInt8}
theorem PB.below (h : PB N Z w wr k z wf) (hb : Below wr.heap.size wr w') : PB N Z w w' k z wf :=
  ⟨h.key.kept hb, h.hz.kept hb, h.hw.kept hb, h.bel.trans (hb.mono (by have := h.key.lt; omega)), h.lt⟩
theorem PB.drew (h : PB N Z w wr k z wf) : PB N Z w wr.drew k z wf := ⟨h.key.drew, h.hz.drew, h.hw.drew, h.bel.drew, h.lt⟩
end
def lowup (k : Nat → UInt8) (j : Nat) : Nat → UInt8 := fun i => if i < j then 0 else k i
theorem lowup_set (k : Nat → UInt8) (j : Nat) : (karr (lowup k j)).setIfInBounds j (v8 0) = karr (lowup k (j + 1)) := by
  unfold karr
  rw [arr_set]
  refine arr_congr fun i _ => ?_
  unfold lowup
  by_cases h : i = j
  · simp [h]
  · by_cases h1 : i < j
    · simp [h, h1, show i < j + 1 by omega]
    · simp [h, h1, show ¬ i < j + 1 by omega]
theorem PB.set {N Z j : Nat} {w wr : World} {k : Nat → UInt8} (h : PB N Z w wr k (lowup k j) (up8 (fun i => k (16 + i)) j)) : PB N Z w ((wr.setCell ⟨Z, j, none⟩ (v8 0)).setCell ⟨Z + 1, j, none⟩ (v8 (k (16 + j)))) k (lowup k (j + 1)) (up8 (fun i => k (16 + i)) (j + 1)) := by
  obtain ⟨h1, h2, h3, h4, h5⟩ := h
  have a := (h2.set j (v8 0)).other (p := ⟨Z + 1, j, none⟩) (by simp) (v8 (k (16 + j)))
  have b := (h3.other (p := ⟨Z, j, none⟩) (by simp) (v8 0)).set j (v8 (k (16 + j)))
  rw [lowup_set] at a
  rw [up8_set 16 (fun i => k (16 + i)) j] at b
  exact ⟨(h1.other (by simp; omega) _).other (by simp; omega) _, a, b, (h4.setCell (by simp; omega) _).setCell (by simp; omega) _, h5⟩

set_option maxRecDepth 100000 in
set_option maxHeartbeats 2000000 in
theorem bits_walk (k : Nat → UInt8) (s : ByteArray) (w : World) : Calls Try.prog 3 #[.agg (karr k), .string s] w fun e w' => e = .returned (.bool true) ∧ Below w.heap.size w w' := by
  rw [tx_of s]
  generalize s.toList = l
  have hk0 : Blk (w.alloc (.cells (karr k) 23)) w.heap.size 23 (karr k) := Blk.made w 23 _
  have hb0 := belowA w (.cells (karr k) 23)
  by_cases h400 : 400 < l.length
  · have g : (400 : Int) < (l.length : Int) := by omega
    go_enter Try.func3, Try.ntmps3
    go_wp2_with fail
    refine (awake_any _).mono ?_; rintro e w1 ⟨rfl, hb1⟩
    have hB1 := hb0.trans (hb1.mono (by simp))
    go_wp2_with fail
    refine (awake_any _).mono ?_; rintro e w2 ⟨rfl, hb2⟩
    go_wp2_with fail
    go_ret
    exact ⟨rfl, hB1.trans (hb2.mono hB1.size)⟩
  · have g : ¬ (400 : Int) < (l.length : Int) := by omega
    go_enter Try.func3, Try.ntmps3
    go_wp2_with fail
    refine (awake_any _).mono ?_; rintro e w1 ⟨rfl, hb1⟩
    have hk1 := hk0.kept hb1
    have hB1 := hb0.trans (hb1.mono (by simp))
    have hlt := hk1.lt
    clear hk0 hb0 hb1
    go_wp2_with (first
      | (refine wpList_load_row rfl 23 (.tmp 2) rfl w.heap.size rfl 23 (karr k) (0, 0) _ hk1 Try.underlying23 rfl (by kernel_rfl) ?_)
      | (refine wpList_store_row rfl 23 (.tmp 5) (.tmp 17) rfl w1.heap.size (karr k) rfl rfl 23 _ (Blk.made w1 23 _) (by kernel_rfl) (by rw [karr, arr_size]; rfl) (arr_one _ _ fun i => rfl) ?_))
    have hA0 : ∀ cs : Array Value, PB w.heap.size w1.heap.size w (((w1.alloc (.cells cs 23)).setRow w1.heap.size (karr k)).alloc (.cells (uarr8 16 (up8 (fun i => k (16 + i)) 0)) 25)) k (lowup k 0) (up8 (fun i => k (16 + i)) 0) := fun cs =>
      ⟨((hk1.alloc _).otherRow (by omega) _).alloc _, by
        have := ((Blk.made w1 23 cs).setRow (karr k)).alloc (.cells (uarr8 16 (up8 (fun i => k (16 + i)) 0)) 25)
        rwa [show karr k = karr (lowup k 0) from arr_congr fun i _ => by simp [lowup]] at this ⊢, made_row w1 _ _ _ _ 25, (below_row (hB1.alloc hB1.size _) hB1.size _).alloc (by simp; omega) _, hlt⟩
    have hz16 : uarr8 16 (up8 (fun i => k (16 + i)) 0) = #[.int .u8 0, .int .u8 0, .int .u8 0, .int .u8 0, .int .u8 0, .int .u8 0, .int .u8 0, .int .u8 0, .int .u8 0, .int .u8 0, .int .u8 0, .int .u8 0, .int .u8 0, .int .u8 0, .int .u8 0, .int .u8 0] := by
      unfold uarr8
      rw [show (fun i => v8 (up8 (fun i => k (16 + i)) 0 i)) = fun _ => v8 0 from by funext i; simp [up8]]
      rfl
    rw [hz16] at hA0
    clear hk1 hB1
    generalize hN : w.heap.size = N at *
    generalize hZ : w1.heap.size = Z at *
    go_loopw [7] (fun t wr => ∃ j : Nat, j ≤ 16 ∧ t = .int .i64 j ∧ PB N Z w wr k (lowup k j) (up8 (fun i => k (16 + i)) j)) (fun t _ => 16 - (intOf t).toNat)
    case atStart => exact ⟨0, Nat.zero_le _, rfl, hA0 _⟩
    case round =>
      obtain ⟨j, hj, rfl, hR⟩ := hrel
      clear hA0 hz16
      have hltR := hR.lt
      by_cases h5 : j < 16
      · have g5 : (j : Int) < 16 := by omega
        have g6 : 16 + (j : Int) < 32 := by omega
        have g7 : (j : Int) < 32 := by omega
        have c1 := hR.hz.at_ (arr_get (fun i => v8 (lowup k j i)) (show j < 32 by omega))
        have f1 := hR.hz.free j
        have c2 := hR.hw.at_ (arr_get (fun i => v8 (up8 (fun i => k (16 + i)) j i)) h5)
        have f2 := hR.hw.free j
        have c3 := hR.key.at_ (arr_get (fun i => v8 (k i)) (show 16 + j < 32 by omega))
        have hne : N ≠ Z := by omega
        have hf := hR.set
        go_wp2_with fail
        clear hR c1 f1 c2 f2 c3
        go_roundw
        case rel => exact ⟨j + 1, by omega, by go_num, hf⟩
        case measure => simp [intOf]; omega
      · have g5 : ¬ (j : Int) < 16 := by omega
        have e5 : j = 16 := by omega
        rw [e5] at hR
        clear e5 hj
        have hR2 : PB N Z w wr k (lowz k) (fun i => k (16 + i)) := ⟨hR.key, hR.hz, by have := hR.hw; rwa [up8_done] at this, hR.bel, hR.lt⟩
        clear hR
        go_wp2_with (refine wpList_load_row rfl 23 (.tmp 2) rfl N rfl 23 (karr k) (0, 0) _ hR2.key Try.underlying23 rfl (by kernel_rfl) ?_)
        refine (clamp_any k _).mono ?_
        rintro e w2 ⟨rfl, hb2⟩
        have hR3 := hR2.below hb2
        clear hR2 hb2
        go_wp2_with (refine wpList_store_row rfl 23 (.tmp 8) (.tmp 31) rfl w2.heap.size (karr (clampf k)) rfl rfl 23 _ (Blk.made w2 23 _) (by kernel_rfl) (by rw [karr, arr_size]; rfl) (arr_one _ _ fun i => rfl) ?_)
        simp only [Act.put]
        have hR4 : ∀ cs : Array Value, PB N Z w ((w2.alloc (.cells cs 23)).setRow w2.heap.size (karr (clampf k))) k (lowz k) (fun i => k (16 + i)) := fun cs => by
          have l1 := hR3.key.lt; have l2 := hR3.hz.lt; have l3 := hR3.hw.lt
          exact ⟨(hR3.key.alloc _).otherRow (by omega) _, (hR3.hz.alloc _).otherRow (by omega) _, (hR3.hw.alloc _).otherRow (by omega) _, below_row (hR3.bel.alloc (by omega) _) (by omega) _, hR3.lt⟩
        have hC0 : ∀ cs : Array Value, Blk ((w2.alloc (.cells cs 23)).setRow w2.heap.size (karr (clampf k))) w2.heap.size 23 (karr (clampf k)) := fun cs => (Blk.made w2 23 cs).setRow _
        generalize hcz : (#[.int .u8 0, .int .u8 0, .int .u8 0, .int .u8 0, .int .u8 0, .int .u8 0, .int .u8 0, .int .u8 0, .int .u8 0, .int .u8 0, .int .u8 0, .int .u8 0, .int .u8 0, .int .u8 0, .int .u8 0, .int .u8 0, .int .u8 0, .int .u8 0, .int .u8 0, .int .u8 0, .int .u8 0, .int .u8 0, .int .u8 0, .int .u8 0, .int .u8 0, .int .u8 0, .int .u8 0, .int .u8 0, .int .u8 0, .int .u8 0, .int .u8 0, .int .u8 0] : Array Value) = cz at *
        have hR5 := hR4 cz
        have hC := hC0 cz
        clear hR3 hR4 hC0 hcz
        generalize hB : w2.heap.size = B at *
        generalize hw3 : (w2.alloc (.cells cz 23)).setRow B (karr (clampf k)) = wr at *
        clear hw3 hB
        have ea : ∀ w', (Op.equalIn 10000 25 (.agg (uarr8 16 (sumf k l))) (.agg (uarr8 16 (sumf k l)))).run Try.prog w' = .ok true w' := fun w' => eql25 w' _ _ true ⟨fun _ _ _ => rfl, fun _ => rfl⟩
        have eb : ∀ w', (Op.equalIn 10000 23 (.agg (karr (clampf k))) (.agg (karr (clampf k)))).run Try.prog w' = .ok true w' := fun w' => eql23 w' _ _ true ⟨fun _ _ _ => rfl, fun _ => rfl⟩
        have ec : ∀ w', (Op.equalIn 10000 25 (.agg (uarr8 16 (sumf (lowz k) l))) (.agg (uarr8 16 fun i => k (16 + i)))).run Try.prog w' = .ok true w' := fun w' => eql25 w' _ _ true ⟨fun _ i hi => sumf_lowz k l i hi, fun _ => rfl⟩
        refine MixedC.wp_region (fun w' => ∃ u, w' = mix [] wr u) [(1, 0), (1, 1), (0, 3), (0, 4), (2, 2), (2, 5), (1, 6), (1, 7), (1, 8), (0, 10), (2, 9), (1, 11), (1, 12), (1, 13), (1, 14), (1, 15), (0, 17), (2, 16), (1, 18), (1, 19), (1, 20)] (by kernel_rfl) (by kernel_rfl) (Mx.drew0 _ _) ?_
        refine MixedC.read_row (i := 0) rfl rfl 23 (.tmp 8) rfl (B) rfl 23 (karr (clampf k)) _ (hC.drew) Try.underlying23 rfl (by kernel_rfl) ?_
        simp only [List.getElem_toArray, List.getElem_cons_zero, Act.put, List.setIfInBounds_toArray, List.set_cons_succ, List.set_cons_zero]
        refine MixedC.reads (k := 1) (.inr ⟨rfl, rfl⟩) _ [1] _ (by kernel_rfl) ?_
        simp only [List.filterMap_cons, List.filterMap_nil, List.getElem?_toArray, List.getElem?_cons_zero, List.getElem?_cons_succ]
        show wpQuiet _ _ _ _ [_] _
        iterate 1 go_big_quiet_step (fail)
        refine wpQuiet_nil ?_
        refine MixedC.read_row0 (i := 3) rfl rfl 23 (.tmp 2) rfl (N) rfl 23 (karr k) _ (by rintro _ ⟨u, rfl⟩; exact (mix_keeps [] wr u).blk hR5.key (by simp)) Try.underlying23 rfl (by kernel_rfl) ?_
        simp only [List.getElem_toArray, List.getElem_cons_zero, List.getElem_cons_succ, Act.put, List.setIfInBounds_toArray, List.set_cons_succ, List.set_cons_zero]
        refine MixedC.reads (k := 0) (.inl ⟨rfl, rfl⟩) _ [4] _ (by kernel_rfl) ?_
        simp only [List.filterMap_cons, List.filterMap_nil, List.getElem?_toArray, List.getElem?_cons_zero, List.getElem?_cons_succ]
        show wpQuiet _ _ _ _ [_] _
        iterate 1 go_big_quiet_step (fail)
        refine wpQuiet_nil ?_
        refine MixedC.effect (i := 2) rfl rfl ?_
        intro Q hQ
        go_wp2_with fail
        refine (sum_any (clampf k) l _ (by omega)).mono ?_
        rintro e w4 ⟨rfl, hb⟩
        rw [sumf_clamp]
        have hK1 : Keeps [] wr w4 := (Keeps.refl [] wr).drew.below hb (Nat.le_refl _)
        have hP1 := hR5.drew.below hb
        clear hb
        go_wp2_with fail
        refine hQ _ _ (Mx.of hK1) ?_
        clear hQ
        refine MixedC.effect (i := 5) rfl rfl ?_
        intro Q hQ
        go_wp2_with fail
        refine (sum_any k l _ (by omega)).mono ?_
        rintro e w5 ⟨rfl, hb⟩
        have hK2 : Keeps [] wr w5 := hK1.below hb hK1.size
        have hP2 := hP1.below hb
        have hC2 := hK2.blk hC (by simp)
        clear hb hK1 hP1
        go_wp2_with fail
        refine hQ _ _ (Mx.of hK2) ?_
        clear hQ
        refine MixedC.reads (k := 1) (.inr ⟨rfl, rfl⟩) _ [6, 7] _ (by kernel_rfl) ?_
        simp only [List.filterMap_cons, List.filterMap_nil, List.getElem?_toArray, List.getElem?_cons_zero, List.getElem?_cons_succ]
        show wpQuiet _ _ _ _ [_, _] _
        iterate 2 go_big_quiet_step (fail)
        refine wpQuiet_nil ?_
        refine MixedC.read_row_w (i := 8) rfl (by rfl) 23 (.tmp 8) rfl (B) rfl 23 (karr (clampf k)) _ (hC2) Try.underlying23 rfl (by kernel_rfl) ?_
        simp only [List.getElem_toArray, List.getElem_cons_zero, List.getElem_cons_succ, Act.put, List.setIfInBounds_toArray, List.set_cons_succ, List.set_cons_zero]
        refine MixedC.read_row0_w (i := 10) rfl (by rfl) 23 (.tmp 8) rfl (B) rfl 23 (karr (clampf k)) _ (by rintro _ ⟨u, rfl⟩; exact (mix_keeps [] wr u).blk hC (by simp)) Try.underlying23 rfl (by kernel_rfl) ?_
        simp only [List.getElem_toArray, List.getElem_cons_zero, List.getElem_cons_succ, Act.put, List.setIfInBounds_toArray, List.set_cons_succ, List.set_cons_zero]
        refine MixedC.effect_w (i := 9) rfl (by rfl) ?_
        intro Q hQ
        go_wp2_with fail
        refine (clamp_any (clampf k) _).mono ?_
        rintro e w6 ⟨rfl, hb⟩
        rw [clampf_idem]
        have hK3 : Keeps [] wr w6 := hK2.below hb hK2.size
        have hP3 := hP2.below hb
        clear hb hK2 hP2 hC2
        go_wp2_with fail
        refine hQ _ _ (Mx.of hK3) ?_
        clear hQ
        refine MixedC.reads (k := 1) (.inr ⟨rfl, rfl⟩) _ [11, 12, 13] _ (by kernel_rfl) ?_
        simp only [List.filterMap_cons, List.filterMap_nil, List.getElem?_toArray, List.getElem?_cons_zero, List.getElem?_cons_succ]
        show wpQuiet _ _ _ _ [_, _, _] _
        iterate 3 go_big_quiet_step (fail)
        refine wpQuiet_nil ?_
        refine MixedC.read_row_w (i := 14) rfl (by rfl) 23 (.tmp 5) rfl (Z) rfl 23 (karr (lowz k)) _ (hP3.hz) Try.underlying23 rfl (by kernel_rfl) ?_
        simp only [List.getElem_toArray, List.getElem_cons_zero, List.getElem_cons_succ, Act.put, List.setIfInBounds_toArray, List.set_cons_succ, List.set_cons_zero]
        refine MixedC.reads (k := 1) (.inr ⟨rfl, rfl⟩) _ [15] _ (by kernel_rfl) ?_
        simp only [List.filterMap_cons, List.filterMap_nil, List.getElem?_toArray, List.getElem?_cons_zero, List.getElem?_cons_succ]
        show wpQuiet _ _ _ _ [_] _
        iterate 1 go_big_quiet_step (fail)
        refine wpQuiet_nil ?_
        refine MixedC.read_row0_w (i := 17) rfl (by rfl) 25 (.tmp 6) rfl (Z + 1) rfl 25 (uarr8 16 fun i => k (16 + i)) _ (by rintro _ ⟨u, rfl⟩; exact (mix_keeps [] wr u).blk hR5.hw (by simp)) Try.underlying25 rfl (by kernel_rfl) ?_
        simp only [List.getElem_toArray, List.getElem_cons_zero, List.getElem_cons_succ, Act.put, List.setIfInBounds_toArray, List.set_cons_succ, List.set_cons_zero]
        refine MixedC.effect_w (i := 16) rfl (by rfl) ?_
        intro Q hQ
        go_wp2_with fail
        refine (sum_any (lowz k) l _ (by omega)).mono ?_
        rintro e w7 ⟨rfl, hb⟩
        have hK4 : Keeps [] wr w7 := hK3.below hb hK3.size
        have hP4 := hP3.below hb
        clear hb hK3 hP3
        go_wp2_with fail
        refine hQ _ _ (Mx.of hK4) ?_
        clear hQ
        refine MixedC.reads (k := 1) (.inr ⟨rfl, rfl⟩) _ [18, 19, 20] _ (by kernel_rfl) ?_
        simp only [List.filterMap_cons, List.filterMap_nil, List.getElem?_toArray, List.getElem?_cons_zero, List.getElem?_cons_succ]
        show wpQuiet _ _ _ _ [_, _, _] _
        iterate 3 go_big_quiet_step (fail)
        refine wpQuiet_nil ?_
        unfold MixedC.HL
        go_wp2_with fail
        go_ret
        exact ⟨rfl, by first | (rw [hN]; exact hP4.bel) | exact hP4.bel⟩
end Go.Proofs.Ytpjgdocgenpbbaa

/-
  poly: Sum: the walk (written by wip/tools/sum04.py).
-/
import Derived.Test.YtpjgdocgenpbbaaSumPlain
import Derived.Test.YtpjgdocgenpbbaaMixedC
namespace Go.Proofs.Ytpjgdocgenpbbaa
open Go.RowKit
structure SM (N P : Nat) (w wr : World) (k : Nat → UInt8) (r0 r1 a b c : UInt64) : Prop where
  key : Blk wr N 23 (karr k)
  res : ∃ cs, Blk wr (N + 1) 25 cs ∧ cs.size = 16
  hr : Blk wr (P + 1) 40 #[v64 r0, v64 r1]
  ha : Blk wr (P + 1 + 1) 41 (n3 a b c)
  bel : Below N w wr
  lt : N + 1 < P
section
variable {N P : Nat} {w wr w' : World} {k : Nat → UInt8} {r0 r1 a b c x y z : UInt64}
theorem SM.size (h : SM N P w wr k r0 r1 a b c) : P + 1 + 1 < wr.heap.size := h.ha.lt
theorem SM.below (h : SM N P w wr k r0 r1 a b c) (hb : Below wr.heap.size wr w') : SM N P w w' k r0 r1 a b c := by
  have hs := h.size; have hl := h.lt
  obtain ⟨h1, ⟨cs, h2, h3⟩, h4, h5, h6, h7⟩ := h
  exact ⟨h1.kept hb, ⟨cs, h2.kept hb, h3⟩, h4.kept hb, h5.kept hb, h6.trans (hb.mono (by omega)), h7⟩
theorem SM.drew (h : SM N P w wr k r0 r1 a b c) : SM N P w wr.drew k r0 r1 a b c := ⟨h.key.drew, h.res, h.hr.drew, h.ha.drew, h.bel.drew, h.lt⟩
theorem SM.store (h : SM N P w wr k r0 r1 a b c) (x y z : UInt64) : SM N P w (wr.setRow (P + 1 + 1) (n3 x y z)) k r0 r1 x y z := by
  have hl := h.lt
  obtain ⟨h1, ⟨cs, h2, h3⟩, h4, h5, h6, h7⟩ := h
  exact ⟨h1.otherRow (by omega) _, ⟨cs, h2.otherRow (by omega) _, h3⟩, h4.otherRow (by omega) _, h5.setRow _, below_row h6 (by omega) _, h7⟩
end
def up8 (f : Nat → UInt8) (j : Nat) : Nat → UInt8 := fun i => if i < j then f i else 0
theorem up8_set (n : Nat) (f : Nat → UInt8) (j : Nat) : (uarr8 n (up8 f j)).setIfInBounds j (v8 (f j)) = uarr8 n (up8 f (j + 1)) := by
  unfold uarr8
  rw [arr_set]
  refine arr_congr fun i _ => ?_
  unfold up8
  by_cases h : i = j
  · simp [h]
  · by_cases h1 : i < j
    · simp [h, h1, show i < j + 1 by omega]
    · simp [h, h1, show ¬ i < j + 1 by omega]
theorem up8_done (n : Nat) (f : Nat → UInt8) : uarr8 n (up8 f n) = uarr8 n f := arr_congr fun i hi => by simp [up8, hi]
theorem SM.other {N P B : Nat} {w wr : World} {k : Nat → UInt8} {r0 r1 a b c : UInt64} (h : SM N P w wr k r0 r1 a b c) (hB : P + 1 + 1 < B) (i : Nat) (u : Value) : SM N P w (wr.setCell ⟨B, i, none⟩ u) k r0 r1 a b c := by
  have hl := h.lt
  obtain ⟨h1, ⟨cs, h2, h3⟩, h4, h5, h6, h7⟩ := h
  exact ⟨h1.other (by simp; omega) _, ⟨cs, h2.other (by simp; omega) _, h3⟩, h4.other (by simp; omega) _, h5.other (by simp; omega) _, h6.setCell (by simp; omega) _, h7⟩
theorem made_row (w : World) (o : Obj) (g : Nat) (cs' cs : Array Value) (t : TypeId) : Blk (((w.alloc o).setRow g cs').alloc (.cells cs t)) (w.heap.size + 1) t cs := by
  have := Blk.made ((w.alloc o).setRow g cs') t cs
  rwa [show ((w.alloc o).setRow g cs').heap.size = w.heap.size + 1 by simp] at this
theorem chunk_len (l : List UInt8) (j : Nat) : (chunk l j).length ≤ 16 := by unfold chunk; simp; omega

set_option maxRecDepth 100000 in
set_option maxHeartbeats 2000000 in
theorem sum_any (k : Nat → UInt8) (l : List UInt8) (w : World) (hl : l.length < 1099511627776) : Calls Try.prog 11 #[.agg (karr k), .string (tx l)] w fun e w' => e = .returned (.agg (uarr8 16 (sumf k l))) ∧ Below w.heap.size w w' := by
  have hk0 : Blk (w.alloc (.cells (karr k) 23)) w.heap.size 23 (karr k) := Blk.made w 23 _
  go_enter Try.func11, Try.ntmps11
  go_wp2_with (refine wpList_load_row rfl 23 (.tmp 2) rfl w.heap.size rfl 23 (karr k) (0, 0) _ (hk0.alloc _) Try.underlying23 rfl (by kernel_rfl) ?_)
  refine (clamp_any k _).mono ?_
  rintro e w1 ⟨rfl, hb1⟩
  have hk1 := (hk0.alloc _).kept hb1
  have h01 := (madeA w _ 25 _).kept hb1
  have hB1 := (belowB w _ _).trans (hb1.mono (by simp; omega))
  clear hb1 hk0
  go_wp2_with (refine wpList_store_row rfl 23 (.tmp 5) (.tmp 12) rfl w1.heap.size (karr (clampf k)) rfl rfl 23 _ (Blk.made w1 23 _) (by kernel_rfl) (by rw [karr, arr_size]; rfl) (arr_one _ _ fun i => rfl) ?_)
  simp only [Act.put]
  have hlt := h01.lt
  have q0 : ∀ cs, Blk ((w1.alloc (.cells cs 23)).setRow w1.heap.size (karr (clampf k))) w1.heap.size 23 (karr (clampf k)) := fun cs => (Blk.made w1 23 cs).setRow _
  have q1 : ∀ cs, Blk ((w1.alloc (.cells cs 23)).setRow w1.heap.size (karr (clampf k))) w.heap.size 23 (karr k) := fun cs => (hk1.alloc _).otherRow (by omega) _
  have q2 : ∀ cs, ∃ ds, Blk ((w1.alloc (.cells cs 23)).setRow w1.heap.size (karr (clampf k))) (w.heap.size + 1) 25 ds ∧ ds.size = 16 := fun cs => ⟨_, (h01.alloc _).otherRow (by omega) _, by rfl⟩
  have q3 : ∀ cs, Below w.heap.size w ((w1.alloc (.cells cs 23)).setRow w1.heap.size (karr (clampf k))) := fun cs => below_row (hB1.alloc (by omega) _) (by omega) _
  have q4 : ∀ cs, ((w1.alloc (.cells cs 23)).setRow w1.heap.size (karr (clampf k))).heap.size = w1.heap.size + 1 := fun cs => by simp
  generalize hcz : (#[.int .u8 0, .int .u8 0, .int .u8 0, .int .u8 0, .int .u8 0, .int .u8 0, .int .u8 0, .int .u8 0, .int .u8 0, .int .u8 0, .int .u8 0, .int .u8 0, .int .u8 0, .int .u8 0, .int .u8 0, .int .u8 0, .int .u8 0, .int .u8 0, .int .u8 0, .int .u8 0, .int .u8 0, .int .u8 0, .int .u8 0, .int .u8 0, .int .u8 0, .int .u8 0, .int .u8 0, .int .u8 0, .int .u8 0, .int .u8 0, .int .u8 0, .int .u8 0] : Array Value) = cz at *
  have q0 := q0 cz
  have q1 := q1 cz
  have q2 := q2 cz
  have q3 := q3 cz
  have q4 := q4 cz
  clear hk1 h01 hB1 hcz
  generalize hN : w.heap.size = N at *
  generalize hP : w1.heap.size = P at *
  generalize hw2 : (w1.alloc (.cells cz 23)).setRow P (karr (clampf k)) = w2 at *
  clear hw2
  have m0 : ∀ u, Row8 (mix [] w2 u) P 0 32 (clampf k) := fun u => Row8.ofBlk ((mix_keeps [] w2 u).blk q0 (by simp))
  have cv0 : ∀ u, (convert 37 9 (.slice (some ⟨P, 0, none⟩) 8 32)).run Try.prog (mix [] w2 u) = .ok (.string (tx (tl 8 (clampf k)))) (mix [] w2 u) := fun u =>
    Row8.back (off := 0) (f := clampf k) ⟨(m0 u).lt, fun j hj => (m0 u).at_ j (by omega), fun j hj => (m0 u).free j (by omega)⟩ 37 9 5 Try.underlying37 Try.underlying5 Try.underlying9 32
  have cv1 : ∀ u, (convert 37 9 (.slice (some ⟨P, 8, none⟩) 8 24)).run Try.prog (mix [] w2 u) = .ok (.string (tx (tl 8 fun i => clampf k (8 + i)))) (mix [] w2 u) := fun u =>
    Row8.back (off := 8) (f := fun i => clampf k (8 + i)) ⟨(m0 u).lt, fun j hj => by have := (m0 u).at_ (8 + j) (by omega); rwa [Nat.zero_add] at this, fun j hj => by have := (m0 u).free (8 + j) (by omega); rwa [Nat.zero_add] at this⟩ 37 9 5 Try.underlying37 Try.underlying5 Try.underlying9 24
  refine MixedC.wp_region (fun w' => ∃ u, w' = mix [] w2 u) [(0, 0), (0, 1), (0, 2), (0, 3), (0, 4), (0, 5), (0, 6), (2, 7), (2, 8)] (by kernel_rfl) (by kernel_rfl) (Mx.drew0 _ _) ?_
  refine MixedC.reads (k := 0) (.inl ⟨rfl, rfl⟩) _ [0, 1] _ (by kernel_rfl) ?_
  simp only [List.filterMap_cons, List.filterMap_nil, List.getElem?_toArray, List.getElem?_cons_zero, List.getElem?_cons_succ]
  show wpQuiet _ _ _ _ [_, _] _
  iterate 2 go_big_quiet_step (fail)
  refine wpQuiet_nil ?_
  refine MixedC.read_call1 (.inl ⟨rfl, rfl⟩) rfl rfl 16 Try.func16 (by kernel_rfl) rfl (.tmp 14) #[9] rfl (.string (tx (tl 8 (clampf k)))) rfl (v64 (wv (tl 8 (clampf k)))) (fun w' _ => word_q _ w' (by simp [tl])) ?_
  simp only [List.getElem_toArray, List.getElem_cons_zero, List.getElem_cons_succ, Act.put, List.setIfInBounds_toArray, List.set_cons_succ, List.set_cons_zero]
  refine MixedC.reads (k := 0) (.inl ⟨rfl, rfl⟩) _ [3, 4] _ (by kernel_rfl) ?_
  simp only [List.filterMap_cons, List.filterMap_nil, List.getElem?_toArray, List.getElem?_cons_zero, List.getElem?_cons_succ]
  show wpQuiet _ _ _ _ [_, _] _
  iterate 2 go_big_quiet_step (fail)
  refine wpQuiet_nil ?_
  refine MixedC.read_call1 (.inl ⟨rfl, rfl⟩) rfl rfl 16 Try.func16 (by kernel_rfl) rfl (.tmp 17) #[9] rfl (.string (tx (tl 8 fun i => clampf k (8 + i)))) rfl (v64 (wv (tl 8 fun i => clampf k (8 + i)))) (fun w' _ => word_q _ w' (by simp [tl])) ?_
  simp only [List.getElem_toArray, List.getElem_cons_zero, List.getElem_cons_succ, Act.put, List.setIfInBounds_toArray, List.set_cons_succ, List.set_cons_zero]
  refine MixedC.reads (k := 0) (.inl ⟨rfl, rfl⟩) _ [6] _ (by kernel_rfl) ?_
  simp only [List.filterMap_cons, List.filterMap_nil, List.getElem?_toArray, List.getElem?_cons_zero, List.getElem?_cons_succ]
  show wpQuiet _ _ _ _ [_] _
  iterate 1 go_big_quiet_step (fail)
  refine wpQuiet_nil ?_
  refine MixedC.effect (i := 7) rfl rfl ?_
  intro Q hQ
  go_wp2_with fail
  refine hQ _ _ (Mx.of ((Keeps.refl _ _).drew.alloc _)) ?_
  clear hQ
  refine MixedC.effect (i := 8) rfl rfl ?_
  intro Q hQ
  go_wp2_with fail
  refine hQ _ _ (Mx.of ((Keeps.refl _ _).drew.alloc _)) ?_
  clear hQ m0 cv0 cv1
  unfold MixedC.HL
  have hrk : rk k = V2 (wv (tl 8 (clampf k))) (wv (tl 8 fun i => clampf k (8 + i))) := rfl
  obtain ⟨r0, hr0⟩ : ∃ r, wv (tl 8 (clampf k)) = r := ⟨_, rfl⟩
  obtain ⟨r1, hr1⟩ : ∃ r, wv (tl 8 fun i => clampf k (8 + i)) = r := ⟨_, rfl⟩
  rw [hr0, hr1] at hrk ⊢
  have HRK := keep hrk
  clear hr0 hr1 hrk
  have hA : SM N P w ((w2.alloc (.cells #[v64 r0, v64 r1] 40)).alloc (.cells (n3 0 0 0) 41)).drew k r0 r1 0 0 0 := by
    obtain ⟨ds, d1, d2⟩ := q2
    exact ⟨((q1.alloc _).alloc _).drew, ⟨ds, ((d1.alloc _).alloc _).drew, d2⟩, by have := (Blk.made w2 40 #[v64 r0, v64 r1]).alloc (.cells (n3 0 0 0) 41); rwa [q4] at this, by have := madeA w2 (.cells #[v64 r0, v64 r1] 40) 41 (n3 0 0 0); rwa [q4] at this,
      ((q3.alloc (by omega) _).alloc (by simp; omega) _).drew, hlt⟩
  clear q0 q1 q2 q3 hP
  go_wp2_with fail
  clear q4
  go_loopw [8] (fun t wr => ∃ (j : Nat) (a b c : UInt64), (j = 0 ∨ 16 * j < l.length + 16) ∧ t = .int .i64 ((16 * j : Nat) : Int) ∧ Hid (V3 a b c = accs (V2 r0 r1) l j) ∧ SM N P w wr k r0 r1 a b c) (fun t _ => l.length + 16 - (intOf t).toNat)
  case atStart => exact ⟨0, 0, 0, 0, .inl rfl, rfl, keep (by simp [accs, V3]), hA⟩
  case round =>
    obtain ⟨j, a, b, c, hj, rfl, hV0, hR⟩ := hrel
    clear hA
    have hs := hR.size
    have hlt3 := hR.lt
    by_cases h4 : 16 * j < l.length
    · have g4 : 16 * (j : Int) < (l.length : Int) := by omega
      have hV := hV0.out
      by_cases h9 : 16 * j + 16 ≤ l.length
      · have g9 : 16 * (j : Int) + 16 ≤ (l.length : Int) := by omega
        have hsl := slice_tx (P := Try.prog) 9 Try.underlying9 l .i64 .i64 (16 * (j : Int)) (16 * (j : Int) + 16) (16 * j) (16 * j + 16) (by omega) (by omega) (by omega) h9
        rw [show (l.drop (16 * j)).take (16 * j + 16 - 16 * j) = chunk l j by rw [show 16 * j + 16 - 16 * j = 16 by omega]; rfl] at hsl
        go_wp2_with fail
        refine MixedC.wp_region (fun w' => ∃ u, w' = mix [] wr u) [(0, 0), (1, 1), (1, 2), (1, 3), (1, 4), (1, 5), (1, 6), (1, 7), (1, 8), (0, 11), (2, 9), (2, 10), (2, 12), (2, 13), (3, 14)] (by kernel_rfl) (by kernel_rfl) (Mx.drew0 _ _) ?_
        refine MixedC.read_row0 (i := 0) rfl rfl 41 (.tmp 7) rfl (P + 1 + 1) rfl 41 (n3 a b c) _ (by rintro _ ⟨u, rfl⟩; exact (mix_keeps [] wr u).blk hR.ha (by simp)) Try.underlying41 rfl (by kernel_rfl) ?_
        simp only [List.getElem_toArray, List.getElem_cons_zero, Act.put, List.setIfInBounds_toArray, List.set_cons_succ, List.set_cons_zero]
        refine MixedC.reads (k := 1) (.inr ⟨rfl, rfl⟩) _ [1, 2, 3, 4, 5, 6, 7, 8] _ (by kernel_rfl) ?_
        simp only [List.filterMap_cons, List.filterMap_nil, List.getElem?_toArray, List.getElem?_cons_zero, List.getElem?_cons_succ]
        show wpQuiet _ _ _ _ [_, _, _, _, _, _, _, _] _
        iterate 8 go_big_quiet_step (fail)
        refine wpQuiet_nil ?_
        refine MixedC.read_row0 (i := 11) rfl rfl 40 (.tmp 6) rfl (P + 1) rfl 40 (#[v64 r0, v64 r1]) _ (by rintro _ ⟨u, rfl⟩; exact (mix_keeps [] wr u).blk hR.hr (by simp)) Try.underlying40 rfl (by kernel_rfl) ?_
        simp only [List.getElem_toArray, List.getElem_cons_zero, List.getElem_cons_succ, Act.put, List.setIfInBounds_toArray, List.set_cons_succ, List.set_cons_zero]
        refine MixedC.effect (i := 9) rfl rfl ?_
        intro Q hQ
        go_wp2_with fail
        refine (of_any (chunk l j) _ (chunk_len l j)).mono ?_
        rintro e w4 ⟨x1, y1, z1, rfl, hv1, hb1⟩
        have hR1 := hR.drew.below hb1
        have hk1 : Keeps [] wr w4 := (Keeps.refl [] wr).drew.below hb1 (Nat.le_refl _)
        clear hR hb1
        go_wp2_with fail
        refine hQ _ _ (Mx.of hk1) ?_
        clear hQ
        refine MixedC.effect (i := 10) rfl rfl ?_
        intro Q hQ
        go_wp2_with fail
        refine (plus_any a b c x1 y1 z1 _).mono ?_
        rintro e w5 ⟨x2, y2, z2, rfl, hv2, hb1⟩
        have hR2 := hR1.below hb1
        have hk2 : Keeps [] wr w5 := hk1.below hb1 hk1.size
        clear hR1 hk1 hb1
        go_wp2_with fail
        refine hQ _ _ (Mx.of hk2) ?_
        clear hQ
        refine MixedC.effect (i := 12) rfl rfl ?_
        intro Q hQ
        go_wp2_with fail
        refine (times_any x2 y2 z2 r0 r1 _).mono ?_
        rintro e w6 ⟨x3, y3, z3, rfl, hv3, hb1⟩
        have hR3 := hR2.below hb1
        have hk3 : Keeps [] wr w6 := hk2.below hb1 hk2.size
        clear hR2 hk2 hb1
        go_wp2_with fail
        refine hQ _ _ (Mx.of hk3) ?_
        clear hQ
        refine MixedC.effect (i := 13) rfl rfl ?_
        intro Q hQ
        go_wp2_with fail
        refine (rest_any x3 y3 z3 _).mono ?_
        rintro e w7 ⟨x4, y4, z4, rfl, hv4, hb1⟩
        have hR4 := hR3.below hb1
        have hk4 : Keeps [] wr w7 := hk3.below hb1 hk3.size
        clear hR3 hk3 hb1
        go_wp2_with fail
        refine hQ _ _ (Mx.of hk4) ?_
        clear hQ hk4
        have hV4 : V3 x4 y4 z4 = accs (V2 r0 r1) l (j + 1) := by
          rw [hv4, hv3, hv2, hv1, hV]
          rfl
        have HV4 := keep hV4
        clear hV4 hv4 hv3 hv2 hv1 hV
        refine MixedC.effect_last (i := 14) rfl rfl ?_
        intro Q hQ
        simp only [List.getElem_toArray, List.getElem_cons_zero, List.getElem_cons_succ]
        refine wpList_store_row rfl 41 (.tmp 7) (.tmp 39) rfl (P + 1 + 1) (n3 x4 y4 z4) rfl rfl 41 _ hR4.ha (by kernel_rfl) (by rfl) (n3_one _ _ _) ?_
        simp only [Act.put]
        refine hQ _ _ ?_
        clear hQ
        unfold MixedC.HL
        have hf := hR4.store x4 y4 z4
        clear hR4
        go_wp2_with fail
        go_roundw
        case rel => exact ⟨j + 1, x4, y4, z4, .inr (by omega), by go_num, HV4, hf⟩
        case measure => simp [intOf]; omega
      · have g9 : ¬ 16 * (j : Int) + 16 ≤ (l.length : Int) := by omega
        have hsl := slice_tx (P := Try.prog) 9 Try.underlying9 l .i64 .i64 (16 * (j : Int)) (l.length : Int) (16 * j) l.length (by omega) (by omega) (by omega) (Nat.le_refl _)
        rw [show (l.drop (16 * j)).take (l.length - 16 * j) = chunk l j by unfold chunk; rw [List.take_of_length_le (by simp), List.take_of_length_le (by simp; omega)]] at hsl
        go_wp2_with fail
        refine MixedC.wp_region (fun w' => ∃ u, w' = mix [] wr u) [(0, 0), (1, 1), (1, 2), (1, 3), (1, 4), (1, 5), (1, 6), (1, 7), (1, 8), (0, 11), (2, 9), (2, 10), (2, 12), (2, 13), (3, 14)] (by kernel_rfl) (by kernel_rfl) (Mx.drew0 _ _) ?_
        refine MixedC.read_row0 (i := 0) rfl rfl 41 (.tmp 7) rfl (P + 1 + 1) rfl 41 (n3 a b c) _ (by rintro _ ⟨u, rfl⟩; exact (mix_keeps [] wr u).blk hR.ha (by simp)) Try.underlying41 rfl (by kernel_rfl) ?_
        simp only [List.getElem_toArray, List.getElem_cons_zero, Act.put, List.setIfInBounds_toArray, List.set_cons_succ, List.set_cons_zero]
        refine MixedC.reads (k := 1) (.inr ⟨rfl, rfl⟩) _ [1, 2, 3, 4, 5, 6, 7, 8] _ (by kernel_rfl) ?_
        simp only [List.filterMap_cons, List.filterMap_nil, List.getElem?_toArray, List.getElem?_cons_zero, List.getElem?_cons_succ]
        show wpQuiet _ _ _ _ [_, _, _, _, _, _, _, _] _
        iterate 8 go_big_quiet_step (fail)
        refine wpQuiet_nil ?_
        refine MixedC.read_row0 (i := 11) rfl rfl 40 (.tmp 6) rfl (P + 1) rfl 40 (#[v64 r0, v64 r1]) _ (by rintro _ ⟨u, rfl⟩; exact (mix_keeps [] wr u).blk hR.hr (by simp)) Try.underlying40 rfl (by kernel_rfl) ?_
        simp only [List.getElem_toArray, List.getElem_cons_zero, List.getElem_cons_succ, Act.put, List.setIfInBounds_toArray, List.set_cons_succ, List.set_cons_zero]
        refine MixedC.effect (i := 9) rfl rfl ?_
        intro Q hQ
        go_wp2_with fail
        refine (of_any (chunk l j) _ (chunk_len l j)).mono ?_
        rintro e w4 ⟨x1, y1, z1, rfl, hv1, hb1⟩
        have hR1 := hR.drew.below hb1
        have hk1 : Keeps [] wr w4 := (Keeps.refl [] wr).drew.below hb1 (Nat.le_refl _)
        clear hR hb1
        go_wp2_with fail
        refine hQ _ _ (Mx.of hk1) ?_
        clear hQ
        refine MixedC.effect (i := 10) rfl rfl ?_
        intro Q hQ
        go_wp2_with fail
        refine (plus_any a b c x1 y1 z1 _).mono ?_
        rintro e w5 ⟨x2, y2, z2, rfl, hv2, hb1⟩
        have hR2 := hR1.below hb1
        have hk2 : Keeps [] wr w5 := hk1.below hb1 hk1.size
        clear hR1 hk1 hb1
        go_wp2_with fail
        refine hQ _ _ (Mx.of hk2) ?_
        clear hQ
        refine MixedC.effect (i := 12) rfl rfl ?_
        intro Q hQ
        go_wp2_with fail
        refine (times_any x2 y2 z2 r0 r1 _).mono ?_
        rintro e w6 ⟨x3, y3, z3, rfl, hv3, hb1⟩
        have hR3 := hR2.below hb1
        have hk3 : Keeps [] wr w6 := hk2.below hb1 hk2.size
        clear hR2 hk2 hb1
        go_wp2_with fail
        refine hQ _ _ (Mx.of hk3) ?_
        clear hQ
        refine MixedC.effect (i := 13) rfl rfl ?_
        intro Q hQ
        go_wp2_with fail
        refine (rest_any x3 y3 z3 _).mono ?_
        rintro e w7 ⟨x4, y4, z4, rfl, hv4, hb1⟩
        have hR4 := hR3.below hb1
        have hk4 : Keeps [] wr w7 := hk3.below hb1 hk3.size
        clear hR3 hk3 hb1
        go_wp2_with fail
        refine hQ _ _ (Mx.of hk4) ?_
        clear hQ hk4
        have hV4 : V3 x4 y4 z4 = accs (V2 r0 r1) l (j + 1) := by
          rw [hv4, hv3, hv2, hv1, hV]
          rfl
        have HV4 := keep hV4
        clear hV4 hv4 hv3 hv2 hv1 hV
        refine MixedC.effect_last (i := 14) rfl rfl ?_
        intro Q hQ
        simp only [List.getElem_toArray, List.getElem_cons_zero, List.getElem_cons_succ]
        refine wpList_store_row rfl 41 (.tmp 7) (.tmp 39) rfl (P + 1 + 1) (n3 x4 y4 z4) rfl rfl 41 _ hR4.ha (by kernel_rfl) (by rfl) (n3_one _ _ _) ?_
        simp only [Act.put]
        refine hQ _ _ ?_
        clear hQ
        unfold MixedC.HL
        have hf := hR4.store x4 y4 z4
        clear hR4
        go_wp2_with fail
        go_roundw
        case rel => exact ⟨j + 1, x4, y4, z4, .inr (by omega), by go_num, HV4, hf⟩
        case measure => simp [intOf]; omega
    · have g4 : ¬ 16 * (j : Int) < (l.length : Int) := by omega
      have hjn : j = nch l := by unfold nch; omega
      rw [hjn, ← HRK.out] at hV0
      clear hjn
      go_wp2_with fail
      clear hj
      have kR := Row8.ofBlk hR.key.drew
      have cv0 : (convert 37 9 (.slice (some ⟨N, 16, none⟩) 8 16)).run Try.prog wr.drew = .ok (.string (tx (tl 8 fun i => k (16 + i)))) wr.drew :=
        Row8.back (off := 16) (f := fun i => k (16 + i)) ⟨kR.lt, fun j hj => by have := kR.at_ (16 + j) (by omega); rwa [Nat.zero_add] at this, fun j hj => by have := kR.free (16 + j) (by omega); rwa [Nat.zero_add] at this⟩ 37 9 5 Try.underlying37 Try.underlying5 Try.underlying9 16
      have cv1 : (convert 37 9 (.slice (some ⟨N, 24, none⟩) 8 8)).run Try.prog wr.drew = .ok (.string (tx (tl 8 fun i => k (24 + i)))) wr.drew :=
        Row8.back (off := 24) (f := fun i => k (24 + i)) ⟨kR.lt, fun j hj => by have := kR.at_ (24 + j) (by omega); rwa [Nat.zero_add] at this, fun j hj => by have := kR.free (24 + j) (by omega); rwa [Nat.zero_add] at this⟩ 37 9 5 Try.underlying37 Try.underlying5 Try.underlying9 8
      clear kR
      refine MixedC.wp_region (fun _ => True) [(1, 0), (1, 1), (1, 2), (1, 3), (1, 4), (1, 5), (1, 6), (1, 7), (2, 8), (2, 9)] (by kernel_rfl) (by kernel_rfl) trivial ?_
      refine MixedC.read_row (i := 0) rfl rfl 41 (.tmp 7) rfl (P + 1 + 1) rfl 41 (n3 a b c) _ (hR.ha.drew) Try.underlying41 rfl (by kernel_rfl) ?_
      simp only [List.getElem_toArray, List.getElem_cons_zero, Act.put, List.setIfInBounds_toArray, List.set_cons_succ, List.set_cons_zero]
      refine MixedC.reads (k := 1) (.inr ⟨rfl, rfl⟩) _ [1, 2] _ (by kernel_rfl) ?_
      simp only [List.filterMap_cons, List.filterMap_nil, List.getElem?_toArray, List.getElem?_cons_zero, List.getElem?_cons_succ]
      show wpQuiet _ _ _ _ [_, _] _
      iterate 2 go_big_quiet_step (fail)
      refine wpQuiet_nil ?_
      refine MixedC.read_call1 (.inr ⟨rfl, rfl⟩) rfl rfl 16 Try.func16 (by kernel_rfl) rfl (.tmp 42) #[9] rfl (.string (tx (tl 8 fun i => k (16 + i)))) rfl (v64 (wv (tl 8 fun i => k (16 + i)))) (fun w' _ => word_q _ w' (by simp [tl])) ?_
      simp only [List.getElem_toArray, List.getElem_cons_zero, List.getElem_cons_succ, Act.put, List.setIfInBounds_toArray, List.set_cons_succ, List.set_cons_zero]
      refine MixedC.reads (k := 1) (.inr ⟨rfl, rfl⟩) _ [4, 5] _ (by kernel_rfl) ?_
      simp only [List.filterMap_cons, List.filterMap_nil, List.getElem?_toArray, List.getElem?_cons_zero, List.getElem?_cons_succ]
      show wpQuiet _ _ _ _ [_, _] _
      iterate 2 go_big_quiet_step (fail)
      refine wpQuiet_nil ?_
      refine MixedC.read_call1 (.inr ⟨rfl, rfl⟩) rfl rfl 16 Try.func16 (by kernel_rfl) rfl (.tmp 45) #[9] rfl (.string (tx (tl 8 fun i => k (24 + i)))) rfl (v64 (wv (tl 8 fun i => k (24 + i)))) (fun w' _ => word_q _ w' (by simp [tl])) ?_
      simp only [List.getElem_toArray, List.getElem_cons_zero, List.getElem_cons_succ, Act.put, List.setIfInBounds_toArray, List.set_cons_succ, List.set_cons_zero]
      refine MixedC.reads (k := 1) (.inr ⟨rfl, rfl⟩) _ [7] _ (by kernel_rfl) ?_
      simp only [List.filterMap_cons, List.filterMap_nil, List.getElem?_toArray, List.getElem?_cons_zero, List.getElem?_cons_succ]
      show wpQuiet _ _ _ _ [_] _
      iterate 1 go_big_quiet_step (fail)
      refine wpQuiet_nil ?_
      refine MixedC.effect (i := 8) rfl rfl ?_
      intro Q hQ
      go_wp2_with fail
      refine Calls.mono (show Calls Try.prog 17 #[.agg (n3 a b c), .agg (n3 (wv (tl 8 fun i => k (16 + i))) (wv (tl 8 fun i => k (24 + i))) 0)] _ _ from plus_any a b c _ _ 0 _) ?_
      rintro e w5 ⟨x, y, z, rfl, hv2, hb1⟩
      have hR2 := hR.drew.below hb1
      have hT : Hid (V3 x y z = tot k l) := keep (by rw [hv2, hV0.out]; rfl)
      clear hR hb1 hv2 hV0 cv0 cv1
      go_wp2_with fail
      refine hQ _ _ trivial ?_
      clear hQ
      refine MixedC.effect (i := 9) rfl rfl ?_
      intro Q hQ
      simp only [List.getElem_toArray, List.getElem_cons_zero, List.getElem_cons_succ]
      refine wpList_store_row rfl 41 (.tmp 7) (.tmp 48) rfl (P + 1 + 1) (n3 x y z) rfl rfl 41 _ hR2.ha (by kernel_rfl) (by rfl) (n3_one _ _ _) ?_
      simp only [Act.put]
      refine hQ _ _ trivial ?_
      clear hQ
      unfold MixedC.HL
      have hR3 := hR2.store x y z
      clear hR2
      generalize w5.setRow (P + 1 + 1) (n3 x y z) = w6 at *
      have hs6 := hR3.size
      have hA : SM N P w (w6.alloc (.cells (uarr8 16 (up8 (sumf k l) 0)) 25)) k r0 r1 x y z ∧ Blk (w6.alloc (.cells (uarr8 16 (up8 (sumf k l) 0)) 25)) w6.heap.size 25 (uarr8 16 (up8 (sumf k l) 0)) := ⟨hR3.below ((Below.refl _ _).alloc (Nat.le_refl _) _), Blk.made w6 25 _⟩
      have hz16 : uarr8 16 (up8 (sumf k l) 0) = #[.int .u8 0, .int .u8 0, .int .u8 0, .int .u8 0, .int .u8 0, .int .u8 0, .int .u8 0, .int .u8 0, .int .u8 0, .int .u8 0, .int .u8 0, .int .u8 0, .int .u8 0, .int .u8 0, .int .u8 0, .int .u8 0] := by
        unfold uarr8
        rw [show (fun i => v8 (up8 (sumf k l) 0 i)) = fun _ => v8 0 from by funext i; simp [up8]]
        rfl
      rw [hz16] at hA
      clear hR3
      go_wp2_with fail
      generalize w6.heap.size = B at *
      rw [← hz16] at hA
      go_loopw [49] (fun t wr => ∃ i : Nat, i ≤ 16 ∧ t = .int .i64 i ∧ SM N P w wr k r0 r1 x y z ∧ Blk wr B 25 (uarr8 16 (up8 (sumf k l) i))) (fun t _ => 16 - (intOf t).toNat)
      case atStart => exact ⟨0, Nat.zero_le _, rfl, by rw [← hz16]; exact hA⟩
      case round =>
        obtain ⟨i, hi, rfl, hR, hO⟩ := hrel
        clear hA hz16
        by_cases h5 : i < 16
        · have g5 : (i : Int) < 16 := by omega
          have g6 : (i : Int) / 8 < 3 := by omega
          have c1 := hR.ha.at_ (uarr_get (w3 x y z) (show i / 8 < 3 by omega))
          have c2 := hO.at_ (arr_get (fun j => v8 (up8 (sumf k l) i j)) h5)
          have f2 := hO.free i
          have hsh : ∀ t, binOp .shr t (v64 (w3 x y z (i / 8))) (.int .i64 (8 * ((i : Int) % 8))) = pure (v64 (w3 x y z (i / 8) >>> UInt64.ofNat (8 * (i % 8)))) := fun t => by
            have := v64_shr t .i64 (w3 x y z (i / 8)) (8 * ((i : Int) % 8)) (by omega) (by omega)
            rw [this, show (8 * ((i : Int) % 8)).toNat = 8 * (i % 8) by omega]
          have hby : (w3 x y z (i / 8) >>> (8 * UInt64.ofNat (i % 8))).toUInt8 = sumf k l i := by
            unfold sumf
            rw [← hT.out, ← byte_of x y z i h5, UInt64.ofNat_mul]
            rfl
          have hbn : P + 1 + 1 < B := by omega
          have hO2 := hO.set i (v8 (sumf k l i))
          rw [up8_set] at hO2
          have hf : SM N P w (wr.setCell ⟨B, i, none⟩ (v8 (sumf k l i))) k r0 r1 x y z := hR.other hbn i _
          have HBY := keep hby
          clear hby
          go_wp2_with fail
          rw [HBY.out]
          clear hR hO c1 c2 f2 hsh
          go_roundw
          case rel => exact ⟨i + 1, by omega, by go_num, hf, hO2⟩
          case measure => simp [intOf]; omega
        · have g5 : ¬ (i : Int) < 16 := by omega
          have e5 : i = 16 := by omega
          rw [e5, up8_done] at hO
          clear e5 hi
          obtain ⟨q1, ⟨ds, q2, q3⟩, q4, q5, hbel, q7⟩ := hR
          clear q1 q4 q5
          go_wp2_with (first
            | (refine wpList_load_row rfl 25 (.tmp 9) rfl B rfl 25 (uarr8 16 (sumf k l)) (0, 0) _ hO Try.underlying25 rfl (by kernel_rfl) ?_)
            | (refine wpList_store_row rfl 25 (.tmp 4) (.tmp 64) rfl (N + 1) (uarr8 16 (sumf k l)) rfl rfl 25 ds q2 (by kernel_rfl) (by rw [q3]; exact (arr_size _ _).symm) (arr_one _ _ fun i => rfl) ?_))
          refine bodyPost_ret (results_c rfl _ _ (N + 1) 25 _ _ _ rfl (q2.setRow (uarr8 16 (sumf k l))) Try.underlying25 (by kernel_rfl)) rfl ?_
          exact ⟨rfl, below_row hbel (by omega) _⟩
end Go.Proofs.Ytpjgdocgenpbbaa

/-
  cha: the document's quarter: on a state, at four places, word by word (written by wip/tools/rq03.py).
-/
import Derived.Test.YtghojlkogeoejaaLeft
import Derived.Test.YtghojlkogeoejaaFirst
import Derived.Test.YtghojlkogeoejaaMixed
namespace Go.Proofs.Ytghojlkogeoejaa
open Go.RowKit
/-- A place gets the sum with another; a place gets its exclusive or with another, turned. -/
def addAt (s : Nat → UInt32) (t o : Nat) : Nat → UInt32 := setw s t (s t + s o)
def turnAt (s : Nat → UInt32) (t o n : Nat) : Nat → UInt32 := setw s t (lefts (s t ^^^ s o) n)
def rq (s : Nat → UInt32) (a b c d : Nat) : Nat → UInt32 :=
  turnAt (addAt (turnAt (addAt (turnAt (addAt (turnAt (addAt s a b) d a 16) c d) b c 12) a b) d a 8) c d) b c 7
/-- The box of the state, the result's block beside it. -/
structure RQ (N : Nat) (w wr : World) (s : Nat → UInt32) : Prop where
  h0 : Blk wr N 44 (warr s)
  h1 : Blk wr (N + 1) 44 (warr fun _ => 0)
  bel : Below N w wr
theorem RQ.set {N : Nat} {w wr : World} {s : Nat → UInt32} (h : RQ N w wr s) (t : Nat) (x : UInt32) : RQ N w (wr.drew.setCell ⟨N, t, none⟩ (v32 x)) (setw s t x) :=
  ⟨by have := h.h0.drew.set t (v32 x); rwa [warr_set] at this, h.h1.drew.other (by simp) _, h.bel.drew.setCell (Nat.le_refl _) _⟩

set_option maxHeartbeats 1000000 in
theorem rquarter_any (a b c d : Nat) (ha : a < 16) (hb : b < 16) (hc : c < 16) (hd : d < 16) (s : Nat → UInt32) (w : World) :
    Calls Try.prog 17 #[.agg (warr s), .int .i64 a, .int .i64 b, .int .i64 c, .int .i64 d] w fun e w' => e = .returned (.agg (warr (rq s a b c d))) ∧ Below w.heap.size w w' := by
  have ia : (a : Int) < 16 := by omega
  have ib : (b : Int) < 16 := by omega
  have ic : (c : Int) < 16 := by omega
  have id : (d : Int) < 16 := by omega
  have hR : RQ w.heap.size w ((w.alloc (.cells (warr s) 44)).alloc (.cells (warr fun _ => 0) 44)) s :=
    ⟨(Blk.made w 44 _).alloc _, made1 w _ 44 _, ((Below.refl _ _).alloc (Nat.le_refl _) _).alloc (by simp) _⟩
  go_enter Try.func17, Try.ntmps17
  go_wp2_with fail
  rw [zeros16]
  generalize hN : w.heap.size = N at *
  generalize hw0 : (w.alloc (.cells (warr s) 44)).alloc (.cells (warr fun _ => 0) 44) = w0 at *
  clear hw0
  have ct := hR.h0.at_ (warr_get _ ha)
  have co := hR.h0.at_ (warr_get _ hb)
  have ft := hR.h0.free a
  refine Mixed.wp_region (fun _ => True) [(1, 0), (1, 1), (1, 2), (1, 3), (1, 4), (1, 5), (1, 6), (1, 7), (1, 8), (2, 9)] (by kernel_rfl) (by kernel_rfl) trivial ?_
  refine Mixed.reads (k := 1) (.inr ⟨rfl, rfl⟩) _ [0, 1, 2, 3, 4, 5, 6, 7, 8] _ (by kernel_rfl) ?_
  simp only [List.filterMap_cons, List.filterMap_nil, List.getElem?_toArray, List.getElem?_cons_zero, List.getElem?_cons_succ]
  show wpQuiet _ _ _ _ [_, _, _, _, _, _, _, _, _] _
  iterate 9 go_big_quiet_step (fail)
  refine wpQuiet_nil ?_
  refine Mixed.effect (i := 9) rfl rfl ?_
  intro Q hQ
  go_wp2_with fail
  refine hQ _ _ trivial ?_
  clear hQ ct co ft
  unfold Mixed.HL
  have hR' := hR.set a ((s) a + (s) b)
  clear hR
  have hR : RQ N w (w0.setCell ⟨N, a, none⟩ (v32 ((s) a + (s) b))).drew (addAt (s) a b) := hR'
  clear hR'
  generalize (w0.setCell ⟨N, a, none⟩ (v32 ((s) a + (s) b))).drew = w1 at *
  obtain ⟨s1, hs1⟩ : ∃ f, f = addAt (s) a b := ⟨_, rfl⟩
  rw [← hs1] at hR
  have Hs1 := keep hs1
  clear hs1
  go_wp2_with fail
  have ct := hR.h0.at_ (warr_get _ hd)
  have co := hR.h0.at_ (warr_get _ ha)
  have ft := hR.h0.free d
  refine Mixed.wp_region (fun _ => True) [(0, 0), (1, 1), (1, 2), (1, 3), (1, 4), (1, 5), (1, 6), (1, 7), (2, 8), (1, 9), (2, 10)] (by kernel_rfl) (by kernel_rfl) trivial ?_
  refine Mixed.reads (k := 0) (.inl ⟨rfl, rfl⟩) _ [0] _ (by kernel_rfl) ?_
  simp only [List.filterMap_cons, List.filterMap_nil, List.getElem?_toArray, List.getElem?_cons_zero]
  show wpQuiet _ _ _ _ [_] _
  iterate 1 go_big_quiet_step (fail)
  refine wpQuiet_nil ?_
  refine Mixed.reads (k := 1) (.inr ⟨rfl, rfl⟩) _ [1, 2, 3, 4, 5, 6, 7] _ (by kernel_rfl) ?_
  simp only [List.filterMap_cons, List.filterMap_nil, List.getElem?_toArray, List.getElem?_cons_zero, List.getElem?_cons_succ]
  show wpQuiet _ _ _ _ [_, _, _, _, _, _, _] _
  iterate 7 go_big_quiet_step (fail)
  refine wpQuiet_nil ?_
  refine Mixed.effect (i := 8) rfl rfl ?_
  intro Q hQ
  go_wp2_with fail
  refine Calls.mono (show Calls Try.prog 21 #[_, .int .i64 16] _ _ from left_any (s1 d ^^^ s1 a) 16 (by omega) _) ?_
  rintro e u ⟨rfl, rfl⟩
  go_wp2_with fail
  refine hQ _ _ trivial ?_
  clear hQ
  refine Mixed.reads (k := 1) (.inr ⟨rfl, rfl⟩) _ [9] _ (by kernel_rfl) ?_
  simp only [List.filterMap_cons, List.filterMap_nil, List.getElem?_toArray, List.getElem?_cons_zero, List.getElem?_cons_succ]
  show wpQuiet _ _ _ _ [_] _
  iterate 1 go_big_quiet_step (fail)
  refine wpQuiet_nil ?_
  refine Mixed.effect (i := 10) rfl rfl ?_
  intro Q hQ
  go_wp2_with fail
  refine hQ _ _ trivial ?_
  clear hQ ct co ft
  unfold Mixed.HL
  have hR' := hR.set d (lefts ((s1) d ^^^ (s1) a) 16)
  clear hR
  have hR : RQ N w (w1.setCell ⟨N, d, none⟩ (v32 (lefts ((s1) d ^^^ (s1) a) 16))).drew (turnAt (s1) d a 16) := hR'
  clear hR'
  generalize (w1.setCell ⟨N, d, none⟩ (v32 (lefts ((s1) d ^^^ (s1) a) 16))).drew = w2 at *
  obtain ⟨s2, hs2⟩ : ∃ f, f = turnAt (s1) d a 16 := ⟨_, rfl⟩
  rw [← hs2] at hR
  have Hs2 := keep hs2
  clear hs2
  go_wp2_with fail
  have ct := hR.h0.at_ (warr_get _ hc)
  have co := hR.h0.at_ (warr_get _ hd)
  have ft := hR.h0.free c
  refine Mixed.wp_region (fun _ => True) [(1, 0), (1, 1), (1, 2), (1, 3), (1, 4), (1, 5), (1, 6), (1, 7), (1, 8), (2, 9)] (by kernel_rfl) (by kernel_rfl) trivial ?_
  refine Mixed.reads (k := 1) (.inr ⟨rfl, rfl⟩) _ [0, 1, 2, 3, 4, 5, 6, 7, 8] _ (by kernel_rfl) ?_
  simp only [List.filterMap_cons, List.filterMap_nil, List.getElem?_toArray, List.getElem?_cons_zero, List.getElem?_cons_succ]
  show wpQuiet _ _ _ _ [_, _, _, _, _, _, _, _, _] _
  iterate 9 go_big_quiet_step (fail)
  refine wpQuiet_nil ?_
  refine Mixed.effect (i := 9) rfl rfl ?_
  intro Q hQ
  go_wp2_with fail
  refine hQ _ _ trivial ?_
  clear hQ ct co ft
  unfold Mixed.HL
  have hR' := hR.set c ((s2) c + (s2) d)
  clear hR
  have hR : RQ N w (w2.setCell ⟨N, c, none⟩ (v32 ((s2) c + (s2) d))).drew (addAt (s2) c d) := hR'
  clear hR'
  generalize (w2.setCell ⟨N, c, none⟩ (v32 ((s2) c + (s2) d))).drew = w3 at *
  obtain ⟨s3, hs3⟩ : ∃ f, f = addAt (s2) c d := ⟨_, rfl⟩
  rw [← hs3] at hR
  have Hs3 := keep hs3
  clear hs3
  go_wp2_with fail
  have ct := hR.h0.at_ (warr_get _ hb)
  have co := hR.h0.at_ (warr_get _ hc)
  have ft := hR.h0.free b
  refine Mixed.wp_region (fun _ => True) [(0, 0), (1, 1), (1, 2), (1, 3), (1, 4), (1, 5), (1, 6), (1, 7), (2, 8), (1, 9), (2, 10)] (by kernel_rfl) (by kernel_rfl) trivial ?_
  refine Mixed.reads (k := 0) (.inl ⟨rfl, rfl⟩) _ [0] _ (by kernel_rfl) ?_
  simp only [List.filterMap_cons, List.filterMap_nil, List.getElem?_toArray, List.getElem?_cons_zero]
  show wpQuiet _ _ _ _ [_] _
  iterate 1 go_big_quiet_step (fail)
  refine wpQuiet_nil ?_
  refine Mixed.reads (k := 1) (.inr ⟨rfl, rfl⟩) _ [1, 2, 3, 4, 5, 6, 7] _ (by kernel_rfl) ?_
  simp only [List.filterMap_cons, List.filterMap_nil, List.getElem?_toArray, List.getElem?_cons_zero, List.getElem?_cons_succ]
  show wpQuiet _ _ _ _ [_, _, _, _, _, _, _] _
  iterate 7 go_big_quiet_step (fail)
  refine wpQuiet_nil ?_
  refine Mixed.effect (i := 8) rfl rfl ?_
  intro Q hQ
  go_wp2_with fail
  refine Calls.mono (show Calls Try.prog 21 #[_, .int .i64 12] _ _ from left_any (s3 b ^^^ s3 c) 12 (by omega) _) ?_
  rintro e u ⟨rfl, rfl⟩
  go_wp2_with fail
  refine hQ _ _ trivial ?_
  clear hQ
  refine Mixed.reads (k := 1) (.inr ⟨rfl, rfl⟩) _ [9] _ (by kernel_rfl) ?_
  simp only [List.filterMap_cons, List.filterMap_nil, List.getElem?_toArray, List.getElem?_cons_zero, List.getElem?_cons_succ]
  show wpQuiet _ _ _ _ [_] _
  iterate 1 go_big_quiet_step (fail)
  refine wpQuiet_nil ?_
  refine Mixed.effect (i := 10) rfl rfl ?_
  intro Q hQ
  go_wp2_with fail
  refine hQ _ _ trivial ?_
  clear hQ ct co ft
  unfold Mixed.HL
  have hR' := hR.set b (lefts ((s3) b ^^^ (s3) c) 12)
  clear hR
  have hR : RQ N w (w3.setCell ⟨N, b, none⟩ (v32 (lefts ((s3) b ^^^ (s3) c) 12))).drew (turnAt (s3) b c 12) := hR'
  clear hR'
  generalize (w3.setCell ⟨N, b, none⟩ (v32 (lefts ((s3) b ^^^ (s3) c) 12))).drew = w4 at *
  obtain ⟨s4, hs4⟩ : ∃ f, f = turnAt (s3) b c 12 := ⟨_, rfl⟩
  rw [← hs4] at hR
  have Hs4 := keep hs4
  clear hs4
  go_wp2_with fail
  have ct := hR.h0.at_ (warr_get _ ha)
  have co := hR.h0.at_ (warr_get _ hb)
  have ft := hR.h0.free a
  refine Mixed.wp_region (fun _ => True) [(1, 0), (1, 1), (1, 2), (1, 3), (1, 4), (1, 5), (1, 6), (1, 7), (1, 8), (2, 9)] (by kernel_rfl) (by kernel_rfl) trivial ?_
  refine Mixed.reads (k := 1) (.inr ⟨rfl, rfl⟩) _ [0, 1, 2, 3, 4, 5, 6, 7, 8] _ (by kernel_rfl) ?_
  simp only [List.filterMap_cons, List.filterMap_nil, List.getElem?_toArray, List.getElem?_cons_zero, List.getElem?_cons_succ]
  show wpQuiet _ _ _ _ [_, _, _, _, _, _, _, _, _] _
  iterate 9 go_big_quiet_step (fail)
  refine wpQuiet_nil ?_
  refine Mixed.effect (i := 9) rfl rfl ?_
  intro Q hQ
  go_wp2_with fail
  refine hQ _ _ trivial ?_
  clear hQ ct co ft
  unfold Mixed.HL
  have hR' := hR.set a ((s4) a + (s4) b)
  clear hR
  have hR : RQ N w (w4.setCell ⟨N, a, none⟩ (v32 ((s4) a + (s4) b))).drew (addAt (s4) a b) := hR'
  clear hR'
  generalize (w4.setCell ⟨N, a, none⟩ (v32 ((s4) a + (s4) b))).drew = w5 at *
  obtain ⟨s5, hs5⟩ : ∃ f, f = addAt (s4) a b := ⟨_, rfl⟩
  rw [← hs5] at hR
  have Hs5 := keep hs5
  clear hs5
  go_wp2_with fail
  have ct := hR.h0.at_ (warr_get _ hd)
  have co := hR.h0.at_ (warr_get _ ha)
  have ft := hR.h0.free d
  refine Mixed.wp_region (fun _ => True) [(0, 0), (1, 1), (1, 2), (1, 3), (1, 4), (1, 5), (1, 6), (1, 7), (2, 8), (1, 9), (2, 10)] (by kernel_rfl) (by kernel_rfl) trivial ?_
  refine Mixed.reads (k := 0) (.inl ⟨rfl, rfl⟩) _ [0] _ (by kernel_rfl) ?_
  simp only [List.filterMap_cons, List.filterMap_nil, List.getElem?_toArray, List.getElem?_cons_zero]
  show wpQuiet _ _ _ _ [_] _
  iterate 1 go_big_quiet_step (fail)
  refine wpQuiet_nil ?_
  refine Mixed.reads (k := 1) (.inr ⟨rfl, rfl⟩) _ [1, 2, 3, 4, 5, 6, 7] _ (by kernel_rfl) ?_
  simp only [List.filterMap_cons, List.filterMap_nil, List.getElem?_toArray, List.getElem?_cons_zero, List.getElem?_cons_succ]
  show wpQuiet _ _ _ _ [_, _, _, _, _, _, _] _
  iterate 7 go_big_quiet_step (fail)
  refine wpQuiet_nil ?_
  refine Mixed.effect (i := 8) rfl rfl ?_
  intro Q hQ
  go_wp2_with fail
  refine Calls.mono (show Calls Try.prog 21 #[_, .int .i64 8] _ _ from left_any (s5 d ^^^ s5 a) 8 (by omega) _) ?_
  rintro e u ⟨rfl, rfl⟩
  go_wp2_with fail
  refine hQ _ _ trivial ?_
  clear hQ
  refine Mixed.reads (k := 1) (.inr ⟨rfl, rfl⟩) _ [9] _ (by kernel_rfl) ?_
  simp only [List.filterMap_cons, List.filterMap_nil, List.getElem?_toArray, List.getElem?_cons_zero, List.getElem?_cons_succ]
  show wpQuiet _ _ _ _ [_] _
  iterate 1 go_big_quiet_step (fail)
  refine wpQuiet_nil ?_
  refine Mixed.effect (i := 10) rfl rfl ?_
  intro Q hQ
  go_wp2_with fail
  refine hQ _ _ trivial ?_
  clear hQ ct co ft
  unfold Mixed.HL
  have hR' := hR.set d (lefts ((s5) d ^^^ (s5) a) 8)
  clear hR
  have hR : RQ N w (w5.setCell ⟨N, d, none⟩ (v32 (lefts ((s5) d ^^^ (s5) a) 8))).drew (turnAt (s5) d a 8) := hR'
  clear hR'
  generalize (w5.setCell ⟨N, d, none⟩ (v32 (lefts ((s5) d ^^^ (s5) a) 8))).drew = w6 at *
  obtain ⟨s6, hs6⟩ : ∃ f, f = turnAt (s5) d a 8 := ⟨_, rfl⟩
  rw [← hs6] at hR
  have Hs6 := keep hs6
  clear hs6
  go_wp2_with fail
  have ct := hR.h0.at_ (warr_get _ hc)
  have co := hR.h0.at_ (warr_get _ hd)
  have ft := hR.h0.free c
  refine Mixed.wp_region (fun _ => True) [(1, 0), (1, 1), (1, 2), (1, 3), (1, 4), (1, 5), (1, 6), (1, 7), (1, 8), (2, 9)] (by kernel_rfl) (by kernel_rfl) trivial ?_
  refine Mixed.reads (k := 1) (.inr ⟨rfl, rfl⟩) _ [0, 1, 2, 3, 4, 5, 6, 7, 8] _ (by kernel_rfl) ?_
  simp only [List.filterMap_cons, List.filterMap_nil, List.getElem?_toArray, List.getElem?_cons_zero, List.getElem?_cons_succ]
  show wpQuiet _ _ _ _ [_, _, _, _, _, _, _, _, _] _
  iterate 9 go_big_quiet_step (fail)
  refine wpQuiet_nil ?_
  refine Mixed.effect (i := 9) rfl rfl ?_
  intro Q hQ
  go_wp2_with fail
  refine hQ _ _ trivial ?_
  clear hQ ct co ft
  unfold Mixed.HL
  have hR' := hR.set c ((s6) c + (s6) d)
  clear hR
  have hR : RQ N w (w6.setCell ⟨N, c, none⟩ (v32 ((s6) c + (s6) d))).drew (addAt (s6) c d) := hR'
  clear hR'
  generalize (w6.setCell ⟨N, c, none⟩ (v32 ((s6) c + (s6) d))).drew = w7 at *
  obtain ⟨s7, hs7⟩ : ∃ f, f = addAt (s6) c d := ⟨_, rfl⟩
  rw [← hs7] at hR
  have Hs7 := keep hs7
  clear hs7
  go_wp2_with fail
  have ct := hR.h0.at_ (warr_get _ hb)
  have co := hR.h0.at_ (warr_get _ hc)
  have ft := hR.h0.free b
  refine Mixed.wp_region (fun _ => True) [(0, 0), (1, 1), (1, 2), (1, 3), (1, 4), (1, 5), (1, 6), (1, 7), (2, 8), (1, 9), (2, 10)] (by kernel_rfl) (by kernel_rfl) trivial ?_
  refine Mixed.reads (k := 0) (.inl ⟨rfl, rfl⟩) _ [0] _ (by kernel_rfl) ?_
  simp only [List.filterMap_cons, List.filterMap_nil, List.getElem?_toArray, List.getElem?_cons_zero]
  show wpQuiet _ _ _ _ [_] _
  iterate 1 go_big_quiet_step (fail)
  refine wpQuiet_nil ?_
  refine Mixed.reads (k := 1) (.inr ⟨rfl, rfl⟩) _ [1, 2, 3, 4, 5, 6, 7] _ (by kernel_rfl) ?_
  simp only [List.filterMap_cons, List.filterMap_nil, List.getElem?_toArray, List.getElem?_cons_zero, List.getElem?_cons_succ]
  show wpQuiet _ _ _ _ [_, _, _, _, _, _, _] _
  iterate 7 go_big_quiet_step (fail)
  refine wpQuiet_nil ?_
  refine Mixed.effect (i := 8) rfl rfl ?_
  intro Q hQ
  go_wp2_with fail
  refine Calls.mono (show Calls Try.prog 21 #[_, .int .i64 7] _ _ from left_any (s7 b ^^^ s7 c) 7 (by omega) _) ?_
  rintro e u ⟨rfl, rfl⟩
  go_wp2_with fail
  refine hQ _ _ trivial ?_
  clear hQ
  refine Mixed.reads (k := 1) (.inr ⟨rfl, rfl⟩) _ [9] _ (by kernel_rfl) ?_
  simp only [List.filterMap_cons, List.filterMap_nil, List.getElem?_toArray, List.getElem?_cons_zero, List.getElem?_cons_succ]
  show wpQuiet _ _ _ _ [_] _
  iterate 1 go_big_quiet_step (fail)
  refine wpQuiet_nil ?_
  refine Mixed.effect (i := 10) rfl rfl ?_
  intro Q hQ
  go_wp2_with fail
  refine hQ _ _ trivial ?_
  clear hQ ct co ft
  unfold Mixed.HL
  have hR' := hR.set b (lefts ((s7) b ^^^ (s7) c) 7)
  clear hR
  have hR : RQ N w (w7.setCell ⟨N, b, none⟩ (v32 (lefts ((s7) b ^^^ (s7) c) 7))).drew (turnAt (s7) b c 7) := hR'
  clear hR'
  generalize (w7.setCell ⟨N, b, none⟩ (v32 (lefts ((s7) b ^^^ (s7) c) 7))).drew = w8 at *
  obtain ⟨s8, hs8⟩ : ∃ f, f = turnAt (s7) b c 7 := ⟨_, rfl⟩
  rw [← hs8] at hR
  have Hs8 := keep hs8
  clear hs8
  have h11 := hR.h1
  have h00 := hR.h0
  have hbel := hR.bel
  clear hR
  go_wp2_with (first
    | (refine wpList_load_row rfl 44 (.tmp 5) rfl N rfl 44 (warr s8) (0, 0) _ h00 Try.underlying44 rfl (by kernel_rfl) ?_)
    | (refine wpList_store_row rfl 44 (.tmp 10) (.tmp 87) rfl (N + 1) (warr s8) rfl rfl 44 _ h11 (by kernel_rfl) (by kernel_rfl) (arr_one _ _ fun i => rfl) ?_))
  refine bodyPost_ret (results_c rfl _ _ (N + 1) 44 _ _ _ rfl (h11.setRow (warr s8)) Try.underlying44 (by kernel_rfl)) rfl ?_
  unfold rq
  rw [← Hs1.out, ← Hs2.out, ← Hs3.out, ← Hs4.out, ← Hs5.out, ← Hs6.out, ← Hs7.out, ← Hs8.out, hN]
  exact ⟨rfl, below_row hbel (by omega) _⟩
/-- At four unlike places it is the quarter. -/
theorem rq_qst (s : Nat → UInt32) (a b c d : Nat) (h1 : a ≠ b) (h2 : a ≠ c) (h3 : a ≠ d) (h4 : b ≠ c) (h5 : b ≠ d) (h6 : c ≠ d) : rq s a b c d = qst s a b c d := by
  have l16 : ∀ x, lefts x 16 = rot x 16 := fun x => lefts_rot x 16 (by simp)
  have l12 : ∀ x, lefts x 12 = rot x 12 := fun x => lefts_rot x 12 (by simp)
  have l8 : ∀ x, lefts x 8 = rot x 8 := fun x => lefts_rot x 8 (by simp)
  have l7 : ∀ x, lefts x 7 = rot x 7 := fun x => lefts_rot x 7 (by simp)
  have n1 := Ne.symm h1
  have n2 := Ne.symm h2
  have n3 := Ne.symm h3
  have n4 := Ne.symm h4
  have n5 := Ne.symm h5
  have n6 := Ne.symm h6
  funext i
  simp only [rq, qst, quarter, addAt, turnAt, l16, l12, l8, l7]
  by_cases ia : i = a
  · subst ia; simp [setw, *]
  by_cases ib : i = b
  · subst ib; simp [setw, *]
  by_cases ic : i = c
  · subst ic; simp [setw, *]
  by_cases id : i = d
  · subst id; simp [setw, *]
  simp [setw, *]
end Go.Proofs.Ytghojlkogeoejaa

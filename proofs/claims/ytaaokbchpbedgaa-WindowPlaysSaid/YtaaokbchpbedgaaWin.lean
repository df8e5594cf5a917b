/-
  window: what has, May, Take and Top compute, in memory.
-/
import Derived.Test.YtaaokbchpbedgaaRows
import Derived.Test.YtaaokbchpbedgaaVals
import Derived.Test.YtaaokbchpbedgaaMem
import Derived.Test.YtaaokbchpbedgaaMixed
import Derived.Test.YtaaokbchpbedgaaPlain
import Derived.BigQuiet
namespace Go.Proofs.Ytaaokbchpbedgaa
open Go.RowKit

theorem has_any (s : St) (n : UInt64) (w : World) : Calls Try.prog 14 #[.agg s.cells, v64 n] w fun e w' => e = .returned (.bool (s.has n)) ∧ Below w.heap.size w w' := by
  obtain ⟨top, bits, live⟩ := s
  unfold St.cells St.has
  cases live
  · go_enter Try.func14, Try.ntmps14
    go_wp2
    go_ret
    exact ⟨rfl, (Below.refl _ _).alloc (Nat.le_refl _) _⟩
  · by_cases h1 : top < n
    · have d1 : decide (top < n) = true := decide_eq_true h1
      go_enter Try.func14, Try.ntmps14
      go_wp2
      go_ret
      exact ⟨by simp, (Below.refl _ _).alloc (Nat.le_refl _) _⟩
    · have d1 : decide (top < n) = false := decide_eq_false h1
      by_cases h2 : 64 ≤ top - n
      · have d2 : decide (64 ≤ top - n) = true := decide_eq_true h2
        go_enter Try.func14, Try.ntmps14
        go_wp2
        go_ret
        exact ⟨by simp, (Below.refl _ _).alloc (Nat.le_refl _) _⟩
      · have d2 : decide (64 ≤ top - n) = false := decide_eq_false h2
        go_enter Try.func14, Try.ntmps14
        go_wp2
        go_ret
        exact ⟨by simp, (Below.refl _ _).alloc (Nat.le_refl _) _⟩

theorem win0 {w : World} {b : Nat} {s : St} (h : Blk w b 30 s.cells) : w.cell? ⟨b, 0, none⟩ = some (v64 s.top) := h.at_ rfl
theorem win1 {w : World} {b : Nat} {s : St} (h : Blk w b 30 s.cells) : w.cell? ⟨b, 1, none⟩ = some (v64 s.bits) := h.at_ rfl
theorem win2 {w : World} {b : Nat} {s : St} (h : Blk w b 30 s.cells) : w.cell? ⟨b, 2, none⟩ = some (.bool s.live) := h.at_ rfl

theorem may_any (s : St) (n : UInt64) (b : Nat) (w : World) (hblk : Blk w b 30 s.cells) :
    Calls Try.prog 11 #[.pointer (some ⟨b, 0, none⟩), v64 n] w fun e w' => e = .returned (.int .i64 (s.err n)) ∧ Below w.heap.size w w' := by
  have c0 := win0 hblk
  have c1 := win1 hblk
  have c2 := win2 hblk
  unfold St.err
  cases hh : s.has n
  all_goals
    go_enter Try.func11, Try.ntmps11
    go_wp2_with fail
    refine Calls.mono (show Calls Try.prog 14 #[.agg s.cells, v64 n] _ _ from has_any s n _) ?_
    rintro e w1 ⟨rfl, hb⟩
    rw [hh]
    go_wp2_with fail
    go_ret
    exact ⟨rfl, hb⟩
theorem may_nil (n : UInt64) (w : World) : Calls Try.prog 11 #[.pointer none, v64 n] w fun e w' => e = .returned (.int .i64 1) ∧ w = w' := by
  go_enter Try.func11, Try.ntmps11
  go_wp2
  go_ret
  exact ⟨rfl, rfl⟩

theorem top_any (s : St) (b : Nat) (w : World) (hblk : Blk w b 30 s.cells) :
    Calls Try.prog 10 #[.pointer (some ⟨b, 0, none⟩)] w fun e w' => e = .returned (.tuple #[v64 s.top, .bool s.live]) ∧ Below w.heap.size w w' := by
  have c0 := win0 hblk
  have c2 := win2 hblk
  go_enter Try.func10, Try.ntmps10
  go_wp2_with fail
  go_quiet (fail)
  go_wp2_with fail
  go_ret2
  exact ⟨rfl, rfl, rfl, rfl, Nat.le_refl _, fun _ _ => rfl⟩
theorem top_nil (w : World) : Calls Try.prog 10 #[.pointer none] w fun e w' => e = .returned (.tuple #[.int .u64 0, .bool false]) ∧ w = w' := by
  go_enter Try.func10, Try.ntmps10
  go_wp2_with fail
  go_ret2
  exact ⟨rfl, rfl⟩

/-- What Take leaves. -/
def TakePost (s : St) (n : UInt64) (b : Nat) (w : World) (s' : St) (e : Ending) (w' : World) : Prop := e = .returned (.int .i64 (s.err n)) ∧ Blk w' b 30 s'.cells ∧ Keeps [b] w w'

theorem take_old (s : St) (n : UInt64) (b : Nat) (w : World) (hblk : Blk w b 30 s.cells) (hh : s.has n = true) : Calls Try.prog 9 #[.pointer (some ⟨b, 0, none⟩), v64 n] w (TakePost s n b w s) := by
  have he : s.err n = 6 := by unfold St.err; rw [hh]; rfl
  unfold TakePost
  rw [he]
  have HE := keep he
  clear he hh
  go_enter Try.func9, Try.ntmps9
  go_wp2_with fail
  refine (may_any s n b w hblk).mono ?_
  rintro e w1 ⟨rfl, hb⟩
  rw [HE.out]
  go_wp2_with fail
  go_ret
  exact ⟨rfl, hblk.kept hb, Keeps.ofBelow hb _⟩
theorem take_first (s : St) (n : UInt64) (b : Nat) (w : World) (hblk : Blk w b 30 s.cells) (hh : s.has n = false) (hl : s.live = false) : Calls Try.prog 9 #[.pointer (some ⟨b, 0, none⟩), v64 n] w (TakePost s n b w ⟨n, 1, true⟩) := by
  have he : s.err n = 0 := by unfold St.err; rw [hh]; rfl
  unfold TakePost
  rw [he]
  have HE := keep he
  clear he hh
  go_enter Try.func9, Try.ntmps9
  go_wp2_with fail
  refine (may_any s n b w hblk).mono ?_
  rintro e w1 ⟨rfl, hb⟩
  rw [HE.out]
  have hB := hblk.kept hb
  have c0 := win0 hB
  have c1 := win1 hB
  have c2 := win2 hB
  rw [hl] at c2
  have f0 := hB.free 0
  have f1 := hB.free 1
  have f2 := hB.free 2
  go_wp2_with fail
  go_ret
  refine ⟨rfl, ?_, ?_⟩
  · exact ((hB.set 0 _).set 1 _).set 2 _
  · exact (((Keeps.ofBelow hb [b]).setCell (by simp) _).setCell (by simp) _).setCell (by simp) _
set_option maxHeartbeats 400000 in
theorem take_new (s : St) (n : UInt64) (b : Nat) (w : World) (hblk : Blk w b 30 s.cells) (hh : s.has n = false) (hl : s.live = true) (h2 : s.top < n) :
    Calls Try.prog 9 #[.pointer (some ⟨b, 0, none⟩), v64 n] w (TakePost s n b w ⟨n, shl64 s.bits (n - s.top) ||| 1, true⟩) := by
  have he : s.err n = 0 := by unfold St.err; rw [hh]; rfl
  unfold TakePost
  rw [he]
  have HE := keep he
  clear he hh
  have d2 : decide (s.top < n) = true := decide_eq_true h2
  clear h2
  go_enter Try.func9, Try.ntmps9
  go_wp2_with fail
  refine (may_any s n b w hblk).mono ?_
  rintro e w1 ⟨rfl, hb⟩
  rw [HE.out]
  have hB := hblk.kept hb
  have c0 := win0 hB
  have c1 := win1 hB
  have c2 := win2 hB
  rw [hl] at c2
  have f0 := hB.free 0
  have f1 := hB.free 1
  have HL := keep hl
  clear hl
  go_wp2_with fail
  refine Mixed.wp_region (Mx [b] w1) [(1, 0), (0, 1), (1, 2), (1, 3), (1, 4), (1, 5), (1, 6), (1, 7), (1, 8), (1, 9), (1, 10), (1, 11), (1, 12), (1, 13), (1, 14), (1, 15), (0, 16), (1, 17), (1, 18), (1, 19), (2, 20), (1, 21), (1, 22), (1, 23), (2, 24)] (by kernel_rfl) (by kernel_rfl) (Mx.drew0 _ _) ?_
  refine Mixed.reads (k := 1) (.inr ⟨rfl, rfl⟩) _ [0] _ (by kernel_rfl) ?_
  simp only [List.filterMap_cons, List.filterMap_nil, List.getElem?_toArray, List.getElem?_cons_zero]
  show wpQuiet _ _ _ _ [_] _
  iterate 1 go_big_quiet_step (fail)
  refine wpQuiet_nil ?_
  refine Mixed.reads (k := 0) (.inl ⟨rfl, rfl⟩) _ [1] _ (by kernel_rfl) ?_
  simp only [List.filterMap_cons, List.filterMap_nil, List.getElem?_toArray, List.getElem?_cons_zero, List.getElem?_cons_succ]
  show wpQuiet _ _ _ _ [_] _
  iterate 1 go_big_quiet_step (fail)
  refine wpQuiet_nil ?_
  refine Mixed.reads (k := 1) (.inr ⟨rfl, rfl⟩) _ [2, 3, 4, 5, 6, 7, 8, 9, 10, 11, 12, 13, 14, 15] _ (by kernel_rfl) ?_
  simp only [List.filterMap_cons, List.filterMap_nil, List.getElem?_toArray, List.getElem?_cons_zero, List.getElem?_cons_succ]
  show wpQuiet _ _ _ _ [_, _, _, _, _, _, _, _, _, _, _, _, _, _] _
  iterate 14 go_big_quiet_step (fail)
  refine wpQuiet_nil ?_
  refine Mixed.reads (k := 0) (.inl ⟨rfl, rfl⟩) _ [16] _ (by kernel_rfl) ?_
  simp only [List.filterMap_cons, List.filterMap_nil, List.getElem?_toArray, List.getElem?_cons_zero, List.getElem?_cons_succ]
  show wpQuiet _ _ _ _ [_] _
  iterate 1 go_big_quiet_step (fail)
  refine wpQuiet_nil ?_
  refine Mixed.reads (k := 1) (.inr ⟨rfl, rfl⟩) _ [17, 18, 19] _ (by kernel_rfl) ?_
  simp only [List.filterMap_cons, List.filterMap_nil, List.getElem?_toArray, List.getElem?_cons_zero, List.getElem?_cons_succ]
  show wpQuiet _ _ _ _ [_, _, _] _
  iterate 3 go_big_quiet_step (fail)
  refine wpQuiet_nil ?_
  refine Mixed.effect (i := 20) rfl rfl ?_
  intro Q hQ
  go_wp2_with fail
  refine hQ _ _ (Mx.of ?_) ?_
  · exact (Keeps.refl [b] _).drew.setCell (by simp) _
  refine Mixed.reads (k := 1) (.inr ⟨rfl, rfl⟩) _ [21, 22, 23] _ (by kernel_rfl) ?_
  simp only [List.filterMap_cons, List.filterMap_nil, List.getElem?_toArray, List.getElem?_cons_zero, List.getElem?_cons_succ]
  show wpQuiet _ _ _ _ [_, _, _] _
  iterate 3 go_big_quiet_step (fail)
  refine wpQuiet_nil ?_
  refine Mixed.effect (i := 24) rfl rfl ?_
  intro Q hQ
  go_wp2_with fail
  refine hQ _ _ (Mx.of ?_) ?_
  · exact ((Keeps.refl [b] _).drew.setCell (by simp) _).setCell (by simp) _
  unfold Mixed.HL
  go_wp2_with fail
  go_ret
  refine ⟨rfl, ?_, ?_⟩
  · show Blk _ b 30 #[v64 n, v64 (shl64 s.bits (n - s.top) ||| 1), .bool true]
    rw [← HL.out]
    exact ((hB.set 1 _).set 0 _).drew
  · exact (((Keeps.ofBelow hb [b]).setCell (by simp) _).setCell (by simp) _).drew
set_option maxHeartbeats 400000 in
theorem take_in (s : St) (n : UInt64) (b : Nat) (w : World) (hblk : Blk w b 30 s.cells) (hh : s.has n = false) (hl : s.live = true) (h2 : ¬ s.top < n) :
    Calls Try.prog 9 #[.pointer (some ⟨b, 0, none⟩), v64 n] w (TakePost s n b w ⟨s.top, s.bits ||| shl64 1 (s.top - n), true⟩) := by
  have he : s.err n = 0 := by unfold St.err; rw [hh]; rfl
  unfold TakePost
  rw [he]
  have HE := keep he
  clear he hh
  have d2 : decide (s.top < n) = false := decide_eq_false h2
  clear h2
  go_enter Try.func9, Try.ntmps9
  go_wp2_with fail
  refine (may_any s n b w hblk).mono ?_
  rintro e w1 ⟨rfl, hb⟩
  rw [HE.out]
  have hB := hblk.kept hb
  have c0 := win0 hB
  have c1 := win1 hB
  have c2 := win2 hB
  rw [hl] at c2
  have f1 := hB.free 1
  have HL := keep hl
  clear hl
  go_wp2_with fail
  refine Mixed.wp_region (Mx [b] w1) [(1, 0), (1, 1), (1, 2), (1, 3), (1, 4), (1, 5), (1, 6), (1, 7), (1, 8), (1, 9), (1, 10), (1, 11), (1, 12), (1, 13), (1, 14), (1, 15), (1, 16), (2, 17)] (by kernel_rfl) (by kernel_rfl) (Mx.drew0 _ _) ?_
  refine Mixed.reads (k := 1) (.inr ⟨rfl, rfl⟩) _ [0, 1, 2, 3, 4, 5, 6, 7, 8, 9, 10, 11, 12, 13, 14, 15, 16] _ (by kernel_rfl) ?_
  simp only [List.filterMap_cons, List.filterMap_nil, List.getElem?_toArray, List.getElem?_cons_zero, List.getElem?_cons_succ]
  show wpQuiet _ _ _ _ [_, _, _, _, _, _, _, _, _, _, _, _, _, _, _, _, _] _
  iterate 17 go_big_quiet_step (fail)
  refine wpQuiet_nil ?_
  refine Mixed.effect (i := 17) rfl rfl ?_
  intro Q hQ
  go_wp2_with fail
  refine hQ _ _ (Mx.of ?_) ?_
  · exact (Keeps.refl [b] _).drew.setCell (by simp) _
  unfold Mixed.HL
  go_wp2_with fail
  go_ret
  refine ⟨rfl, ?_, ?_⟩
  · show Blk _ b 30 #[v64 s.top, v64 (s.bits ||| shl64 1 (s.top - n)), .bool true]
    rw [← HL.out]
    exact (hB.set 1 _).drew
  · exact ((Keeps.ofBelow hb [b]).setCell (by simp) _).drew

/-- **Take**, whatever the window holds. -/
theorem take_any (s : St) (n : UInt64) (b : Nat) (w : World) (hblk : Blk w b 30 s.cells) : Calls Try.prog 9 #[.pointer (some ⟨b, 0, none⟩), v64 n] w (TakePost s n b w (s.take n)) := by
  unfold St.take
  by_cases hh : s.has n = true
  · rw [if_pos hh]
    exact take_old s n b w hblk hh
  · rw [if_neg hh]
    have hh : s.has n = false := by simpa using hh
    by_cases hl : s.live = false
    · rw [if_pos hl]
      exact take_first s n b w hblk hh hl
    · rw [if_neg hl]
      have hl : s.live = true := by simpa using hl
      by_cases h2 : s.top < n
      · rw [if_pos h2]
        exact take_new s n b w hblk hh hl h2
      · rw [if_neg h2]
        exact take_in s n b w hblk hh hl h2
theorem take_nil (n : UInt64) (w : World) : Calls Try.prog 9 #[.pointer none, v64 n] w fun e w' => e = .returned (.int .i64 1) ∧ w = w' := by
  go_enter Try.func9, Try.ntmps9
  go_wp2_with fail
  refine (may_nil n w).mono ?_
  rintro e w1 ⟨rfl, rfl⟩
  go_wp2_with fail
  go_ret
  exact ⟨rfl, rfl⟩
end Go.Proofs.Ytaaokbchpbedgaa

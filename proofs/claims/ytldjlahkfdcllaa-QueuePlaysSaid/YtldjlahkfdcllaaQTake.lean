/-
  queue: what Take computes, for a queue of ints.
-/
import Derived.Test.YtldjlahkfdcllaaQInt
namespace Go.Proofs.Ytldjlahkfdcllaa
open Go.RowKit
/-- What is left of an owned slice without its first element. -/
def tailOf (g off m c : Nat) : Value := if 1 < c then .slice (some ⟨g, off + 1, none⟩) m (c - 1) else .slice (some ⟨g, off, none⟩) m 0
theorem Own.head {w : World} {base : Nat} {v u : Value} {xs : List Value} (h : Own w base v (u :: xs)) : ∃ g off cap, v = .slice (some ⟨g, off, none⟩) (xs.length + 1) cap ∧ xs.length + 1 ≤ cap ∧ cap ≤ maxLen ∧ w.cell? ⟨g, off, none⟩ = some u ∧
    (1 < cap → Own w base (.slice (some ⟨g, off + 1, none⟩) xs.length (cap - 1)) xs) ∧ (cap = 1 → Own w base (.slice (some ⟨g, off, none⟩) 0 0) xs) := by
  rcases h with ⟨_, h⟩ | ⟨g, off, cap, rfl, h1, h2, h3, h4, h5, h6⟩
  · cases h
  · refine ⟨g, off, cap, rfl, h3, h4, h6 0 u rfl, fun hc => .inr ⟨g, off + 1, cap - 1, rfl, h1, h2, ?_, by omega, fun j hj => ?_, fun i u' hu' => ?_⟩, fun hc => .inr ⟨g, off, 0, ?_, h1, h2, ?_, by omega, fun j hj => by omega, fun i u' hu' => ?_⟩⟩
    · simp at h3; omega
    · rw [Nat.add_assoc, Nat.add_comm 1 j]; exact h5 (j + 1) (by omega)
    · rw [Nat.add_assoc, Nat.add_comm 1 i]; exact h6 (i + 1) u' hu'
    · have : xs = [] := by cases xs with | nil => rfl | cons y l => simp at h3; omega
      subst this; rfl
    · simp at h3; omega
    · have : xs = [] := by cases xs with | nil => rfl | cons y l => simp at h3; omega
      subst this; cases hu'

theorem take_c (lim : Nat) (x : Int) (q g off m c n cc : Nat) (a : Option Addr) (dr : Nat) (w : World) (hB : Blk w q 57 (qCells lim (.slice (some ⟨g, off, none⟩) (m + 1) c) (.slice a n cc) dr)) (hm : m + 1 ≤ c) (hx : w.cell? ⟨g, off, none⟩ = some (.int .i64 x)) :
    Calls Try.prog 10 #[ptr q] w fun e w' => e = .returned (.tuple #[.int .i64 x, .bool true, .bool true]) ∧ Blk w' q 57 (qCells lim (tailOf g off m c) (.slice a n cc) dr) ∧ Turn (fun k => k = q) w w' := by
  have c0 : w.cell? ⟨q, 0, none⟩ = some (.int .i64 lim) := hB.at_ rfl
  have c1 : w.cell? ⟨q, 1, none⟩ = some (.slice (some ⟨g, off, none⟩) (m + 1) c) := hB.at_ rfl
  have c2 : w.cell? ⟨q, 2, none⟩ = some (.slice a n cc) := hB.at_ rfl
  have f1 := hB.free 1
  unfold tailOf ptr
  by_cases h1 : 1 < c
  all_goals
    simp only [h1, if_true, if_false]
    go_enter Try.func10, Try.ntmps10
    go_wp2_with fail
    go_loop [11] (fun i => i = .int .i64 0) (fun i => 0)
    case atStart => rfl
    case round =>
      subst hrel
      go_wp2_with fail
      refine Mixed.wp_region (fun _ => True) [(1, 0), (1, 1), (1, 2), (1, 3), (1, 4), (1, 5), (1, 6), (1, 7), (1, 8), (1, 9), (1, 10), (1, 11), (3, 12)] (by kernel_rfl) (by kernel_rfl) trivial ?_
      refine Mixed.reads (k := 1) (.inr ⟨rfl, rfl⟩) _ [0, 1, 2, 3, 4, 5, 6, 7, 8, 9, 10, 11] _ (by kernel_rfl) ?_
      simp only [List.filterMap_cons, List.filterMap_nil, List.getElem?_toArray, List.getElem?_cons_zero, List.getElem?_cons_succ]
      show wpQuiet _ _ _ _ [_, _, _, _, _, _, _, _, _, _, _, _] _
      iterate 12 go_big_quiet_step (fail)
      refine wpQuiet_nil ?_
      refine Mixed.effect_last (i := 12) rfl rfl ?_
      intro Q hQ
      go_wp2_with fail
      unfold Mixed.HL
      go_wp2_with fail
      go_ret3
      refine ⟨rfl, ?_, (Turn.refl (fun k => k = q) _).drew.setCell (fun _ => rfl) _⟩
      exact (hB.drew.set 1 _)


theorem take_d (lim : Nat) (x : Int) (q g off m c cc : Nat) (a : Option Addr) (dr : Nat) (w : World) (hB : Blk w q 57 (qCells lim (.slice a 0 cc) (.slice (some ⟨g, off, none⟩) (m + 1) c) dr)) (hm : m + 1 ≤ c) (hx : w.cell? ⟨g, off, none⟩ = some (.int .i64 x)) :
    Calls Try.prog 10 #[ptr q] w fun e w' => e = .returned (.tuple #[.int .i64 x, .bool false, .bool true]) ∧ Blk w' q 57 (qCells lim (.slice a 0 cc) (tailOf g off m c) dr) ∧ Turn (fun k => k = q) w w' := by
  have c0 : w.cell? ⟨q, 0, none⟩ = some (.int .i64 lim) := hB.at_ rfl
  have c1 : w.cell? ⟨q, 1, none⟩ = some (.slice a 0 cc) := hB.at_ rfl
  have c2 : w.cell? ⟨q, 2, none⟩ = some (.slice (some ⟨g, off, none⟩) (m + 1) c) := hB.at_ rfl
  have f2 := hB.free 2
  unfold tailOf ptr
  by_cases h1 : 1 < c
  all_goals
    simp only [h1, if_true, if_false]
    go_enter Try.func10, Try.ntmps10
    go_wp2_with fail
    go_loop [11] (fun i => ∃ k : Nat, k ≤ 1 ∧ i = .int .i64 k) (fun i => 2 - (intOf i).toNat)
    case atStart => exact ⟨0, by omega, rfl⟩
    case round =>
      obtain ⟨k, hk, rfl⟩ := hrel
      rcases Nat.le_one_iff_eq_zero_or_eq_one.1 hk with rfl | rfl
      · go_wp2_with fail
        go_round
        case rel => exact ⟨1, by omega, rfl⟩
        case measure => simp [intOf]
      · go_wp2_with fail
        refine Mixed.wp_region (fun _ => True) [(1, 0), (1, 1), (1, 2), (1, 3), (1, 4), (1, 5), (1, 6), (1, 7), (1, 8), (1, 9), (1, 10), (1, 11), (3, 12)] (by kernel_rfl) (by kernel_rfl) trivial ?_
        refine Mixed.reads (k := 1) (.inr ⟨rfl, rfl⟩) _ [0, 1, 2, 3, 4, 5, 6, 7, 8, 9, 10, 11] _ (by kernel_rfl) ?_
        simp only [List.filterMap_cons, List.filterMap_nil, List.getElem?_toArray, List.getElem?_cons_zero, List.getElem?_cons_succ]
        show wpQuiet _ _ _ _ [_, _, _, _, _, _, _, _, _, _, _, _] _
        iterate 12 go_big_quiet_step (fail)
        refine wpQuiet_nil ?_
        refine Mixed.effect_last (i := 12) rfl rfl ?_
        intro Q hQ
        go_wp2_with fail
        unfold Mixed.HL
        go_wp2_with fail
        go_ret3
        refine ⟨rfl, ?_, (Turn.refl (fun k => k = q) _).drew.setCell (fun _ => rfl) _⟩
        exact (hB.drew.set 2 _)


theorem take_none (lim : Nat) (q c c' : Nat) (a a' : Option Addr) (dr : Nat) (w : World) (hB : Blk w q 57 (qCells lim (.slice a 0 c) (.slice a' 0 c') dr)) :
    Calls Try.prog 10 #[ptr q] w fun e w' => e = .returned (.tuple #[.int .i64 0, .bool false, .bool false]) ∧ w = w' := by
  have c1 : w.cell? ⟨q, 1, none⟩ = some (.slice a 0 c) := hB.at_ rfl
  have c2 : w.cell? ⟨q, 2, none⟩ = some (.slice a' 0 c') := hB.at_ rfl
  unfold ptr
  go_enter Try.func10, Try.ntmps10
  go_wp2_with fail
  go_loop [11] (fun i => ∃ k : Nat, k ≤ 2 ∧ i = .int .i64 k) (fun i => 2 - (intOf i).toNat)
  case atStart => exact ⟨0, by omega, rfl⟩
  case round =>
    obtain ⟨k, hk, rfl⟩ := hrel
    rcases (by omega : k = 0 ∨ k = 1 ∨ k = 2) with rfl | rfl | rfl
    · go_wp2_with fail
      go_round
      case rel => exact ⟨1, by omega, rfl⟩
      case measure => simp [intOf]
    · go_wp2_with fail
      go_round
      case rel => exact ⟨2, by omega, rfl⟩
      case measure => simp [intOf]
    · go_wp2_with fail
      go_ret3
      exact ⟨rfl, rfl⟩
theorem take_nil (w : World) : Calls Try.prog 10 #[.pointer none] w fun e w' => e = .returned (.tuple #[.int .i64 0, .bool false, .bool false]) ∧ w = w' := by
  go_enter Try.func10, Try.ntmps10
  go_wp2_with fail
  go_ret3
  exact ⟨rfl, rfl⟩
theorem put_nil (b : Bool) (x : Int) (w : World) : Calls Try.prog 9 #[.pointer none, .bool b, .int .i64 x] w fun e w' => e = .returned (.int .i64 1) ∧ w = w' := by
  go_enter Try.func9, Try.ntmps9
  go_wp2_with fail
  go_ret
  exact ⟨rfl, rfl⟩
theorem len_nil (w : World) : Calls Try.prog 14 #[.pointer none] w fun e w' => e = .returned (.tuple #[.int .i64 0, .int .i64 0]) ∧ w = w' := by
  go_enter Try.func14, Try.ntmps14
  go_wp2_with fail
  go_ret2
  exact ⟨rfl, rfl⟩
theorem dropped_nil (w : World) : Calls Try.prog 11 #[.pointer none] w fun e w' => e = .returned (.int .i64 0) ∧ w = w' := by
  go_enter Try.func11, Try.ntmps11
  go_wp2_with fail
  go_ret
  exact ⟨rfl, rfl⟩
theorem len_at (lim : Nat) (q c c' n n' : Nat) (a a' : Option Addr) (dr : Nat) (w : World) (hB : Blk w q 57 (qCells lim (.slice a n c) (.slice a' n' c') dr)) :
    Calls Try.prog 14 #[ptr q] w fun e w' => e = .returned (.tuple #[.int .i64 n, .int .i64 n']) ∧ ∃ k, w.drewN k = w' := by
  have c1 : w.cell? ⟨q, 1, none⟩ = some (.slice a n c) := hB.at_ rfl
  have c2 : w.cell? ⟨q, 2, none⟩ = some (.slice a' n' c') := hB.at_ rfl
  unfold ptr
  go_enter Try.func14, Try.ntmps14
  go_wp2_with fail
  go_quiet (fail)
  go_wp2_with fail
  go_ret2
  exact ⟨rfl, _, rfl⟩
theorem dropped_at (lim : Nat) (q : Nat) (vc vd : Value) (dr : Nat) (w : World) (hB : Blk w q 57 (qCells lim vc vd dr)) :
    Calls Try.prog 11 #[ptr q] w fun e w' => e = .returned (.int .i64 dr) ∧ w = w' := by
  have c3 : w.cell? ⟨q, 3, none⟩ = some (.int .i64 dr) := hB.at_ rfl
  unfold ptr
  go_enter Try.func11, Try.ntmps11
  go_wp2_with fail
  go_ret
  exact ⟨rfl, rfl⟩
theorem new_at (lim : Nat) (w : World) (h1 : 1 ≤ lim) (h2 : lim ≤ 65536) :
    Calls Try.prog 8 #[.int .i64 lim] w fun e w' => e = .returned (.tuple #[ptr w.heap.size, .int .i64 0]) ∧ w' = w.alloc (.cells (qCells lim (.slice none 0 0) (.slice none 0 0) 0) 57) := by
  have d1 : decide ((lim : Int) < 1) = false := by simp; omega
  have d2 : decide (65536 < (lim : Int)) = false := by simp; omega
  unfold ptr
  go_enter Try.func8, Try.ntmps8
  go_wp2_with fail
  go_ret2
  exact ⟨rfl, rfl⟩
theorem new_bad (lim : Int) (w : World) (h : lim < 1 ∨ 65536 < lim) :
    Calls Try.prog 8 #[.int .i64 lim] w fun e w' => e = .returned (.tuple #[.pointer none, .int .i64 1]) ∧ w = w' := by
  by_cases h1 : lim < 1
  · have d1 : decide (lim < 1) = true := by simp; omega
    go_enter Try.func8, Try.ntmps8
    go_wp2_with fail
    go_ret2
    exact ⟨rfl, rfl⟩
  · have d1 : decide (lim < 1) = false := by simp; omega
    have d2 : decide (65536 < lim) = true := by simp; omega
    go_enter Try.func8, Try.ntmps8
    go_wp2_with fail
    go_ret2
    exact ⟨rfl, rfl⟩
end Go.Proofs.Ytldjlahkfdcllaa

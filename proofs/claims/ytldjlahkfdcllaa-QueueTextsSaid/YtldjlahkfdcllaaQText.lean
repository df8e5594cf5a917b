/-
  queue: what New, Put, Take, Len and Dropped compute, for a queue of texts: the proofs of the queue of ints with other numbers (printed by wip/tools/qtext.py).
-/
import Derived.Test.YtldjlahkfdcllaaQAny
namespace Go.Proofs.Ytldjlahkfdcllaa.Txt
open Go.RowKit
theorem info9 : (Try.prog.info? 9).map (fun i => (i.zero, i.size, i.bytes)) = some (some (.string { data := #[] }), 1, 16) := by kernel_rfl
theorem putFull_c (lim : Nat) (u : Value) (q : Nat) (a a' : Option Addr) (n c n' c' : Nat) (dr : Nat) (w : World) (h : Blk w q 61 (qCells lim (.slice a n c) (.slice a' n' c') dr)) (hd : dr < 1099511627776) (hl : lim ≤ n) :
    Calls Try.prog 16 #[ptr q, .bool true, u] w fun e w' => e = .returned (.int .i64 8) ∧ Blk w' q 61 (qCells lim (.slice a n c) (.slice a' n' c') (dr + 1 : Nat)) ∧ Turn (fun k => k = q) w w' := by
  have c0 : w.cell? ⟨q, 0, none⟩ = some (.int .i64 lim) := h.at_ rfl
  have c1 : w.cell? ⟨q, 1, none⟩ = some (.slice a n c) := h.at_ rfl
  have c2 : w.cell? ⟨q, 2, none⟩ = some (.slice a' n' c') := h.at_ rfl
  have c3 : w.cell? ⟨q, 3, none⟩ = some (.int .i64 dr) := h.at_ rfl
  have f3 := h.free 3
  have d1 : decide ((lim : Int) ≤ (n : Int)) = true := by simp; omega
  unfold ptr
  go_enter Try.func16, Try.ntmps16
  go_wp2_with fail
  refine (kind_any true _).mono ?_; rintro e w1 ⟨rfl, rfl⟩
  go_wp2_with fail
  go_quiet (fail)
  go_wp2_with fail
  go_ret
  refine ⟨rfl, ?_, (Turn.many (fun k => k = q) _ _).setCell (fun _ => rfl) _⟩
  exact (h.drew.set 3 (.int .i64 (dr + 1 : Nat)))

theorem putFull_d (lim : Nat) (u : Value) (q : Nat) (a a' : Option Addr) (n c n' c' : Nat) (dr : Nat) (w : World) (h : Blk w q 61 (qCells lim (.slice a n c) (.slice a' n' c') dr)) (hd : dr < 1099511627776) (hl : lim ≤ n') :
    Calls Try.prog 16 #[ptr q, .bool false, u] w fun e w' => e = .returned (.int .i64 8) ∧ Blk w' q 61 (qCells lim (.slice a n c) (.slice a' n' c') (dr + 1 : Nat)) ∧ Turn (fun k => k = q) w w' := by
  have c0 : w.cell? ⟨q, 0, none⟩ = some (.int .i64 lim) := h.at_ rfl
  have c1 : w.cell? ⟨q, 1, none⟩ = some (.slice a n c) := h.at_ rfl
  have c2 : w.cell? ⟨q, 2, none⟩ = some (.slice a' n' c') := h.at_ rfl
  have c3 : w.cell? ⟨q, 3, none⟩ = some (.int .i64 dr) := h.at_ rfl
  have f3 := h.free 3
  have d1 : decide ((lim : Int) ≤ (n' : Int)) = true := by simp; omega
  unfold ptr
  go_enter Try.func16, Try.ntmps16
  go_wp2_with fail
  refine (kind_any false _).mono ?_; rintro e w1 ⟨rfl, rfl⟩
  go_wp2_with fail
  go_quiet (fail)
  go_wp2_with fail
  go_ret
  refine ⟨rfl, ?_, (Turn.many (fun k => k = q) _ _).setCell (fun _ => rfl) _⟩
  exact (h.drew.set 3 (.int .i64 (dr + 1 : Nat)))

theorem putOk_c (lim : Nat) (x : ByteArray) (q base : Nat) (a a' : Option Addr) (n c n' c' : Nat) (dr : Nat) (w : World) (h : Blk w q 61 (qCells lim (.slice a n c) (.slice a' n' c') dr)) 
    (xs : List Value) (hx : Own w base (.slice a n c) xs) (hn : xs.length = n) (hq : (.slice a n c : Value).ownBlock ≠ some q) (hb : base ≤ w.heap.size) (hlim : lim ≤ 65536) (hl : n < lim) :
    Calls Try.prog 16 #[ptr q, .bool true, .string x] w fun e w' => e = .returned (.int .i64 0) ∧ ∃ v, Blk w' q 61 (qCells lim v (.slice a' n' c') dr) ∧ Own w' base v (xs ++ [.string x]) ∧ Turn (fun k => k = q ∨ (.slice a n c : Value).ownBlock = some k) w w' ∧
      ∀ k, v.ownBlock = some k → (.slice a n c : Value).ownBlock = some k ∨ w.heap.size ≤ k := by
  have c0 : w.cell? ⟨q, 0, none⟩ = some (.int .i64 lim) := h.at_ rfl
  have c1 : w.cell? ⟨q, 1, none⟩ = some (.slice a n c) := h.at_ rfl
  have c2 : w.cell? ⟨q, 2, none⟩ = some (.slice a' n' c') := h.at_ rfl
  have d1 : decide ((lim : Int) ≤ (n : Int)) = false := by simp; omega
  have hql := h.lt
  obtain ⟨i0, hi, hz0, hz1, hz2⟩ := info_parts info9
  unfold ptr
  go_enter Try.func16, Try.ntmps16
  go_wp2_with fail
  refine (kind_any true _).mono ?_; rintro e w1 ⟨rfl, rfl⟩
  go_wp2_with fail
  go_quiet (fail)
  go_wp2_with fail
  have hr : Blk (w.drewN nq) q 61 (qCells lim (.slice a n c) (.slice a' n' c') dr) := h
  have hT : Turn (fun k => k = q ∨ (.slice a n c : Value).ownBlock = some k) w (w.drewN nq) := Turn.many _ _ _
  have hxr : Own (w.drewN nq) base (.slice a n c) xs := hx
  have hbr : base ≤ (w.drewN nq).heap.size := hb
  have hsz : w.heap.size ≤ (w.drewN nq).heap.size := Nat.le_refl _
  generalize hg : w.drewN nq = wr at *
  clear hg c0 c1 c2 h hx
  have cm : ∀ u, (mix (.slice a n c : Value).ownBlock.toList wr u).cell? ⟨q, 1, none⟩ = some (.slice a n c) := fun u => (mix_cell _ wr u (p := ⟨q, 1, none⟩) hr.lt (by simpa using hq)).trans (hr.at_ rfl)
  refine Mixed.wp_region (fun w' => ∃ u, w' = mix (.slice a n c : Value).ownBlock.toList wr u) [(0, 0), (0, 1), (0, 2), (0, 3), (0, 4), (0, 5), (0, 6), (0, 7), (1, 8), (0, 11), (0, 12), (2, 9), (2, 10), (1, 13), (3, 14)] (by kernel_rfl) (by kernel_rfl) (Mx.drew0 _ _) ?_
  refine Mixed.reads (k := 0) (.inl ⟨rfl, rfl⟩) _ [0, 1, 2, 3, 4, 5, 6, 7] _ (by kernel_rfl) ?_
  simp only [List.filterMap_cons, List.filterMap_nil, List.getElem?_toArray, List.getElem?_cons_zero, List.getElem?_cons_succ]
  show wpQuiet _ _ _ _ [_, _, _, _, _, _, _, _] _
  iterate 8 go_big_quiet_step (fail)
  refine wpQuiet_nil ?_
  refine Mixed.reads (k := 1) (.inr ⟨rfl, rfl⟩) _ [8] _ (by kernel_rfl) ?_
  simp only [List.filterMap_cons, List.filterMap_nil, List.getElem?_toArray, List.getElem?_cons_zero, List.getElem?_cons_succ]
  show wpQuiet _ _ _ _ [_] _
  iterate 1 go_big_quiet_step (fail)
  refine wpQuiet_nil ?_
  refine Mixed.reads (k := 0) (.inl ⟨rfl, rfl⟩) _ [11, 12] _ (by kernel_rfl) ?_
  simp only [List.filterMap_cons, List.filterMap_nil, List.getElem?_toArray, List.getElem?_cons_zero, List.getElem?_cons_succ]
  show wpQuiet _ _ _ _ [_, _] _
  iterate 2 go_big_quiet_step (fail)
  refine wpQuiet_nil ?_
  have hnew : ∀ wz : World, (wz.alloc (.cells #[.string x] 9)).cell? ⟨wz.heap.size, 0, none⟩ = some (.string x) := fun wz => (Blk.made wz 9 #[.string x]).at_ rfl
  refine Mixed.effect (i := 9) rfl rfl ?_
  intro Q hQ
  go_wp2_with fail
  refine hQ _ _ (Mx.of ?_) ?_
  · exact ((Keeps.refl _ _).alloc _).drew
  refine Mixed.effect (i := 10) rfl rfl ?_
  intro Q hQ
  simp only [List.getElem_toArray, List.getElem_cons_zero, List.getElem_cons_succ]
  refine (wpList_append_one _ rfl (.tmp 38) (.tmp 40) 47 rfl base 9 i0 (.string { data := #[] }) 16 Try.underlying47 hi hz0 hz1 hz2 rfl (.slice a n c) xs rfl (((hxr.alloc _).drew).drew) wr.heap.size 1 (.string x) rfl (hnew wr) rfl (by omega) (by omega) (by simp; omega) ?_); intro v4 w4 hown4 hg4 hv4
  have hg4' : (wr.alloc (.cells #[.string x] 9)).grownBy w4 (.slice a n c : Value).ownBlock := ⟨hg4.os, hg4.tape, hg4.output, hg4.size, hg4.block⟩
  have hs4 : wr.heap.size ≤ w4.heap.size := by have := hg4'.size; simp at this; omega
  have hB4 : Blk w4 q 61 (qCells lim (.slice a n c) (.slice a' n' c') dr) := (hr.alloc _).grown hg4' (fun e => hq e.symm)
  have hT4 : Turn (fun k => k = q ∨ (.slice a n c : Value).ownBlock = some k) w w4 := (hT.alloc _).grown hg4' (fun k hk _ => .inr hk)
  have f4 := hB4.free 1
  have c4 : w4.cell? ⟨q, 1, none⟩ = some (.slice a n c) := hB4.at_ rfl
  have hv : ∀ k, v4.ownBlock = some k → (.slice a n c : Value).ownBlock = some k ∨ w.heap.size ≤ k := fun k hk => (hv4 k hk).imp id (fun h => Nat.le_trans (Nat.le_trans hsz (by simp : wr.heap.size ≤ (wr.alloc (.cells #[.string x] 9)).heap.size)) h)
  simp only [Act.put, List.setIfInBounds_toArray, List.set_cons_succ, List.set_cons_zero]
  refine hQ _ _ (Mx.of (((Keeps.refl _ _).alloc _).grown hg4' (fun k hk _ => by simp [hk]))) ?_
  refine Mixed.reads (k := 1) (.inr ⟨rfl, rfl⟩) _ [13] _ (by kernel_rfl) ?_
  simp only [List.filterMap_cons, List.filterMap_nil, List.getElem?_toArray, List.getElem?_cons_zero, List.getElem?_cons_succ]
  show wpQuiet _ _ _ _ [_] _
  iterate 1 go_big_quiet_step (fail)
  refine wpQuiet_nil ?_
  clear hg4 hg4' hv4 cm hr hT hxr hnew hQ
  refine Mixed.effect_last (i := 14) rfl rfl ?_
  intro Q hQ
  obtain ⟨a4, cap4, rfl, _, _, _⟩ := hown4.form
  have el : (xs ++ [(.string x : Value)]).length = n + 1 := by simp [hn]
  rw [el] at hown4 hv ⊢
  go_wp2_with fail
  unfold Mixed.HL
  go_wp2_with fail
  go_ret
  refine ⟨rfl, _, hB4.set 1 _, hown4.setCell (fun e => (hv q e).elim hq (by omega)) _, hT4.setCell (fun _ => .inl rfl) _, hv⟩

theorem putOk_d (lim : Nat) (x : ByteArray) (q base : Nat) (a a' : Option Addr) (n c n' c' : Nat) (dr : Nat) (w : World) (h : Blk w q 61 (qCells lim (.slice a n c) (.slice a' n' c') dr)) 
    (xs : List Value) (hx : Own w base (.slice a' n' c') xs) (hn : xs.length = n') (hq : (.slice a' n' c' : Value).ownBlock ≠ some q) (hb : base ≤ w.heap.size) (hlim : lim ≤ 65536) (hl : n' < lim) :
    Calls Try.prog 16 #[ptr q, .bool false, .string x] w fun e w' => e = .returned (.int .i64 0) ∧ ∃ v, Blk w' q 61 (qCells lim (.slice a n c) v dr) ∧ Own w' base v (xs ++ [.string x]) ∧ Turn (fun k => k = q ∨ (.slice a' n' c' : Value).ownBlock = some k) w w' ∧
      ∀ k, v.ownBlock = some k → (.slice a' n' c' : Value).ownBlock = some k ∨ w.heap.size ≤ k := by
  have c0 : w.cell? ⟨q, 0, none⟩ = some (.int .i64 lim) := h.at_ rfl
  have c1 : w.cell? ⟨q, 1, none⟩ = some (.slice a n c) := h.at_ rfl
  have c2 : w.cell? ⟨q, 2, none⟩ = some (.slice a' n' c') := h.at_ rfl
  have d1 : decide ((lim : Int) ≤ (n' : Int)) = false := by simp; omega
  have hql := h.lt
  obtain ⟨i0, hi, hz0, hz1, hz2⟩ := info_parts info9
  unfold ptr
  go_enter Try.func16, Try.ntmps16
  go_wp2_with fail
  refine (kind_any false _).mono ?_; rintro e w1 ⟨rfl, rfl⟩
  go_wp2_with fail
  go_quiet (fail)
  go_wp2_with fail
  have hr : Blk (w.drewN nq) q 61 (qCells lim (.slice a n c) (.slice a' n' c') dr) := h
  have hT : Turn (fun k => k = q ∨ (.slice a' n' c' : Value).ownBlock = some k) w (w.drewN nq) := Turn.many _ _ _
  have hxr : Own (w.drewN nq) base (.slice a' n' c') xs := hx
  have hbr : base ≤ (w.drewN nq).heap.size := hb
  have hsz : w.heap.size ≤ (w.drewN nq).heap.size := Nat.le_refl _
  generalize hg : w.drewN nq = wr at *
  clear hg c0 c1 c2 h hx
  have cm : ∀ u, (mix (.slice a' n' c' : Value).ownBlock.toList wr u).cell? ⟨q, 2, none⟩ = some (.slice a' n' c') := fun u => (mix_cell _ wr u (p := ⟨q, 2, none⟩) hr.lt (by simpa using hq)).trans (hr.at_ rfl)
  refine Mixed.wp_region (fun w' => ∃ u, w' = mix (.slice a' n' c' : Value).ownBlock.toList wr u) [(0, 0), (0, 1), (0, 2), (0, 3), (0, 4), (0, 5), (0, 6), (0, 7), (1, 8), (0, 11), (0, 12), (2, 9), (2, 10), (1, 13), (3, 14)] (by kernel_rfl) (by kernel_rfl) (Mx.drew0 _ _) ?_
  refine Mixed.reads (k := 0) (.inl ⟨rfl, rfl⟩) _ [0, 1, 2, 3, 4, 5, 6, 7] _ (by kernel_rfl) ?_
  simp only [List.filterMap_cons, List.filterMap_nil, List.getElem?_toArray, List.getElem?_cons_zero, List.getElem?_cons_succ]
  show wpQuiet _ _ _ _ [_, _, _, _, _, _, _, _] _
  iterate 8 go_big_quiet_step (fail)
  refine wpQuiet_nil ?_
  refine Mixed.reads (k := 1) (.inr ⟨rfl, rfl⟩) _ [8] _ (by kernel_rfl) ?_
  simp only [List.filterMap_cons, List.filterMap_nil, List.getElem?_toArray, List.getElem?_cons_zero, List.getElem?_cons_succ]
  show wpQuiet _ _ _ _ [_] _
  iterate 1 go_big_quiet_step (fail)
  refine wpQuiet_nil ?_
  refine Mixed.reads (k := 0) (.inl ⟨rfl, rfl⟩) _ [11, 12] _ (by kernel_rfl) ?_
  simp only [List.filterMap_cons, List.filterMap_nil, List.getElem?_toArray, List.getElem?_cons_zero, List.getElem?_cons_succ]
  show wpQuiet _ _ _ _ [_, _] _
  iterate 2 go_big_quiet_step (fail)
  refine wpQuiet_nil ?_
  have hnew : ∀ wz : World, (wz.alloc (.cells #[.string x] 9)).cell? ⟨wz.heap.size, 0, none⟩ = some (.string x) := fun wz => (Blk.made wz 9 #[.string x]).at_ rfl
  refine Mixed.effect (i := 9) rfl rfl ?_
  intro Q hQ
  go_wp2_with fail
  refine hQ _ _ (Mx.of ?_) ?_
  · exact ((Keeps.refl _ _).alloc _).drew
  refine Mixed.effect (i := 10) rfl rfl ?_
  intro Q hQ
  simp only [List.getElem_toArray, List.getElem_cons_zero, List.getElem_cons_succ]
  refine (wpList_append_one _ rfl (.tmp 38) (.tmp 40) 47 rfl base 9 i0 (.string { data := #[] }) 16 Try.underlying47 hi hz0 hz1 hz2 rfl (.slice a' n' c') xs rfl (((hxr.alloc _).drew).drew) wr.heap.size 1 (.string x) rfl (hnew wr) rfl (by omega) (by omega) (by simp; omega) ?_); intro v4 w4 hown4 hg4 hv4
  have hg4' : (wr.alloc (.cells #[.string x] 9)).grownBy w4 (.slice a' n' c' : Value).ownBlock := ⟨hg4.os, hg4.tape, hg4.output, hg4.size, hg4.block⟩
  have hs4 : wr.heap.size ≤ w4.heap.size := by have := hg4'.size; simp at this; omega
  have hB4 : Blk w4 q 61 (qCells lim (.slice a n c) (.slice a' n' c') dr) := (hr.alloc _).grown hg4' (fun e => hq e.symm)
  have hT4 : Turn (fun k => k = q ∨ (.slice a' n' c' : Value).ownBlock = some k) w w4 := (hT.alloc _).grown hg4' (fun k hk _ => .inr hk)
  have f4 := hB4.free 2
  have c4 : w4.cell? ⟨q, 2, none⟩ = some (.slice a' n' c') := hB4.at_ rfl
  have hv : ∀ k, v4.ownBlock = some k → (.slice a' n' c' : Value).ownBlock = some k ∨ w.heap.size ≤ k := fun k hk => (hv4 k hk).imp id (fun h => Nat.le_trans (Nat.le_trans hsz (by simp : wr.heap.size ≤ (wr.alloc (.cells #[.string x] 9)).heap.size)) h)
  simp only [Act.put, List.setIfInBounds_toArray, List.set_cons_succ, List.set_cons_zero]
  refine hQ _ _ (Mx.of (((Keeps.refl _ _).alloc _).grown hg4' (fun k hk _ => by simp [hk]))) ?_
  refine Mixed.reads (k := 1) (.inr ⟨rfl, rfl⟩) _ [13] _ (by kernel_rfl) ?_
  simp only [List.filterMap_cons, List.filterMap_nil, List.getElem?_toArray, List.getElem?_cons_zero, List.getElem?_cons_succ]
  show wpQuiet _ _ _ _ [_] _
  iterate 1 go_big_quiet_step (fail)
  refine wpQuiet_nil ?_
  clear hg4 hg4' hv4 cm hr hT hxr hnew hQ
  refine Mixed.effect_last (i := 14) rfl rfl ?_
  intro Q hQ
  obtain ⟨a4, cap4, rfl, _, _, _⟩ := hown4.form
  have el : (xs ++ [(.string x : Value)]).length = n' + 1 := by simp [hn]
  rw [el] at hown4 hv ⊢
  go_wp2_with fail
  unfold Mixed.HL
  go_wp2_with fail
  go_ret
  refine ⟨rfl, _, hB4.set 2 _, hown4.setCell (fun e => (hv q e).elim hq (by omega)) _, hT4.setCell (fun _ => .inl rfl) _, hv⟩
theorem take_c (lim : Nat) (x : ByteArray) (q g off m c n cc : Nat) (a : Option Addr) (dr : Nat) (w : World) (hB : Blk w q 61 (qCells lim (.slice (some ⟨g, off, none⟩) (m + 1) c) (.slice a n cc) dr)) (hm : m + 1 ≤ c) (hx : w.cell? ⟨g, off, none⟩ = some (.string x)) :
    Calls Try.prog 17 #[ptr q] w fun e w' => e = .returned (.tuple #[.string x, .bool true, .bool true]) ∧ Blk w' q 61 (qCells lim (tailOf g off m c) (.slice a n cc) dr) ∧ Turn (fun k => k = q) w w' := by
  have c0 : w.cell? ⟨q, 0, none⟩ = some (.int .i64 lim) := hB.at_ rfl
  have c1 : w.cell? ⟨q, 1, none⟩ = some (.slice (some ⟨g, off, none⟩) (m + 1) c) := hB.at_ rfl
  have c2 : w.cell? ⟨q, 2, none⟩ = some (.slice a n cc) := hB.at_ rfl
  have f1 := hB.free 1
  unfold tailOf ptr
  by_cases h1 : 1 < c
  all_goals
    simp only [h1, if_true, if_false]
    go_enter Try.func17, Try.ntmps17
    go_wp2_with fail
    go_loop [11] (fun i => i = .int .i64 0) (fun i => 0)
    case atStart => rfl
    case round =>
      subst hrel
      go_wp2_with fail
      refine Mixed.wp_region (fun _ => True) [(1, 0), (1, 1), (1, 2), (1, 3), (1, 4), (1, 5), (1, 6), (1, 7), (1, 8), (1, 9), (1, 10), (1, 11), (3, 12)] (by kernel_rfl) (by kernel_rfl) trivial ?_
      refine Mixed.reads (k := 1) (.inr ⟨rfl, rfl⟩) _ [0, 1, 2, 3, 4, 5, 6, 7, 8, 9, 10, 11] _ (by kernel_rfl) ?_
      simp only [List.filterMap_cons, List.filterMap_nil, List.getElem?_toArray, List.getElem?_cons_zero, List.getElem?_cons_succ]
      show wpQuiet _ _ _ _ [_, _, _, _, _, _, _, _, _, _, _, _] _
      iterate 12 go_big_quiet_step (fail)
      refine wpQuiet_nil ?_
      refine Mixed.effect_last (i := 12) rfl rfl ?_
      intro Q hQ
      go_wp2_with fail
      unfold Mixed.HL
      go_wp2_with fail
      go_ret3
      refine ⟨rfl, ?_, (Turn.refl (fun k => k = q) _).drew.setCell (fun _ => rfl) _⟩
      exact (hB.drew.set 1 _)


theorem take_d (lim : Nat) (x : ByteArray) (q g off m c cc : Nat) (a : Option Addr) (dr : Nat) (w : World) (hB : Blk w q 61 (qCells lim (.slice a 0 cc) (.slice (some ⟨g, off, none⟩) (m + 1) c) dr)) (hm : m + 1 ≤ c) (hx : w.cell? ⟨g, off, none⟩ = some (.string x)) :
    Calls Try.prog 17 #[ptr q] w fun e w' => e = .returned (.tuple #[.string x, .bool false, .bool true]) ∧ Blk w' q 61 (qCells lim (.slice a 0 cc) (tailOf g off m c) dr) ∧ Turn (fun k => k = q) w w' := by
  have c0 : w.cell? ⟨q, 0, none⟩ = some (.int .i64 lim) := hB.at_ rfl
  have c1 : w.cell? ⟨q, 1, none⟩ = some (.slice a 0 cc) := hB.at_ rfl
  have c2 : w.cell? ⟨q, 2, none⟩ = some (.slice (some ⟨g, off, none⟩) (m + 1) c) := hB.at_ rfl
  have f2 := hB.free 2
  unfold tailOf ptr
  by_cases h1 : 1 < c
  all_goals
    simp only [h1, if_true, if_false]
    go_enter Try.func17, Try.ntmps17
    go_wp2_with fail
    go_loop [11] (fun i => ∃ k : Nat, k ≤ 1 ∧ i = .int .i64 k) (fun i => 2 - (intOf i).toNat)
    case atStart => exact ⟨0, by omega, rfl⟩
    case round =>
      obtain ⟨k, hk, rfl⟩ := hrel
      rcases Nat.le_one_iff_eq_zero_or_eq_one.1 hk with rfl | rfl
      · go_wp2_with fail
        go_round
        case rel => exact ⟨1, by omega, rfl⟩
        case measure => simp [intOf]
      · go_wp2_with fail
        refine Mixed.wp_region (fun _ => True) [(1, 0), (1, 1), (1, 2), (1, 3), (1, 4), (1, 5), (1, 6), (1, 7), (1, 8), (1, 9), (1, 10), (1, 11), (3, 12)] (by kernel_rfl) (by kernel_rfl) trivial ?_
        refine Mixed.reads (k := 1) (.inr ⟨rfl, rfl⟩) _ [0, 1, 2, 3, 4, 5, 6, 7, 8, 9, 10, 11] _ (by kernel_rfl) ?_
        simp only [List.filterMap_cons, List.filterMap_nil, List.getElem?_toArray, List.getElem?_cons_zero, List.getElem?_cons_succ]
        show wpQuiet _ _ _ _ [_, _, _, _, _, _, _, _, _, _, _, _] _
        iterate 12 go_big_quiet_step (fail)
        refine wpQuiet_nil ?_
        refine Mixed.effect_last (i := 12) rfl rfl ?_
        intro Q hQ
        go_wp2_with fail
        unfold Mixed.HL
        go_wp2_with fail
        go_ret3
        refine ⟨rfl, ?_, (Turn.refl (fun k => k = q) _).drew.setCell (fun _ => rfl) _⟩
        exact (hB.drew.set 2 _)


theorem take_none (lim : Nat) (q c c' : Nat) (a a' : Option Addr) (dr : Nat) (w : World) (hB : Blk w q 61 (qCells lim (.slice a 0 c) (.slice a' 0 c') dr)) :
    Calls Try.prog 17 #[ptr q] w fun e w' => e = .returned (.tuple #[.string { data := #[] }, .bool false, .bool false]) ∧ w = w' := by
  have c1 : w.cell? ⟨q, 1, none⟩ = some (.slice a 0 c) := hB.at_ rfl
  have c2 : w.cell? ⟨q, 2, none⟩ = some (.slice a' 0 c') := hB.at_ rfl
  unfold ptr
  go_enter Try.func17, Try.ntmps17
  go_wp2_with fail
  go_loop [11] (fun i => ∃ k : Nat, k ≤ 2 ∧ i = .int .i64 k) (fun i => 2 - (intOf i).toNat)
  case atStart => exact ⟨0, by omega, rfl⟩
  case round =>
    obtain ⟨k, hk, rfl⟩ := hrel
    rcases (by omega : k = 0 ∨ k = 1 ∨ k = 2) with rfl | rfl | rfl
    · go_wp2_with fail
      go_round
      case rel => exact ⟨1, by omega, rfl⟩
      case measure => simp [intOf]
    · go_wp2_with fail
      go_round
      case rel => exact ⟨2, by omega, rfl⟩
      case measure => simp [intOf]
    · go_wp2_with fail
      go_ret3
      exact ⟨rfl, rfl⟩
theorem take_nil (w : World) : Calls Try.prog 17 #[.pointer none] w fun e w' => e = .returned (.tuple #[.string { data := #[] }, .bool false, .bool false]) ∧ w = w' := by
  go_enter Try.func17, Try.ntmps17
  go_wp2_with fail
  go_ret3
  exact ⟨rfl, rfl⟩
theorem put_nil (b : Bool) (x : ByteArray) (w : World) : Calls Try.prog 16 #[.pointer none, .bool b, .string x] w fun e w' => e = .returned (.int .i64 1) ∧ w = w' := by
  go_enter Try.func16, Try.ntmps16
  go_wp2_with fail
  go_ret
  exact ⟨rfl, rfl⟩
theorem len_nil (w : World) : Calls Try.prog 18 #[.pointer none] w fun e w' => e = .returned (.tuple #[.int .i64 0, .int .i64 0]) ∧ w = w' := by
  go_enter Try.func18, Try.ntmps18
  go_wp2_with fail
  go_ret2
  exact ⟨rfl, rfl⟩
theorem dropped_nil (w : World) : Calls Try.prog 19 #[.pointer none] w fun e w' => e = .returned (.int .i64 0) ∧ w = w' := by
  go_enter Try.func19, Try.ntmps19
  go_wp2_with fail
  go_ret
  exact ⟨rfl, rfl⟩
theorem len_at (lim : Nat) (q c c' n n' : Nat) (a a' : Option Addr) (dr : Nat) (w : World) (hB : Blk w q 61 (qCells lim (.slice a n c) (.slice a' n' c') dr)) :
    Calls Try.prog 18 #[ptr q] w fun e w' => e = .returned (.tuple #[.int .i64 n, .int .i64 n']) ∧ ∃ k, w.drewN k = w' := by
  have c1 : w.cell? ⟨q, 1, none⟩ = some (.slice a n c) := hB.at_ rfl
  have c2 : w.cell? ⟨q, 2, none⟩ = some (.slice a' n' c') := hB.at_ rfl
  unfold ptr
  go_enter Try.func18, Try.ntmps18
  go_wp2_with fail
  go_quiet (fail)
  go_wp2_with fail
  go_ret2
  exact ⟨rfl, _, rfl⟩
theorem dropped_at (lim : Nat) (q : Nat) (vc vd : Value) (dr : Nat) (w : World) (hB : Blk w q 61 (qCells lim vc vd dr)) :
    Calls Try.prog 19 #[ptr q] w fun e w' => e = .returned (.int .i64 dr) ∧ w = w' := by
  have c3 : w.cell? ⟨q, 3, none⟩ = some (.int .i64 dr) := hB.at_ rfl
  unfold ptr
  go_enter Try.func19, Try.ntmps19
  go_wp2_with fail
  go_ret
  exact ⟨rfl, rfl⟩
theorem new_at (lim : Nat) (w : World) (h1 : 1 ≤ lim) (h2 : lim ≤ 65536) :
    Calls Try.prog 15 #[.int .i64 lim] w fun e w' => e = .returned (.tuple #[ptr w.heap.size, .int .i64 0]) ∧ w' = w.alloc (.cells (qCells lim (.slice none 0 0) (.slice none 0 0) 0) 61) := by
  have d1 : decide ((lim : Int) < 1) = false := by simp; omega
  have d2 : decide (65536 < (lim : Int)) = false := by simp; omega
  unfold ptr
  go_enter Try.func15, Try.ntmps15
  go_wp2_with fail
  go_ret2
  exact ⟨rfl, rfl⟩
theorem new_bad (lim : Int) (w : World) (h : lim < 1 ∨ 65536 < lim) :
    Calls Try.prog 15 #[.int .i64 lim] w fun e w' => e = .returned (.tuple #[.pointer none, .int .i64 1]) ∧ w = w' := by
  by_cases h1 : lim < 1
  · have d1 : decide (lim < 1) = true := by simp; omega
    go_enter Try.func15, Try.ntmps15
    go_wp2_with fail
    go_ret2
    exact ⟨rfl, rfl⟩
  · have d1 : decide (lim < 1) = false := by simp; omega
    have d2 : decide (65536 < lim) = true := by simp; omega
    go_enter Try.func15, Try.ntmps15
    go_wp2_with fail
    go_ret2
    exact ⟨rfl, rfl⟩
theorem put_any (s : Qs) (lim q base : Nat) (F : Nat → Prop) (b : Bool) (x : ByteArray) (w : World) (h : QAt 61 w q base F lim s) (hdr : s.dr < 1099511627776) (hlim : lim ≤ 65536) :
    Calls Try.prog 16 #[ptr q, .bool b, .string x] w fun e w' => e = .returned (errOf (s.put lim b (.string x)).2) ∧ ∃ F', QAt 61 w' q base F' lim (s.put lim b (.string x)).1 ∧ Turn F w w' ∧ ∀ k, F' k → F k ∨ w.heap.size ≤ k := by
  obtain ⟨cs, ds, dr⟩ := s
  obtain ⟨vc, vd, hB, hq, hc, hd, hF, hn1, hn2, hn3⟩ := h
  simp only at hB hc hd hdr
  obtain ⟨ac, capc, rfl, _, _, _⟩ := hc.form
  obtain ⟨ad, capd, rfl, _, _, _⟩ := hd.form
  have hb : base ≤ w.heap.size := Nat.le_trans hq (Nat.le_of_lt hB.lt)
  unfold Qs.put errOf QAt
  cases b
  · simp only [Bool.false_eq_true, if_false]
    by_cases hl : ds.length < lim
    · rw [if_pos hl]
      refine (putOk_d lim x q base ac ad _ capc _ capd dr w hB ds hd rfl hn2 hb hlim hl).mono ?_
      rintro e w' ⟨rfl, v, g1, g2, g3, g4⟩
      refine ⟨rfl, fun k => k = q ∨ (Value.slice ac cs.length capc).ownBlock = some k ∨ v.ownBlock = some k, ?_, g3.mono (fun k _ hk => (hF k).2 (hk.imp id .inr)), ?_⟩
      · refine ⟨_, v, g1, hq, hc.keep g3.size (fun k h1 h2 h3 => g3.block k h2 ?_), g2, fun k => Iff.rfl, hn1, fun e => ?_, fun k h1 h2 => ?_⟩
        · rintro (rfl | h4)
          · exact hn1 h3
          · exact hn3 k h3 h4
        · rcases g4 q e with h5 | h5
          · exact hn2 h5
          · have := hB.lt; omega
        · rcases g4 k h2 with h5 | h5
          · exact hn3 k h1 h5
          · have := (hc.row k h1).2; omega
      · rintro k (h5 | h5 | h5)
        · exact .inl ((hF k).2 (.inl h5))
        · exact .inl ((hF k).2 (.inr (.inl h5)))
        · exact (g4 k h5).imp (fun h6 => (hF k).2 (.inr (.inr h6))) id
    · rw [if_neg hl]
      refine (putFull_d lim (.string x) q ac ad _ capc _ capd dr w hB hdr (by omega)).mono ?_
      rintro e w' ⟨rfl, g1, g3⟩
      refine ⟨rfl, F, ⟨_, _, g1, hq, hc.keep g3.size (fun k h1 h2 h3 => g3.block k h2 ?_), hd.keep g3.size (fun k h1 h2 h3 => g3.block k h2 ?_), hF, hn1, hn2, hn3⟩, g3.mono (fun k _ hk => (hF k).2 (.inl hk)), fun k h => .inl h⟩
      · rintro rfl; exact hn1 h3
      · rintro rfl; exact hn2 h3
  · simp only [if_true]
    by_cases hl : cs.length < lim
    · rw [if_pos hl]
      refine (putOk_c lim x q base ac ad _ capc _ capd dr w hB cs hc rfl hn1 hb hlim hl).mono ?_
      rintro e w' ⟨rfl, v, g1, g2, g3, g4⟩
      refine ⟨rfl, fun k => k = q ∨ v.ownBlock = some k ∨ (Value.slice ad ds.length capd).ownBlock = some k, ?_, g3.mono (fun k _ hk => (hF k).2 (hk.imp id .inl)), ?_⟩
      · refine ⟨v, _, g1, hq, g2, hd.keep g3.size (fun k h1 h2 h3 => g3.block k h2 ?_), fun k => Iff.rfl, fun e => ?_, hn2, fun k h1 h2 => ?_⟩
        · rintro (rfl | h4)
          · exact hn2 h3
          · exact hn3 k h4 h3
        · rcases g4 q e with h5 | h5
          · exact hn1 h5
          · have := hB.lt; omega
        · rcases g4 k h1 with h5 | h5
          · exact hn3 k h5 h2
          · have := (hd.row k h2).2; omega
      · rintro k (h5 | h5 | h5)
        · exact .inl ((hF k).2 (.inl h5))
        · exact (g4 k h5).imp (fun h6 => (hF k).2 (.inr (.inl h6))) id
        · exact .inl ((hF k).2 (.inr (.inr h5)))
    · rw [if_neg hl]
      refine (putFull_c lim (.string x) q ac ad _ capc _ capd dr w hB hdr (by omega)).mono ?_
      rintro e w' ⟨rfl, g1, g3⟩
      refine ⟨rfl, F, ⟨_, _, g1, hq, hc.keep g3.size (fun k h1 h2 h3 => g3.block k h2 ?_), hd.keep g3.size (fun k h1 h2 h3 => g3.block k h2 ?_), hF, hn1, hn2, hn3⟩, g3.mono (fun k _ hk => (hF k).2 (.inl hk)), fun k h => .inl h⟩
      · rintro rfl; exact hn1 h3
      · rintro rfl; exact hn2 h3

/-- Whatever waits is a text. -/
def Texts (l : List Value) : Prop := ∀ u ∈ l, ∃ x : ByteArray, u = .string x
theorem take_any (s : Qs) (lim q base : Nat) (F : Nat → Prop) (w : World) (h : QAt 61 w q base F lim s) (hs : Texts (s.c ++ s.d)) :
    Calls Try.prog 17 #[ptr q] w fun e w' => e = .returned (.tuple #[(s.take (.string { data := #[] })).2.1, .bool (s.take (.string { data := #[] })).2.2.1, .bool (s.take (.string { data := #[] })).2.2.2]) ∧ ∃ F', QAt 61 w' q base F' lim (s.take (.string { data := #[] })).1 ∧ Turn F w w' ∧ ∀ k, F' k → F k ∨ w.heap.size ≤ k := by
  obtain ⟨cs, ds, dr⟩ := s
  have h0 := h
  obtain ⟨vc, vd, hB, hq, hc, hd, hF, hn1, hn2, hn3⟩ := h
  simp only at hB hc hd hs
  unfold Qs.take QAt
  cases cs with
  | cons u l =>
    obtain ⟨x, rfl⟩ := hs u (by simp)
    obtain ⟨ac, capc, rfl, _, _, _⟩ := hc.form
    obtain ⟨ad, capd, rfl, _, _, _⟩ := hd.form
    obtain ⟨g, off, rfl, _⟩ := hc.some
    obtain ⟨t1, _, t3, _, t5⟩ := hc.tail
    refine (take_c lim x q g off _ _ _ _ _ dr w hB t3 t5).mono ?_
    rintro e w' ⟨rfl, g1, g3⟩
    refine ⟨rfl, F, ⟨_, _, g1, hq, t1.keep g3.size (fun k h1 h2 h3 => g3.block k h2 ?_), hd.keep g3.size (fun k h1 h2 h3 => g3.block k h2 ?_), ?_, ?_, hn2, ?_⟩, g3.mono (fun k _ hk => (hF k).2 (.inl hk)), fun k h => .inl h⟩
    · rintro rfl; rw [tailOf_block] at h3; exact hn1 h3
    · rintro rfl; exact hn2 h3
    · intro k; rw [tailOf_block]; exact hF k
    · rw [tailOf_block]; exact hn1
    · intro k; rw [tailOf_block]; exact hn3 k
  | nil =>
    obtain ⟨ac, capc, rfl, _, _, _⟩ := hc.form
    cases ds with
    | cons u l =>
      obtain ⟨x, rfl⟩ := hs u (by simp)
      obtain ⟨ad, capd, rfl, _, _, _⟩ := hd.form
      obtain ⟨g, off, rfl, _⟩ := hd.some
      obtain ⟨t1, _, t3, _, t5⟩ := hd.tail
      refine (take_d lim x q g off _ _ _ _ dr w hB t3 t5).mono ?_
      rintro e w' ⟨rfl, g1, g3⟩
      refine ⟨rfl, F, ⟨_, _, g1, hq, hc.keep g3.size (fun k h1 h2 h3 => g3.block k h2 ?_), t1.keep g3.size (fun k h1 h2 h3 => g3.block k h2 ?_), ?_, hn1, ?_, ?_⟩, g3.mono (fun k _ hk => (hF k).2 (.inl hk)), fun k h => .inl h⟩
      · rintro rfl; exact hn1 h3
      · rintro rfl; rw [tailOf_block] at h3; exact hn2 h3
      · intro k; rw [tailOf_block]; exact hF k
      · rw [tailOf_block]; exact hn2
      · intro k; rw [tailOf_block]; exact hn3 k
    | nil =>
      obtain ⟨ad, capd, rfl, _, _, _⟩ := hd.form
      refine (take_none lim q _ _ _ _ dr w hB).mono ?_
      rintro e w' ⟨rfl, rfl⟩
      exact ⟨rfl, F, h0, Turn.refl _ _, fun k h => .inl h⟩
theorem len_any (s : Qs) (lim q base : Nat) (F : Nat → Prop) (w : World) (h : QAt 61 w q base F lim s) :
    Calls Try.prog 18 #[ptr q] w fun e w' => e = .returned (.tuple #[.int .i64 s.c.length, .int .i64 s.d.length]) ∧ ∃ k, w.drewN k = w' := by
  obtain ⟨vc, vd, hB, hq, hc, hd, _⟩ := h
  obtain ⟨ac, capc, rfl, _, _, _⟩ := hc.form
  obtain ⟨ad, capd, rfl, _, _, _⟩ := hd.form
  exact len_at lim q _ _ _ _ _ _ _ w hB
theorem dropped_any (s : Qs) (lim q base : Nat) (F : Nat → Prop) (w : World) (h : QAt 61 w q base F lim s) :
    Calls Try.prog 19 #[ptr q] w fun e w' => e = .returned (.int .i64 s.dr) ∧ w = w' := by
  obtain ⟨vc, vd, hB, _⟩ := h
  exact dropped_at lim q _ _ _ w hB
theorem new_any (lim base : Nat) (w : World) (h1 : 1 ≤ lim) (h2 : lim ≤ 65536) (hb : base ≤ w.heap.size) :
    Calls Try.prog 15 #[.int .i64 lim] w fun e w' => e = .returned (.tuple #[ptr w.heap.size, .int .i64 0]) ∧ QAt 61 w' w.heap.size base (fun k => k = w.heap.size) lim ⟨[], [], 0⟩ ∧ Below w.heap.size w w' ∧ w.heap.size < w'.heap.size := by
  refine (new_at lim w h1 h2).mono ?_
  rintro e w' ⟨rfl, rfl⟩
  exact ⟨rfl, qu_new 61 w lim base hb, (Below.refl _ _).alloc (Nat.le_refl _) _, by simp⟩
end Go.Proofs.Ytldjlahkfdcllaa.Txt

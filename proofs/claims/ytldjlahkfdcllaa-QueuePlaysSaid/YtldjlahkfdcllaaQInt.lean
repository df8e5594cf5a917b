/-
  queue: what New, Put, Take, Len and Dropped compute, for a queue of ints.
-/
import Derived.Test.YtldjlahkfdcllaaQMem
namespace Go.Proofs.Ytldjlahkfdcllaa
open Go.RowKit

/-- The document's queue: what waits of each kind, in order; how many were dropped. -/
structure Qs where
  c : List Value
  d : List Value
  dr : Nat
def Qs.put (s : Qs) (lim : Nat) (c : Bool) (u : Value) : Qs × Bool :=
  if c then if s.c.length < lim then (⟨s.c ++ [u], s.d, s.dr⟩, false) else (⟨s.c, s.d, s.dr + 1⟩, true)
  else if s.d.length < lim then (⟨s.c, s.d ++ [u], s.dr⟩, false) else (⟨s.c, s.d, s.dr + 1⟩, true)
def Qs.take (s : Qs) (z : Value) : Qs × Value × Bool × Bool :=
  match s.c with
  | x :: l => (⟨l, s.d, s.dr⟩, x, true, true)
  | [] => match s.d with
    | x :: l => (⟨[], l, s.dr⟩, x, false, true)
    | [] => (s, z, false, false)
/-- At block q lies the queue s. -/
def QAt (T : TypeId) (w : World) (q base : Nat) (F : Nat → Prop) (lim : Nat) (s : Qs) : Prop := Qu T w q base F lim s.c s.d s.dr
def errOf (dropped : Bool) : Value := .int .i64 (if dropped then 8 else 0)
def ptr (q : Nat) : Value := .pointer (some ⟨q, 0, none⟩)

theorem info3 : (Try.prog.info? 3).map (fun i => (i.zero, i.size, i.bytes)) = some (some (.int .i64 0), 1, 8) := by kernel_rfl
theorem kind_any (c : Bool) (w : World) : Calls Try.prog 20 #[.bool c] w fun e w' => e = .returned (.int .i64 (if c then 0 else 1)) ∧ w = w' := by
  cases c
  all_goals
    go_enter Try.func20, Try.ntmps20
    go_wp2
    go_ret
    exact ⟨rfl, rfl⟩

theorem putFull_c (lim : Nat) (u : Value) (q : Nat) (a a' : Option Addr) (n c n' c' : Nat) (dr : Nat) (w : World) (h : Blk w q 57 (qCells lim (.slice a n c) (.slice a' n' c') dr)) (hd : dr < 1099511627776) (hl : lim ≤ n) :
    Calls Try.prog 9 #[ptr q, .bool true, u] w fun e w' => e = .returned (.int .i64 8) ∧ Blk w' q 57 (qCells lim (.slice a n c) (.slice a' n' c') (dr + 1 : Nat)) ∧ Turn (fun k => k = q) w w' := by
  have c0 : w.cell? ⟨q, 0, none⟩ = some (.int .i64 lim) := h.at_ rfl
  have c1 : w.cell? ⟨q, 1, none⟩ = some (.slice a n c) := h.at_ rfl
  have c2 : w.cell? ⟨q, 2, none⟩ = some (.slice a' n' c') := h.at_ rfl
  have c3 : w.cell? ⟨q, 3, none⟩ = some (.int .i64 dr) := h.at_ rfl
  have f3 := h.free 3
  have d1 : decide ((lim : Int) ≤ (n : Int)) = true := by simp; omega
  unfold ptr
  go_enter Try.func9, Try.ntmps9
  go_wp2_with fail
  refine (kind_any true _).mono ?_; rintro e w1 ⟨rfl, rfl⟩
  go_wp2_with fail
  go_quiet (fail)
  go_wp2_with fail
  go_ret
  refine ⟨rfl, ?_, (Turn.many (fun k => k = q) _ _).setCell (fun _ => rfl) _⟩
  exact (h.drew.set 3 (.int .i64 (dr + 1 : Nat)))

theorem putFull_d (lim : Nat) (u : Value) (q : Nat) (a a' : Option Addr) (n c n' c' : Nat) (dr : Nat) (w : World) (h : Blk w q 57 (qCells lim (.slice a n c) (.slice a' n' c') dr)) (hd : dr < 1099511627776) (hl : lim ≤ n') :
    Calls Try.prog 9 #[ptr q, .bool false, u] w fun e w' => e = .returned (.int .i64 8) ∧ Blk w' q 57 (qCells lim (.slice a n c) (.slice a' n' c') (dr + 1 : Nat)) ∧ Turn (fun k => k = q) w w' := by
  have c0 : w.cell? ⟨q, 0, none⟩ = some (.int .i64 lim) := h.at_ rfl
  have c1 : w.cell? ⟨q, 1, none⟩ = some (.slice a n c) := h.at_ rfl
  have c2 : w.cell? ⟨q, 2, none⟩ = some (.slice a' n' c') := h.at_ rfl
  have c3 : w.cell? ⟨q, 3, none⟩ = some (.int .i64 dr) := h.at_ rfl
  have f3 := h.free 3
  have d1 : decide ((lim : Int) ≤ (n' : Int)) = true := by simp; omega
  unfold ptr
  go_enter Try.func9, Try.ntmps9
  go_wp2_with fail
  refine (kind_any false _).mono ?_; rintro e w1 ⟨rfl, rfl⟩
  go_wp2_with fail
  go_quiet (fail)
  go_wp2_with fail
  go_ret
  refine ⟨rfl, ?_, (Turn.many (fun k => k = q) _ _).setCell (fun _ => rfl) _⟩
  exact (h.drew.set 3 (.int .i64 (dr + 1 : Nat)))

theorem putOk_c (lim : Nat) (x : Int) (q base : Nat) (a a' : Option Addr) (n c n' c' : Nat) (dr : Nat) (w : World) (h : Blk w q 57 (qCells lim (.slice a n c) (.slice a' n' c') dr)) 
    (xs : List Value) (hx : Own w base (.slice a n c) xs) (hn : xs.length = n) (hq : (.slice a n c : Value).ownBlock ≠ some q) (hb : base ≤ w.heap.size) (hlim : lim ≤ 65536) (hl : n < lim) :
    Calls Try.prog 9 #[ptr q, .bool true, .int .i64 x] w fun e w' => e = .returned (.int .i64 0) ∧ ∃ v, Blk w' q 57 (qCells lim v (.slice a' n' c') dr) ∧ Own w' base v (xs ++ [.int .i64 x]) ∧ Turn (fun k => k = q ∨ (.slice a n c : Value).ownBlock = some k) w w' ∧
      ∀ k, v.ownBlock = some k → (.slice a n c : Value).ownBlock = some k ∨ w.heap.size ≤ k := by
  have c0 : w.cell? ⟨q, 0, none⟩ = some (.int .i64 lim) := h.at_ rfl
  have c1 : w.cell? ⟨q, 1, none⟩ = some (.slice a n c) := h.at_ rfl
  have c2 : w.cell? ⟨q, 2, none⟩ = some (.slice a' n' c') := h.at_ rfl
  have d1 : decide ((lim : Int) ≤ (n : Int)) = false := by simp; omega
  have hql := h.lt
  obtain ⟨i0, hi, hz0, hz1, hz2⟩ := info_parts info3
  unfold ptr
  go_enter Try.func9, Try.ntmps9
  go_wp2_with fail
  refine (kind_any true _).mono ?_; rintro e w1 ⟨rfl, rfl⟩
  go_wp2_with fail
  go_quiet (fail)
  go_wp2_with fail
  have hr : Blk (w.drewN nq) q 57 (qCells lim (.slice a n c) (.slice a' n' c') dr) := h
  have hT : Turn (fun k => k = q ∨ (.slice a n c : Value).ownBlock = some k) w (w.drewN nq) := Turn.many _ _ _
  have hxr : Own (w.drewN nq) base (.slice a n c) xs := hx
  have hbr : base ≤ (w.drewN nq).heap.size := hb
  have hsz : w.heap.size ≤ (w.drewN nq).heap.size := Nat.le_refl _
  generalize hg : w.drewN nq = wr at *
  clear hg c0 c1 c2 h hx
  have cm : ∀ u, (mix (.slice a n c : Value).ownBlock.toList wr u).cell? ⟨q, 1, none⟩ = some (.slice a n c) := fun u => (mix_cell _ wr u (p := ⟨q, 1, none⟩) hr.lt (by simpa using hq)).trans (hr.at_ rfl)
  refine Mixed.wp_region (fun w' => ∃ u, w' = mix (.slice a n c : Value).ownBlock.toList wr u) [(0, 0), (0, 1), (0, 2), (0, 3), (0, 4), (0, 5), (0, 6), (0, 7), (1, 8), (0, 11), (0, 12), (2, 9), (2, 10), (1, 13), (3, 14)] (by kernel_rfl) (by kernel_rfl) (Mx.drew0 _ _) ?_
  refine Mixed.reads (k := 0) (.inl ⟨rfl, rfl⟩) _ [0, 1, 2, 3, 4, 5, 6, 7] _ (by kernel_rfl) ?_
  simp only [List.filterMap_cons, List.filterMap_nil, List.getElem?_toArray, List.getElem?_cons_zero, List.getElem?_cons_succ]
  show wpQuiet _ _ _ _ [_, _, _, _, _, _, _, _] _
  iterate 8 go_big_quiet_step (fail)
  refine wpQuiet_nil ?_
  refine Mixed.reads (k := 1) (.inr ⟨rfl, rfl⟩) _ [8] _ (by kernel_rfl) ?_
  simp only [List.filterMap_cons, List.filterMap_nil, List.getElem?_toArray, List.getElem?_cons_zero, List.getElem?_cons_succ]
  show wpQuiet _ _ _ _ [_] _
  iterate 1 go_big_quiet_step (fail)
  refine wpQuiet_nil ?_
  refine Mixed.reads (k := 0) (.inl ⟨rfl, rfl⟩) _ [11, 12] _ (by kernel_rfl) ?_
  simp only [List.filterMap_cons, List.filterMap_nil, List.getElem?_toArray, List.getElem?_cons_zero, List.getElem?_cons_succ]
  show wpQuiet _ _ _ _ [_, _] _
  iterate 2 go_big_quiet_step (fail)
  refine wpQuiet_nil ?_
  have hnew : ∀ wz : World, (wz.alloc (.cells #[.int .i64 x] 3)).cell? ⟨wz.heap.size, 0, none⟩ = some (.int .i64 x) := fun wz => (Blk.made wz 3 #[.int .i64 x]).at_ rfl
  refine Mixed.effect (i := 9) rfl rfl ?_
  intro Q hQ
  go_wp2_with fail
  refine hQ _ _ (Mx.of ?_) ?_
  · exact ((Keeps.refl _ _).alloc _).drew
  refine Mixed.effect (i := 10) rfl rfl ?_
  intro Q hQ
  simp only [List.getElem_toArray, List.getElem_cons_zero, List.getElem_cons_succ]
  refine (wpList_append_one _ rfl (.tmp 38) (.tmp 40) 28 rfl base 3 i0 (.int .i64 0) 8 Try.underlying28 hi hz0 hz1 hz2 rfl (.slice a n c) xs rfl (((hxr.alloc _).drew).drew) wr.heap.size 1 (.int .i64 x) rfl (hnew wr) rfl (by omega) (by omega) (by simp; omega) ?_); intro v4 w4 hown4 hg4 hv4
  have hg4' : (wr.alloc (.cells #[.int .i64 x] 3)).grownBy w4 (.slice a n c : Value).ownBlock := ⟨hg4.os, hg4.tape, hg4.output, hg4.size, hg4.block⟩
  have hs4 : wr.heap.size ≤ w4.heap.size := by have := hg4'.size; simp at this; omega
  have hB4 : Blk w4 q 57 (qCells lim (.slice a n c) (.slice a' n' c') dr) := (hr.alloc _).grown hg4' (fun e => hq e.symm)
  have hT4 : Turn (fun k => k = q ∨ (.slice a n c : Value).ownBlock = some k) w w4 := (hT.alloc _).grown hg4' (fun k hk _ => .inr hk)
  have f4 := hB4.free 1
  have c4 : w4.cell? ⟨q, 1, none⟩ = some (.slice a n c) := hB4.at_ rfl
  have hv : ∀ k, v4.ownBlock = some k → (.slice a n c : Value).ownBlock = some k ∨ w.heap.size ≤ k := fun k hk => (hv4 k hk).imp id (fun h => Nat.le_trans (Nat.le_trans hsz (by simp : wr.heap.size ≤ (wr.alloc (.cells #[.int .i64 x] 3)).heap.size)) h)
  simp only [Act.put, List.setIfInBounds_toArray, List.set_cons_succ, List.set_cons_zero]
  refine hQ _ _ (Mx.of (((Keeps.refl _ _).alloc _).grown hg4' (fun k hk _ => by simp [hk]))) ?_
  refine Mixed.reads (k := 1) (.inr ⟨rfl, rfl⟩) _ [13] _ (by kernel_rfl) ?_
  simp only [List.filterMap_cons, List.filterMap_nil, List.getElem?_toArray, List.getElem?_cons_zero, List.getElem?_cons_succ]
  show wpQuiet _ _ _ _ [_] _
  iterate 1 go_big_quiet_step (fail)
  refine wpQuiet_nil ?_
  clear hg4 hg4' hv4 cm hr hT hxr hnew hQ
  refine Mixed.effect_last (i := 14) rfl rfl ?_
  intro Q hQ
  obtain ⟨a4, cap4, rfl, _, _, _⟩ := hown4.form
  have el : (xs ++ [(.int .i64 x : Value)]).length = n + 1 := by simp [hn]
  rw [el] at hown4 hv ⊢
  go_wp2_with fail
  unfold Mixed.HL
  go_wp2_with fail
  go_ret
  refine ⟨rfl, _, hB4.set 1 _, hown4.setCell (fun e => (hv q e).elim hq (by omega)) _, hT4.setCell (fun _ => .inl rfl) _, hv⟩

theorem putOk_d (lim : Nat) (x : Int) (q base : Nat) (a a' : Option Addr) (n c n' c' : Nat) (dr : Nat) (w : World) (h : Blk w q 57 (qCells lim (.slice a n c) (.slice a' n' c') dr)) 
    (xs : List Value) (hx : Own w base (.slice a' n' c') xs) (hn : xs.length = n') (hq : (.slice a' n' c' : Value).ownBlock ≠ some q) (hb : base ≤ w.heap.size) (hlim : lim ≤ 65536) (hl : n' < lim) :
    Calls Try.prog 9 #[ptr q, .bool false, .int .i64 x] w fun e w' => e = .returned (.int .i64 0) ∧ ∃ v, Blk w' q 57 (qCells lim (.slice a n c) v dr) ∧ Own w' base v (xs ++ [.int .i64 x]) ∧ Turn (fun k => k = q ∨ (.slice a' n' c' : Value).ownBlock = some k) w w' ∧
      ∀ k, v.ownBlock = some k → (.slice a' n' c' : Value).ownBlock = some k ∨ w.heap.size ≤ k := by
  have c0 : w.cell? ⟨q, 0, none⟩ = some (.int .i64 lim) := h.at_ rfl
  have c1 : w.cell? ⟨q, 1, none⟩ = some (.slice a n c) := h.at_ rfl
  have c2 : w.cell? ⟨q, 2, none⟩ = some (.slice a' n' c') := h.at_ rfl
  have d1 : decide ((lim : Int) ≤ (n' : Int)) = false := by simp; omega
  have hql := h.lt
  obtain ⟨i0, hi, hz0, hz1, hz2⟩ := info_parts info3
  unfold ptr
  go_enter Try.func9, Try.ntmps9
  go_wp2_with fail
  refine (kind_any false _).mono ?_; rintro e w1 ⟨rfl, rfl⟩
  go_wp2_with fail
  go_quiet (fail)
  go_wp2_with fail
  have hr : Blk (w.drewN nq) q 57 (qCells lim (.slice a n c) (.slice a' n' c') dr) := h
  have hT : Turn (fun k => k = q ∨ (.slice a' n' c' : Value).ownBlock = some k) w (w.drewN nq) := Turn.many _ _ _
  have hxr : Own (w.drewN nq) base (.slice a' n' c') xs := hx
  have hbr : base ≤ (w.drewN nq).heap.size := hb
  have hsz : w.heap.size ≤ (w.drewN nq).heap.size := Nat.le_refl _
  generalize hg : w.drewN nq = wr at *
  clear hg c0 c1 c2 h hx
  have cm : ∀ u, (mix (.slice a' n' c' : Value).ownBlock.toList wr u).cell? ⟨q, 2, none⟩ = some (.slice a' n' c') := fun u => (mix_cell _ wr u (p := ⟨q, 2, none⟩) hr.lt (by simpa using hq)).trans (hr.at_ rfl)
  refine Mixed.wp_region (fun w' => ∃ u, w' = mix (.slice a' n' c' : Value).ownBlock.toList wr u) [(0, 0), (0, 1), (0, 2), (0, 3), (0, 4), (0, 5), (0, 6), (0, 7), (1, 8), (0, 11), (0, 12), (2, 9), (2, 10), (1, 13), (3, 14)] (by kernel_rfl) (by kernel_rfl) (Mx.drew0 _ _) ?_
  refine Mixed.reads (k := 0) (.inl ⟨rfl, rfl⟩) _ [0, 1, 2, 3, 4, 5, 6, 7] _ (by kernel_rfl) ?_
  simp only [List.filterMap_cons, List.filterMap_nil, List.getElem?_toArray, List.getElem?_cons_zero, List.getElem?_cons_succ]
  show wpQuiet _ _ _ _ [_, _, _, _, _, _, _, _] _
  iterate 8 go_big_quiet_step (fail)
  refine wpQuiet_nil ?_
  refine Mixed.reads (k := 1) (.inr ⟨rfl, rfl⟩) _ [8] _ (by kernel_rfl) ?_
  simp only [List.filterMap_cons, List.filterMap_nil, List.getElem?_toArray, List.getElem?_cons_zero, List.getElem?_cons_succ]
  show wpQuiet _ _ _ _ [_] _
  iterate 1 go_big_quiet_step (fail)
  refine wpQuiet_nil ?_
  refine Mixed.reads (k := 0) (.inl ⟨rfl, rfl⟩) _ [11, 12] _ (by kernel_rfl) ?_
  simp only [List.filterMap_cons, List.filterMap_nil, List.getElem?_toArray, List.getElem?_cons_zero, List.getElem?_cons_succ]
  show wpQuiet _ _ _ _ [_, _] _
  iterate 2 go_big_quiet_step (fail)
  refine wpQuiet_nil ?_
  have hnew : ∀ wz : World, (wz.alloc (.cells #[.int .i64 x] 3)).cell? ⟨wz.heap.size, 0, none⟩ = some (.int .i64 x) := fun wz => (Blk.made wz 3 #[.int .i64 x]).at_ rfl
  refine Mixed.effect (i := 9) rfl rfl ?_
  intro Q hQ
  go_wp2_with fail
  refine hQ _ _ (Mx.of ?_) ?_
  · exact ((Keeps.refl _ _).alloc _).drew
  refine Mixed.effect (i := 10) rfl rfl ?_
  intro Q hQ
  simp only [List.getElem_toArray, List.getElem_cons_zero, List.getElem_cons_succ]
  refine (wpList_append_one _ rfl (.tmp 38) (.tmp 40) 28 rfl base 3 i0 (.int .i64 0) 8 Try.underlying28 hi hz0 hz1 hz2 rfl (.slice a' n' c') xs rfl (((hxr.alloc _).drew).drew) wr.heap.size 1 (.int .i64 x) rfl (hnew wr) rfl (by omega) (by omega) (by simp; omega) ?_); intro v4 w4 hown4 hg4 hv4
  have hg4' : (wr.alloc (.cells #[.int .i64 x] 3)).grownBy w4 (.slice a' n' c' : Value).ownBlock := ⟨hg4.os, hg4.tape, hg4.output, hg4.size, hg4.block⟩
  have hs4 : wr.heap.size ≤ w4.heap.size := by have := hg4'.size; simp at this; omega
  have hB4 : Blk w4 q 57 (qCells lim (.slice a n c) (.slice a' n' c') dr) := (hr.alloc _).grown hg4' (fun e => hq e.symm)
  have hT4 : Turn (fun k => k = q ∨ (.slice a' n' c' : Value).ownBlock = some k) w w4 := (hT.alloc _).grown hg4' (fun k hk _ => .inr hk)
  have f4 := hB4.free 2
  have c4 : w4.cell? ⟨q, 2, none⟩ = some (.slice a' n' c') := hB4.at_ rfl
  have hv : ∀ k, v4.ownBlock = some k → (.slice a' n' c' : Value).ownBlock = some k ∨ w.heap.size ≤ k := fun k hk => (hv4 k hk).imp id (fun h => Nat.le_trans (Nat.le_trans hsz (by simp : wr.heap.size ≤ (wr.alloc (.cells #[.int .i64 x] 3)).heap.size)) h)
  simp only [Act.put, List.setIfInBounds_toArray, List.set_cons_succ, List.set_cons_zero]
  refine hQ _ _ (Mx.of (((Keeps.refl _ _).alloc _).grown hg4' (fun k hk _ => by simp [hk]))) ?_
  refine Mixed.reads (k := 1) (.inr ⟨rfl, rfl⟩) _ [13] _ (by kernel_rfl) ?_
  simp only [List.filterMap_cons, List.filterMap_nil, List.getElem?_toArray, List.getElem?_cons_zero, List.getElem?_cons_succ]
  show wpQuiet _ _ _ _ [_] _
  iterate 1 go_big_quiet_step (fail)
  refine wpQuiet_nil ?_
  clear hg4 hg4' hv4 cm hr hT hxr hnew hQ
  refine Mixed.effect_last (i := 14) rfl rfl ?_
  intro Q hQ
  obtain ⟨a4, cap4, rfl, _, _, _⟩ := hown4.form
  have el : (xs ++ [(.int .i64 x : Value)]).length = n' + 1 := by simp [hn]
  rw [el] at hown4 hv ⊢
  go_wp2_with fail
  unfold Mixed.HL
  go_wp2_with fail
  go_ret
  refine ⟨rfl, _, hB4.set 2 _, hown4.setCell (fun e => (hv q e).elim hq (by omega)) _, hT4.setCell (fun _ => .inl rfl) _, hv⟩
end Go.Proofs.Ytldjlahkfdcllaa

/-
  queue: QueueOrder: the queue, and the law's own two rows, side by side in memory.
-/
import Derived.Test.YtldjlahkfdcllaaQAwake
import Derived.Test.YtldjlahkfdcllaaArgs
import Derived.Test.YtldjlahkfdcllaaOwnSrc
namespace Go.Proofs.Ytldjlahkfdcllaa
open Go.RowKit

/-- At q the queue s; at p the two slices v0, v1, which hold ys and xs; all of them apart. -/
structure OrdM (q p base lim : Nat) (F : Nat → Prop) (w wr : World) (s : Qs) (xs ys : List Value) (v0 v1 : Value) : Prop where
  hq : QAt 57 wr q base F lim s
  hp : Blk wr p 29 #[v0, v1]
  h0 : Own wr base v0 ys
  h1 : Own wr base v1 xs
  np : ¬ F p
  n0 : ∀ j, v0.ownBlock = some j → ¬ F j ∧ j ≠ p
  n1 : ∀ j, v1.ownBlock = some j → ¬ F j ∧ j ≠ p
  n01 : ∀ j, v0.ownBlock = some j → v1.ownBlock ≠ some j
  bel : Below base w wr
  hb : base ≤ p
section
variable {q p base lim : Nat} {F F' : Nat → Prop} {w wr w' w4 : World} {s s' : Qs} {xs ys : List Value} {v0 v1 v4 u : Value}
theorem OrdM.turned (h : OrdM q p base lim F w wr s xs ys v0 v1) (hq : QAt 57 w' q base F' lim s') (ht : Turn F wr w') (hF : ∀ k, F' k → F k ∨ wr.heap.size ≤ k) (hs : base ≤ wr.heap.size) : OrdM q p base lim F' w w' s' xs ys v0 v1 where
  hq := hq
  hp := ht.blk h.hp h.np
  h0 := ht.own h.h0 fun k hk => (h.n0 k hk).1
  h1 := ht.own h.h1 fun k hk => (h.n1 k hk).1
  np := fun hf => (hF p hf).elim h.np (by have := h.hp.lt; omega)
  n0 := fun j hj => ⟨fun hf => (hF j hf).elim (h.n0 j hj).1 (by have := (h.h0.row j hj).2; omega), (h.n0 j hj).2⟩
  n1 := fun j hj => ⟨fun hf => (hF j hf).elim (h.n1 j hj).1 (by have := (h.h1.row j hj).2; omega), (h.n1 j hj).2⟩
  n01 := h.n01
  bel := h.bel.trans (ht.toBelow hs fun k hk => (h.hq.size k hk).1)
  hb := h.hb
theorem OrdM.app1 (h : OrdM q p base lim F w wr s xs ys v0 v1) (o : Obj) (hg : (wr.alloc o).grownBy w4 v1.ownBlock) (ho : Own w4 base v4 (xs ++ [u])) (hv : ∀ k, v4.ownBlock = some k → v1.ownBlock = some k ∨ (wr.alloc o).heap.size ≤ k) (hs : base ≤ wr.heap.size) :
    OrdM q p base lim F w (w4.setCell ⟨p, 1, none⟩ v4) s (xs ++ [u]) ys v0 v4 := by
  have hsz : wr.heap.size < (wr.alloc o).heap.size := by simp
  have hlt := h.hp.lt
  have h1s := hg.size
  have old : ∀ k, k < wr.heap.size → k ≠ p → v1.ownBlock ≠ some k → (w4.setCell ⟨p, 1, none⟩ v4).heap[k]? = wr.heap[k]? := fun k hk hkp hkv =>
    (Below.heap_setCell w4 ⟨p, 1, none⟩ v4 k hkp).trans ((hg.block k (by omega) (fun e => hkv e.symm)).trans (Below.heap_alloc wr o k hk))
  have hv' : ∀ k, v4.ownBlock = some k → k ≠ p ∧ ¬ F k ∧ v0.ownBlock ≠ some k := fun k hk => by
    rcases hv k hk with h2 | h2
    · exact ⟨(h.n1 k h2).2, (h.n1 k h2).1, fun e => h.n01 k e h2⟩
    · refine ⟨by omega, fun hf => ?_, fun e => ?_⟩
      · have := (h.hq.size k hf).2; omega
      · have := (h.h0.row k e).2; omega
  have hsz2 : wr.heap.size ≤ (w4.setCell ⟨p, 1, none⟩ v4).heap.size := by simp [World.setCell]; omega
  exact {
    hq := h.hq.keep hsz2 fun k hk => old k (h.hq.size k hk).2 (fun e => h.np (e ▸ hk)) (fun e => (h.n1 k e).1 hk)
    hp := by
      have := ((h.hp.alloc o).grown hg (fun e => (h.n1 p e.symm).2 rfl)).set 1 v4
      exact this
    h0 := h.h0.keep hsz2 fun k _ hk e => old k hk (h.n0 k e).2 (fun e' => h.n01 k e e')
    h1 := ho.setCell (fun e => (hv' p e).1 rfl) _
    np := h.np
    n0 := h.n0
    n1 := fun j hj => ⟨(hv' j hj).2.1, (hv' j hj).1⟩
    n01 := fun j hj e => (hv' j e).2.2 hj
    bel := (((h.bel.alloc hs _).grown hg (by simp; omega) (fun k e => (h.h1.row k e).1)).setCell h.hb _)
    hb := h.hb }
theorem OrdM.app0 (h : OrdM q p base lim F w wr s xs ys v0 v1) (o : Obj) (hg : (wr.alloc o).grownBy w4 v0.ownBlock) (ho : Own w4 base v4 (ys ++ [u])) (hv : ∀ k, v4.ownBlock = some k → v0.ownBlock = some k ∨ (wr.alloc o).heap.size ≤ k) (hs : base ≤ wr.heap.size) :
    OrdM q p base lim F w (w4.setCell ⟨p, 0, none⟩ v4) s xs (ys ++ [u]) v4 v1 := by
  have hsz : wr.heap.size < (wr.alloc o).heap.size := by simp
  have hlt := h.hp.lt
  have h1s := hg.size
  have old : ∀ k, k < wr.heap.size → k ≠ p → v0.ownBlock ≠ some k → (w4.setCell ⟨p, 0, none⟩ v4).heap[k]? = wr.heap[k]? := fun k hk hkp hkv =>
    (Below.heap_setCell w4 ⟨p, 0, none⟩ v4 k hkp).trans ((hg.block k (by omega) (fun e => hkv e.symm)).trans (Below.heap_alloc wr o k hk))
  have hv' : ∀ k, v4.ownBlock = some k → k ≠ p ∧ ¬ F k ∧ v1.ownBlock ≠ some k := fun k hk => by
    rcases hv k hk with h2 | h2
    · exact ⟨(h.n0 k h2).2, (h.n0 k h2).1, fun e => h.n01 k h2 e⟩
    · refine ⟨by omega, fun hf => ?_, fun e => ?_⟩
      · have := (h.hq.size k hf).2; omega
      · have := (h.h1.row k e).2; omega
  have hsz2 : wr.heap.size ≤ (w4.setCell ⟨p, 0, none⟩ v4).heap.size := by simp [World.setCell]; omega
  exact {
    hq := h.hq.keep hsz2 fun k hk => old k (h.hq.size k hk).2 (fun e => h.np (e ▸ hk)) (fun e => (h.n0 k e).1 hk)
    hp := by
      have := ((h.hp.alloc o).grown hg (fun e => (h.n0 p e.symm).2 rfl)).set 0 v4
      exact this
    h0 := ho.setCell (fun e => (hv' p e).1 rfl) _
    h1 := h.h1.keep hsz2 fun k _ hk e => old k hk (h.n1 k e).2 (fun e' => h.n01 k e' e)
    np := h.np
    n0 := fun j hj => ⟨(hv' j hj).2.1, (hv' j hj).1⟩
    n1 := h.n1
    n01 := fun j hj e => (hv' j hj).2.2 e
    bel := (((h.bel.alloc hs _).grown hg (by simp; omega) (fun k e => (h.h0.row k e).1)).setCell h.hb _)
    hb := h.hb }
end
theorem ints_c {c d : List Value} (h : Ints (c ++ d)) (x : Int) : Ints ((c ++ [.int .i64 x]) ++ d) := by
  intro u hu
  simp only [List.mem_append, List.mem_singleton] at hu
  rcases hu with (h1 | h1) | h1
  · exact h u (by simp [h1])
  · exact ⟨x, h1⟩
  · exact h u (by simp [h1])
theorem ints_d {c d : List Value} (h : Ints (c ++ d)) (x : Int) : Ints (c ++ (d ++ [.int .i64 x])) := by
  rw [← List.append_assoc]
  intro u hu
  rcases List.mem_append.1 hu with h1 | h1
  · exact h u h1
  · exact ⟨x, List.mem_singleton.1 h1⟩
/-- What holds behind k puts: what was put and not dropped lies in the law's own two rows, too. -/
def OrdA (q p base lim : Nat) (w wr : World) (k : Nat) : Prop :=
  ∃ F s v0 v1, OrdM q p base lim F w wr s s.c s.d v0 v1 ∧ s.dr + s.c.length + s.d.length = k ∧ Ints (s.c ++ s.d)

/-- .. and a third slice vg, of what was taken, which holds gs. -/
structure OrdG (q p base lim : Nat) (F : Nat → Prop) (w wr : World) (s : Qs) (xs ys gs : List Value) (v0 v1 vg : Value) : Prop where
  m : OrdM q p base lim F w wr s xs ys v0 v1
  hg : Own wr base vg gs
  ng : ∀ j, vg.ownBlock = some j → ¬ F j ∧ j ≠ p ∧ v0.ownBlock ≠ some j ∧ v1.ownBlock ≠ some j
section
variable {q p base lim : Nat} {F F' : Nat → Prop} {w wr w' w4 : World} {s s' : Qs} {xs ys gs : List Value} {v0 v1 v4 vg u : Value}
theorem OrdG.turned (h : OrdG q p base lim F w wr s xs ys gs v0 v1 vg) (hq : QAt 57 w' q base F' lim s') (ht : Turn F wr w') (hF : ∀ k, F' k → F k ∨ wr.heap.size ≤ k) (hs : base ≤ wr.heap.size) : OrdG q p base lim F' w w' s' xs ys gs v0 v1 vg where
  m := h.m.turned hq ht hF hs
  hg := ht.own h.hg fun k hk => (h.ng k hk).1
  ng := fun j hj => ⟨fun hf => (hF j hf).elim (h.ng j hj).1 (by have := (h.hg.row j hj).2; omega), (h.ng j hj).2⟩
theorem OrdG.app (h : OrdG q p base lim F w wr s xs ys gs v0 v1 vg) (o : Obj) (hg : (wr.alloc o).grownBy w4 vg.ownBlock) (ho : Own w4 base v4 (gs ++ [u])) (hv : ∀ k, v4.ownBlock = some k → vg.ownBlock = some k ∨ (wr.alloc o).heap.size ≤ k) (hs : base ≤ wr.heap.size) :
    OrdG q p base lim F w w4 s xs ys (gs ++ [u]) v0 v1 v4 := by
  have hsz : wr.heap.size < (wr.alloc o).heap.size := by simp
  have h1s := hg.size
  have old : ∀ k, k < wr.heap.size → vg.ownBlock ≠ some k → w4.heap[k]? = wr.heap[k]? := fun k hk hkv => (hg.block k (by omega) (fun e => hkv e.symm)).trans (Below.heap_alloc wr o k hk)
  have hv' : ∀ k, v4.ownBlock = some k → ¬ F k ∧ k ≠ p ∧ v0.ownBlock ≠ some k ∧ v1.ownBlock ≠ some k := fun k hk => by
    rcases hv k hk with h2 | h2
    · exact h.ng k h2
    · refine ⟨fun hf => ?_, ?_, fun e => ?_, fun e => ?_⟩
      · have := (h.m.hq.size k hf).2; omega
      · have := h.m.hp.lt; omega
      · have := (h.m.h0.row k e).2; omega
      · have := (h.m.h1.row k e).2; omega
  have hsz2 : wr.heap.size ≤ w4.heap.size := by omega
  exact {
    m := {
      hq := h.m.hq.keep hsz2 fun k hk => old k (h.m.hq.size k hk).2 (fun e => (h.ng k e).1 hk)
      hp := (old p h.m.hp.lt (fun e => (h.ng p e).2.1 rfl)).trans h.m.hp
      h0 := h.m.h0.keep hsz2 fun k _ hk e => old k hk (fun e' => (h.ng k e').2.2.1 e)
      h1 := h.m.h1.keep hsz2 fun k _ hk e => old k hk (fun e' => (h.ng k e').2.2.2 e)
      np := h.m.np
      n0 := h.m.n0
      n1 := h.m.n1
      n01 := h.m.n01
      bel := (h.m.bel.alloc hs _).grown hg (by simp; omega) (fun k e => (h.hg.row k e).1)
      hb := h.m.hb }
    hg := ho
    ng := hv' }
end
theorem take_nothing (s : Qs) (h : s.c ++ s.d = []) (z : Value) : s.take z = (s, z, false, false) := by
  obtain ⟨c, d, dr⟩ := s
  cases c <;> cases d <;> simp_all [Qs.take]
theorem take_something (s : Qs) {u : Value} {r : List Value} (h : s.c ++ s.d = u :: r) (z : Value) : ∃ s' b, s.take z = (s', u, b, true) ∧ s'.c ++ s'.d = r ∧ s'.dr = s.dr := by
  obtain ⟨c, d, dr⟩ := s
  cases c with
  | nil =>
    simp only [List.nil_append] at h
    subst h
    exact ⟨_, _, rfl, rfl, rfl⟩
  | cons x l =>
    simp only [List.cons_append, List.cons.injEq] at h
    obtain ⟨rfl, rfl⟩ := h
    exact ⟨_, _, rfl, rfl, rfl⟩
theorem own_empty {w : World} {base g : Nat} (h1 : base ≤ g) (h2 : g < w.heap.size) : Own w base (.slice (some ⟨g, 0, none⟩) 0 0) [] :=
  .inr ⟨g, 0, 0, rfl, h1, h2, Nat.le_refl _, Nat.zero_le _, fun j hj => by omega, fun i u hu => by cases hu⟩
/-- While what was taken is looked at. -/
def OrdC (q base lim : Nat) (w wr : World) (s : Qs) (l : List Value) (vg vw : Value) : Prop := ∃ F, QAt 57 wr q base F lim s ∧ Own wr base vg l ∧ Own wr base vw l ∧ Below base w wr
theorem OrdC.many {q base lim : Nat} {w wr : World} {s : Qs} {l : List Value} {vg vw : Value} (h : OrdC q base lim w wr s l vg vw) (n : Nat) : OrdC q base lim w (wr.drewN n) s l vg vw := by
  obtain ⟨F, h1, h2, h3, h4⟩ := h
  exact ⟨F, h1, h2, h3, ⟨h4.os, h4.tape, h4.output, h4.size, h4.block⟩⟩
/-- What holds behind j takes: what was taken, and what still waits, is all. -/
def OrdT (q p base lim : Nat) (w wr : World) (xs ys : List Value) (v0 v1 : Value) (dr j : Nat) (vg : Value) : Prop :=
  ∃ F s gs, OrdG q p base lim F w wr s xs ys gs v0 v1 vg ∧ gs ++ (s.c ++ s.d) = xs ++ ys ∧ (gs.length = j ∨ s.c ++ s.d = []) ∧ s.dr = dr
end Go.Proofs.Ytldjlahkfdcllaa

/-
  queue: what a queue is in memory. Nothing of the program is walked here.
-/
import Derived.Test.YtldjlahkfdcllaaRows
import Derived.Test.YtldjlahkfdcllaaVals
import Derived.Test.YtldjlahkfdcllaaMem
import Derived.Test.YtldjlahkfdcllaaMixed
import Derived.Test.YtldjlahkfdcllaaOwn
import Derived.BigQuiet
namespace Go.Proofs.Ytldjlahkfdcllaa
open Go.RowKit

/-- Only blocks of F, and what is new, have turned. -/
structure Turn (F : Nat → Prop) (w w' : World) : Prop where
  os : w'.os = w.os
  tape : w'.tape = w.tape
  output : w'.output = w.output
  size : w.heap.size ≤ w'.heap.size
  block : ∀ k, k < w.heap.size → ¬ F k → w'.heap[k]? = w.heap[k]?
section
variable {F : Nat → Prop} {w w' w'' : World}
theorem Turn.refl (F : Nat → Prop) (w : World) : Turn F w w := ⟨rfl, rfl, rfl, Nat.le_refl _, fun _ _ _ => rfl⟩
theorem Turn.trans {F' : Nat → Prop} (h : Turn F w w') (h' : Turn F' w' w'') (hF : ∀ k, k < w.heap.size → F' k → F k) : Turn F w w'' :=
  ⟨h'.os.trans h.os, h'.tape.trans h.tape, h'.output.trans h.output, Nat.le_trans h.size h'.size, fun k hk hn => (h'.block k (Nat.lt_of_lt_of_le hk h.size) (fun hf => hn (hF k hk hf))).trans (h.block k hk hn)⟩
theorem Turn.many (F : Nat → Prop) (w : World) (n : Nat) : Turn F w (w.drewN n) := ⟨rfl, rfl, rfl, Nat.le_refl _, fun _ _ _ => rfl⟩
theorem Turn.drew (h : Turn F w w') : Turn F w w'.drew := ⟨h.os, h.tape, h.output, h.size, h.block⟩
theorem Turn.alloc (h : Turn F w w') (o : Obj) : Turn F w (w'.alloc o) :=
  ⟨h.os, h.tape, h.output, Nat.le_trans h.size (by simp), fun k hk hn => (Below.heap_alloc w' o k (Nat.lt_of_lt_of_le hk h.size)).trans (h.block k hk hn)⟩
theorem Turn.setCell (h : Turn F w w') {p : Addr} (hp : p.block < w.heap.size → F p.block) (u : Value) : Turn F w (w'.setCell p u) :=
  ⟨h.os, h.tape, h.output, by simpa [World.setCell] using h.size, fun k hk hn => (Below.heap_setCell w' p u k (fun e => hn (by rw [e]; exact hp (by omega)))).trans (h.block k hk hn)⟩
theorem Turn.grown {row : Option Nat} (h : Turn F w w') (hg : w'.grownBy w'' row) (hr : ∀ k, row = some k → k < w.heap.size → F k) : Turn F w w'' :=
  ⟨hg.os.trans h.os, hg.tape.trans h.tape, hg.output.trans h.output, Nat.le_trans h.size hg.size, fun k hk hn => (hg.block k (Nat.lt_of_lt_of_le hk h.size) (fun e => hn (hr k e.symm hk))).trans (h.block k hk hn)⟩
theorem Turn.below {B : Nat} (h : Turn F w w') (hb : Below B w' w'') (hB : w.heap.size ≤ B) : Turn F w w'' :=
  ⟨hb.os.trans h.os, hb.tape.trans h.tape, hb.output.trans h.output, Nat.le_trans h.size hb.size, fun k hk hn => (hb.block k (Nat.lt_of_lt_of_le hk hB)).trans (h.block k hk hn)⟩
theorem Turn.ofBelow (h : Below w.heap.size w w') (F : Nat → Prop) : Turn F w w' := ⟨h.os, h.tape, h.output, h.size, fun k hk _ => h.block k hk⟩
theorem Turn.toBelow (h : Turn F w w') {B : Nat} (hB : B ≤ w.heap.size) (hF : ∀ k, F k → B ≤ k) : Below B w w' :=
  ⟨h.os, h.tape, h.output, h.size, fun k hk => h.block k (by omega) (fun hf => by have := hF k hf; omega)⟩
theorem Turn.mono {F' : Nat → Prop} (h : Turn F w w') (hF : ∀ k, k < w.heap.size → F k → F' k) : Turn F' w w' := ⟨h.os, h.tape, h.output, h.size, fun k hk hn => h.block k hk (fun hf => hn (hF k hk hf))⟩
theorem Turn.cell (h : Turn F w w') {p : Addr} (hp : p.block < w.heap.size) (hn : ¬ F p.block) : w'.cell? p = w.cell? p := World.cell?_of_block (h.block _ hp hn)
theorem Turn.blk {b : Nat} {t : TypeId} {cs : Array Value} (h : Turn F w w') (hb : Blk w b t cs) (hn : ¬ F b) : Blk w' b t cs := (h.block b hb.lt hn).trans hb
theorem Turn.own {base : Nat} {v : Value} {xs : List Value} (h : Turn F w w') (ho : Own w base v xs) (hn : ∀ k, v.ownBlock = some k → ¬ F k) : Own w' base v xs := ho.keep h.size fun k _ hk he => h.block k hk (hn k he)
end

/-- The cells of a queue's struct. -/
def qCells (lim : Int) (vc vd : Value) (dr : Int) : Array Value := #[.int .i64 lim, vc, vd, .int .i64 dr]
/-- At block q (of type T) lies a queue: its limit, what waits of each kind, how many were dropped; F: all its blocks, from base on. -/
def Qu (T : TypeId) (w : World) (q base : Nat) (F : Nat → Prop) (lim : Int) (cs ds : List Value) (dr : Int) : Prop :=
  ∃ vc vd, Blk w q T (qCells lim vc vd dr) ∧ base ≤ q ∧ Own w base vc cs ∧ Own w base vd ds ∧ (∀ k, F k ↔ k = q ∨ vc.ownBlock = some k ∨ vd.ownBlock = some k) ∧
    vc.ownBlock ≠ some q ∧ vd.ownBlock ≠ some q ∧ ∀ k, vc.ownBlock = some k → vd.ownBlock ≠ some k
section
variable {T : TypeId} {w w' : World} {q base : Nat} {F : Nat → Prop} {lim : Int} {cs ds : List Value} {dr : Int}
theorem Qu.size (h : Qu T w q base F lim cs ds dr) : ∀ k, F k → base ≤ k ∧ k < w.heap.size := by
  obtain ⟨vc, vd, h1, h2, h3, h4, h5, _⟩ := h
  intro k hk
  rcases (h5 k).1 hk with rfl | hk | hk
  · exact ⟨h2, h1.lt⟩
  · exact h3.row k hk
  · exact h4.row k hk
theorem Qu.keep (h : Qu T w q base F lim cs ds dr) (hs : w.heap.size ≤ w'.heap.size) (hb : ∀ k, F k → w'.heap[k]? = w.heap[k]?) : Qu T w' q base F lim cs ds dr := by
  obtain ⟨vc, vd, h1, h2, h3, h4, h5, h6⟩ := h
  exact ⟨vc, vd, (hb q ((h5 q).2 (.inl rfl))).trans h1, h2, h3.keep hs (fun k _ _ hk => hb k ((h5 k).2 (.inr (.inl hk)))), h4.keep hs (fun k _ _ hk => hb k ((h5 k).2 (.inr (.inr hk)))), h5, h6⟩
theorem Qu.below (h : Qu T w q base F lim cs ds dr) (hb : Below w.heap.size w w') : Qu T w' q base F lim cs ds dr := h.keep hb.size fun k hk => hb.block k (h.size k hk).2
/-- A queue just made. -/
theorem qu_new (T : TypeId) (w : World) (lim : Int) (base : Nat) (hb : base ≤ w.heap.size) : Qu T (w.alloc (.cells (qCells lim (.slice none 0 0) (.slice none 0 0) 0) T)) w.heap.size base (fun k => k = w.heap.size) lim [] [] 0 :=
  ⟨_, _, Blk.made w T _, hb, Own.nil _ _, Own.nil _ _, fun k => by simp [Value.ownBlock], by simp [Value.ownBlock], by simp [Value.ownBlock], fun k hk => by simp [Value.ownBlock] at hk⟩
end
end Go.Proofs.Ytldjlahkfdcllaa

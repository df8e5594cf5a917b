/-
  WORDS OF MY OWN FOR MEMORY: a block that is known whole (Blk); a world in which only some blocks have turned (Keeps), as a class without premises (mix). Nothing of the program is named here.
-/
import Derived.WalkKit
import Derived.Laws.Rows
import Derived.Deep.Draws
import Derived.Laws.OwnMore
namespace Go.Proofs.Ytbfgnlckmpnchaa
open Go.RowKit

def Blk (w : World) (b : Nat) (t : TypeId) (cs : Array Value) : Prop := w.heap[b]? = some (.cells cs t (0, 0))
section
variable {w w' : World} {b b' : Nat} {t : TypeId} {cs : Array Value}
theorem Blk.lt (h : Blk w b t cs) : b < w.heap.size := by
  rcases Nat.lt_or_ge b w.heap.size with hlt | hge
  · exact hlt
  · unfold Blk at h; rw [Array.getElem?_eq_none hge] at h; cases h
theorem Blk.cell (h : Blk w b t cs) (i : Nat) : w.cell? ⟨b, i, none⟩ = cs[i]? := by
  unfold Blk at h; simp [World.cell?, h]
theorem Blk.at_ (h : Blk w b t cs) {i : Nat} {v : Value} (hv : cs[i]? = some v) : w.cell? ⟨b, i, none⟩ = some v := (h.cell i).trans hv
theorem Blk.free (h : Blk w b t cs) (i : Nat) : w.frozen? ⟨b, i, none⟩ = false := by
  unfold Blk at h; simp [World.frozen?, h]
theorem Blk.made (w : World) (t : TypeId) (cs : Array Value) : Blk (w.alloc (.cells cs t)) w.heap.size t cs := by
  show (w.heap.push _)[w.heap.size]? = _
  simp
theorem Blk.drew (h : Blk w b t cs) : Blk w.drew b t cs := h
theorem Blk.alloc (h : Blk w b t cs) (o : Obj) : Blk (w.alloc o) b t cs := (Below.heap_alloc w o b h.lt).trans h
theorem Blk.set (h : Blk w b t cs) (i : Nat) (u : Value) : Blk (w.setCell ⟨b, i, none⟩ u) b t (cs.setIfInBounds i u) := by
  unfold Blk at h ⊢; simp [World.setCell, Array.getElem?_modify, h]
theorem Blk.other (h : Blk w b t cs) {p : Addr} (hp : b ≠ p.block) (u : Value) : Blk (w.setCell p u) b t cs := (Below.heap_setCell w p u b hp).trans h
theorem Blk.grown {row : Option Nat} (h : Blk w b t cs) (hg : w.grownBy w' row) (hr : some b ≠ row) : Blk w' b t cs := (hg.block b h.lt hr).trans h
theorem Blk.below {B : Nat} (h : Blk w b t cs) (hb : Below B w w') (hB : b < B) : Blk w' b t cs := (hb.block b hB).trans h
theorem Blk.kept (h : Blk w b t cs) (hb : Below w.heap.size w w') : Blk w' b t cs := (hb.block b h.lt).trans h
end

/-- A row of n cells, told by a function. -/
def arr (n : Nat) (g : Nat → Value) : Array Value := ((List.range n).map g).toArray
theorem arr_size (n : Nat) (g : Nat → Value) : (arr n g).size = n := by simp [arr]
theorem arr_get {n i : Nat} (g : Nat → Value) (h : i < n) : (arr n g)[i]? = some (g i) := by simp [arr, h]
theorem arr_set (n j : Nat) (g : Nat → Value) (v : Value) : (arr n g).setIfInBounds j v = arr n fun i => if i = j then v else g i := by
  apply Array.ext
  · simp [arr]
  · intro i h1 h2
    have hi : i < n := by simpa [arr] using h2
    simp only [arr, List.getElem_toArray, List.getElem_map, List.getElem_range]
    by_cases hij : j = i
    · subst hij; simp
    · simp [hij, Ne.symm hij]
theorem arr_congr {n : Nat} {g g' : Nat → Value} (h : ∀ i, i < n → g i = g' i) : arr n g = arr n g' := by
  unfold arr
  rw [List.map_congr_left (fun i hi => h i (List.mem_range.1 hi))]

/-! ### Only the blocks of a list, and what is new, have turned -/
structure Keeps (rows : List Nat) (w w' : World) : Prop where
  os : w'.os = w.os
  tape : w'.tape = w.tape
  output : w'.output = w.output
  size : w.heap.size ≤ w'.heap.size
  block : ∀ k, k < w.heap.size → k ∉ rows → w'.heap[k]? = w.heap[k]?
section
variable {rows : List Nat} {w w' w'' : World}
theorem Keeps.refl (rows : List Nat) (w : World) : Keeps rows w w := ⟨rfl, rfl, rfl, Nat.le_refl _, fun _ _ _ => rfl⟩
theorem Keeps.trans (h : Keeps rows w w') (h' : Keeps rows w' w'') : Keeps rows w w'' :=
  ⟨h'.os.trans h.os, h'.tape.trans h.tape, h'.output.trans h.output, Nat.le_trans h.size h'.size, fun k hk hr => (h'.block k (Nat.lt_of_lt_of_le hk h.size) hr).trans (h.block k hk hr)⟩
theorem Keeps.grown {row : Option Nat} (h : Keeps rows w w') (hg : w'.grownBy w'' row) (hr : ∀ k, row = some k → k < w.heap.size → k ∈ rows) : Keeps rows w w'' :=
  ⟨hg.os.trans h.os, hg.tape.trans h.tape, hg.output.trans h.output, Nat.le_trans h.size hg.size, fun k hk hk' => (hg.block k (Nat.lt_of_lt_of_le hk h.size) (fun e => hk' (hr k e.symm hk))).trans (h.block k hk hk')⟩
theorem Keeps.below {B : Nat} (h : Keeps rows w w') (hb : Below B w' w'') (hB : w.heap.size ≤ B) : Keeps rows w w'' :=
  ⟨hb.os.trans h.os, hb.tape.trans h.tape, hb.output.trans h.output, Nat.le_trans h.size hb.size, fun k hk hk' => (hb.block k (Nat.lt_of_lt_of_le hk hB)).trans (h.block k hk hk')⟩
theorem Keeps.drew (h : Keeps rows w w') : Keeps rows w w'.drew := ⟨h.os, h.tape, h.output, h.size, h.block⟩
theorem Keeps.alloc (h : Keeps rows w w') (o : Obj) : Keeps rows w (w'.alloc o) :=
  ⟨h.os, h.tape, h.output, Nat.le_trans h.size (by simp), fun k hk hk' => (Below.heap_alloc w' o k (Nat.lt_of_lt_of_le hk h.size)).trans (h.block k hk hk')⟩
theorem Keeps.setCell (h : Keeps rows w w') {p : Addr} (hp : p.block < w.heap.size → p.block ∈ rows) (u : Value) : Keeps rows w (w'.setCell p u) :=
  ⟨h.os, h.tape, h.output, by simpa [World.setCell] using h.size, fun k hk hk' => (Below.heap_setCell w' p u k (fun e => hk' (by rw [e]; exact hp (by omega)))).trans (h.block k hk hk')⟩
theorem Keeps.toBelow (h : Keeps rows w w') {B : Nat} (hB : B ≤ w.heap.size) (hr : ∀ k ∈ rows, B ≤ k) : Below B w w' :=
  ⟨h.os, h.tape, h.output, h.size, fun k hk => h.block k (by omega) (fun hm => by have := hr k hm; omega)⟩
theorem Keeps.ofBelow (h : Below w.heap.size w w') (rows : List Nat) : Keeps rows w w' := ⟨h.os, h.tape, h.output, h.size, fun k hk _ => h.block k hk⟩
theorem Keeps.ofGrown {row : Nat} (h : w.grownBy w' (some row)) : Keeps [row] w w' :=
  ⟨h.os, h.tape, h.output, h.size, fun k hk hr => h.block k hk (fun e => hr (by injection e with e; simp [e]))⟩
theorem Keeps.toGrown {row : Nat} (h : Keeps [row] w w') : w.grownBy w' (some row) := ⟨h.os, h.tape, h.output, h.size, fun k hk hr => h.block k hk (fun hm => hr (by rw [List.mem_singleton] at hm; rw [hm]))⟩
theorem Keeps.blk (h : Keeps rows w w') {b : Nat} {t : TypeId} {cs : Array Value} (hb : Blk w b t cs) (hr : b ∉ rows) : Blk w' b t cs := (h.block b hb.lt hr).trans hb
theorem Keeps.cell (h : Keeps rows w w') {p : Addr} (hp : p.block < w.heap.size) (hr : p.block ∉ rows) : w'.cell? p = w.cell? p := World.cell?_of_block (h.block _ hp hr)
end

/-- w, all blocks of 'rows' and all new ones those of u. -/
def mix (rows : List Nat) (w u : World) : World :=
  { heap := (Array.range (max w.heap.size u.heap.size)).map fun k => if k < w.heap.size ∧ k ∉ rows then (w.heap[k]?).getD default else (u.heap[k]?).getD default,
    tape := w.tape, drawn := u.drawn, os := w.os, output := w.output }
theorem mix_block (rows : List Nat) (w u : World) {k : Nat} (hk : k < w.heap.size) (hr : k ∉ rows) : (mix rows w u).heap[k]? = w.heap[k]? := by
  simp [mix, hk, hr, Nat.lt_of_lt_of_le hk (Nat.le_max_left _ _)]
theorem mix_cell (rows : List Nat) (w u : World) {p : Addr} (hk : p.block < w.heap.size) (hr : p.block ∉ rows) : (mix rows w u).cell? p = w.cell? p := World.cell?_of_block (mix_block rows w u hk hr)
theorem mix_frozen (rows : List Nat) (w u : World) {p : Addr} (hk : p.block < w.heap.size) (hr : p.block ∉ rows) : (mix rows w u).frozen? p = w.frozen? p := World.frozen?_of_block (mix_block rows w u hk hr)
theorem mix_keeps (rows : List Nat) (w u : World) : Keeps rows w (mix rows w u) :=
  ⟨rfl, rfl, rfl, by simp [mix]; omega, fun k hk hr => mix_block rows w u hk hr⟩
/-- The class: only 'rows' have turned. -/
def Mx (rows : List Nat) (w w' : World) : Prop := ∃ u, w' = mix rows w u
theorem Mx.of {rows : List Nat} {w w' : World} (h : Keeps rows w w') : Mx rows w w' := by
  refine ⟨w', ?_⟩
  obtain ⟨heap, tape, drawn, os, output⟩ := w'
  have h1 := h.os
  have h2 := h.tape
  have h3 := h.output
  have h4 := h.size
  have h5 := h.block
  simp only at h1 h2 h3 h4 h5
  subst h1 h2 h3
  simp only [mix, World.mk.injEq, and_true]
  apply Array.ext
  · simp; omega
  · intro k hk1 hk2
    simp only [Array.getElem_map, Array.getElem_range]
    split
    · rename_i hc
      have := h5 k hc.1 hc.2
      rw [Array.getElem?_eq_getElem hk1] at this
      rw [← this]; rfl
    · simp [hk1]
theorem Mx.keeps {rows : List Nat} {w w' : World} (h : Mx rows w w') : Keeps rows w w' := by
  obtain ⟨u, rfl⟩ := h
  exact mix_keeps rows w u
theorem Mx.drew0 (rows : List Nat) (w : World) : Mx rows w w.drew := Mx.of (Keeps.refl rows w).drew
end Go.Proofs.Ytbfgnlckmpnchaa

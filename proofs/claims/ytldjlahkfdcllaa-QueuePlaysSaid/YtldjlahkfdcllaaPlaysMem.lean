/-
  queue: QueuePlays: the queue and the document's queue side by side in memory.
-/
import Derived.Test.YtldjlahkfdcllaaQRefAny
import Derived.Test.YtldjlahkfdcllaaArgs
import Derived.Test.YtldjlahkfdcllaaMixedTwo
import Derived.Test.YtldjlahkfdcllaaOrderMem
namespace Go.Proofs.Ytldjlahkfdcllaa
open Go.RowKit

/-- At q the queue s; at p the document's queue r, of the slices vc and vd; all of them apart. -/
structure PM (q p base K : Nat) (w wr : World) (F : Nat → Prop) (s r : Qs) (vc vd : Value) : Prop where
  hq : QAt 57 wr q base F K s
  hp : Blk wr p 37 #[vc, vd, .int .i64 (r.dr : Int)]
  hv : RVal wr base (fun k => F k ∨ k = p) r vc vd
  nF : ¬ F p
  bel : Below base w wr
  bp : base ≤ p
section
variable {q p base K : Nat} {F F' : Nat → Prop} {w wr w' w4 : World} {s s' r r' : Qs} {vc vd vc' vd' : Value}
theorem PM.turned (h : PM q p base K w wr F s r vc vd) (hq : QAt 57 w' q base F' K s') (ht : Turn F wr w') (hF : ∀ k, F' k → F k ∨ wr.heap.size ≤ k) (hs : base ≤ wr.heap.size) : PM q p base K w w' F' s' r vc vd where
  hq := hq
  hp := ht.blk h.hp h.nF
  hv := h.hv.turned (ht.mono fun k _ hk => .inl hk) fun k hk => hk.elim (fun hk => (hF k hk).imp .inl id) fun e => .inl (.inr e)
  nF := fun hf => (hF p hf).elim h.nF (by have := h.hp.lt; omega)
  bel := h.bel.trans (ht.toBelow hs fun k hk => (h.hq.size k hk).1)
  bp := h.bp
theorem PM.below (h : PM q p base K w wr F s r vc vd) (hb : Below wr.heap.size wr w') (hs : base ≤ wr.heap.size) : PM q p base K w w' F s r vc vd where
  hq := h.hq.below hb
  hp := h.hp.kept hb
  hv := h.hv.below hb
  nF := h.nF
  bel := h.bel.trans (hb.mono hs)
  bp := h.bp
theorem PM.lt (h : PM q p base K w wr F s r vc vd) : ∀ k, F k ∨ k = p → k < wr.heap.size := fun k hk => hk.elim (fun hk => (h.hq.size k hk).2) fun e => by rw [e]; exact h.hp.lt
theorem RVal.set (h : RVal w base F r vc vd) {g : Nat} (hg : F g) (i : Nat) (u : Value) : RVal (w.setCell ⟨g, i, none⟩ u) base F r vc vd where
  c := h.c.setCell (fun e => h.nc g e hg) u
  d := h.d.setCell (fun e => h.nd g e hg) u
  nc := h.nc
  nd := h.nd
theorem RVal.more (h : RVal w base F r vc vd) {g : Nat} (hg : ∀ k, k = g → (vc.ownBlock = some k ∨ vd.ownBlock = some k) → False) : RVal w base (fun k => F k ∨ k = g) r vc vd where
  c := h.c
  d := h.d
  nc := fun k hk hf => hf.elim (h.nc k hk) fun e => hg k e (.inl hk)
  nd := fun k hk hf => hf.elim (h.nd k hk) fun e => hg k e (.inr hk)
theorem RVal.weak (h : RVal w base F r vc vd) (hF : ∀ k, F' k → F k) : RVal w base F' r vc vd := ⟨h.c, h.d, fun k hk hf => h.nc k hk (hF k hf), fun k hk hf => h.nd k hk (hF k hf)⟩
theorem PM.stored (h : PM q p base K w wr F s r vc vd) (hb : Below wr.heap.size wr w4) (hv : RVal w4 base (fun k => F k ∨ k = p) r' vc' vd') (hs : base ≤ wr.heap.size) :
    PM q p base K w (((w4.setCell ⟨p, 0, none⟩ vc').setCell ⟨p, 1, none⟩ vd').setCell ⟨p, 2, none⟩ (.int .i64 (r'.dr : Int))) F s r' vc' vd' where
  hq := (h.hq.below hb).keep (by simp [World.setCell]) fun k hk => by
    have hne : k ≠ p := fun e => h.nF (e ▸ hk)
    rw [Below.heap_setCell _ _ _ _ hne, Below.heap_setCell _ _ _ _ hne, Below.heap_setCell _ _ _ _ hne]
  hp := (((h.hp.kept hb).set 0 _).set 1 _).set 2 _
  hv := ((hv.set (.inr rfl) 0 _).set (.inr rfl) 1 _).set (.inr rfl) 2 _
  nF := h.nF
  bel := (((h.bel.trans (hb.mono hs)).setCell h.bp _).setCell h.bp _).setCell h.bp _
  bp := h.bp
theorem QAt.many {lim : Nat} (h : QAt 57 w q base F lim s) (n : Nat) : QAt 57 (w.drewN n) q base F lim s := h
theorem PM.many (h : PM q p base K w wr F s r vc vd) (n : Nat) : PM q p base K w (wr.drewN n) F s r vc vd :=
  ⟨h.hq.many n, h.hp, ⟨h.hv.c, h.hv.d, h.hv.nc, h.hv.nd⟩, h.nF, ⟨h.bel.os, h.bel.tape, h.bel.output, h.bel.size, h.bel.block⟩, h.bp⟩
end
theorem put_facts (s : Qs) (K : Nat) (b : Bool) (x : Int) (hints : Ints (s.c ++ s.d)) :
    ∃ s' dd, s.put K b (.int .i64 x) = (s', dd) ∧ Ints (s'.c ++ s'.d) ∧ s'.dr ≤ s.dr + 1 ∧ s'.c.length + s'.d.length ≤ s.c.length + s.d.length + 1 := by
  obtain ⟨c, d, dr⟩ := s
  simp only at hints
  unfold Qs.put
  cases b
  · by_cases h : d.length < K
    · exact ⟨⟨c, d ++ [.int .i64 x], dr⟩, false, by simp [h], ints_d hints x, by simp, by simp; omega⟩
    · exact ⟨⟨c, d, dr + 1⟩, true, by simp [h], hints, by simp, by simp⟩
  · by_cases h : c.length < K
    · exact ⟨⟨c ++ [.int .i64 x], d, dr⟩, false, by simp [h], ints_c hints x, by simp, by simp; omega⟩
    · exact ⟨⟨c, d, dr + 1⟩, true, by simp [h], hints, by simp, by simp⟩
end Go.Proofs.Ytldjlahkfdcllaa

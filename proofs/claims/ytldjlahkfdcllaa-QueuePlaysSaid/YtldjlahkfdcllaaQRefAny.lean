/-
  queue: the document's two lists, whatever they hold.
-/
import Derived.Test.YtldjlahkfdcllaaQRef
namespace Go.Proofs.Ytldjlahkfdcllaa
open Go.RowKit

/-- The value of the document's queue s, its slices owned from base on and out of F. -/
structure RVal (w : World) (base : Nat) (F : Nat → Prop) (s : Qs) (vc vd : Value) : Prop where
  c : Own w base vc s.c
  d : Own w base vd s.d
  nc : ∀ k, vc.ownBlock = some k → ¬ F k
  nd : ∀ k, vd.ownBlock = some k → ¬ F k
def rval (s : Qs) (vc vd : Value) : Value := .agg #[vc, vd, .int .i64 (s.dr : Int)]
section
variable {w w' : World} {base : Nat} {F F' : Nat → Prop} {s : Qs} {vc vd : Value}
theorem RVal.turned (h : RVal w base F s vc vd) (ht : Turn F w w') (hF : ∀ k, F' k → F k ∨ w.heap.size ≤ k) : RVal w' base F' s vc vd where
  c := ht.own h.c h.nc
  d := ht.own h.d h.nd
  nc := fun k hk hf => (hF k hf).elim (h.nc k hk) (by have := (h.c.row k hk).2; omega)
  nd := fun k hk hf => (hF k hf).elim (h.nd k hk) (by have := (h.d.row k hk).2; omega)
theorem RVal.below (h : RVal w base F s vc vd) (hb : Below w.heap.size w w') : RVal w' base F s vc vd := ⟨h.c.below hb, h.d.below hb, h.nc, h.nd⟩
end

theorem rtake_any (s : Qs) (vc vd : Value) (w : World) (base : Nat) (F : Nat → Prop) (h : RVal w base F s vc vd) (hs : Ints (s.c ++ s.d)) :
    Calls Try.prog 12 #[rval s vc vd] w fun e w' => ∃ vc' vd', e = .returned (.tuple #[rval (s.take (.int .i64 0)).1 vc' vd', (s.take (.int .i64 0)).2.1, .bool (s.take (.int .i64 0)).2.2.1, .bool (s.take (.int .i64 0)).2.2.2]) ∧
      RVal w' base F (s.take (.int .i64 0)).1 vc' vd' ∧ Below w.heap.size w w' := by
  obtain ⟨cs, ds, dr⟩ := s
  obtain ⟨hc, hd, nc, nd⟩ := h
  simp only at hc hd hs
  unfold Qs.take rval
  cases cs with
  | cons u l =>
    obtain ⟨x, rfl⟩ := hs u (by simp)
    obtain ⟨ac, capc, rfl, -, -, -⟩ := hc.form
    obtain ⟨ad, capd, rfl, -, -, -⟩ := hd.form
    obtain ⟨g, off, rfl, _⟩ := hc.some
    obtain ⟨t1, _, t3, _, t5⟩ := hc.tail
    refine (rtake_c x g off _ _ _ _ _ dr w t3 t5 (hc.row g rfl).2).mono ?_
    rintro e w' ⟨rfl, hb⟩
    refine ⟨_, _, rfl, ⟨t1.below hb, hd.below hb, ?_, nd⟩, hb⟩
    intro k; rw [tailOf_block]; exact nc k
  | nil =>
    obtain ⟨ac, capc, rfl, -, -, -⟩ := hc.form
    cases ds with
    | cons u l =>
      obtain ⟨x, rfl⟩ := hs u (by simp)
      obtain ⟨ad, capd, rfl, -, -, -⟩ := hd.form
      obtain ⟨g, off, rfl, _⟩ := hd.some
      obtain ⟨t1, _, t3, _, t5⟩ := hd.tail
      refine (rtake_d x g off _ _ _ _ dr w t3 t5 (hd.row g rfl).2).mono ?_
      rintro e w' ⟨rfl, hb⟩
      refine ⟨_, _, rfl, ⟨hc.below hb, t1.below hb, nc, ?_⟩, hb⟩
      intro k; rw [tailOf_block]; exact nd k
    | nil =>
      obtain ⟨ad, capd, rfl, -, -, -⟩ := hd.form
      refine (rtake_none _ _ _ _ dr w).mono ?_
      rintro e w' ⟨rfl, hb⟩
      exact ⟨_, _, rfl, ⟨hc.below hb, hd.below hb, nc, nd⟩, hb⟩
theorem rput_any (s : Qs) (lim : Nat) (b : Bool) (x : Int) (vc vd : Value) (w : World) (base : Nat) (F : Nat → Prop) (h : RVal w base F s vc vd) (hs : Ints (s.c ++ s.d)) (hlim : lim ≤ 65536) (hdr : s.dr < 1099511627776) (hb0 : base ≤ w.heap.size)
    (hF : ∀ k, F k → k < w.heap.size) :
    Calls Try.prog 13 #[rval s vc vd, .int .i64 lim, .bool b, .int .i64 x] w fun e w' => ∃ vc' vd', e = .returned (.tuple #[rval (s.put lim b (.int .i64 x)).1 vc' vd', .bool (s.put lim b (.int .i64 x)).2]) ∧
      RVal w' base F (s.put lim b (.int .i64 x)).1 vc' vd' ∧ Below w.heap.size w w' := by
  obtain ⟨cs, ds, dr⟩ := s
  obtain ⟨hc, hd, nc, nd⟩ := h
  simp only at hc hd hs hdr
  obtain ⟨ac, capc, rfl, -, -, -⟩ := hc.form
  obtain ⟨ad, capd, rfl, -, -, -⟩ := hd.form
  have h1 : ∀ u ∈ cs ++ ds, u.oneCell' = true := fun u hu => by obtain ⟨z, rfl⟩ := hs u hu; rfl
  unfold Qs.put rval
  cases b
  · simp only [Bool.false_eq_true, if_false]
    by_cases hl : ds.length < lim
    · rw [if_pos hl]
      refine (rput_d lim x ac ad _ capc _ capd base dr ds w hd rfl (fun u hu => h1 u (List.mem_append_right _ hu)) hl hlim).mono ?_
      rintro e w' ⟨v, rfl, ho, hb⟩
      exact ⟨_, _, rfl, ⟨hc.below hb, ho.mono hb0, nc, fun k hk hf => by have := (ho.row k hk).1; have := hF k hf; omega⟩, hb⟩
    · rw [if_neg hl]
      refine (rfull_d lim (.int .i64 x) ac ad _ capc _ capd dr w (by omega) hdr).mono ?_
      rintro e w' ⟨rfl, hb⟩
      exact ⟨_, _, rfl, ⟨hc.below hb, hd.below hb, nc, nd⟩, hb⟩
  · simp only [if_true]
    by_cases hl : cs.length < lim
    · rw [if_pos hl]
      refine (rput_c lim x ac ad _ capc _ capd base dr cs w hc rfl (fun u hu => h1 u (List.mem_append_left _ hu)) hl hlim).mono ?_
      rintro e w' ⟨v, rfl, ho, hb⟩
      exact ⟨_, _, rfl, ⟨ho.mono hb0, hd.below hb, fun k hk hf => by have := (ho.row k hk).1; have := hF k hf; omega, nd⟩, hb⟩
    · rw [if_neg hl]
      refine (rfull_c lim (.int .i64 x) ac ad _ capc _ capd dr w (by omega) hdr).mono ?_
      rintro e w' ⟨rfl, hb⟩
      exact ⟨_, _, rfl, ⟨hc.below hb, hd.below hb, nc, nd⟩, hb⟩
end Go.Proofs.Ytldjlahkfdcllaa

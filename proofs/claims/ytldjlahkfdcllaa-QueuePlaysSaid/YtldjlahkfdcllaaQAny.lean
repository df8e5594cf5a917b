/-
  queue: Put, Take, Len and Dropped on a queue in memory, as the two lists.
-/
import Derived.Test.YtldjlahkfdcllaaQTake
namespace Go.Proofs.Ytldjlahkfdcllaa
open Go.RowKit

theorem put_any (s : Qs) (lim q base : Nat) (F : Nat → Prop) (b : Bool) (x : Int) (w : World) (h : QAt 57 w q base F lim s) (hdr : s.dr < 1099511627776) (hlim : lim ≤ 65536) :
    Calls Try.prog 9 #[ptr q, .bool b, .int .i64 x] w fun e w' => e = .returned (errOf (s.put lim b (.int .i64 x)).2) ∧ ∃ F', QAt 57 w' q base F' lim (s.put lim b (.int .i64 x)).1 ∧ Turn F w w' ∧ ∀ k, F' k → F k ∨ w.heap.size ≤ k := by
  obtain ⟨cs, ds, dr⟩ := s
  obtain ⟨vc, vd, hB, hq, hc, hd, hF, hn1, hn2, hn3⟩ := h
  simp only at hB hc hd hdr
  obtain ⟨ac, capc, rfl, _, _, _⟩ := hc.form
  obtain ⟨ad, capd, rfl, _, _, _⟩ := hd.form
  have hb : base ≤ w.heap.size := Nat.le_trans hq (Nat.le_of_lt hB.lt)
  unfold Qs.put errOf QAt
  cases b
  · simp only [Bool.false_eq_true, if_false]
    by_cases hl : ds.length < lim
    · rw [if_pos hl]
      refine (putOk_d lim x q base ac ad _ capc _ capd dr w hB ds hd rfl hn2 hb hlim hl).mono ?_
      rintro e w' ⟨rfl, v, g1, g2, g3, g4⟩
      refine ⟨rfl, fun k => k = q ∨ (Value.slice ac cs.length capc).ownBlock = some k ∨ v.ownBlock = some k, ?_, g3.mono (fun k _ hk => (hF k).2 (hk.imp id .inr)), ?_⟩
      · refine ⟨_, v, g1, hq, hc.keep g3.size (fun k h1 h2 h3 => g3.block k h2 ?_), g2, fun k => Iff.rfl, hn1, fun e => ?_, fun k h1 h2 => ?_⟩
        · rintro (rfl | h4)
          · exact hn1 h3
          · exact hn3 k h3 h4
        · rcases g4 q e with h5 | h5
          · exact hn2 h5
          · have := hB.lt; omega
        · rcases g4 k h2 with h5 | h5
          · exact hn3 k h1 h5
          · have := (hc.row k h1).2; omega
      · rintro k (h5 | h5 | h5)
        · exact .inl ((hF k).2 (.inl h5))
        · exact .inl ((hF k).2 (.inr (.inl h5)))
        · exact (g4 k h5).imp (fun h6 => (hF k).2 (.inr (.inr h6))) id
    · rw [if_neg hl]
      refine (putFull_d lim (.int .i64 x) q ac ad _ capc _ capd dr w hB hdr (by omega)).mono ?_
      rintro e w' ⟨rfl, g1, g3⟩
      refine ⟨rfl, F, ⟨_, _, g1, hq, hc.keep g3.size (fun k h1 h2 h3 => g3.block k h2 ?_), hd.keep g3.size (fun k h1 h2 h3 => g3.block k h2 ?_), hF, hn1, hn2, hn3⟩, g3.mono (fun k _ hk => (hF k).2 (.inl hk)), fun k h => .inl h⟩
      · rintro rfl; exact hn1 h3
      · rintro rfl; exact hn2 h3
  · simp only [if_true]
    by_cases hl : cs.length < lim
    · rw [if_pos hl]
      refine (putOk_c lim x q base ac ad _ capc _ capd dr w hB cs hc rfl hn1 hb hlim hl).mono ?_
      rintro e w' ⟨rfl, v, g1, g2, g3, g4⟩
      refine ⟨rfl, fun k => k = q ∨ v.ownBlock = some k ∨ (Value.slice ad ds.length capd).ownBlock = some k, ?_, g3.mono (fun k _ hk => (hF k).2 (hk.imp id .inl)), ?_⟩
      · refine ⟨v, _, g1, hq, g2, hd.keep g3.size (fun k h1 h2 h3 => g3.block k h2 ?_), fun k => Iff.rfl, fun e => ?_, hn2, fun k h1 h2 => ?_⟩
        · rintro (rfl | h4)
          · exact hn2 h3
          · exact hn3 k h4 h3
        · rcases g4 q e with h5 | h5
          · exact hn1 h5
          · have := hB.lt; omega
        · rcases g4 k h1 with h5 | h5
          · exact hn3 k h5 h2
          · have := (hd.row k h2).2; omega
      · rintro k (h5 | h5 | h5)
        · exact .inl ((hF k).2 (.inl h5))
        · exact (g4 k h5).imp (fun h6 => (hF k).2 (.inr (.inl h6))) id
        · exact .inl ((hF k).2 (.inr (.inr h5)))
    · rw [if_neg hl]
      refine (putFull_c lim (.int .i64 x) q ac ad _ capc _ capd dr w hB hdr (by omega)).mono ?_
      rintro e w' ⟨rfl, g1, g3⟩
      refine ⟨rfl, F, ⟨_, _, g1, hq, hc.keep g3.size (fun k h1 h2 h3 => g3.block k h2 ?_), hd.keep g3.size (fun k h1 h2 h3 => g3.block k h2 ?_), hF, hn1, hn2, hn3⟩, g3.mono (fun k _ hk => (hF k).2 (.inl hk)), fun k h => .inl h⟩
      · rintro rfl; exact hn1 h3
      · rintro rfl; exact hn2 h3

theorem Own.tail {w : World} {base g off m c : Nat} {u : Value} {xs : List Value} (h : Own w base (.slice (some ⟨g, off, none⟩) (m + 1) c) (u :: xs)) :
    Own w base (tailOf g off m c) xs ∧ xs.length = m ∧ m + 1 ≤ c ∧ c ≤ maxLen ∧ w.cell? ⟨g, off, none⟩ = some u := by
  obtain ⟨g', off', cap, e, h1, h2, h3, h4, h5⟩ := h.head
  injection e with e1 e2 e3
  injection e1 with e1
  injection e1 with e1 e4 _
  have e2 : m = xs.length := by omega
  subst e1 e4 e2 e3
  refine ⟨?_, rfl, h1, h2, h3⟩
  unfold tailOf
  by_cases hc : 1 < c
  · rw [if_pos hc]; exact h4 hc
  · rw [if_neg hc]
    have := h5 (by omega)
    have e : xs.length = 0 := by omega
    rw [e]; exact this
theorem tailOf_block (g off m c : Nat) : (tailOf g off m c).ownBlock = some g := by unfold tailOf; split <;> rfl
theorem Own.some {w : World} {base n c : Nat} {a : Option Addr} {u : Value} {xs : List Value} (h : Own w base (.slice a n c) (u :: xs)) : ∃ g off, a = some ⟨g, off, none⟩ ∧ n = xs.length + 1 := by
  obtain ⟨g', off', cap, e, _⟩ := h.head
  injection e with e1 e2 e3
  exact ⟨g', off', e1, e2⟩
/-- Whatever waits is an int. -/
def Ints (l : List Value) : Prop := ∀ u ∈ l, ∃ x : Int, u = .int .i64 x
theorem take_any (s : Qs) (lim q base : Nat) (F : Nat → Prop) (w : World) (h : QAt 57 w q base F lim s) (hs : Ints (s.c ++ s.d)) :
    Calls Try.prog 10 #[ptr q] w fun e w' => e = .returned (.tuple #[(s.take (.int .i64 0)).2.1, .bool (s.take (.int .i64 0)).2.2.1, .bool (s.take (.int .i64 0)).2.2.2]) ∧ ∃ F', QAt 57 w' q base F' lim (s.take (.int .i64 0)).1 ∧ Turn F w w' ∧ ∀ k, F' k → F k ∨ w.heap.size ≤ k := by
  obtain ⟨cs, ds, dr⟩ := s
  have h0 := h
  obtain ⟨vc, vd, hB, hq, hc, hd, hF, hn1, hn2, hn3⟩ := h
  simp only at hB hc hd hs
  unfold Qs.take QAt
  cases cs with
  | cons u l =>
    obtain ⟨x, rfl⟩ := hs u (by simp)
    obtain ⟨ac, capc, rfl, _, _, _⟩ := hc.form
    obtain ⟨ad, capd, rfl, _, _, _⟩ := hd.form
    obtain ⟨g, off, rfl, _⟩ := hc.some
    obtain ⟨t1, _, t3, _, t5⟩ := hc.tail
    refine (take_c lim x q g off _ _ _ _ _ dr w hB t3 t5).mono ?_
    rintro e w' ⟨rfl, g1, g3⟩
    refine ⟨rfl, F, ⟨_, _, g1, hq, t1.keep g3.size (fun k h1 h2 h3 => g3.block k h2 ?_), hd.keep g3.size (fun k h1 h2 h3 => g3.block k h2 ?_), ?_, ?_, hn2, ?_⟩, g3.mono (fun k _ hk => (hF k).2 (.inl hk)), fun k h => .inl h⟩
    · rintro rfl; rw [tailOf_block] at h3; exact hn1 h3
    · rintro rfl; exact hn2 h3
    · intro k; rw [tailOf_block]; exact hF k
    · rw [tailOf_block]; exact hn1
    · intro k; rw [tailOf_block]; exact hn3 k
  | nil =>
    obtain ⟨ac, capc, rfl, _, _, _⟩ := hc.form
    cases ds with
    | cons u l =>
      obtain ⟨x, rfl⟩ := hs u (by simp)
      obtain ⟨ad, capd, rfl, _, _, _⟩ := hd.form
      obtain ⟨g, off, rfl, _⟩ := hd.some
      obtain ⟨t1, _, t3, _, t5⟩ := hd.tail
      refine (take_d lim x q g off _ _ _ _ dr w hB t3 t5).mono ?_
      rintro e w' ⟨rfl, g1, g3⟩
      refine ⟨rfl, F, ⟨_, _, g1, hq, hc.keep g3.size (fun k h1 h2 h3 => g3.block k h2 ?_), t1.keep g3.size (fun k h1 h2 h3 => g3.block k h2 ?_), ?_, hn1, ?_, ?_⟩, g3.mono (fun k _ hk => (hF k).2 (.inl hk)), fun k h => .inl h⟩
      · rintro rfl; exact hn1 h3
      · rintro rfl; rw [tailOf_block] at h3; exact hn2 h3
      · intro k; rw [tailOf_block]; exact hF k
      · rw [tailOf_block]; exact hn2
      · intro k; rw [tailOf_block]; exact hn3 k
    | nil =>
      obtain ⟨ad, capd, rfl, _, _, _⟩ := hd.form
      refine (take_none lim q _ _ _ _ dr w hB).mono ?_
      rintro e w' ⟨rfl, rfl⟩
      exact ⟨rfl, F, h0, Turn.refl _ _, fun k h => .inl h⟩
theorem len_any (s : Qs) (lim q base : Nat) (F : Nat → Prop) (w : World) (h : QAt 57 w q base F lim s) :
    Calls Try.prog 14 #[ptr q] w fun e w' => e = .returned (.tuple #[.int .i64 s.c.length, .int .i64 s.d.length]) ∧ ∃ k, w.drewN k = w' := by
  obtain ⟨vc, vd, hB, hq, hc, hd, _⟩ := h
  obtain ⟨ac, capc, rfl, _, _, _⟩ := hc.form
  obtain ⟨ad, capd, rfl, _, _, _⟩ := hd.form
  exact len_at lim q _ _ _ _ _ _ _ w hB
theorem dropped_any (s : Qs) (lim q base : Nat) (F : Nat → Prop) (w : World) (h : QAt 57 w q base F lim s) :
    Calls Try.prog 11 #[ptr q] w fun e w' => e = .returned (.int .i64 s.dr) ∧ w = w' := by
  obtain ⟨vc, vd, hB, _⟩ := h
  exact dropped_at lim q _ _ _ w hB
theorem new_any (lim base : Nat) (w : World) (h1 : 1 ≤ lim) (h2 : lim ≤ 65536) (hb : base ≤ w.heap.size) :
    Calls Try.prog 8 #[.int .i64 lim] w fun e w' => e = .returned (.tuple #[ptr w.heap.size, .int .i64 0]) ∧ QAt 57 w' w.heap.size base (fun k => k = w.heap.size) lim ⟨[], [], 0⟩ ∧ Below w.heap.size w w' ∧ w.heap.size < w'.heap.size := by
  refine (new_at lim w h1 h2).mono ?_
  rintro e w' ⟨rfl, rfl⟩
  exact ⟨rfl, qu_new 57 w lim base hb, (Below.refl _ _).alloc (Nat.le_refl _) _, by simp⟩
end Go.Proofs.Ytldjlahkfdcllaa

/-
  SLICES OF INTEGERS AS LISTS OF DIGITS: two slices of the call's own, one beside the other: append, store, reslice; numbers of digits. Nothing of the program is named here, but that type 3 is int.
-/
import Derived.Test.YtbfgnlckmpnchaaOwn
import Derived.Test.YtbfgnlckmpnchaaOwnSrc
import Derived.Test.YtbfgnlckmpnchaaText
import Derived.Test.YtbfgnlckmpnchaaProg
namespace Go.Proofs.Ytbfgnlckmpnchaa
open Go.RowKit
set_option linter.unusedVariables false
set_option linter.unusedSimpArgs false
def nv (x : Nat) : Value := .int .i64 (x : Int)
/-- The number of a list of digits to 256. -/
def leI : List Nat → Nat
  | [] => 0
  | x :: l => x + 256 * leI l
def Dig (l : List Nat) : Prop := ∀ x ∈ l, x < 256
theorem leI_append : ∀ (a b : List Nat), leI (a ++ b) = leI a + 256 ^ a.length * leI b
  | [], b => by simp [leI]
  | x :: a, b => by
    simp only [List.cons_append, leI, leI_append a b, List.length_cons, Nat.pow_succ]
    rw [Nat.mul_add, ← Nat.mul_assoc, Nat.mul_comm 256 (256 ^ a.length), Nat.add_assoc]
/-- A digit of a list. -/
def dg (l : List Nat) (i : Nat) : Nat := l.getD i 0
theorem dg_eq {l : List Nat} {i : Nat} (h : i < l.length) : l[i] = dg l i := by simp [dg, h]
theorem dg_none {l : List Nat} {i : Nat} (h : l.length ≤ i) : dg l i = 0 := by simp [dg, h]
theorem Dig.lt {l : List Nat} (h : Dig l) (i : Nat) : dg l i < 256 := by
  by_cases hi : i < l.length
  · rw [← dg_eq hi]; exact h _ (List.getElem_mem hi)
  · rw [dg_none (by omega)]; omega
theorem leI_take (l : List Nat) (i : Nat) : leI (l.take (i + 1)) = leI (l.take i) + 256 ^ i * dg l i := by
  by_cases h : i < l.length
  · rw [List.take_succ_eq_append_getElem h, leI_append, dg_eq h, List.length_take, Nat.min_eq_left (Nat.le_of_lt h)]
    simp [leI]
  · rw [List.take_of_length_le (by omega), List.take_of_length_le (show l.length ≤ i by omega), dg_none (by omega)]
    simp
theorem Dig.snoc {l : List Nat} (h : Dig l) {x : Nat} (hx : x < 256) : Dig (l ++ [x]) := fun y hy => by
  rcases List.mem_append.1 hy with hy | hy
  · exact h y hy
  · rw [List.mem_singleton] at hy; rw [hy]; exact hx
theorem map_nv_one (l : List Nat) : ∀ u ∈ l.map nv, u.oneCell' = true := fun u hu => by
  obtain ⟨x, _, rfl⟩ := List.mem_map.1 hu
  rfl
theorem map_nv_snoc (l : List Nat) (x : Nat) : l.map nv ++ [nv x] = (l ++ [x]).map nv := by simp
theorem info3i : (Try.prog.info? 3).map (fun i => (i.zero, i.size, i.bytes)) = some (some (.int .i64 0), 1, 8) := by kernel_rfl
/-- A slice of digits to be read. -/
def Nums (w : World) (v : Value) (l : List Nat) : Prop := Own w 0 v (l.map nv)
theorem Nums.at_ {w : World} {a : Option Addr} {n c i : Nat} {l : List Nat} (h : Nums w (.slice a n c) l) (hi : i < l.length) : ∃ g off, a = some ⟨g, off, none⟩ ∧ g < w.heap.size ∧ w.cell? ⟨g, off + i, none⟩ = some (nv (dg l i)) := by
  obtain ⟨g, off, h1, _, h2, h3⟩ := Own.at_ h (i := i) (by simpa using hi)
  refine ⟨g, off, h1, h2, ?_⟩
  rw [h3]
  simp [← dg_eq hi]
section
variable {w w' : World} {base : Nat} {v : Value} {xs : List Value}
theorem Own.set {a : Option Addr} {n c : Nat} (h : Own w base (.slice a n c) xs) {i : Nat} (hi : i < xs.length) (u : Value) : ∃ g off, a = some ⟨g, off, none⟩ ∧ base ≤ g ∧ g < w.heap.size ∧
    (∃ old, w.cell? ⟨g, off + i, none⟩ = some old) ∧ w.frozen? ⟨g, off + i, none⟩ = false ∧ Own (w.setCell ⟨g, off + i, none⟩ u) base (.slice a n c) (xs.set i u) := by
  rcases h with ⟨_, rfl⟩ | ⟨g, off, cap, e, h1, h2, h3, h4, h5, h6⟩
  · simp at hi
  · injection e with e1 e2 e3
    subst e1 e2 e3
    have h7 := h5 i (by omega)
    refine ⟨g, off, rfl, h1, h2, ⟨_, h6 i _ (List.getElem?_eq_getElem hi)⟩, h7.2, .inr ⟨g, off, c, by rw [List.length_set], h1, by simpa [World.setCell] using h2, by rw [List.length_set]; exact h3, h4, fun j hj => ⟨?_, by rw [World.frozen?_setCell]; exact (h5 j hj).2⟩, fun j x hx => ?_⟩⟩
    · by_cases e : j = i
      · subst e
        rw [World.cell?_setCell_same _ _ _ (h6 j _ (List.getElem?_eq_getElem hi))]; rfl
      · rw [World.cell?_setCell_other _ _ _ _ (fun e' => e (by injection e' with _ e'; omega))]
        exact (h5 j hj).1
    · by_cases e : j = i
      · subst e
        rw [World.cell?_setCell_same _ _ _ (h6 j _ (List.getElem?_eq_getElem hi))]
        rw [List.getElem?_set_self hi] at hx
        exact hx
      · rw [World.cell?_setCell_other _ _ _ _ (fun e' => e (by injection e' with _ e'; omega))]
        rw [List.getElem?_set_ne (fun e' => e e'.symm)] at hx
        exact h6 j x hx
theorem Own.take {a : Option Addr} {n c : Nat} (h : Own w base (.slice a n c) xs) {k : Nat} (hk : k ≤ xs.length) : Own w base (.slice a k c) (xs.take k) := by
  rcases h with ⟨e, rfl⟩ | ⟨g, off, cap, e, h1, h2, h3, h4, h5, h6⟩
  · injection e with e1 e2 e3
    subst e1 e2 e3
    simp at hk
    subst hk
    exact .inl ⟨rfl, rfl⟩
  · injection e with e1 e2 e3
    subst e1 e2 e3
    refine .inr ⟨g, off, c, by rw [List.length_take, Nat.min_eq_left hk], h1, h2, by rw [List.length_take, Nat.min_eq_left hk]; omega, h4, h5, fun j x hx => ?_⟩
    have hj : j < k := by
      have := (List.getElem?_eq_some_iff.1 hx).1
      rw [List.length_take] at this
      omega
    rw [List.getElem?_take_of_lt hj] at hx
    exact h6 j x hx
theorem Own.made (w : World) (base : Nat) (t : TypeId) (hb : base ≤ w.heap.size) : Own (w.alloc (.cells #[] t)) base (.slice (some ⟨w.heap.size, 0, none⟩) 0 0) [] :=
  .inr ⟨w.heap.size, 0, 0, rfl, hb, by simp, Nat.le_refl _, by simp [maxLen], fun j hj => absurd hj (Nat.not_lt_zero j), fun j x hx => by simp at hx⟩
end
structure D2 (B : Nat) (w wr : World) (va vb : Value) (la lb : List Nat) : Prop where
  ha : Own wr B va (la.map nv)
  hb : Own wr B vb (lb.map nv)
  ne : ∀ k, va.ownBlock = some k → vb.ownBlock = some k → False
  bel : Below B w wr
  le : B ≤ w.heap.size
section
variable {B : Nat} {w wr w' : World} {va vb va' : Value} {la lb : List Nat}
theorem D2.symm (h : D2 B w wr va vb la lb) : D2 B w wr vb va lb la := ⟨h.hb, h.ha, fun k h1 h2 => h.ne k h2 h1, h.bel, h.le⟩
theorem D2.size (h : D2 B w wr va vb la lb) : B ≤ wr.heap.size := Nat.le_trans h.le h.bel.size
theorem D2.below (h : D2 B w wr va vb la lb) (hb : Below wr.heap.size wr w') : D2 B w w' va vb la lb := ⟨h.ha.below hb, h.hb.below hb, h.ne, h.bel.trans (hb.mono h.size), h.le⟩
theorem D2.alloc (h : D2 B w wr va vb la lb) (o : Obj) : D2 B w (wr.alloc o) va vb la lb := h.below (belowA wr o)
theorem D2.drew (h : D2 B w wr va vb la lb) : D2 B w wr.drew va vb la lb := ⟨h.ha.drew, h.hb.drew, h.ne, h.bel.drew, h.le⟩
theorem D2.grow {nw : List Value} (h : D2 B w wr va vb la lb) (o : Obj) (hg : (wr.alloc o).grownBy w' va.ownBlock) (ho : Own w' B va' nw) (hk : ∀ k, va'.ownBlock = some k → va.ownBlock = some k ∨ (wr.alloc o).heap.size ≤ k) {la' : List Nat} (e : nw = la'.map nv) : D2 B w w' va' vb la' lb := by
  subst e
  have hs := h.size
  have hs2 := hg.size
  simp at hs2
  refine ⟨ho, (h.hb.alloc o).keep (by simp; omega) fun k _ hk2 he => hg.block k hk2 fun e => h.ne k e.symm he, fun k h1 h2 => ?_, (h.bel.alloc (by omega) o).grown hg (by simp; omega) (fun k hk => (h.ha.row k hk).1), h.le⟩
  rcases hk k h1 with h3 | h3
  · exact h.ne k h3 h2
  · have := (h.hb.row k h2).2
    simp at h3
    omega
theorem D2.grow0 {nw : List Value} (h : D2 B w wr va vb la lb) (hg : wr.grownBy w' va.ownBlock) (ho : Own w' B va' nw) (hk : ∀ k, va'.ownBlock = some k → va.ownBlock = some k ∨ wr.heap.size ≤ k) {la' : List Nat} (e : nw = la'.map nv) : D2 B w w' va' vb la' lb := by
  subst e
  have hs := h.size
  refine ⟨ho, h.hb.keep hg.size fun k _ hk2 he => hg.block k hk2 fun e => h.ne k e.symm he, fun k h1 h2 => ?_, h.bel.grown hg hs (fun k hk => (h.ha.row k hk).1), h.le⟩
  rcases hk k h1 with h3 | h3
  · exact h.ne k h3 h2
  · have := (h.hb.row k h2).2
    omega
theorem D2.fresh (h : D2 B w wr va vb la lb) (t : TypeId) : D2 B w (wr.alloc (.cells #[] t)) (.slice (some ⟨wr.heap.size, 0, none⟩) 0 0) vb [] lb :=
  ⟨Own.made wr B t h.size, h.hb.alloc _, fun k h1 h2 => by
    have := (h.hb.row k h2).2
    simp [Value.ownBlock] at h1
    omega, h.bel.alloc h.size _, h.le⟩
theorem D2.set {a : Option Addr} {n c : Nat} (h : D2 B w wr (.slice a n c) vb la lb) {i : Nat} (hi : i < la.length) (x : Nat) : ∃ g off, a = some ⟨g, off, none⟩ ∧ g < wr.heap.size ∧ wr.cell? ⟨g, off + i, none⟩ = some (nv (dg la i)) ∧ wr.frozen? ⟨g, off + i, none⟩ = false ∧
    D2 B w (wr.setCell ⟨g, off + i, none⟩ (nv x)) (.slice a n c) vb (la.set i x) lb := by
  obtain ⟨g, off, rfl, h1, h2, h3, h4, h5⟩ := h.ha.set (i := i) (by simpa using hi) (nv x)
  have hc : wr.cell? ⟨g, off + i, none⟩ = some (nv (dg la i)) := by
    obtain ⟨g', off', e, _, hc⟩ := Nums.at_ (h.ha.mono (Nat.zero_le _)) hi
    injection e with e; injection e with e1 e2
    subst e1 e2
    exact hc
  exact ⟨g, off, rfl, h2, hc, h4, ⟨by rw [List.map_set]; exact h5, h.hb.setCell (fun e => h.ne g rfl e) _, h.ne, h.bel.setCell h1 _, h.le⟩⟩
theorem D2.take {a : Option Addr} {n c : Nat} (h : D2 B w wr (.slice a n c) vb la lb) {k : Nat} (hk : k ≤ la.length) : D2 B w wr (.slice a k c) vb (la.take k) lb :=
  ⟨by rw [List.map_take]; exact h.ha.take (by simpa using hk), h.hb, (by cases a <;> exact h.ne), h.bel, h.le⟩
theorem D2.form (h : D2 B w wr va vb la lb) : ∃ a c, va = .slice a la.length c := by
  obtain ⟨a, c, e, _⟩ := h.ha.form
  exact ⟨a, c, by rw [e, List.length_map]⟩
theorem D2.form' (h : D2 B w wr va vb la lb) : ∃ a c, va = .slice a la.length c ∧ la.length ≤ c ∧ c ≤ 9223372036854775807 := by
  obtain ⟨a, c, e, h1, h2, _⟩ := h.ha.form
  unfold maxLen at h2
  rw [List.length_map] at e h1
  exact ⟨a, c, e, h1, by omega⟩
theorem D2.nilB (h : D2 B w wr va vb la lb) : D2 B w wr va (.slice none 0 0) la [] := ⟨h.ha, Own.nil _ _, (fun _ _ h2 => by cases h2), h.bel, h.le⟩
theorem D2.at_ {a : Option Addr} {n c i : Nat} (h : D2 B w wr (.slice a n c) vb la lb) (hi : i < la.length) : ∃ g off, a = some ⟨g, off, none⟩ ∧ g < wr.heap.size ∧ wr.cell? ⟨g, off + i, none⟩ = some (nv (dg la i)) := Nums.at_ (h.ha.mono (Nat.zero_le _)) hi
theorem D2.many (h : D2 B w wr va vb la lb) (n : Nat) : D2 B w (wr.drewN n) va vb la lb := ⟨h.ha, h.hb, h.ne, ⟨h.bel.os, h.bel.tape, h.bel.output, h.bel.size, h.bel.block⟩, h.le⟩
theorem D2.formN (h : D2 B w wr va vb la lb) {n : Nat} (hn : la.length = n) : ∃ a c, va = .slice a n c ∧ n ≤ c ∧ c ≤ 9223372036854775807 := by
  subst hn; exact h.form'
theorem D2.cellA {g off n c i : Nat} (h : D2 B w wr (.slice (some ⟨g, off, none⟩) n c) vb la lb) (hi : i < la.length) : wr.cell? ⟨g, off + i, none⟩ = some (.int .i64 (dg la i : Int)) := by
  obtain ⟨g', off', e, _, hc⟩ := h.at_ hi
  injection e with e; injection e with e1 e2
  subst e1 e2
  exact hc
theorem D2.cellB {g off n c i : Nat} (h : D2 B w wr va (.slice (some ⟨g, off, none⟩) n c) la lb) (hi : i < lb.length) : wr.cell? ⟨g, off + i, none⟩ = some (.int .i64 (dg lb i : Int)) := h.symm.cellA hi
theorem D2.freeA {g off n c i : Nat} (h : D2 B w wr (.slice (some ⟨g, off, none⟩) n c) vb la lb) (hi : i < la.length) : wr.frozen? ⟨g, off + i, none⟩ = false := by
  obtain ⟨g', off', e, _, _, hc, _⟩ := h.set hi 0
  injection e with e; injection e with e1 e2
  subst e1 e2
  exact hc
theorem D2.setA {g off n c i : Nat} (h : D2 B w wr (.slice (some ⟨g, off, none⟩) n c) vb la lb) (hi : i < la.length) (x : Nat) : D2 B w (wr.setCell ⟨g, off + i, none⟩ (nv x)) (.slice (some ⟨g, off, none⟩) n c) vb (la.set i x) lb := by
  obtain ⟨g', off', e, _, _, _, hc⟩ := h.set hi x
  injection e with e; injection e with e1 e2
  subst e1 e2
  exact hc
theorem D2.addr {a : Option Addr} {n c : Nat} (h : D2 B w wr (.slice a n c) vb la lb) (hl : 0 < la.length) : ∃ g off, a = some ⟨g, off, none⟩ ∧ g < wr.heap.size := by
  obtain ⟨g, off, e, h1, _⟩ := h.at_ hl
  exact ⟨g, off, e, h1⟩
end
theorem D2.start (w : World) : D2 w.heap.size w w (.slice none 0 0) (.slice none 0 0) [] [] := ⟨Own.nil _ _, Own.nil _ _, (fun _ h1 _ => by cases h1), Below.refl _ _, Nat.le_refl _⟩
def slen : Value → Nat
  | .slice _ n _ => n
  | _ => 0
/-! ### Numbers of lists -/
theorem dg_set {l : List Nat} {i j x : Nat} (hi : i < l.length) : dg (l.set i x) j = if j = i then x else dg l j := by
  unfold dg
  by_cases h : j = i
  · subst h; simp [hi]
  · simp [h, List.getElem?_set_ne (fun e => h e.symm)]
theorem leI_set : ∀ (l : List Nat) (i x : Nat), i < l.length → leI (l.set i x) + 256 ^ i * dg l i = leI l + 256 ^ i * x
  | [], i, x, h => by simp at h
  | y :: l, 0, x, _ => by simp [leI, dg]; omega
  | y :: l, i + 1, x, h => by
    have ih := leI_set l i x (by simpa using h)
    have e : dg (y :: l) (i + 1) = dg l i := by simp [dg]
    simp only [List.set_cons_succ, leI, e, Nat.pow_succ]
    have e1 : 256 ^ i * 256 * dg l i = 256 * (256 ^ i * dg l i) := by rw [Nat.mul_comm (256 ^ i) 256, Nat.mul_assoc]
    have e2 : 256 ^ i * 256 * x = 256 * (256 ^ i * x) := by rw [Nat.mul_comm (256 ^ i) 256, Nat.mul_assoc]
    rw [e1, e2]; omega
theorem leI_snoc0 (l : List Nat) : leI (l ++ [0]) = leI l := by rw [leI_append]; simp [leI]
theorem leI_lt : ∀ {l : List Nat}, Dig l → leI l < 256 ^ l.length
  | [], _ => by simp [leI]
  | x :: l, h => by
    have h1 := h x (by simp)
    have h2 := leI_lt (l := l) (fun y hy => h y (by simp [hy]))
    simp only [leI, List.length_cons, Nat.pow_succ]
    omega
theorem Dig.set {l : List Nat} (h : Dig l) (i : Nat) {x : Nat} (hx : x < 256) : Dig (l.set i x) := fun y hy => by
  rcases List.mem_or_eq_of_mem_set hy with hy | hy
  · exact h y hy
  · rw [hy]; exact hx
theorem Dig.take {l : List Nat} (h : Dig l) (k : Nat) : Dig (l.take k) := fun y hy => h y (List.mem_of_mem_take hy)
theorem Dig.drop {l : List Nat} (h : Dig l) (k : Nat) : Dig (l.drop k) := fun y hy => h y (List.mem_of_mem_drop hy)
theorem leI_cut (l : List Nat) (k : Nat) (hk : k ≤ l.length) : leI l = leI (l.take k) + 256 ^ k * leI (l.drop k) := by
  have := leI_append (l.take k) (l.drop k)
  rwa [List.take_append_drop, List.length_take, Nat.min_eq_left hk] at this
theorem dg_div {l : List Nat} (h : Dig l) (i : Nat) : leI l / 256 ^ i % 256 = dg l i := by
  by_cases hi : i < l.length
  · have hp : 0 < 256 ^ i := Nat.pow_pos (by omega)
    have e := leI_cut l i (by omega)
    have hlt := leI_lt (h.take i)
    rw [List.length_take, Nat.min_eq_left (by omega)] at hlt
    rw [e, Nat.add_mul_div_left _ _ hp, Nat.div_eq_of_lt hlt, Nat.zero_add, List.drop_eq_getElem_cons hi]
    simp only [leI]
    rw [dg_eq hi]
    have := h.lt i
    omega
  · rw [dg_none (by omega)]
    have := leI_lt h
    have h2 : 256 ^ l.length ≤ 256 ^ i := Nat.pow_le_pow_right (by omega) (by omega)
    rw [Nat.div_eq_of_lt (by omega)]
/-- 'make([]int, n)'. -/
theorem make_nums {P : Program} (w : World) (base : Nat) (t e : TypeId) (n : Nat) (ht : P.underlying t = some (.slice e)) (hi : (P.info? e).map (fun i => (i.zero, i.size, i.bytes)) = some (some (.int .i64 0), 1, 8)) (hn : n ≤ 1000000) (hb : base ≤ w.heap.size) (z : Int) (hz : z = n) :
    ∃ w', (Instr.makeSlice t (.int .i64 z) (.int .i64 z)).run P w = .ok (.slice (some ⟨w.heap.size, 0, none⟩) n n) w' ∧ Own w' base (.slice (some ⟨w.heap.size, 0, none⟩) n n) ((List.replicate n 0).map nv) ∧ Below w.heap.size w w' := by
  subst hz
  cases hq : P.info? e with
  | none => rw [hq] at hi; cases hi
  | some i =>
    rw [hq] at hi
    simp only [Option.map_some, Option.some.injEq, Prod.mk.injEq] at hi
    obtain ⟨h1, h2, h3⟩ := hi
    have h := run_make (P := P) w t e i (.int .i64 0) ht hq h1 .i64 .i64 (n : Int) (n : Int) (by omega) (Int.le_refl _) (by rw [h3]; omega) (by omega)
    rw [h2, Int.toNat_natCast, Nat.mul_one] at h
    have hc : ∀ j, j < n → (madeCells (Value.int .i64 0).cells n)[j]? = some (nv 0) := fun j hj => by
      simp [madeCells, Value.cells, hj]
      rw [Nat.mod_one]
      rfl
    have hB := Blk.made w e (madeCells (Value.int .i64 0).cells n)
    refine ⟨_, h, .inr ⟨w.heap.size, 0, n, by simp, hb, by simp, by simp, by simp [maxLen]; omega, fun j hj => ⟨?_, by rw [Nat.zero_add]; exact hB.free j⟩, fun j u hu => ?_⟩, (Below.refl _ _).alloc (Nat.le_refl _) _⟩
    · rw [Nat.zero_add, hB.at_ (hc j hj)]; rfl
    · have hj : j < n := by have := (List.getElem?_eq_some_iff.1 hu).1; simpa using this
      rw [Nat.zero_add, hB.at_ (hc j hj)]
      simp [hj] at hu
      rw [hu]
theorem leI_zeros (n : Nat) : leI (List.replicate n 0) = 0 := by
  induction n with
  | zero => rfl
  | succ n ih => simp [List.replicate_succ, leI, ih]
theorem Nums.formN {w : World} {v : Value} {l : List Nat} (h : Nums w v l) {n : Nat} (hn : l.length = n) : ∃ a c, v = .slice a n c ∧ n ≤ c ∧ c ≤ 9223372036854775807 := by
  obtain ⟨a, c, e, h1, h2, _⟩ := Own.form h
  unfold maxLen at h2
  rw [List.length_map, hn] at e h1
  exact ⟨a, c, e, h1, by omega⟩
theorem Own.one (w : World) (base : Nat) (t : TypeId) (u : Value) (hb : base ≤ w.heap.size) : Own (w.alloc (.cells #[u] t)) base (.slice (some ⟨w.heap.size, 0, none⟩) 1 1) [u] :=
  .inr ⟨w.heap.size, 0, 1, rfl, hb, by simp, Nat.le_refl _, by simp [maxLen], fun j hj => by
    obtain rfl : j = 0 := by omega
    exact ⟨by rw [Nat.zero_add, (Blk.made w t #[u]).at_ (v := u) rfl]; rfl, (Blk.made w t #[u]).free _⟩, fun j x hx => by
    have hj : j < 1 := by have := (List.getElem?_eq_some_iff.1 hx).1; simpa using this
    obtain rfl : j = 0 := by omega
    rw [Nat.zero_add, (Blk.made w t #[u]).at_ (v := u) rfl]
    simpa using hx⟩
theorem below_many {B : Nat} {w w' : World} (h : Below B w w') (n : Nat) : Below B w (w'.drewN n) := ⟨h.os, h.tape, h.output, h.size, h.block⟩
end Go.Proofs.Ytbfgnlckmpnchaa

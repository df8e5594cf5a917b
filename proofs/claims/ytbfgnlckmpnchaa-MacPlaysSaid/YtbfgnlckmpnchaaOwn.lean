/-
  WORDS OF MY OWN FOR A SLICE THAT THE CALL ITSELF HAS BUILT, resliced or not, its elements one cell each; append onto it. Nothing of the program is named here.
-/
import Derived.Test.YtbfgnlckmpnchaaMem
import Derived.ArgAppend
import Derived.OwnWalk
namespace Go.Proofs.Ytbfgnlckmpnchaa
open Go.RowKit

/-- The slice value v holds the cells xs; it is nil, or lies in a row from block 'base' on, of whose places up to its capacity none is frozen. -/
def Own (w : World) (base : Nat) (v : Value) (xs : List Value) : Prop :=
  (v = .slice none 0 0 ∧ xs = []) ∨
  ∃ g off cap, v = .slice (some ⟨g, off, none⟩) xs.length cap ∧ base ≤ g ∧ g < w.heap.size ∧ xs.length ≤ cap ∧ cap ≤ maxLen ∧
    (∀ j, j < cap → (w.cell? ⟨g, off + j, none⟩).isSome = true ∧ w.frozen? ⟨g, off + j, none⟩ = false) ∧ ∀ i u, xs[i]? = some u → w.cell? ⟨g, off + i, none⟩ = some u

section
variable {w w' : World} {base : Nat} {v : Value} {xs : List Value}
theorem Own.nil (w : World) (base : Nat) : Own w base (.slice none 0 0) [] := .inl ⟨rfl, rfl⟩
theorem Own.keep (h : Own w base v xs) (hs : w.heap.size ≤ w'.heap.size) (hk : ∀ k, base ≤ k → k < w.heap.size → v.ownBlock = some k → w'.heap[k]? = w.heap[k]?) : Own w' base v xs := by
  rcases h with h | ⟨g, off, cap, rfl, h1, h2, h3, h4, h5, h6⟩
  · exact .inl h
  · have hb : w'.heap[g]? = w.heap[g]? := hk g h1 h2 rfl
    exact .inr ⟨g, off, cap, rfl, h1, by omega, h3, h4, fun j hj => ⟨(congrArg Option.isSome (World.cell?_of_block (a := ⟨g, off + j, none⟩) hb)).trans (h5 j hj).1, (World.frozen?_of_block (a := ⟨g, off + j, none⟩) hb).trans (h5 j hj).2⟩,
      fun i u hu => (World.cell?_of_block (a := ⟨g, off + i, none⟩) hb).trans (h6 i u hu)⟩
theorem Own.keeps {rows : List Nat} (h : Own w base v xs) (hk : Keeps rows w w') (hr : ∀ k ∈ rows, v.ownBlock ≠ some k) : Own w' base v xs :=
  h.keep hk.size fun k _ h2 h3 => hk.block k h2 fun hm => hr k hm h3
theorem Own.below (h : Own w base v xs) (hb : Below w.heap.size w w') : Own w' base v xs := h.keep hb.size fun k _ h2 _ => hb.block k h2
theorem Own.alloc (h : Own w base v xs) (o : Obj) : Own (w.alloc o) base v xs := h.keep (by simp) fun k _ h2 _ => Below.heap_alloc w o k h2
theorem Own.drew (h : Own w base v xs) : Own w.drew base v xs := h
theorem Own.mono {B : Nat} (h : Own w base v xs) (hB : B ≤ base) : Own w B v xs := by
  rcases h with h | ⟨g, off, cap, rfl, h1, h2⟩
  · exact .inl h
  · exact .inr ⟨g, off, cap, rfl, by omega, h2⟩
theorem Own.setCell (h : Own w base v xs) {p : Addr} (hp : v.ownBlock ≠ some p.block) (u : Value) : Own (w.setCell p u) base v xs :=
  h.keep (by simp [World.setCell]) fun k _ _ h3 => Below.heap_setCell w p u k fun e => hp (by rw [← e]; exact h3)
/-- Its row lies from base on. -/
theorem Own.row (h : Own w base v xs) : ∀ k, v.ownBlock = some k → base ≤ k ∧ k < w.heap.size := by
  intro k hk
  rcases h with ⟨rfl, _⟩ | ⟨g, off, cap, rfl, h1, h2, _⟩
  · cases hk
  · simp [Value.ownBlock] at hk; subst hk; exact ⟨h1, h2⟩
theorem Own.ne (h : Own w base v xs) {k : Nat} (hk : k < base) : v.ownBlock ≠ some k := fun e => by have := (h.row k e).1; omega
/-- The value's shape. -/
theorem Own.form (h : Own w base v xs) : ∃ a cap, v = .slice a xs.length cap ∧ xs.length ≤ cap ∧ cap ≤ maxLen ∧ ∀ i : Nat, i < xs.length → ∃ g off, a = some ⟨g, off, none⟩ ∧ base ≤ g ∧ g < w.heap.size ∧ ∀ (j : Nat) (hj : j < xs.length), w.cell? ⟨g, off + j, none⟩ = some xs[j] := by
  rcases h with ⟨rfl, rfl⟩ | ⟨g, off, cap, rfl, h1, h2, h3, h4, _, h6⟩
  · exact ⟨none, 0, rfl, by simp, by simp [maxLen], fun i hi => by simp at hi⟩
  · exact ⟨_, cap, rfl, h3, h4, fun i hi => ⟨g, off, rfl, h1, h2, fun j hj => h6 j _ (List.getElem?_eq_getElem hj)⟩⟩
theorem Own.at_ {a : Option Addr} {n c i : Nat} (h : Own w base (.slice a n c) xs) (hi : i < xs.length) : ∃ g off, a = some ⟨g, off, none⟩ ∧ base ≤ g ∧ g < w.heap.size ∧ w.cell? ⟨g, off + i, none⟩ = some xs[i] := by
  obtain ⟨a', cap, e, _, _, h2⟩ := h.form
  injection e with e1 _ _
  subst e1
  obtain ⟨g, off, ha, hb, hg, hc⟩ := h2 i hi
  exact ⟨g, off, ha, hb, hg, hc i hi⟩
theorem Own.len_le (h : Own w base v xs) : xs.length ≤ maxLen := by
  obtain ⟨a, cap, _, h1, h2, _⟩ := h.form
  exact Nat.le_trans h1 h2
theorem own_of_row {e : TypeId} {n : Nat} (h : w.ownsRow base e 1 v n xs) : Own w base v xs := by
  obtain ⟨h1, h2⟩ := h
  rcases h2 with ⟨rfl, rfl⟩ | ⟨g, cap, cur, rfl, hb, hg, hn, hm, hc, ht⟩
  · exact .inl ⟨rfl, List.eq_nil_of_length_eq_zero (by simpa using h1)⟩
  · have hB : Blk w g e cur := hg
    have hl : xs.length = n := by simpa using h1
    refine .inr ⟨g, 0, cap, by rw [hl], hb, hB.lt, by omega, hm, fun j hj => ⟨?_, ?_⟩, fun i u hu => ?_⟩
    · rw [hB.cell]; simp; omega
    · exact hB.free _
    · rw [hB.cell]
      have hi : i < n := by
        have := (List.getElem?_eq_some_iff.1 hu).1
        omega
      rw [← ht, Nat.mul_one, List.getElem?_take_of_lt hi] at hu
      simpa using hu
end

section
variable {P : Program} (w : World)
theorem grown_setCells (b : Nat) : ∀ (vs : List Value) (o : Nat) (w : World), w.grownBy (w.setCells b o vs) (some b)
  | [], _, w => World.grownBy.refl w _
  | v :: vs, o, w => by
    have h := grown_setCells b vs (o + 1) (w.setCell ⟨b, o, none⟩ v)
    refine ⟨h.os, h.tape, h.output, by have := h.size; simpa [World.setCell, World.setCells] using this, fun k hk hr => ?_⟩
    have h1 := h.block k (by simpa [World.setCell] using hk) hr
    exact h1.trans (Below.heap_setCell w ⟨b, o, none⟩ v k (fun e => hr (by rw [e])))
/-- append onto an owned slice, as the machine runs it. -/
theorem run_append_Own (base : Nat) (t ty e : TypeId) (i : TypeInfo) (z : Value) (bytes : Nat) (ht : P.underlying t = some (.slice e)) (hi : P.info? e = some i) (hz : i.zero = some z)
    (hsize : i.size = 1) (hby : i.bytes = bytes) (hzs : z.cells.size = 1) (v : Value) (xs : List Value) (hown : Own w base v xs)
    (ad : Addr) (c : Nat) (news : List Value) (hnews : ∀ j u, news[j]? = some u → w.cell? (ad.add j) = some u) (h1 : ∀ u ∈ news, u.oneCell' = true)
    (h63 : xs.length + news.length ≤ maxLen) (hbytes : (xs.length + news.length) * bytes ≤ 140737488355328) (hbase : base ≤ w.heap.size) :
    ∃ v' w', (Builtin.append_ #[t, t] ty #[v, .slice (some ad) news.length c]).run P w = .ok v' w' ∧ Own w' base v' (xs ++ news) ∧ w.grownBy w' v.ownBlock ∧ (∀ k, v'.ownBlock = some k → v.ownBlock = some k ∨ w.heap.size ≤ k) := by
  rcases hown with ⟨rfl, rfl⟩ | ⟨g, off, cap, rfl, hb, hg, hn, hm, hc, hx⟩
  · have hown0 : w.ownsRow w.heap.size e 1 (.slice none 0 0) 0 [] := World.ownsRow_nil _ _ _ _
    obtain ⟨v', w', hr, h2, h3, _⟩ := run_append_own (P := P) w w.heap.size t ty e i z 1 bytes ht hi hz hsize hby hzs (by omega) (.slice none 0 0) 0 [] hown0 ad news.length c news (by omega) hnews h1 (by simpa using h63) (by simpa using hbytes) (Nat.le_refl _)
    exact ⟨v', w', hr, (own_of_row h2).mono hbase, h3, fun k hk => .inr (h2.lt k hk).1⟩
  · by_cases hroom : xs.length + news.length ≤ cap
    · have hcell : ∀ j, j < news.length → (w.cell? ⟨g, off + xs.length * i.size + j, none⟩).isSome = true := fun j hj => by
        rw [hsize, Nat.mul_one, Nat.add_assoc]; exact (hc _ (by omega)).1
      have hrun := run_append_room_cells (P := P) w t ty e i ht hi g off xs.length cap ad news.length c news (by rw [hsize, Nat.mul_one]) hnews h1 hroom hcell
        (fun j hj => by rw [hsize, Nat.mul_one, Nat.add_assoc]; exact (hc _ (by omega)).2)
      rw [hsize, Nat.mul_one] at hrun
      simp only [hsize, Nat.mul_one] at hcell
      have hG := grown_setCells g news (off + xs.length) w
      refine ⟨_, _, hrun, .inr ⟨g, off, cap, by rw [List.length_append], hb, Nat.lt_of_lt_of_le hg hG.size, by simpa using hroom, hm, fun j hj => ⟨?_, ?_⟩, fun k u hu => ?_⟩, hG, fun _ h => .inl h⟩
      · by_cases hj2 : xs.length ≤ j ∧ j < xs.length + news.length
        · have := World.cell?_setCells_in g news (off + xs.length) w hcell (j - xs.length) (by omega)
          rw [show off + xs.length + (j - xs.length) = off + j by omega] at this
          rw [this]; rfl
        · rw [World.cell?_setCells_out g news (off + xs.length) w ⟨g, off + j, none⟩ (fun _ _ => by simp only; omega)]
          exact (hc j hj).1
      · rw [World.frozen?_setCells]; exact (hc j hj).2
      · by_cases hk : k < xs.length
        · rw [World.cell?_setCells_out g news (off + xs.length) w ⟨g, off + k, none⟩ (fun _ _ => by simp only; omega)]
          rw [List.getElem?_append_left hk] at hu
          exact hx k u hu
        · rw [List.getElem?_append_right (by omega)] at hu
          obtain ⟨hlt, rfl⟩ := List.getElem?_eq_some_iff.1 hu
          have := World.cell?_setCells_in g news (off + xs.length) w hcell (k - xs.length) hlt
          rwa [show off + xs.length + (k - xs.length) = off + k by omega] at this
    · obtain ⟨v', w', hr, h2, h3⟩ := run_append_arg_grows (P := P) w t ty e i z 1 bytes ht hi hz hsize hby hzs (by omega) ⟨g, off, none⟩ xs.length cap xs (by omega)
        (fun j u hu => by rw [Addr.add_lit]; exact hx j u hu) ad news.length c news (by omega) hnews (by omega) h63 hbytes
      exact ⟨v', w', hr, (own_of_row h2).mono hbase, ⟨h3.os, h3.tape, h3.output, h3.size, fun k hk _ => h3.block k hk (by simp)⟩, fun k hk => .inr (h2.lt k hk).1⟩
/-- append onto an owned slice, as a law of the walk. -/
theorem wpList_append_Own {ops : Array Oper} {rest : List Oper} {o : Oper} {a : Act} {Q : Exit → Act → World → Prop} (hgd : o.guard = none) (s x : Operand) (t : TypeId)
    (ho : o.op = .call { callee := .builtin .append, args := #[s, x], argTypes := #[t, t] })
    (base : Nat) (e : TypeId) (i : TypeInfo) (z : Value) (bytes : Nat) (ht : P.underlying t = some (.slice e)) (hi : P.info? e = some i) (hz : i.zero = some z)
    (hsize : i.size = 1) (hby : i.bytes = bytes) (hzs : z.cells.size = 1) (v : Value) (xs : List Value) (hs : a.eval s = v) (hown : Own w base v xs)
    (ad : Addr) (m c : Nat) (news : List Value) (hx : a.eval x = .slice (some ad) m c) (hm : m = news.length) (hnews : ∀ j u, news[j]? = some u → w.cell? (ad.add j) = some u) (h1 : ∀ u ∈ news, u.oneCell' = true)
    (h63 : xs.length + news.length ≤ maxLen) (hbytes : (xs.length + news.length) * bytes ≤ 140737488355328) (hbase : base ≤ w.heap.size)
    (h : ∀ v' w', Own w' base v' (xs ++ news) → w.grownBy w' v.ownBlock → (∀ k, v'.ownBlock = some k → v.ownBlock = some k ∨ w.heap.size ≤ k) → wpList P ops Q rest (a.put o.dst v') w') : wpList P ops Q (o :: rest) a w := by
  refine wpList_plain hgd fun K hK => ?_
  subst hm
  obtain ⟨v', w', hr, h2, h3, h4⟩ := run_append_Own (P := P) w base t o.type e i z bytes ht hi hz hsize hby hzs v xs hown ad c news hnews h1 h63 hbytes hbase
  unfold Oper.wp execOp
  simp only [ho, resolve, invoke, builtin, Sem.run_bind, Sem.run_pure, Result.andThen_ok, List.map_toArray, List.map_cons, List.map_nil, hs, hx, hr]
  exact hK _ _ (h v' w' h2 h3 h4)
/-- The same for one element, which the translation has laid in a block of its own. -/
theorem wpList_append_one {ops : Array Oper} {rest : List Oper} {o : Oper} {a : Act} {Q : Exit → Act → World → Prop} (hgd : o.guard = none) (s x : Operand) (t : TypeId)
    (ho : o.op = .call { callee := .builtin .append, args := #[s, x], argTypes := #[t, t] })
    (base : Nat) (e : TypeId) (i : TypeInfo) (z : Value) (bytes : Nat) (ht : P.underlying t = some (.slice e)) (hi : P.info? e = some i) (hz : i.zero = some z)
    (hsize : i.size = 1) (hby : i.bytes = bytes) (hzs : z.cells.size = 1) (v : Value) (xs : List Value) (hs : a.eval s = v) (hown : Own w base v xs)
    (g c : Nat) (u : Value) (hx : a.eval x = .slice (some ⟨g, 0, none⟩) 1 c) (hu : w.cell? ⟨g, 0, none⟩ = some u) (h1 : u.oneCell' = true)
    (hn : xs.length < 1099511627776) (hb64 : bytes ≤ 64) (hbase : base ≤ w.heap.size)
    (h : ∀ v' w', Own w' base v' (xs ++ [u]) → w.grownBy w' v.ownBlock → (∀ k, v'.ownBlock = some k → v.ownBlock = some k ∨ w.heap.size ≤ k) → wpList P ops Q rest (a.put o.dst v') w') : wpList P ops Q (o :: rest) a w := by
  refine wpList_append_Own w hgd s x t ho base e i z bytes ht hi hz hsize hby hzs v xs hs hown ⟨g, 0, none⟩ 1 c [u] hx rfl (fun j u' hj => ?_) (fun u' hu' => ?_) ?_ ?_ hbase h
  · match j, hj with
    | 0, hj => simp at hj; subst hj; exact hu
  · simp at hu'; subst hu'; exact h1
  · simp only [List.length_singleton, maxLen]; omega
  · simp only [List.length_singleton]
    have : (xs.length + 1) * bytes ≤ (xs.length + 1) * 64 := Nat.mul_le_mul_left _ hb64
    omega
end
end Go.Proofs.Ytbfgnlckmpnchaa

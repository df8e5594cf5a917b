/-
  WORDS OF MY OWN: append onto an owned slice (Own) of whatever source the kit's 'Src' tells: a slice, nil, a string's bytes. Nothing of the program is named here.
-/
import Derived.Test.YtbfgnlckmpnchaaOwn
import Derived.Deep.Upon
namespace Go.Proofs.Ytbfgnlckmpnchaa
open Go.RowKit
section
variable {P : Program} (w : World)
theorem run_append_src (base : Nat) (t tx ty e : TypeId) (i : TypeInfo) (z : Value) (bytes : Nat) (ht : P.underlying t = some (.slice e)) (hi : P.info? e = some i) (hz : i.zero = some z)
    (hsize : i.size = 1) (hby : i.bytes = bytes) (hzs : z.cells.size = 1) (v : Value) (xs : List Value) (hown : Own w base v xs) (x : Value) (n : Nat) (news : List Value) (hs : Src P 1 tx x n news w)
    (h63 : xs.length + n ≤ maxLen) (hbytes : (xs.length + n) * bytes ≤ 140737488355328) (hbase : base ≤ w.heap.size) :
    ∃ v' w', (Builtin.append_ #[t, tx] ty #[v, x]).run P w = .ok v' w' ∧ Own w' base v' (xs ++ news) ∧ w.grownBy w' v.ownBlock ∧ (∀ k, v'.ownBlock = some k → v.ownBlock = some k ∨ w.heap.size ≤ k) := by
  have hnl : news.length = n := by simpa using hs.newsLen
  have hs' : Src P i.size tx x n news w := by rw [hsize]; exact hs
  have hsmall : xs.length + n ≤ 9223372036854775807 := by simp only [maxLen] at h63; omega
  have grow : ∀ (bs : Option Addr) (sc : Nat), v = .slice bs xs.length sc → sc < xs.length + n → (Builtin.firstCells i.size xs.length (.slice bs xs.length sc)).run P w.drew = .ok xs.toArray w.drew →
      ∃ v' w', (Builtin.append_ #[t, tx] ty #[v, x]).run P w = .ok v' w' ∧ Own w' base v' (xs ++ news) ∧ w.grownBy w' v.ownBlock ∧ (∀ k, v'.ownBlock = some k → v.ownBlock = some k ∨ w.heap.size ≤ k) := by
    rintro bs sc rfl hg hold
    have hrun := run_append_grow_src (P := P) w t tx ty e i z ht hi hz bs xs.length sc xs hold x n news hs' hg (by omega) (growslice_fits hg (by rw [hby]; exact hbytes))
    have hge := grownCap_ge w (xs.length + n) sc e
    have hcm := grownCap_le_maxLen w (xs.length + n) sc e h63
    have hB := Blk.made w.drew e ((xs ++ news).toArray ++ Builtin.zeroCells z.cells (grownCap w (xs.length + n) sc e - (xs.length + n)))
    have hl : (xs ++ news).length = xs.length + n := by rw [List.length_append, hnl]
    have hzl : (Builtin.zeroCells z.cells (grownCap w (xs.length + n) sc e - (xs.length + n))).size = grownCap w (xs.length + n) sc e - (xs.length + n) := by
      simp [Builtin.zeroCells, hzs]
    refine ⟨_, _, hrun, .inr ⟨w.heap.size, 0, _, by rw [hl], hbase, by simp, by omega, hcm, fun j hj => ⟨?_, hB.free _⟩, fun k u hu => ?_⟩, ⟨rfl, rfl, rfl, by simp, fun k hk _ => Below.heap_alloc w.drew _ k hk⟩, fun k hk => .inr ?_⟩
    · rw [Nat.zero_add]
      have := hB.cell j
      rw [show (⟨w.heap.size, j, none⟩ : Addr) = ⟨w.drew.heap.size, j, none⟩ from rfl, this]
      simp only [Option.isSome_iff_exists]
      exact ⟨_, Array.getElem?_eq_getElem (by simp only [Array.size_append, List.size_toArray]; rw [hl, hzl]; omega)⟩
    · rw [Nat.zero_add]
      have := hB.cell k
      rw [show (⟨w.heap.size, k, none⟩ : Addr) = ⟨w.drew.heap.size, k, none⟩ from rfl, this]
      have hk : k < (xs ++ news).length := (List.getElem?_eq_some_iff.1 hu).1
      rw [Array.getElem?_append_left (by simpa using hk), List.getElem?_toArray]
      exact hu
    · simp [Value.ownBlock] at hk; omega
  rcases hown with ⟨rfl, rfl⟩ | ⟨g, off, cap, rfl, hb, hg, hn, hm, hc, hx⟩
  · by_cases h0 : n = 0
    · subst h0
      obtain rfl : news = [] := List.eq_nil_of_length_eq_zero hnl
      have hrun := run_append_nothing (P := P) w t tx ty e i ht hi none 0 0 (Nat.le_refl _) x hs'
      exact ⟨_, _, hrun, .inl ⟨rfl, rfl⟩, World.grownBy.refl w _, fun k hk => .inl hk⟩
    · refine grow none 0 rfl (by simp; omega) ?_
      exact run_firstCells_none w.drew i.size 0 0 0
  · by_cases hroom : xs.length + n ≤ cap
    · have hcell : ∀ j, j < news.length → (w.cell? ⟨g, off + xs.length * i.size + j, none⟩).isSome = true := fun j hj => by
        rw [hsize, Nat.mul_one, Nat.add_assoc]; exact (hc _ (by omega)).1
      have hrun := run_append_room_src (P := P) w t tx ty e i ht hi g off xs.length cap x n news hs' hroom hcell
        (fun j hj => by rw [hsize, Nat.mul_one, Nat.add_assoc]; exact (hc _ (by omega)).2)
      rw [hsize, Nat.mul_one] at hrun
      simp only [hsize, Nat.mul_one] at hcell
      have hG := grown_setCells g news (off + xs.length) w
      refine ⟨_, _, hrun, .inr ⟨g, off, cap, by rw [List.length_append, hnl], hb, Nat.lt_of_lt_of_le hg hG.size, by rw [List.length_append, hnl]; exact hroom, hm, fun j hj => ⟨?_, ?_⟩, fun k u hu => ?_⟩, hG, fun _ h => .inl h⟩
      · by_cases hj2 : xs.length ≤ j ∧ j < xs.length + news.length
        · have := World.cell?_setCells_in g news (off + xs.length) w hcell (j - xs.length) (by omega)
          rw [show off + xs.length + (j - xs.length) = off + j by omega] at this
          rw [this]; rfl
        · rw [World.cell?_setCells_out g news (off + xs.length) w ⟨g, off + j, none⟩ (fun _ _ => by simp only; omega)]
          exact (hc j hj).1
      · rw [World.frozen?_setCells]; exact (hc j hj).2
      · by_cases hk : k < xs.length
        · rw [World.cell?_setCells_out g news (off + xs.length) w ⟨g, off + k, none⟩ (fun _ _ => by simp only; omega)]
          rw [List.getElem?_append_left hk] at hu
          exact hx k u hu
        · rw [List.getElem?_append_right (by omega)] at hu
          obtain ⟨hlt, rfl⟩ := List.getElem?_eq_some_iff.1 hu
          have := World.cell?_setCells_in g news (off + xs.length) w hcell (k - xs.length) hlt
          rwa [show off + xs.length + (k - xs.length) = off + k by omega] at this
    · refine grow _ _ rfl (by omega) ?_
      exact run_firstCells_some w.drew i.size xs.length ⟨g, off, none⟩ xs.length cap xs (by rw [hsize, Nat.mul_one]) (fun j u hu => by rw [Addr.add_lit]; exact hx j u hu)
/-- .. as a law of the walk. -/
theorem wpList_append_src {ops : Array Oper} {rest : List Oper} {o : Oper} {a : Act} {Q : Exit → Act → World → Prop} (hgd : o.guard = none) (s x : Operand) (t tx : TypeId)
    (ho : o.op = .call { callee := .builtin .append, args := #[s, x], argTypes := #[t, tx] })
    (base : Nat) (e : TypeId) (i : TypeInfo) (z : Value) (bytes : Nat) (ht : P.underlying t = some (.slice e)) (hi : P.info? e = some i) (hz : i.zero = some z)
    (hsize : i.size = 1) (hby : i.bytes = bytes) (hzs : z.cells.size = 1) (v : Value) (xs : List Value) (hs : a.eval s = v) (hown : Own w base v xs)
    (xv : Value) (n : Nat) (news : List Value) (hx : a.eval x = xv) (hsrc : Src P 1 tx xv n news w)
    (h63 : xs.length + n ≤ 1099511627776) (hb64 : bytes ≤ 64) (hbase : base ≤ w.heap.size)
    (h : ∀ v' w', Own w' base v' (xs ++ news) → w.grownBy w' v.ownBlock → (∀ k, v'.ownBlock = some k → v.ownBlock = some k ∨ w.heap.size ≤ k) → wpList P ops Q rest (a.put o.dst v') w') : wpList P ops Q (o :: rest) a w := by
  refine wpList_plain hgd fun K hK => ?_
  have h2 : (xs.length + n) * bytes ≤ (xs.length + n) * 64 := Nat.mul_le_mul_left _ hb64
  obtain ⟨v', w', hr, h2, h3, h4⟩ := run_append_src (P := P) w base t tx o.type e i z bytes ht hi hz hsize hby hzs v xs hown xv n news hsrc (by simp only [maxLen]; omega) (by omega) hbase
  unfold Oper.wp execOp
  simp only [ho, resolve, invoke, builtin, Sem.run_bind, Sem.run_pure, Result.andThen_ok, List.map_toArray, List.map_cons, List.map_nil, hs, hx, hr]
  exact hK _ _ (h v' w' h2 h3 h4)
/-- What an owned slice yields as a source. -/
theorem Own.src {w : World} {base : Nat} {v : Value} {xs : List Value} (h : Own w base v xs) {t e : TypeId} (ht : P.underlying t = some (.slice e)) (h1 : ∀ u ∈ xs, u.oneCell' = true) : Src P 1 t v xs.length xs w := by
  rcases h with ⟨rfl, rfl⟩ | ⟨g, off, cap, rfl, _, _, _, _, _, hx⟩
  · exact Src.ofNil w ht 0
  · exact Src.ofSlice w ht _ _ _ _ (by simp) (fun j u hu => by rw [Addr.add_lit]; exact hx j u hu) h1
end
end Go.Proofs.Ytbfgnlckmpnchaa

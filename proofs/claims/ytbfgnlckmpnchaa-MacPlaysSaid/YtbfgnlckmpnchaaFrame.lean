/-
  WORDS OF MY OWN FOR THE ROW's STEP: what an argument that came in holds: a slice of integers, texts, Bools or pairs, as a list; an array of integers, as a function of the index. Nothing of the program is named here.
-/
import Derived.Test.YtbfgnlckmpnchaaArgs
import Derived.OpenShut
import Derived.ShutString
import Derived.ChangeOld
import Derived.Carry
import Derived.ChangeSlices
import Derived.SliceStrings
import Derived.Deep.Grids
import Derived.Deep.SlicePairs
namespace Go.Proofs.Ytbfgnlckmpnchaa
open Go.RowKit Go.ChangeShapes Go.WideShapes

theorem InRow.mk' {α : Type} {val : α → Value} {w : World} {x : Addr} {len cap : Nat} {us : List α} (hl : len ≤ cap) (hm : cap ≤ maxLen) (hu : us.length = cap) (hc : ∀ (i : Nat) (h : i < us.length), w.cell? (x.add i) = some (val us[i])) :
    InRow val w (some x) len (us.take len) := by
  unfold maxLen at hm
  refine ⟨by simp; omega, by omega, ?_⟩
  by_cases h0 : len = 0
  · exact .inl h0
  · right
    obtain ⟨b, off, spot⟩ := x
    have h1 := hc 0 (by omega)
    have hs : spot = none := by simpa [Addr.add] using World.cell?_spot h1
    subst hs
    have hb : b < w.heap.size := by
      rcases Nat.lt_or_ge b w.heap.size with hlt | hge
      · exact hlt
      · simp [Addr.add, World.cell?, Array.getElem?_eq_none hge] at h1
    refine ⟨b, off, rfl, hb, fun j hj => ?_⟩
    have hj' : j < len := by simp at hj; omega
    have := hc j (by omega)
    rw [Addr.add_lit] at this
    rw [this]
    simp

section
variable {H : Type} {enc : TypeId × Value → H} {P : Program} {w : World} {t e : TypeId} {a : Option Addr} {len cap : Nat} {d : DataW H} {ps : List MemPlace}
theorem in_ints {α : Type} {val : α → Value} (toInt : α → Int) (k : IntKind) (hof : ∀ n, (Lit.int k n).wf = true → ∃ x, n = toInt x) (hval : ∀ x, val x = .int k (toInt x))
    (ht : P.underlying t = some (.slice e)) (he : P.underlying e = some (.int k)) (hc : P.cellsOf e = 1) (h : DataW.Trod enc P w 0 (fun _ => true) true t (.slice a len cap) d ps) : ∃ us : List α, InRow val w a len us := by
  obtain ⟨fuel, hf⟩ := h
  rcases open_ints ht he hc hf with ⟨hcs, _⟩ | ⟨x, l, c, zs, hcs, _, hl, hm, hz, _, hcell, hwz⟩
  · simp [Value.cells] at hcs
    obtain ⟨rfl, rfl, rfl⟩ := hcs
    exact ⟨[], rfl, by omega, .inl rfl⟩
  · simp [Value.cells] at hcs
    obtain ⟨rfl, rfl, rfl⟩ := hcs
    exact inRow_of toInt k hof hval (.inr ⟨_, rfl, hl, hm, by simpa using hz, hcell, hwz⟩)
theorem in_texts (ht : P.underlying t = some (.slice e)) (he : P.underlying e = some .string) (hc : P.cellsOf e = 1) (h : DataW.Trod enc P w 0 (fun _ => true) true t (.slice a len cap) d ps) : ∃ us : List ByteArray, InRow Value.string w a len us := by
  obtain ⟨fuel, hf⟩ := h
  rcases open_strings ht he hc hf with ⟨hcs, _⟩ | ⟨x, l, c, ss, hcs, _, hl, hm, hz, _, hcell, hwz⟩
  · simp [Value.cells] at hcs
    obtain ⟨rfl, rfl, rfl⟩ := hcs
    exact ⟨[], rfl, by omega, .inl rfl⟩
  · simp [Value.cells] at hcs
    obtain ⟨rfl, rfl, rfl⟩ := hcs
    exact ⟨_, InRow.mk' hl hm (by simpa using hz) fun i hi => by rw [hcell i hi]; simp [hi]⟩
theorem in_bools (ht : P.underlying t = some (.slice e)) (he : P.underlying e = some .bool) (hc : P.cellsOf e = 1) (h : DataW.Trod enc P w 0 (fun _ => true) true t (.slice a len cap) d ps) : ∃ us : List Bool, InRow Value.bool w a len us := by
  obtain ⟨fuel, hf⟩ := h
  rcases Go.Deep.open_bools ht he hc hf with ⟨hcs, _⟩ | ⟨x, l, c, B, hcs, _, hl, hm, _, hcell⟩
  · simp [Value.cells] at hcs
    obtain ⟨rfl, rfl, rfl⟩ := hcs
    exact ⟨[], rfl, by omega, .inl rfl⟩
  · simp [Value.cells] at hcs
    obtain ⟨rfl, rfl, rfl⟩ := hcs
    exact ⟨_, InRow.mk' (us := (List.range cap).map B) hl hm (by simp) fun i hi => by rw [hcell i (by simpa using hi)]; simp⟩
/-- A slice of pairs, each of two cells. -/
def InPairs {α β : Type} (val : α → Value) (val' : β → Value) (w : World) (a : Option Addr) (len : Nat) (us : List (α × β)) : Prop :=
  us.length = len ∧ len ≤ 9223372036854775807 ∧ (len = 0 ∨ ∃ b off, a = some ⟨b, off, none⟩ ∧ b < w.heap.size ∧
    ∀ (k : Nat) (h : k < us.length), w.cell? ⟨b, off + k * 2, none⟩ = some (val us[k].1) ∧ w.cell? ⟨b, off + k * 2 + 1, none⟩ = some (val' us[k].2))
theorem in_pairs {α β : Type} {val : α → Value} {val' : β → Value} {f0 f1 : Field} (ht : P.underlying t = some (.slice e)) (he : P.underlying e = some (.struct #[f0, f1]))
    (ce : P.cellsOf e = 2) (o0 : f0.offset = 0) (o1 : f1.offset = 1) (c0 : P.cellsOf f0.type = 1) (c1 : P.cellsOf f1.type = 1)
    (h0 : ∀ n v x, DataW.trod enc P w 0 (fun _ => true) true n f0.type [v] = some x → ∃ u : α, v = val u) (h1 : ∀ n v x, DataW.trod enc P w 0 (fun _ => true) true n f1.type [v] = some x → ∃ u : β, v = val' u)
    (h : DataW.Trod enc P w 0 (fun _ => true) true t (.slice a len cap) d ps) : ∃ us : List (α × β), InPairs val val' w a len us := by
  obtain ⟨fuel, hf⟩ := h
  rcases Go.Deep.open_slice_pairs ht he ce o0 o1 c0 c1 hf with ⟨hcs, _⟩ | ⟨x, l, c, m, n, V0, V1, D0, D1, P0, P1, hcs, _, hl, hm, hmm, _, hx⟩
  · simp [Value.cells] at hcs
    obtain ⟨rfl, rfl, rfl⟩ := hcs
    exact ⟨[], rfl, by omega, .inl rfl⟩
  · simp [Value.cells] at hcs
    obtain ⟨rfl, rfl, rfl⟩ := hcs
    simp only [if_true] at hmm
    subst hmm
    unfold maxLen at hm
    have each : ∀ j, j ≤ len → ∃ us : List (α × β), us.length = j ∧ ∀ (k : Nat) (hk : k < us.length), V0 k = val us[k].1 ∧ V1 k = val' us[k].2 := by
      intro j
      induction j with
      | zero => intro _; exact ⟨[], rfl, fun k hk => by simp at hk⟩
      | succ j ih =>
        intro hj
        obtain ⟨us, hu, hk⟩ := ih (by omega)
        obtain ⟨_, _, g0, g1⟩ := hx j (by omega)
        obtain ⟨u0, e0⟩ := h0 _ _ _ g0
        obtain ⟨u1, e1⟩ := h1 _ _ _ g1
        refine ⟨us ++ [(u0, u1)], by simp [hu], fun k hk' => ?_⟩
        by_cases hkj : k < us.length
        · rw [List.getElem_append_left hkj]; exact hk k hkj
        · have : k = us.length := by simp at hk'; omega
          subst this
          rw [List.getElem_append_right (Nat.le_refl _)]
          simp only [Nat.sub_self, List.getElem_cons_zero]
          rw [hu]; exact ⟨e0, e1⟩
    obtain ⟨us, hu, hk⟩ := each len (Nat.le_refl _)
    refine ⟨us, hu, by omega, ?_⟩
    by_cases h0 : len = 0
    · exact .inl h0
    · right
      obtain ⟨b, off, spot⟩ := x
      have h1 := (hx 0 (by omega)).1
      have hs : spot = none := by simpa [Addr.add] using World.cell?_spot h1
      subst hs
      have hb : b < w.heap.size := by
        rcases Nat.lt_or_ge b w.heap.size with hlt | hge
        · exact hlt
        · simp [Addr.add, World.cell?, Array.getElem?_eq_none hge] at h1
      refine ⟨b, off, rfl, hb, fun j hj => ?_⟩
      obtain ⟨g0, g1, _⟩ := hx j (by omega)
      obtain ⟨k0, k1⟩ := hk j hj
      rw [Addr.add_lit] at g0 g1
      rw [← k0, ← k1, ← Nat.add_assoc] at *
      exact ⟨g0, g1⟩
theorem trod_ints_of {α : Type} {val : α → Value} (toInt : α → Int) (k : IntKind) (hof : ∀ n, (Lit.int k n).wf = true → ∃ x, n = toInt x) (hval : ∀ x, val x = .int k (toInt x)) (he : P.underlying e = some (.int k))
    (n : Nat) (v : Value) (x : DataW H × List MemPlace) (h : DataW.trod enc P w 0 (fun _ => true) true n e [v] = some x) : ∃ u : α, v = val u := by
  obtain ⟨z, e1, _, hw⟩ := DataW.trod_int he h
  obtain ⟨u, rfl⟩ := hof z hw
  simp at e1
  exact ⟨u, by rw [e1, hval]⟩
/-- An array of integers. -/
theorem in_array {α : Type} {val : α → Value} {r : Reach} {b0 n : Nat} {v : Value} (toInt : α → Int) (k : IntKind) (hof : ∀ n, (Lit.int k n).wf = true → ∃ x, n = toInt x) (hval : ∀ x, val x = .int k (toInt x)) (z : α)
    (ht : P.underlying t = some (.array n e)) (he : P.underlying e = some (.int k)) (hc : P.cellsOf e = 1) (ct : P.cellsOf t = n) (hv : Value.okWide P w r b0 t v) (h : DataW.Trod enc P w 0 (fun _ => true) true t v d ps) :
    ∃ f : Nat → α, v = .agg (arr n fun i => val (f i)) := by
  unfold Value.okWide at hv
  rw [ht] at hv
  obtain ⟨cs, rfl, hs, _⟩ := hv
  obtain ⟨fuel, hf⟩ := h
  obtain ⟨xs, m, rfl, _, hl, hn, hel⟩ := DataW.trod_array ht hf
  simp only [Value.cells] at hl hel
  rw [ct] at hl hs
  have each : ∀ i, ∃ u : α, ∀ hi : i < n, cs[i]'(by omega) = val u := by
    intro i
    by_cases hi : i < n
    · have h1 := hel i hi
      rw [hc, Nat.mul_one] at h1
      have h2 : (cs.toList.drop i).take 1 = [cs[i]'(by omega)] := by
        have hlt : i < cs.toList.length := by rw [hl]; exact hi
        rw [List.drop_eq_getElem_cons hlt]
        simp
      rw [h2, List.getElem?_eq_getElem (by omega)] at h1
      obtain ⟨u, hu⟩ := trod_ints_of toInt k hof hval he m _ _ h1
      exact ⟨u, fun _ => hu⟩
    · exact ⟨z, fun h => absurd h hi⟩
  refine ⟨fun i => (each i).choose, ?_⟩
  congr 1
  apply Array.ext
  · rw [arr_size, hs]
  · intro i h1 h2
    have hi : i < n := by omega
    rw [(each i).choose_spec hi]
    simp [arr]
end
end Go.Proofs.Ytbfgnlckmpnchaa

/-
  WORDS OF MY OWN FOR A SLICE OF UNSIGNED INTEGERS THAT CAME IN, READ AS A LIST. Nothing of the program is named here.
-/
import Derived.Test.YtbfgnlckmpnchaaVals
import Derived.Test.YtbfgnlckmpnchaaMem
namespace Go.Proofs.Ytbfgnlckmpnchaa
open Go.RowKit

/-- What a slice that came in says: it is empty; or it leads to a row of old cells that hold the values of the list. -/
def InRow {α : Type} (val : α → Value) (w : World) (a : Option Addr) (len : Nat) (us : List α) : Prop :=
  us.length = len ∧ len ≤ 9223372036854775807 ∧ (len = 0 ∨ ∃ b off, a = some ⟨b, off, none⟩ ∧ b < w.heap.size ∧ ∀ (k : Nat) (h : k < us.length), w.cell? ⟨b, off + k, none⟩ = some (val us[k]))

/-- The numbers of a row that fit their kind are those of a list of its own type. -/
theorem list_of {α : Type} (toInt : α → Int) (ok : Int → Prop) (hof : ∀ n, ok n → ∃ x, n = toInt x) : ∀ (zs : List Int), (∀ n ∈ zs, ok n) → ∃ us : List α, zs = us.map toInt
  | [], _ => ⟨[], rfl⟩
  | z :: zs, h => by
    obtain ⟨x, rfl⟩ := hof z (h z (by simp))
    obtain ⟨us, rfl⟩ := list_of toInt ok hof zs (fun n hn => h n (by simp [hn]))
    exact ⟨x :: us, rfl⟩
/-- From what the row's step hands over. -/
theorem inRow_of {α : Type} {val : α → Value} (toInt : α → Int) (k : IntKind) (hof : ∀ n, (Lit.int k n).wf = true → ∃ x, n = toInt x) (hval : ∀ x, val x = .int k (toInt x))
    {w : World} {a : Option Addr} {len cap : Nat} {zs : List Int}
    (h : (a = none ∧ len = 0 ∧ cap = 0 ∧ zs = []) ∨ ∃ x, a = some x ∧ len ≤ cap ∧ cap ≤ maxLen ∧ zs.length = cap ∧ (∀ i, i < zs.length → w.cell? (x.add i) = some (.int k (zs.getD i 0))) ∧ ∀ n ∈ zs, (Lit.int k n).wf = true) :
    ∃ us : List α, InRow val w a len us := by
  rcases h with ⟨rfl, rfl, rfl, rfl⟩ | ⟨x, rfl, hl, hm, hz, hc, hw⟩
  · exact ⟨[], rfl, by omega, .inl rfl⟩
  · obtain ⟨us, rfl⟩ := list_of toInt (fun n => (Lit.int k n).wf = true) hof zs hw
    have hu : us.length = cap := by simpa using hz
    unfold maxLen at hm
    refine ⟨us.take len, by simp; omega, by omega, ?_⟩
    by_cases h0 : len = 0
    · exact .inl h0
    · right
      obtain ⟨b, off, spot⟩ := x
      have h1 := hc 0 (by simp; omega)
      have hs : spot = none := by simpa [Addr.add] using World.cell?_spot h1
      subst hs
      have hb : b < w.heap.size := by
        rcases Nat.lt_or_ge b w.heap.size with hlt | hge
        · exact hlt
        · simp [Addr.add, World.cell?, Array.getElem?_eq_none hge] at h1
      refine ⟨b, off, rfl, hb, fun j hj => ?_⟩
      have hj' : j < len := by simp at hj; omega
      have := hc j (by simp; omega)
      rw [Addr.add_lit] at this
      rw [this, hval]
      simp [show j < us.length by omega]
end Go.Proofs.Ytbfgnlckmpnchaa

/-
  A SLICE OF BYTES THAT THE CALL ITSELF HAS BUILT, AS A TEXT. Nothing of the program is named here.
-/
import Derived.Test.YtbfgnlckmpnchaaOwn
import Derived.Test.YtbfgnlckmpnchaaText
namespace Go.Proofs.Ytbfgnlckmpnchaa
open Go.RowKit
theorem Own.back {P : Program} {w : World} {base : Nat} {v : Value} {l : List UInt8} (h : Own w base v (l.map v8)) (src dst e : TypeId) (hs : P.underlying src = some (.slice e)) (he : P.underlying e = some (.int .u8)) (hd : P.underlying dst = some .string) :
    (convert src dst v).run P w = .ok (.string (tx l)) w := by
  rcases h with ⟨rfl, h0⟩ | ⟨g, off, cap, rfl, h1, h2, h3, h4, h5, h6⟩
  · have : l = [] := List.map_eq_nil_iff.1 h0
    subst this
    exact back_nil w src dst e hs he hd 0
  · have hc : ∀ (j : Nat) (hj : j < l.length), w.cell? (Addr.add ⟨g, off, none⟩ j) = some (.int .u8 (l[j].toNat : Int)) := fun j hj => by
      rw [show Addr.add ⟨g, off, none⟩ j = ⟨g, off + j, none⟩ by simp [Addr.add]]
      exact h6 j (v8 l[j]) (by simp [hj])
    have := run_convert_bytes_back (P := P) w src dst e ⟨g, off, none⟩ cap l hs he hd hc
    rw [List.length_map]
    exact this
theorem map_v8_one (l : List UInt8) : ∀ u ∈ l.map v8, u.oneCell' = true := fun u hu => by
  obtain ⟨x, _, rfl⟩ := List.mem_map.1 hu
  rfl
theorem map_v8_snoc (l : List UInt8) (x : UInt8) : l.map v8 ++ [v8 x] = (l ++ [x]).map v8 := by simp
end Go.Proofs.Ytbfgnlckmpnchaa

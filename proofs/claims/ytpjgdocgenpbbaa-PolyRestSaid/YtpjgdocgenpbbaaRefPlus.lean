/-
  poly: the document's numbers of bytes: lists of numbers below 256 in slices; its sum of two.
-/
import Derived.Test.YtpjgdocgenpbbaaBitsPlain
import Derived.Test.YtpjgdocgenpbbaaOwn
namespace Go.Proofs.Ytpjgdocgenpbbaa
open Go.RowKit
def nv (x : Nat) : Value := .int .i64 (x : Int)
/-- The number of a list of digits to 256. -/
def leI : List Nat → Nat
  | [] => 0
  | x :: l => x + 256 * leI l
def Dig (l : List Nat) : Prop := ∀ x ∈ l, x < 256
theorem leI_append : ∀ (a b : List Nat), leI (a ++ b) = leI a + 256 ^ a.length * leI b
  | [], b => by simp [leI]
  | x :: a, b => by
    simp only [List.cons_append, leI, leI_append a b, List.length_cons, Nat.pow_succ]
    rw [Nat.mul_add, ← Nat.mul_assoc, Nat.mul_comm 256 (256 ^ a.length), Nat.add_assoc]
/-- A digit of a list. -/
def dg (l : List Nat) (i : Nat) : Nat := l.getD i 0
theorem dg_eq {l : List Nat} {i : Nat} (h : i < l.length) : l[i] = dg l i := by simp [dg, h]
theorem dg_none {l : List Nat} {i : Nat} (h : l.length ≤ i) : dg l i = 0 := by simp [dg, h]
theorem Dig.lt {l : List Nat} (h : Dig l) (i : Nat) : dg l i < 256 := by
  by_cases hi : i < l.length
  · rw [← dg_eq hi]; exact h _ (List.getElem_mem hi)
  · rw [dg_none (by omega)]; omega
theorem leI_take (l : List Nat) (i : Nat) : leI (l.take (i + 1)) = leI (l.take i) + 256 ^ i * dg l i := by
  by_cases h : i < l.length
  · rw [List.take_succ_eq_append_getElem h, leI_append, dg_eq h, List.length_take, Nat.min_eq_left (Nat.le_of_lt h)]
    simp [leI]
  · rw [List.take_of_length_le (by omega), List.take_of_length_le (show l.length ≤ i by omega), dg_none (by omega)]
    simp
theorem Dig.snoc {l : List Nat} (h : Dig l) {x : Nat} (hx : x < 256) : Dig (l ++ [x]) := fun y hy => by
  rcases List.mem_append.1 hy with hy | hy
  · exact h y hy
  · rw [List.mem_singleton] at hy; rw [hy]; exact hx
theorem map_nv_one (l : List Nat) : ∀ u ∈ l.map nv, u.oneCell' = true := fun u hu => by
  obtain ⟨x, _, rfl⟩ := List.mem_map.1 hu
  rfl
theorem map_nv_snoc (l : List Nat) (x : Nat) : l.map nv ++ [nv x] = (l ++ [x]).map nv := by simp
theorem info3i : (Try.prog.info? 3).map (fun i => (i.zero, i.size, i.bytes)) = some (some (.int .i64 0), 1, 8) := by kernel_rfl
/-- A slice of digits to be read. -/
def Nums (w : World) (v : Value) (l : List Nat) : Prop := Own w 0 v (l.map nv)
theorem Nums.at_ {w : World} {a : Option Addr} {n c i : Nat} {l : List Nat} (h : Nums w (.slice a n c) l) (hi : i < l.length) : ∃ g off, a = some ⟨g, off, none⟩ ∧ g < w.heap.size ∧ w.cell? ⟨g, off + i, none⟩ = some (nv (dg l i)) := by
  obtain ⟨g, off, h1, _, h2, h3⟩ := Own.at_ h (i := i) (by simpa using hi)
  refine ⟨g, off, h1, h2, ?_⟩
  rw [h3]
  simp [← dg_eq hi]
structure PS (B : Nat) (w wr : World) (la lb lo : List Nat) (va vb vo : Value) (i c : Nat) : Prop where
  ha : Nums wr va la
  hb : Nums wr vb lb
  ho : Own wr B vo (lo.map nv)
  bel : Below B w wr
  dig : Dig lo
  len : lo.length = i
  sum : leI lo + 256 ^ i * c = leI (la.take i) + leI (lb.take i)
  carry : c ≤ 1
  top : la.length ≤ i → lb.length ≤ i → i ≤ max la.length lb.length + (1 - c)
theorem PS.step {B : Nat} {w wr w' : World} {la lb lo : List Nat} {va vb vo vo' : Value} {i c : Nat} (h : PS B w wr la lb lo va vb vo i c) (hla : Dig la) (hlb : Dig lb) (hB : B = w.heap.size)
    (hva : ∀ k, va.ownBlock = some k → k < w.heap.size) (hvb : ∀ k, vb.ownBlock = some k → k < w.heap.size) (o : Obj) (hg : (wr.alloc o).grownBy w' vo.ownBlock) (ho : Own w' B vo' (lo.map nv ++ [nv ((c + dg la i + dg lb i) % 256)]))
    (hgo : i < max la.length lb.length ∨ 0 < c) : PS B w w' la lb (lo ++ [(c + dg la i + dg lb i) % 256]) va vb vo' (i + 1) ((c + dg la i + dg lb i) / 256) := by
  have h1 := hla.lt i; have h2 := hlb.lt i; have h3 := h.carry
  have hs := h.bel.size
  have hs2 := hg.size
  simp at hs2
  have kept : ∀ (v : Value) (l : List Nat), Nums wr v l → (∀ k, v.ownBlock = some k → k < w.heap.size) → Nums w' v l := fun v l hn hk =>
    Own.keep hn (by omega) fun k _ hk2 he => (hg.block k (by simp; omega) (fun e => by have := (h.ho.row k e.symm).1; have := hk k he; omega)).trans (Below.heap_alloc wr o k hk2)
  refine ⟨kept va la h.ha hva, kept vb lb h.hb hvb, by rw [← map_nv_snoc]; exact ho, (h.bel.alloc (by omega) o).grown hg (by simp; omega) (fun k hk => (h.ho.row k hk).1), h.dig.snoc (Nat.mod_lt _ (by omega)), by rw [List.length_append, h.len]; rfl, ?_, by omega, fun ha hb => ?_⟩
  · have hsum := h.sum
    rw [leI_append, h.len, leI_take, leI_take]
    simp only [leI, Nat.mul_zero, Nat.add_zero, Nat.pow_succ]
    have e : 256 ^ i * ((c + dg la i + dg lb i) % 256) + 256 ^ i * 256 * ((c + dg la i + dg lb i) / 256) = 256 ^ i * c + 256 ^ i * dg la i + 256 ^ i * dg lb i := by
      rw [Nat.mul_assoc, ← Nat.mul_add, Nat.mod_add_div, Nat.mul_add, Nat.mul_add]
    omega
  · have ht := h.top
    rcases hgo with hgo | hgo
    · have : (c + dg la i + dg lb i) / 256 ≤ 1 := by omega
      omega
    · by_cases hm : i < max la.length lb.length
      · omega
      · have e1 : dg la i = 0 := dg_none (by omega)
        have e2 : dg lb i = 0 := dg_none (by omega)
        have := ht (by omega) (by omega)
        rw [e1, e2]
        omega
end Go.Proofs.Ytpjgdocgenpbbaa

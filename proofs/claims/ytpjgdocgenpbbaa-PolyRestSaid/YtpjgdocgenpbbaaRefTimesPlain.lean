/-
  poly: the document's product of two numbers of bytes, in plain terms.
-/
import Derived.Test.YtpjgdocgenpbbaaRefMem
namespace Go.Proofs.Ytpjgdocgenpbbaa
open Go.RowKit
set_option linter.unusedVariables false
set_option linter.unusedSimpArgs false
/-- 'make([]int, n)'. -/
theorem make_nums {P : Program} (w : World) (base : Nat) (t e : TypeId) (n : Nat) (ht : P.underlying t = some (.slice e)) (hi : (P.info? e).map (fun i => (i.zero, i.size, i.bytes)) = some (some (.int .i64 0), 1, 8)) (hn : n ≤ 1000000) (hb : base ≤ w.heap.size) (z : Int) (hz : z = n) :
    ∃ w', (Instr.makeSlice t (.int .i64 z) (.int .i64 z)).run P w = .ok (.slice (some ⟨w.heap.size, 0, none⟩) n n) w' ∧ Own w' base (.slice (some ⟨w.heap.size, 0, none⟩) n n) ((List.replicate n 0).map nv) ∧ Below w.heap.size w w' := by
  subst hz
  cases hq : P.info? e with
  | none => rw [hq] at hi; cases hi
  | some i =>
    rw [hq] at hi
    simp only [Option.map_some, Option.some.injEq, Prod.mk.injEq] at hi
    obtain ⟨h1, h2, h3⟩ := hi
    have h := run_make (P := P) w t e i (.int .i64 0) ht hq h1 .i64 .i64 (n : Int) (n : Int) (by omega) (Int.le_refl _) (by rw [h3]; omega) (by omega)
    rw [h2, Int.toNat_natCast, Nat.mul_one] at h
    have hc : ∀ j, j < n → (madeCells (Value.int .i64 0).cells n)[j]? = some (nv 0) := fun j hj => by
      simp [madeCells, Value.cells, hj]
      rw [Nat.mod_one]
      rfl
    have hB := Blk.made w e (madeCells (Value.int .i64 0).cells n)
    refine ⟨_, h, .inr ⟨w.heap.size, 0, n, by simp, hb, by simp, by simp, by simp [maxLen]; omega, fun j hj => ⟨?_, by rw [Nat.zero_add]; exact hB.free j⟩, fun j u hu => ?_⟩, (Below.refl _ _).alloc (Nat.le_refl _) _⟩
    · rw [Nat.zero_add, hB.at_ (hc j hj)]; rfl
    · have hj : j < n := by have := (List.getElem?_eq_some_iff.1 hu).1; simpa using this
      rw [Nat.zero_add, hB.at_ (hc j hj)]
      simp [hj] at hu
      rw [hu]
theorem leI_zeros (n : Nat) : leI (List.replicate n 0) = 0 := by
  induction n with
  | zero => rfl
  | succ n ih => simp [List.replicate_succ, leI, ih]
/-- After i rows, and j places of the next: out, and what is carried. -/
structure TM (la lb out : List Nat) (i j c : Nat) : Prop where
  dig : Dig out
  le : c ≤ 255
  val : leI out + 256 ^ (i + j) * c = leI (la.take i) * leI lb + 256 ^ i * dg la i * leI (lb.take j)
  len : out.length = la.length + lb.length
  zero : ∀ k, i + lb.length ≤ k → dg out k = 0
structure TO (la lb out : List Nat) (i : Nat) : Prop where
  dig : Dig out
  val : leI out = leI (la.take i) * leI lb
  len : out.length = la.length + lb.length
  zero : ∀ k, i + lb.length ≤ k → dg out k = 0
theorem dg_replicate (n k : Nat) : dg (List.replicate n 0) k = 0 := by
  unfold dg
  by_cases h : k < n
  · simp [h]
  · simp [h]
theorem TO.start (la lb : List Nat) : TO la lb (List.replicate (la.length + lb.length) 0) 0 :=
  ⟨fun x hx => by have := (List.mem_replicate.1 hx).2; omega, by rw [leI_zeros]; simp [leI], by simp, fun k _ => dg_replicate _ _⟩
theorem TO.row {la lb out : List Nat} {i : Nat} (h : TO la lb out i) : TM la lb out i 0 0 :=
  ⟨h.dig, by omega, by rw [h.val]; simp [leI], h.len, h.zero⟩
theorem TM.step {la lb out : List Nat} {i j c : Nat} (h : TM la lb out i j c) (ha : Dig la) (hb : Dig lb) (hi : i < la.length) (hj : j < lb.length) :
    TM la lb (out.set (i + j) ((c + dg out (i + j) + dg la i * dg lb j) % 256)) i (j + 1) ((c + dg out (i + j) + dg la i * dg lb j) / 256) := by
  have h1 := ha.lt i
  have h2 := hb.lt j
  have h3 := h.dig.lt (i + j)
  have hle := h.le
  have hp : dg la i * dg lb j ≤ 255 * 255 := Nat.mul_le_mul (by omega) (by omega)
  have hij : i + j < out.length := by rw [h.len]; omega
  have hs := leI_set out (i + j) ((c + dg out (i + j) + dg la i * dg lb j) % 256) hij
  have hval := h.val
  have e := leI_take lb j
  refine ⟨h.dig.set _ (Nat.mod_lt _ (by omega)), by omega, ?_, by rw [List.length_set]; exact h.len, fun k hk => ?_⟩
  · rw [e, Nat.mul_add, ← Nat.add_assoc i j 1, Nat.pow_succ]
    have e1 : 256 ^ (i + j) * ((c + dg out (i + j) + dg la i * dg lb j) % 256) + 256 ^ (i + j) * 256 * ((c + dg out (i + j) + dg la i * dg lb j) / 256) = 256 ^ (i + j) * c + 256 ^ (i + j) * dg out (i + j) + 256 ^ (i + j) * (dg la i * dg lb j) := by
      rw [Nat.mul_assoc, ← Nat.mul_add, Nat.mod_add_div, Nat.mul_add, Nat.mul_add]
    have e2 : 256 ^ i * dg la i * (256 ^ j * dg lb j) = 256 ^ (i + j) * (dg la i * dg lb j) := by
      rw [Nat.pow_add]; simp only [Nat.mul_assoc, Nat.mul_left_comm (dg la i)]
    rw [e2]
    omega
  · rw [dg_set hij, if_neg (by omega)]
    exact h.zero k hk
theorem TM.done {la lb out : List Nat} {i c : Nat} (h : TM la lb out i lb.length c) (hi : i < la.length) : TO la lb (out.set (i + lb.length) c) (i + 1) := by
  have hij : i + lb.length < out.length := by rw [h.len]; omega
  have hs := leI_set out (i + lb.length) c hij
  have hz := h.zero (i + lb.length) (Nat.le_refl _)
  have hle := h.le
  have hval := h.val
  rw [List.take_length] at hval
  refine ⟨h.dig.set _ (by omega), ?_, by rw [List.length_set]; exact h.len, fun k hk => ?_⟩
  · rw [leI_take la i, Nat.add_mul]
    rw [hz, Nat.mul_zero, Nat.add_zero] at hs
    omega
  · rw [dg_set hij, if_neg (by omega)]
    exact h.zero k (by omega)
end Go.Proofs.Ytpjgdocgenpbbaa

/-
  poly: what the document's sum computes is what the program's does: plain laws.
-/
import Derived.Test.YtpjgdocgenpbbaaRefClamp
import Derived.Test.YtpjgdocgenpbbaaAddsPlain
namespace Go.Proofs.Ytpjgdocgenpbbaa
open Go.RowKit
set_option linter.unusedVariables false
set_option linter.unusedSimpArgs false
theorem fold_mod (v : Nat) : fold v % pr = v % pr := by
  have e : v = fold v + pr * (v / 1361129467683753853853498429727072845824) := by
    unfold fold pr
    omega
  have h : (fold v + pr * (v / 1361129467683753853853498429727072845824)) % pr = fold v % pr := Nat.add_mul_mod_self_left _ _ _
  rw [← e] at h
  exact h.symm
theorem chunk1_lt (l : List UInt8) (j : Nat) : leN (chunk l j ++ [1]) < 680564733841876926926749214863536422912 := by
  have h1 := chunk_len l j
  have h2 := leN_lt (chunk l j)
  have h3 : (256 : Nat) ^ (chunk l j).length ≤ 256 ^ 16 := Nat.pow_le_pow_right (by omega) h1
  have h16 : (256 : Nat) ^ 16 = 340282366920938463463374607431768211456 := by decide
  rw [leN_append]
  have e1 : (1 : UInt8).toNat = 1 := rfl
  simp only [leN, e1, Nat.mul_zero, Nat.add_zero, Nat.mul_one]
  omega
theorem rk_lt (k : Nat → UInt8) : rk k < 21267647932558653966460912964485513216 := by
  rw [rk_leN, show (16 : Nat) = 15 + 1 from rfl, tl_succ, leN_append, tl_length]
  have h1 := leN_lt (tl 15 (clampf k))
  rw [tl_length] at h1
  have h2 : (clampf k 15).toNat < 16 := by
    show (k 15 &&& 15).toNat < 16
    rw [and15]; omega
  have h15 : (256 : Nat) ^ 15 = 1329227995784915872903807060280344576 := by decide
  simp only [leN, Nat.mul_zero, Nat.add_zero]
  omega
theorem step_val {A n r : Nat} (hA : A < pr) (hn : n < 680564733841876926926749214863536422912) (hr : r < 21267647932558653966460912964485513216) :
    (A + n) * r < 256 ^ 32 ∧ ((A + n) * r) % pr = fold ((A + n) % 6277101735386680763835789423207666416102355444464034512896 * r % 115792089237316195423570985008687907853269984665640564039457584007913129639936) % pr := by
  have h32 : (256 : Nat) ^ 32 = 115792089237316195423570985008687907853269984665640564039457584007913129639936 := by decide
  have hb : A + n < 2041694201525630780780247644590609268736 := by unfold pr at hA; omega
  have hm : (A + n) * r ≤ 2041694201525630780780247644590609268736 * 21267647932558653966460912964485513216 := Nat.mul_le_mul (by omega) (by omega)
  have hlt : (A + n) * r < 256 ^ 32 := by rw [h32]; omega
  refine ⟨hlt, ?_⟩
  rw [fold_mod, Nat.mod_eq_of_lt (show A + n < 6277101735386680763835789423207666416102355444464034512896 by omega), ← h32, Nat.mod_eq_of_lt hlt]
theorem accs_step (k : Nat → UInt8) (l : List UInt8) (j : Nat) : (accs (rk k) l j + leN (chunk l j ++ [1])) * rk k < 256 ^ 32 ∧ ((accs (rk k) l j + leN (chunk l j ++ [1])) * rk k) % pr = accs (rk k) l (j + 1) :=
  step_val (accs_lt _ _ _) (chunk1_lt l j) (rk_lt k)
theorem tot_plus (k : Nat → UInt8) (l : List UInt8) : tot k l = accs (rk k) l (nch l) + leN (tl 16 fun i => k (16 + i)) := by
  have hA := accs_lt (rk k) l (nch l)
  have hS : sk k < 256 ^ 16 := by
    rw [sk_leN]
    have := leN_lt (tl 16 fun i => k (16 + i))
    rwa [tl_length] at this
  have h16 : (256 : Nat) ^ 16 = 340282366920938463463374607431768211456 := by decide
  have hpr : pr = 1361129467683753853853498429727072845819 := rfl
  unfold tot
  rw [Nat.mod_eq_of_lt (by omega), sk_leN]
theorem sum_digit (k : Nat → UInt8) (l : List UInt8) {lo : List Nat} (hd : Dig lo) (h : leI lo = accs (rk k) l (nch l) + leN (tl 16 fun i => k (16 + i))) (i : Nat) : (sumf k l i).toNat = dg lo i := by
  unfold sumf
  rw [tot_plus, ← h, UInt8.toNat_ofNat']
  exact dg_div hd i
theorem chunk_all (l : List UInt8) (j i : Nat) (hi : i ≤ 16) (h : 16 ≤ i ∨ l.length ≤ 16 * j + i) : (l.drop (16 * j)).take i = chunk l j := by
  unfold chunk
  by_cases h16 : i = 16
  · rw [h16]
  · rw [List.take_of_length_le (by rw [List.length_drop]; omega), List.take_of_length_le (by rw [List.length_drop]; omega)]
theorem bd_take (l : List UInt8) (j i : Nat) (h : 16 * j + i < l.length) : (bd ((l.drop (16 * j)).take i)).map nv ++ [nv (bt l (16 * j + i)).toNat] = (bd ((l.drop (16 * j)).take (i + 1))).map nv := by
  rw [List.take_succ_eq_append_getElem (by rw [List.length_drop]; omega)]
  have e : (l.drop (16 * j))[i]'(by rw [List.length_drop]; omega) = bt l (16 * j + i) := by
    rw [List.getElem_drop, bt_eq]
  simp only [bd, List.map_append, List.map_cons, List.map_nil, e]
theorem bd_one (l : List UInt8) : (bd l).map nv ++ [nv 1] = (bd (l ++ [1])).map nv := by
  simp [bd]
theorem Nums.formN {w : World} {v : Value} {l : List Nat} (h : Nums w v l) {n : Nat} (hn : l.length = n) : ∃ a c, v = .slice a n c ∧ n ≤ c ∧ c ≤ 9223372036854775807 := by
  obtain ⟨a, c, e, h1, h2, _⟩ := Own.form h
  unfold maxLen at h2
  rw [List.length_map, hn] at e h1
  exact ⟨a, c, e, h1, by omega⟩
theorem Own.one (w : World) (base : Nat) (t : TypeId) (u : Value) (hb : base ≤ w.heap.size) : Own (w.alloc (.cells #[u] t)) base (.slice (some ⟨w.heap.size, 0, none⟩) 1 1) [u] :=
  .inr ⟨w.heap.size, 0, 1, rfl, hb, by simp, Nat.le_refl _, by simp [maxLen], fun j hj => by
    obtain rfl : j = 0 := by omega
    exact ⟨by rw [Nat.zero_add, (Blk.made w t #[u]).at_ (v := u) rfl]; rfl, (Blk.made w t #[u]).free _⟩, fun j x hx => by
    have hj : j < 1 := by have := (List.getElem?_eq_some_iff.1 hx).1; simpa using this
    obtain rfl : j = 0 := by omega
    rw [Nat.zero_add, (Blk.made w t #[u]).at_ (v := u) rfl]
    simpa using hx⟩
structure RS (N : Nat) (w wr : World) (k : Nat → UInt8) (vr : Value) : Prop where
  key : Blk wr N 22 (karr k)
  res : ∃ cs, Blk wr (N + 1) 25 cs ∧ cs.size = 16
  hr : Nums wr vr (bd (tl 16 (clampf k)))
  bel : Below N w wr
theorem RS.below {N : Nat} {w wr w' : World} {k : Nat → UInt8} {vr : Value} (h : RS N w wr k vr) (hb : Below wr.heap.size wr w') : RS N w w' k vr := by
  obtain ⟨h1, ⟨cs, h2, h3⟩, h4, h5⟩ := h
  exact ⟨h1.kept hb, ⟨cs, h2.kept hb, h3⟩, Own.below h4 hb, h5.trans (hb.mono (by have := h1.lt; omega))⟩
theorem up8_rest (f : Nat → UInt8) (i : Nat) (h : ∀ j, i ≤ j → j < 16 → f j = 0) : uarr8 16 (up8 f i) = uarr8 16 f := arr_congr fun j hj => by
  unfold up8
  by_cases hji : j < i
  · simp [hji]
  · simp [hji, h j (by omega) hj]
end Go.Proofs.Ytpjgdocgenpbbaa

/-
  sha: whether a number's power is n at most: the closure's walk.
-/
import Derived.Test.YtbfgnlckmpnchaaRootPlain
import Derived.Test.YtbfgnlckmpnchaaBits
namespace Go.Proofs.Ytbfgnlckmpnchaa
open Go.RowKit
set_option linter.unusedVariables false
set_option linter.unusedSimpArgs false
theorem shl_nat (x n : UInt64) (k : Nat) (hk : n.toNat = k) (h : k < 64) : (shl64 x n).toNat = x.toNat * 2 ^ k % 18446744073709551616 := by
  unfold shl64
  have : n < 64 := by rw [UInt64.lt_iff_toNat_lt, hk]; exact h
  rw [if_pos this, UInt64.toNat_shiftLeft, Nat.shiftLeft_eq, hk, Nat.mod_eq_of_lt h]
theorem whole_nat (t m : UInt64) (h : t.toNat < 4294967296) : (shl64 t 32 ||| shr64 m 32).toNat = t.toNat * 4294967296 + m.toNat / 4294967296 := by
  have hm := m.toNat_lt
  rw [UInt64.toNat_or, shl_nat t 32 32 rfl (by omega), shr_nat m 32 32 rfl (by omega), show (2 : Nat) ^ 32 = 4294967296 from rfl, Nat.mod_eq_of_lt (by omega)]
  have := Nat.two_pow_add_eq_or_of_lt (i := 32) (b := m.toNat / 4294967296) (by omega) t.toNat
  rw [show (2 : Nat) ^ 32 = 4294967296 from rfl, Nat.mul_comm] at this
  exact this.symm
theorem low_zero (m : UInt64) : shl64 m 32 = 0 ↔ m.toNat % 4294967296 = 0 := by
  have hm := m.toNat_lt
  constructor
  · intro h
    have := congrArg UInt64.toNat h
    rw [shl_nat m 32 32 rfl (by omega)] at this
    have e0 : (0 : UInt64).toNat = 0 := rfl
    rw [e0, show (2 : Nat) ^ 32 = 4294967296 from rfl] at this
    omega
  · intro h
    apply UInt64.toNat_inj.1
    rw [shl_nat m 32 32 rfl (by omega), show (2 : Nat) ^ 32 = 4294967296 from rfl]
    have e0 : (0 : UInt64).toNat = 0 := rfl
    omega
theorem eq_zero64 (m : UInt64) : m = 0 ↔ m.toNat = 0 := ⟨fun h => by rw [h]; rfl, fun h => UInt64.toNat_inj.1 h⟩
theorem eq_64 (m n : UInt64) : m = n ↔ m.toNat = n.toNat := ⟨fun h => by rw [h], fun h => UInt64.toNat_inj.1 h⟩
theorem ret_bool {a b : Bool} {w w' : World} (h : a = b) (hw : w' = w) : Ending.returned (.bool a) = .returned (.bool b) ∧ w' = w := ⟨by rw [h], hw⟩
set_option maxHeartbeats 4000000 in
theorem less1_2 (x : UInt64) (n : Nat) (hn : n ≤ 1000) (gp gn : Nat) (w : World) (hp : w.cell? ⟨gp, 0, none⟩ = some (.int .i64 2)) (hc : w.cell? ⟨gn, 0, none⟩ = some (.int .i64 (n : Int))) :
    Calls Try.prog 55 #[v64 x, .pointer (some ⟨gp, 0, none⟩), .pointer (some ⟨gn, 0, none⟩)] w fun e w' => e = .returned (.bool (fitsB x.toNat n 2)) ∧ w' = w := by
  obtain ⟨N, hN, hN'⟩ := v64_nat n (by omega)
  have HN := keep hN'
  clear hN'
  go_enter Try.func55, Try.ntmps55
  go_wp2_with fail
  refine (mul64_any x x _).mono ?_
  rintro e w' ⟨hi, lo, rfl, h1, rfl⟩
  have hlo := lo.toNat_lt
  have key : ∀ b : Bool, (b = true ↔ hi < N ∨ (hi = N ∧ lo = 0)) → b = fitsB x.toNat n 2 := fun b hb => fits2_of h1 hlo b (by rw [hb, UInt64.lt_iff_toNat_lt, eq_64 hi, HN.out, eq_zero64])
  have KEY := keep key
  clear key h1 hlo
  by_cases c1 : hi < N
  · have d1 : decide (hi < N) = true := by simp [c1]
    go_wp2_with fail
    go_ret
    exact ret_bool (KEY.out true ⟨fun _ => .inl c1, fun _ => rfl⟩) rfl
  · have d1 : decide (hi < N) = false := by simp [c1]
    by_cases c2 : hi = N
    · have d2 : (hi == N) = true := by simp [c2]
      by_cases c3 : lo = 0
      · have d3 : (lo == 0) = true := by simp [c3]
        have HF := keep (KEY.out true ⟨fun _ => .inr ⟨c2, c3⟩, fun _ => rfl⟩)
        clear c1 c2 c3
        go_wp2_with fail
        go_ret
        exact ret_bool HF.out rfl
      · have d3 : (lo == 0) = false := by simp [c3]
        have HF := keep (KEY.out false ⟨(fun h => by cases h), fun h => absurd h (by simp [c1, c2, c3])⟩)
        clear c1 c2 c3
        go_wp2_with fail
        go_ret
        exact ret_bool HF.out rfl
    · have d2 : (hi == N) = false := by simp [c2]
      have HF := keep (KEY.out false ⟨(fun h => by cases h), fun h => absurd h (by simp [c1, c2])⟩)
      clear c1 c2
      go_wp2_with fail
      go_ret
      exact ret_bool HF.out rfl
set_option maxHeartbeats 4000000 in
theorem less1_3 (x : UInt64) (hx : x.toNat < 274877906944) (n : Nat) (hn : n ≤ 1000) (gp gn : Nat) (w : World) (hp : w.cell? ⟨gp, 0, none⟩ = some (.int .i64 3)) (hc : w.cell? ⟨gn, 0, none⟩ = some (.int .i64 (n : Int))) :
    Calls Try.prog 55 #[v64 x, .pointer (some ⟨gp, 0, none⟩), .pointer (some ⟨gn, 0, none⟩)] w fun e w' => e = .returned (.bool (fitsB x.toNat n 3)) ∧ w' = w := by
  obtain ⟨N, hN, hN'⟩ := v64_nat n (by omega)
  have HN := keep hN'
  clear hN'
  go_enter Try.func55, Try.ntmps55
  go_wp2_with fail
  refine (mul64_any x x _).mono ?_
  rintro e w' ⟨hi, lo, rfl, h1, rfl⟩
  have H1 := keep h1
  clear h1
  go_wp2_with fail
  refine (mul64_any lo x _).mono ?_
  rintro e w' ⟨a, b, rfl, h2, rfl⟩
  have H2 := keep h2
  clear h2
  go_wp2_with fail
  refine (mul64_any hi x _).mono ?_
  rintro e w' ⟨c, d, rfl, h3, rfl⟩
  obtain ⟨mid, cy, hadd, h4, hcy⟩ := add64_0 a d
  have hlo := lo.toNat_lt
  have hb' := b.toNat_lt
  have hmid := mid.toNat_lt
  have htop := cube_top hx H1.out H2.out h3 h4
  have htn : (c + cy).toNat = c.toNat + cy.toNat := by rw [UInt64.toNat_add]; omega
  have hW := whole_nat (c + cy) mid (by omega)
  have key : ∀ r : Bool, (r = true ↔ (shl64 (c + cy) 32 ||| shr64 mid 32) < N ∨ ((shl64 (c + cy) 32 ||| shr64 mid 32) = N ∧ shl64 mid 32 = 0 ∧ b = 0)) → r = fitsB x.toNat n 3 := fun r hr =>
    fits3_of hx H1.out H2.out h3 h4 hlo hb' hmid r (by rw [hr, UInt64.lt_iff_toNat_lt, eq_64 _ N, HN.out, hW, htn, low_zero, eq_zero64])
  have KEY := keep key
  clear key h3 h4 hcy hlo hb' hmid htop htn hW
  generalize hWW : (shl64 (c + cy) 32 ||| shr64 mid 32) = W at *
  generalize hMM : shl64 mid 32 = M at *
  by_cases c1 : W < N
  · have d1 : decide (W < N) = true := by simp [c1]
    have HF := keep (KEY.out true ⟨fun _ => .inl c1, fun _ => rfl⟩)
    clear c1
    go_wp2_with fail
    go_ret
    exact ret_bool HF.out rfl
  · have d1 : decide (W < N) = false := by simp [c1]
    by_cases c2 : W = N
    · have d2 : (W == N) = true := by simp [c2]
      by_cases c3 : M = 0
      · have d3 : (M == 0) = true := by simp [c3]
        by_cases c4 : b = 0
        · have d4 : (b == 0) = true := by simp [c4]
          have HF := keep (KEY.out true ⟨fun _ => .inr ⟨c2, c3, c4⟩, fun _ => rfl⟩)
          clear c1 c2 c3 c4
          go_wp2_with fail
          go_ret
          exact ret_bool HF.out rfl
        · have d4 : (b == 0) = false := by simp [c4]
          have HF := keep (KEY.out false ⟨(fun h => by cases h), fun h => absurd h (by simp [c1, c2, c3, c4])⟩)
          clear c1 c2 c3 c4
          go_wp2_with fail
          go_ret
          exact ret_bool HF.out rfl
      · have d3 : (M == 0) = false := by simp [c3]
        have HF := keep (KEY.out false ⟨(fun h => by cases h), fun h => absurd h (by simp [c1, c2, c3])⟩)
        clear c1 c2 c3
        go_wp2_with fail
        go_ret
        exact ret_bool HF.out rfl
    · have d2 : (W == N) = false := by simp [c2]
      have HF := keep (KEY.out false ⟨(fun h => by cases h), fun h => absurd h (by simp [c1, c2])⟩)
      clear c1 c2
      go_wp2_with fail
      go_ret
      exact ret_bool HF.out rfl
theorem less_any (n p : Int) (w : World) : Calls Try.prog 35 #[.int .i64 p, .int .i64 n] w fun e w' =>
    e = .returned (.func (.func 55) #[] #[.pointer (some ⟨w.heap.size, 0, none⟩), .pointer (some ⟨w.heap.size + 1, 0, none⟩)]) ∧ w' = (w.alloc (.cells #[.int .i64 p] 3)).alloc (.cells #[.int .i64 n] 3) := by
  go_enter Try.func35, Try.ntmps35
  go_wp2_with fail
  go_ret
  exact ⟨rfl, rfl⟩
end Go.Proofs.Ytbfgnlckmpnchaa

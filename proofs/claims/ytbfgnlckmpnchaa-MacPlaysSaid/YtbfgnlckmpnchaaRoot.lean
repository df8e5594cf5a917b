/-
  sha: the first bits behind the point of a root: the program's walk.
-/
import Derived.Test.YtbfgnlckmpnchaaLess
namespace Go.Proofs.Ytbfgnlckmpnchaa
open Go.RowKit
set_option linter.unusedVariables false
set_option linter.unusedSimpArgs false
theorem less1_any (x : UInt64) (hx : x.toNat < 274877906944) (n p : Nat) (hn : n ≤ 1000) (hpp : p = 2 ∨ p = 3) (gp gn : Nat) (w : World) (hp : w.cell? ⟨gp, 0, none⟩ = some (.int .i64 (p : Int))) (hc : w.cell? ⟨gn, 0, none⟩ = some (.int .i64 (n : Int))) :
    Calls Try.prog 55 #[v64 x, .pointer (some ⟨gp, 0, none⟩), .pointer (some ⟨gn, 0, none⟩)] w fun e w' => e = .returned (.bool (fitsB x.toNat n p)) ∧ w' = w := by
  rcases hpp with rfl | rfl
  · exact less1_2 x n hn gp gn w hp hc
  · exact less1_3 x hx n hn gp gn w hp hc
theorem bit_or {X : UInt64} {j : Nat} (h : RB (j + 1) X.toNat) (hj : j < 38) : (X ||| UInt64.ofNat (2 ^ j)).toNat = X.toNat + 2 ^ j := by
  have hp : 2 ^ j < 2 ^ 64 := Nat.pow_lt_pow_right (by omega) (by omega)
  rw [UInt64.toNat_or, UInt64.toNat_ofNat', Nat.mod_eq_of_lt hp, h.or]
theorem one_shl (j : Nat) (hj : j < 38) : (1 : UInt64) <<< UInt64.ofNat j = UInt64.ofNat (2 ^ j) := by
  have h : ∀ i : Fin 38, (1 : UInt64) <<< UInt64.ofNat i.val = UInt64.ofNat (2 ^ i.val) := by decide
  exact h ⟨j, hj⟩
theorem root_none (n p : Int) (h : n < 0 ∨ 1000 < n ∨ (p ≠ 2 ∧ p ≠ 3)) (w : World) : Calls Try.prog 19 #[.int .i64 n, .int .i64 p] w fun e w' => e = .returned (.int .u32 0) ∧ w' = w := by
  by_cases h0 : n < 0
  · go_enter Try.func19, Try.ntmps19
    go_wp2_with fail
    go_ret
    exact ⟨rfl, rfl⟩
  · by_cases h1 : 1000 < n
    · go_enter Try.func19, Try.ntmps19
      go_wp2_with fail
      go_ret
      exact ⟨rfl, rfl⟩
    · obtain ⟨h2, h3⟩ : p ≠ 2 ∧ p ≠ 3 := by omega
      have d2 : (p != 2) = true := by simp [h2]
      have d3 : (p != 3) = true := by simp [h3]
      go_enter Try.func19, Try.ntmps19
      go_wp2_with fail
      go_ret
      exact ⟨rfl, rfl⟩
set_option maxHeartbeats 4000000 in
theorem root_any (n p : Nat) (hn : n ≤ 1000) (hpp : p = 2 ∨ p = 3) (w : World) : Calls Try.prog 19 #[.int .i64 (n : Int), .int .i64 (p : Int)] w fun e w' => e = .returned (v32 (rootf n p)) ∧ Below w.heap.size w w' := by
  have h0 : ¬ (n : Int) < 0 := by omega
  have h1 : ¬ (1000 : Int) < (n : Int) := by omega
  have hb1 : Below w.heap.size w ((w.alloc (.cells #[.int .i64 (p : Int)] 3)).alloc (.cells #[.int .i64 (n : Int)] 3)) := belowB w _ _
  have hc1 := ((Blk.made w 3 #[.int .i64 (p : Int)]).alloc (.cells #[.int .i64 (n : Int)] 3)).at_ (i := 0) (v := .int .i64 (p : Int)) rfl
  have hc2 := (madeA w (.cells #[.int .i64 (p : Int)] 3) 3 #[.int .i64 (n : Int)]).at_ (i := 0) (v := .int .i64 (n : Int)) rfl
  have hd : ((p : Int) != 2 && (p : Int) != 3) = false := by rcases hpp with rfl | rfl <;> rfl
  have HP := keep hpp
  have hwalk : ∀ (pz : Int), pz = (p : Int) → ((pz != 2) = false ∨ ((pz != 2) = true ∧ (pz != 3) = false)) → Calls Try.prog 19 #[.int .i64 (n : Int), .int .i64 pz] w fun e w' => e = .returned (v32 (rootf n p)) ∧ Below w.heap.size w w' := by
    intro pz hz hd
    clear hpp
    rcases hd with d2 | ⟨d2, d3⟩
    all_goals
      have HZ := keep hz
      clear hz
      go_enter Try.func19, Try.ntmps19
      go_wp2_with fail
      refine (less_any (n : Int) pz _).mono ?_
      rintro e w1 ⟨rfl, rfl⟩
      rw [HZ.out]
      have hb2 := hb1
      have hq1 := hc1
      have hq2 := hc2
      clear hb1 hc1 hc2
      generalize (w.alloc (.cells #[.int .i64 (p : Int)] 3)).alloc (.cells #[.int .i64 (n : Int)] 3) = w1 at *
      go_wp2_with fail
      go_loop [6, 7] (fun xv z => ∃ (k : Nat) (X : UInt64), k ≤ 38 ∧ z = .int .i64 ((k : Int) - 1) ∧ xv = v64 X ∧ RB k X.toNat ∧ Hid (rbits n p k X.toNat = rbits n p 38 0)) (fun _ z => (intOf z + 1).toNat)
      case atStart => exact ⟨38, 0, by omega, rfl, rfl, ⟨by decide, by decide⟩, keep rfl⟩
      case round =>
        obtain ⟨k, X, hk, rfl, rfl, hR, hV⟩ := hrel
        by_cases hk0 : k = 0
        · subst hk0
          have hV2 : X.toNat = rbits n p 38 0 := hV.out
          have hres : X.toUInt32 = rootf n p := by
            unfold rootf
            rw [← hV2]
            apply UInt32.toNat_inj.1
            rw [UInt64.toNat_toUInt32, UInt32.toNat_ofNat']
          have HRES := keep hres
          clear hV2 hres hR
          go_wp2_with fail
          go_ret
          exact ⟨congrArg (fun z => Ending.returned (v32 z)) HRES.out, hb2⟩
        · obtain ⟨j, rfl⟩ : ∃ j, k = j + 1 := ⟨k - 1, by omega⟩
          rw [show (((j + 1 : Nat) : Int) - 1) = (j : Int) by omega]
          have hj : j < 38 := by omega
          have hsh : ∀ t, binOp .shl t (.int .u64 1) (.int .i64 (j : Int)) = pure (v64 (UInt64.ofNat (2 ^ j))) := fun t => by
            have := v64_shl t .i64 (1 : UInt64) (j : Int) (by omega) (by omega)
            rw [show (.int .u64 1 : Value) = v64 1 from rfl, this, Int.toNat_natCast, one_shl j hj]
          have hyv := bit_or hR hj
          obtain ⟨hR1, hR2⟩ := hR.next
          rw [← hyv] at hR1
          obtain ⟨Y, hY⟩ : ∃ Y, X ||| UInt64.ofNat (2 ^ j) = Y := ⟨_, rfl⟩
          rw [hY] at hyv hR1
          have hYlt : Y.toNat < 274877906944 := by have := hR1.top; have : 0 < 2 ^ j := Nat.pow_pos (by omega); omega
          have hstep : rbits n p (j + 1) X.toNat = if fitsB Y.toNat n p then rbits n p j Y.toNat else rbits n p j X.toNat := by
            rw [hyv]; rfl
          have HST := keep hstep
          clear hstep hyv
          go_wp2_with fail
          refine (less1_any Y hYlt n p hn HP.out _ _ _ hq1 hq2).mono ?_
          rintro e w' ⟨rfl, rfl⟩
          have HY := keep hY
          clear hY hYlt hsh
          cases hb : fitsB Y.toNat n p
          · have HV2 : Hid (rbits n p j X.toNat = rbits n p 38 0) := keep (by rw [← hV.out, HST.out, hb]; rfl)
            clear hb
            go_wp2_with fail
            go_round
            case rel => exact ⟨j, X, by omega, by go_num, rfl, hR2, HV2⟩
            case measure => simp [intOf]
          · have HV2 : Hid (rbits n p j Y.toNat = rbits n p 38 0) := keep (by rw [← hV.out, HST.out, hb]; rfl)
            clear hb
            go_wp2_with fail
            go_round
            case rel => exact ⟨j, Y, by omega, by go_num, rfl, hR1, HV2⟩
            case measure => simp [intOf]
  refine hwalk p rfl ?_
  rcases hpp with rfl | rfl
  · exact .inl rfl
  · exact .inr ⟨rfl, rfl⟩
end Go.Proofs.Ytbfgnlckmpnchaa

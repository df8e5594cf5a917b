/-
  sha: the document's root: the walk.
-/
import Derived.Test.YtbfgnlckmpnchaaRFits
namespace Go.Proofs.Ytbfgnlckmpnchaa
open Go.RowKit
set_option linter.unusedVariables false
set_option linter.unusedSimpArgs false
theorem u32_mod (x : Nat) : Value.int .u32 (((x % 4294967296 : Nat)) : Int) = v32 (UInt32.ofNat x) := by
  unfold v32
  rw [UInt32.toNat_ofNat']
set_option maxHeartbeats 4000000 in
theorem rroot_any (n p : Nat) (hn : n ≤ 1000) (hp : p ≤ 3) (w : World) : Calls Try.prog 20 #[.int .i64 (n : Int), .int .i64 (p : Int)] w fun e w' => e = .returned (v32 (rootf n p)) ∧ Below w.heap.size w w' := by
  go_enter Try.func20, Try.ntmps20
  go_wp2_with fail
  go_loopw [5, 6] (fun xv z wr => ∃ (k X : Nat), k ≤ 38 ∧ z = .int .i64 ((k : Int) - 1) ∧ xv = .int .i64 (X : Int) ∧ RB k X ∧ Hid (rbits n p k X = rbits n p 38 0) ∧ Below w.heap.size w wr) (fun _ z _ => (intOf z + 1).toNat)
  case atStart => exact ⟨38, 0, by omega, rfl, rfl, ⟨by decide, by decide⟩, keep rfl, Below.refl _ _⟩
  case round =>
    obtain ⟨k, X, hk, rfl, rfl, hR, hV, hB⟩ := hrel
    by_cases hk0 : k = 0
    · subst hk0
      have hX : X = rbits n p 38 0 := hV.out
      have htop := hR.top
      have hres : Value.int .u32 (((X % 4294967296 : Nat)) : Int) = v32 (rootf n p) := by
        rw [u32_mod]
        unfold rootf
        rw [← hX]
      have hmod : ((X : Int) % 4294967296) = ((X % 4294967296 : Nat) : Int) := by omega
      have hlt : X % 4294967296 < 4294967296 := Nat.mod_lt _ (by omega)
      have HRES := keep hres
      obtain ⟨m, hm⟩ : ∃ m, X % 4294967296 = m := ⟨_, rfl⟩
      rw [hm] at HRES hmod hlt
      clear hX hres hV hR hm
      go_wp2_with fail
      go_ret
      exact ⟨congrArg Ending.returned HRES.out, hB⟩
    · obtain ⟨j, rfl⟩ : ∃ j, k = j + 1 := ⟨k - 1, by omega⟩
      rw [show (((j + 1 : Nat) : Int) - 1) = (j : Int) by omega]
      have hj : j < 38 := by omega
      go_wp2_with fail
      go_loop [7, 8] (fun y i => ∃ m, m ≤ j ∧ i = .int .i64 (m : Int) ∧ y = .int .i64 ((2 ^ m : Nat) : Int)) (fun _ i => j - (intOf i).toNat)
      case atStart => exact ⟨0, Nat.zero_le _, rfl, rfl⟩
      case round =>
        obtain ⟨m, hm, rfl, rfl⟩ := hrel
        have hpb : 2 ^ m ≤ 2 ^ 37 := Nat.pow_le_pow_right (by omega) (by omega)
        have e37 : (2 : Nat) ^ 37 = 137438953472 := rfl
        by_cases hmj : m < j
        · have gmj : (m : Int) < (j : Int) := by omega
          have hnx : 2 ^ (m + 1) = 2 * 2 ^ m := by rw [Nat.pow_succ, Nat.mul_comm]
          obtain ⟨q, hq⟩ : ∃ q, 2 ^ m = q := ⟨_, rfl⟩
          rw [hq] at hpb hnx ⊢
          have HNX := keep hnx
          clear hnx hq
          go_wp2_with fail
          go_round
          case rel => exact ⟨m + 1, by omega, by go_num, by rw [HNX.out]; go_num⟩
          case measure => simp [intOf]; omega
        · have gmj : ¬ (m : Int) < (j : Int) := by omega
          obtain rfl : m = j := by omega
          obtain ⟨hR1, hR2⟩ := hR.next
          have htop := hR1.top
          have hstep : rbits n p (m + 1) X = if fitsB (2 ^ m + X) n p then rbits n p m (2 ^ m + X) else rbits n p m X := by
            rw [Nat.add_comm (2 ^ m) X]; rfl
          rw [Nat.add_comm X (2 ^ m)] at hR1 htop
          obtain ⟨q, hq⟩ : ∃ q, 2 ^ m = q := ⟨_, rfl⟩
          rw [hq] at hpb hstep hR1 htop ⊢
          have HST := keep hstep
          have HR1 := keep hR1
          have HR2 := keep hR2
          have hqX : q + X < 549755813888 := by omega
          clear hstep hq hR hR1 hR2
          go_wp2_with fail
          refine Calls.mono (show Calls Try.prog 36 #[.int .i64 ((q : Int) + (X : Int)), .int .i64 (n : Int), .int .i64 (p : Int)] _ _ from rfits_any (q + X) n p hqX hn hp _) ?_
          rintro e w1 ⟨rfl, hb1⟩
          have hB1 := hB.trans (hb1.mono hB.size)
          clear hb1 hB
          cases hb : fitsB (q + X) n p
          · have HV2 : Hid (rbits n p m X = rbits n p 38 0) := keep (by rw [← hV.out, HST.out, hb]; rfl)
            clear hb
            go_wp2_with fail
            go_roundw
            case rel => exact ⟨m, X, by omega, by go_num, rfl, HR2.out, HV2, hB1⟩
            case measure => simp [intOf]
          · have HV2 : Hid (rbits n p m (q + X) = rbits n p 38 0) := keep (by rw [← hV.out, HST.out, hb]; rfl)
            clear hb
            go_wp2_with fail
            go_roundw
            case rel => exact ⟨m, q + X, by omega, by go_num, by go_num, HR1.out, HV2, hB1⟩
            case measure => simp [intOf]
end Go.Proofs.Ytbfgnlckmpnchaa

/-
  poly: the document's product of two numbers of bytes: the walk (written by wip/tools/rtimes04.py).
-/
import Derived.Test.YtpjgdocgenpbbaaRefTimesPlain
import Derived.Deep.QuietTactic
import Derived.BigQuiet
namespace Go.Proofs.Ytpjgdocgenpbbaa
open Go.RowKit
set_option linter.unusedVariables false
set_option linter.unusedSimpArgs false
set_option maxRecDepth 100000 in
set_option maxHeartbeats 4000000 in
theorem rtimes_any (aa ab : Option Addr) (na nb ca cb : Nat) (la lb : List Nat) (w : World) (hA0 : Nums w (.slice aa na ca) la) (hB0 : Nums w (.slice ab nb cb) lb) (hna : la.length = na) (hnb : lb.length = nb) (hla : Dig la) (hlb : Dig lb) (hl1 : na < 1000) (hl2 : nb < 1000) (hb0 : 0 < nb) :
    Calls Try.prog 23 #[.slice aa na ca, .slice ab nb cb] w fun e w' => ∃ v lo, e = .returned v ∧ Own w' w.heap.size v (lo.map nv) ∧ Dig lo ∧ leI lo = leI la * leI lb ∧ lo.length = na + nb ∧ Below w.heap.size w w' := by
  subst hna hnb
  obtain ⟨w1, hmk, hO1, hb1⟩ := make_nums (P := Try.prog) w w.heap.size 32 3 (la.length + lb.length) Try.underlying32 info3i (by omega) (Nat.le_refl _) ((la.length : Int) + (lb.length : Int)) (by omega)
  have hD1 : D2 w.heap.size w w1 (.slice (some ⟨w.heap.size, 0, none⟩) (la.length + lb.length) (la.length + lb.length)) (.slice none 0 0) (List.replicate (la.length + lb.length) 0) [] :=
    ⟨hO1, Own.nil _ _, (fun _ _ h2 => by cases h2), hb1, Nat.le_refl _⟩
  have hT1 := TO.start la lb
  clear hO1
  go_enter Try.func23, Try.ntmps23
  go_wp2_with fail
  clear hmk
  go_loopw [6] (fun z wr => ∃ (i : Nat) (out : List Nat), i ≤ la.length ∧ z = .int .i64 i ∧ D2 w.heap.size w wr (.slice (some ⟨w.heap.size, 0, none⟩) (la.length + lb.length) (la.length + lb.length)) (.slice none 0 0) out [] ∧ TO la lb out i) (fun z _ => la.length - (intOf z).toNat)
  case atStart => exact ⟨0, _, Nat.zero_le _, rfl, hD1, hT1⟩
  case round =>
    obtain ⟨i, out, hil, rfl, hD, hT⟩ := hrel
    clear hD1 hT1 hb1
    by_cases hi : i < la.length
    · have gi : (i : Int) < (la.length : Int) := by omega
      have hR := hT.row
      clear hT
      go_wp2_with fail
      obtain ⟨wo, rfl⟩ : ∃ wo : World, wo = wr := ⟨_, rfl⟩
      go_loopw [7, 8] (fun cz jz wr => ∃ (j c : Nat) (out : List Nat), j ≤ lb.length ∧ jz = .int .i64 j ∧ cz = .int .i64 c ∧ D2 w.heap.size w wr (.slice (some ⟨w.heap.size, 0, none⟩) (la.length + lb.length) (la.length + lb.length)) (.slice none 0 0) out [] ∧ TM la lb out i j c) (fun _ z _ => lb.length - (intOf z).toNat)
      case atStart => exact ⟨0, 0, out, Nat.zero_le _, rfl, rfl, hD, hR⟩
      case round =>
        clear hD hR
        obtain ⟨j, c, out, hjl, rfl, rfl, hD, hR⟩ := hrel
        have hAw : Nums wr (.slice aa la.length ca) la := Own.below hA0 hD.bel
        have hBw : Nums wr (.slice ab lb.length cb) lb := Own.below hB0 hD.bel
        have hle := hR.le
        have hol := hR.len
        by_cases hj : j < lb.length
        · have gj : (j : Int) < (lb.length : Int) := by omega
          have gij : (i : Int) + (j : Int) < (la.length : Int) + (lb.length : Int) := by omega
          have hij : i + j < out.length := by omega
          obtain ⟨ga, oa, rfl, hga, ca1⟩ := hAw.at_ hi
          obtain ⟨gb, ob, rfl, hgb, cb1⟩ := hBw.at_ hj
          unfold nv at ca1 cb1
          have cc1 := hD.cellA hij
          have cf1 := hD.freeA hij
          have cs1 := hD.setA hij ((c + dg out (i + j) + dg la i * dg lb j) % 256)
          rw [Nat.zero_add] at cc1 cf1 cs1
          have hst := hR.step hla hlb hi hj
          have h3 := hR.dig.lt (i + j)
          have hp : dg la i * dg lb j ≤ 65025 := by
            have e1 := hla.lt i
            have e2 := hlb.lt j
            exact Nat.mul_le_mul (show dg la i ≤ 255 by omega) (show dg lb j ≤ 255 by omega)
          obtain ⟨p, hpp⟩ : ∃ p, dg la i * dg lb j = p := ⟨_, rfl⟩
          rw [hpp] at hp hst cs1
          have hmul : (dg la i : Int) * (dg lb j : Int) = (p : Int) := by rw [← hpp]; exact (Int.natCast_mul _ _).symm
          have l1 := hla.lt i
          have l2 := hlb.lt j
          have hval : (.int .i64 (((c : Int) + (dg out (i + j) : Int) + (p : Int)) % 256) : Value) = nv ((c + dg out (i + j) + p) % 256) := congrArg (Value.int .i64) (by omega)
          have hqv : (((c : Int) + (dg out (i + j) : Int) + (p : Int)) / 256 : Int) = ((c + dg out (i + j) + p) / 256 : Nat) := by omega
          have HVAL := keep hval
          have HQ := keep hqv
          have HST := keep hst
          clear hval hqv hst hpp hAw hBw hD hR
          go_wp2_with fail
          go_quiet (fail)
          have cs2 := cs1.many nq
          clear cs1 ca1 cb1
          go_wp2_with fail
          rw [HVAL.out, HQ.out]
          go_roundw
          case rel => exact ⟨j + 1, _, _, by omega, by go_num, rfl, cs2, HST.out⟩
          case measure => simp [intOf]; omega
        · have gj : ¬ (j : Int) < (lb.length : Int) := by omega
          obtain rfl : j = lb.length := by omega
          have hij : i + lb.length < out.length := by omega
          have gij : (i : Int) + (lb.length : Int) < (la.length : Int) + (lb.length : Int) := by omega
          have cc1 := hD.cellA hij
          have cf1 := hD.freeA hij
          have cs1 := hD.setA hij c
          rw [Nat.zero_add] at cc1 cf1 cs1
          have hst := hR.done hi
          have HST := keep hst
          have hval : (.int .i64 (c : Int) : Value) = nv c := rfl
          clear hD hR hst hval hAw hBw
          go_wp2_with fail
          go_roundw
          case rel => exact ⟨i + 1, _, by omega, by go_num, cs1, HST.out⟩
          case measure => simp [intOf]; omega
    · have gi : ¬ (i : Int) < (la.length : Int) := by omega
      obtain rfl : i = la.length := by omega
      have hval := hT.val
      rw [List.take_length] at hval
      have HF : Hid (Own wr w.heap.size (.slice (some ⟨w.heap.size, 0, none⟩) (la.length + lb.length) (la.length + lb.length)) (out.map nv) ∧ Dig out ∧ leI out = leI la * leI lb ∧ out.length = la.length + lb.length ∧ Below w.heap.size w wr) := ⟨hD.ha, hT.dig, hval, hT.len, hD.bel⟩
      clear hD hT hval
      go_wp2_with fail
      go_ret
      exact ⟨_, rfl, out, HF.out⟩
end Go.Proofs.Ytpjgdocgenpbbaa

/-
  sha: the document's root: a number of bytes times a number (written by wip/tools/sha_rroot.py).
-/
import Derived.Test.YtbfgnlckmpnchaaRRootPlain
namespace Go.Proofs.Ytbfgnlckmpnchaa
open Go.RowKit
set_option linter.unusedVariables false
set_option linter.unusedSimpArgs false
set_option maxHeartbeats 4000000 in
theorem rtimes_any (aa : Option Addr) (na ca : Nat) (la : List Nat) (x : Nat) (w : World) (hA0 : Nums w (.slice aa na ca) la) (hna : la.length = na) (hla : Dig la) (hl1 : na < 1000) (hx : x < 549755813888) :
    Calls Try.prog 58 #[.slice aa na ca, .int .i64 (x : Int)] w fun e w' => ∃ v lo, e = .returned v ∧ Own w' w.heap.size v (lo.map nv) ∧ Dig lo ∧ leI lo = leI la * x ∧ lo.length ≤ na + 5 ∧ Below w.heap.size w w' := by
  subst hna
  obtain ⟨i0, hi0, hz0, hz1, hz2⟩ := info_parts info3i
  have hD0 := D2.start w
  have hT0 := TX.start la x
  go_enter Try.func58, Try.ntmps58
  go_wp2_with fail
  go_loopw [5, 6, 7] (fun v t z wr => ∃ (i c : Nat) (lo : List Nat), i ≤ la.length ∧ z = .int .i64 i ∧ t = .int .i64 c ∧ D2 w.heap.size w wr v (.slice none 0 0) lo [] ∧ TX la x lo i c) (fun _ _ z _ => la.length - (intOf z).toNat)
  case atStart => exact ⟨0, 0, [], Nat.zero_le _, rfl, rfl, hD0, hT0⟩
  case round =>
    clear hD0 hT0
    obtain ⟨i, c, lo, hil, rfl, rfl, hD, hT⟩ := hrel
    have hle := hT.le
    have hlen := hT.len
    have hlo5 : lo.length < 1004 := by omega
    have hsz := hD.size
    obtain ⟨a, cp, rfl, hc1, hc2⟩ := hD.form'
    by_cases hi : i < la.length
    · have gi : (i : Int) < (la.length : Int) := by omega
      have hAw : Nums wr (.slice aa la.length ca) la := Own.below hA0 hD.bel
      obtain ⟨g, off, rfl, hg, cl⟩ := hAw.at_ hi
      unfold nv at cl
      have hdl := hla.lt i
      have hst := hT.step hla
      have hq : dg la i * x ≤ 255 * x := Nat.mul_le_mul_right x (by omega)
      obtain ⟨q, hqq⟩ : ∃ q, dg la i * x = q := ⟨_, rfl⟩
      rw [hqq] at hst hq
      have hmul : (dg la i : Int) * (x : Int) = (q : Int) := by rw [← hqq]; exact (Int.natCast_mul _ _).symm
      have hval : (.int .i64 (((c : Int) + (q : Int)) % 256) : Value) = nv ((c + q) % 256) := congrArg (Value.int .i64) (by omega)
      have hqv : (((c : Int) + (q : Int)) / 256 : Int) = ((c + q) / 256 : Nat) := by omega
      have HVAL := keep hval
      have HQ := keep hqv
      have HST := keep hst
      have HLEN := keep hlen
      clear hval hqv hst hqq hAw hT hlen
      have hnew : ∀ wz : World, (wz.alloc (.cells #[.int .i64 (((c : Int) + (q : Int)) % 256)] 3)).cell? ⟨wz.heap.size, 0, none⟩ = some (.int .i64 (((c : Int) + (q : Int)) % 256)) := fun wz => (Blk.made wz 3 #[.int .i64 (((c : Int) + (q : Int)) % 256)]).at_ rfl
      have hOo := hD.ha
      have HXL : (lo.map nv).length < 1099511627776 := by rw [List.length_map]; omega
      go_wp2_with (at_builtin; refine wpList_append_one _ rfl (.tmp 22) (.tmp 25) 25 rfl (w.heap.size) 3 i0 (.int .i64 0) 8 Try.underlying25 hi0 hz0 hz1 hz2 rfl (.slice a lo.length cp) (lo.map nv) rfl (hOo.alloc _) _ 1 (.int .i64 (((c : Int) + (q : Int)) % 256)) rfl (hnew _) rfl HXL (by omega) (by simp; omega) ?_
                   intro v4 w4 hown4 hg4 hv4
                   have hD2 := hD.grow _ hg4 hown4 hv4 (by rw [HVAL.out]; exact map_nv_snoc lo _)
                   clear hg4 hv4 hown4 hOo hnew HXL)
      rw [HQ.out]
      go_roundw
      case rel => exact ⟨i + 1, _, _, by omega, by go_num, rfl, hD2, HST.out⟩
      case measure => simp [intOf]; omega
    · have gi : ¬ (i : Int) < (la.length : Int) := by omega
      obtain rfl : i = la.length := by omega
      have hY := hT.fin hx
      clear hT hle hlen hc1 hc2
      go_wp2_with fail
      go_loopw [5, 6] (fun v t wr => ∃ (c : Nat) (lo : List Nat), t = .int .i64 c ∧ D2 w.heap.size w wr v (.slice none 0 0) lo [] ∧ TY (leI la * x) (la.length + 5) lo c) (fun _ t _ => (intOf t).toNat)
      case atStart => exact ⟨c, lo, rfl, hD, hY⟩
      case round =>
        clear hD hY
        obtain ⟨c, lo, rfl, hD, hY⟩ := hrel
        have hsz := hD.size
        obtain ⟨a, cp, rfl, hc1, hc2⟩ := hD.form'
        have hc5 : c < 18446744073709551616 ∨ True := .inr trivial
        by_cases hc : 0 < c
        · have gc : (0 : Int) < (c : Int) := by omega
          have hrm := hY.room0 hc
          have hsm := hY.small
          have hst := hY.step hc
          have hval : (.int .i64 ((c : Int) % 256) : Value) = nv (c % 256) := congrArg (Value.int .i64) (by omega)
          have hqv : ((c : Int) / 256 : Int) = (c / 256 : Nat) := by omega
          have HVAL := keep hval
          have HQ := keep hqv
          have HST := keep hst
          clear hval hqv hst hY
          have hnew : ∀ wz : World, (wz.alloc (.cells #[.int .i64 ((c : Int) % 256)] 3)).cell? ⟨wz.heap.size, 0, none⟩ = some (.int .i64 ((c : Int) % 256)) := fun wz => (Blk.made wz 3 #[.int .i64 ((c : Int) % 256)]).at_ rfl
          have hOo := hD.ha
          have HXL : (lo.map nv).length < 1099511627776 := by rw [List.length_map]; omega
          go_wp2_with (at_builtin; refine wpList_append_one _ rfl (.tmp 31) (.tmp 34) 25 rfl (w.heap.size) 3 i0 (.int .i64 0) 8 Try.underlying25 hi0 hz0 hz1 hz2 rfl (.slice a lo.length cp) (lo.map nv) rfl (hOo.alloc _) _ 1 (.int .i64 ((c : Int) % 256)) rfl (hnew _) rfl HXL (by omega) (by simp; omega) ?_
                       intro v4 w4 hown4 hg4 hv4
                       have hD2 := hD.grow _ hg4 hown4 hv4 (by rw [HVAL.out]; exact map_nv_snoc lo _)
                       clear hg4 hv4 hown4 hOo hnew HXL)
          rw [HQ.out]
          go_roundw
          case rel => exact ⟨_, _, rfl, hD2, HST.out⟩
          case measure => have hq := HQ.out; simp [intOf]; omega
        · have gc : ¬ (0 : Int) < (c : Int) := by omega
          obtain ⟨he, hl⟩ := hY.end_ hc
          have HF : Hid (Own wr w.heap.size (.slice a lo.length cp) (lo.map nv) ∧ Dig lo ∧ leI lo = leI la * x ∧ lo.length ≤ la.length + 5 ∧ Below w.heap.size w wr) := ⟨hD.ha, hY.dig, he, hl, hD.bel⟩
          clear hD hY he hl
          go_wp2_with fail
          go_ret
          exact ⟨_, rfl, lo, HF.out⟩
end Go.Proofs.Ytbfgnlckmpnchaa

/-
  window: WindowOnce, the walk.
-/
import Derived.Test.YtaaokbchpbedgaaAwake
import Derived.Test.YtaaokbchpbedgaaArgs
namespace Go.Proofs.Ytaaokbchpbedgaa
open Go.RowKit

/-- What holds at every round's head. -/
def OnceRel (b1 : Nat) (w wr : World) : Prop := ∃ s S, Blk wr b1 30 (St.cells s) ∧ Inv s S ∧ Below w.heap.size w wr
/-- A number greater than all that were taken is taken. -/
theorem new_ok {s : St} {S : Nat → Prop} (h : Inv s S) {n : UInt64} (hn : s.live = false ∨ s.top < n) : s.has n = false := by
  cases hh : s.has n with
  | false => rfl
  | true =>
    obtain ⟨g1, g2, _⟩ := (has_iff h n).1 hh
    rcases hn with hn | hn
    · rw [hn] at g1; cases g1
    · rw [UInt64.lt_iff_toNat_lt] at hn; omega
set_option maxHeartbeats 1000000 in
theorem once_walk (a : Option Addr) (len cap : Nat) (us : List UInt64) (w : World) (hr : InRow v64 w a len us) :
    Calls Try.prog 6 #[.slice a len cap] w fun e w' => e = .returned (.bool true) ∧ Below w.heap.size w w' := by
  obtain ⟨hl, hmax, hr⟩ := hr
  by_cases h200 : 200 < len
  · have g200 : (200 : Int) < (len : Int) := by omega
    clear hr
    go_enter Try.func6, Try.ntmps6
    go_wp2_with fail
    refine (awake_any _).mono ?_; rintro e w1 ⟨rfl, hb1⟩
    go_wp2_with fail
    refine (awake_any _).mono ?_; rintro e w2 ⟨rfl, hb2⟩
    go_wp2_with fail
    go_ret
    exact ⟨rfl, hb1.trans (hb2.mono hb1.size)⟩
  · have g200 : ¬ (200 : Int) < (len : Int) := by omega
    go_enter Try.func6, Try.ntmps6
    go_wp2_with fail
    refine (awake_any _).mono ?_; rintro e w1 ⟨rfl, hb1⟩
    go_wp2_with fail
    have hW : OnceRel w1.heap.size w (w1.alloc (.cells #[.int .u64 0, .int .u64 0, .bool false] 30)) := ⟨_, _, new_win w1, inv_start, hb1.alloc hb1.size _⟩
    have hbs := hb1.size
    clear hb1
    generalize hg1 : w1.heap.size = b1 at *
    clear hg1
    go_loopw [4] (fun i wr => ∃ k : Nat, k ≤ len ∧ i = .int .i64 k ∧ OnceRel b1 w wr) (fun i _ => len - (intOf i).toNat)
    case atStart => exact ⟨0, Nat.zero_le _, rfl, hW⟩
    case round =>
      obtain ⟨k, hk, rfl, s, S, hB1, hI, hbel⟩ := hrel
      by_cases hlt : k < len
      · obtain h0 | ⟨b, off, rfl, hb, hc⟩ := hr
        · omega
        have c0 : wr.cell? ⟨b, off + k, none⟩ = some (v64 us[k]) := (hbel.cell hb).trans (hc k (by omega))
        clear hc
        generalize us[k] = x at *
        have HI := keep hI
        clear hI
        go_wp2_with fail
        refine (top_any s b1 _ hB1).mono ?_
        rintro e w2 ⟨rfl, hb2⟩
        have hB2 : Blk w2 b1 30 s.cells := hB1.kept hb2
        have hbel2 : Below w.heap.size w w2 := hbel.trans (hb2.mono hbel.size)
        have c2 : w2.cell? ⟨b, off + k, none⟩ = some (v64 x) := (hb2.cell (p := ⟨b, off + k, none⟩) (by have := hbel.size; simp; omega)).trans c0
        clear hbel hb2 c0
        go_wp2_with fail
        refine (may_any s x b1 _ hB2).mono ?_
        rintro e w3 ⟨rfl, hb3⟩
        have hC : Blk w3 b1 30 s.cells := hB2.kept hb3
        have hbel3 : Below w.heap.size w w3 := hbel2.trans (hb3.mono hbel2.size)
        have c3 : w3.cell? ⟨b, off + k, none⟩ = some (v64 x) := (hb3.cell (p := ⟨b, off + k, none⟩) (by have := hbel2.size; simp; omega)).trans c2
        clear hbel2 hb3 c2
        go_wp2_with fail
        refine (take_any s x b1 _ hC).mono ?_
        rintro e w4 ⟨rfl, hD, hK4⟩
        have hbel4 : Below w.heap.size w w4 := hbel3.trans (hK4.toBelow hbel3.size (by simp; omega))
        have c4 : w4.cell? ⟨b, off + k, none⟩ = some (v64 x) := (hK4.cell (p := ⟨b, off + k, none⟩) (by have := hbel3.size; simp; omega) (by simp; omega)).trans c3
        clear c3
        have hlast : St.err (s.take x) x = 6 := by unfold St.err; rw [has_take HI.out]; rfl
        have HL := keep hlast
        clear hlast
        have hways : (s.has x = false ∧ s.err x = 0) ∨ (s.err x = 6 ∧ s.live = true ∧ decide (s.top < x) = false) := by
          cases hh : s.has x
          · exact .inl ⟨rfl, by unfold St.err; rw [hh]; rfl⟩
          · refine .inr ⟨by unfold St.err; rw [hh]; rfl, ?_, ?_⟩
            · cases hlv : s.live with
              | true => rfl
              | false => rw [new_ok HI.out (.inl hlv)] at hh; cases hh
            · refine decide_eq_false fun hlt => ?_
              rw [new_ok HI.out (.inr hlt)] at hh
              cases hh
        have fin : ∀ w5, Blk w5 b1 30 ((s.take x).take x).cells → Keeps [b1] w4 w5 → OnceRel b1 w w5 := fun w5 h1 h2 =>
          ⟨_, _, h1, inv_take (inv_take HI.out x) x, hbel4.trans (h2.toBelow hbel4.size (by simp; omega))⟩
        clear hbel3 hbel4 hK4
        rcases hways with ⟨_, he⟩ | ⟨he, d1, d2⟩
        · rw [he]
          clear he
          cases d1 : s.live <;> cases d2 : decide (s.top < x)
          all_goals
            go_wp2_with fail
            refine (take_any (s.take x) x b1 _ hD).mono ?_
            rintro e w5 ⟨rfl, hE, hK5⟩
            rw [HL.out]
            go_wp2_with fail
            go_roundw
            case rel => exact ⟨k + 1, by omega, by go_num, fin _ hE hK5⟩
            case measure => simp [intOf]; omega
        · rw [he]
          clear he
          go_wp2_with fail
          refine (take_any (s.take x) x b1 _ hD).mono ?_
          rintro e w5 ⟨rfl, hE, hK5⟩
          rw [HL.out]
          go_wp2_with fail
          go_roundw
          case rel => exact ⟨k + 1, by omega, by go_num, fin _ hE hK5⟩
          case measure => simp [intOf]; omega
      · go_wp2_with fail
        go_ret
        exact ⟨rfl, hbel⟩
end Go.Proofs.Ytaaokbchpbedgaa

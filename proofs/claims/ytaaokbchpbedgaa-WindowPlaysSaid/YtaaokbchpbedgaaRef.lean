/-
  window: the references Top and May, what they compute.
-/
import Derived.Test.YtaaokbchpbedgaaAwake
import Derived.Test.YtaaokbchpbedgaaOwn
namespace Go.Proofs.Ytaaokbchpbedgaa
open Go.RowKit

/-- The slice at address a holds the cells xs. -/
def Reads (w : World) (a : Option Addr) (xs : List Value) : Prop := xs = [] ∨ ∃ g off, a = some ⟨g, off, none⟩ ∧ ∀ i u, xs[i]? = some u → w.cell? ⟨g, off + i, none⟩ = some u
def maxOf (t x : UInt64) : UInt64 := if t < x then x else t
def topL (us : List UInt64) : UInt64 := us.foldl maxOf 0
def mayL (us : List UInt64) (x : UInt64) : Bool := !us.contains x && (us.isEmpty || decide (topL us < x) || decide (topL us - x < 64))

set_option maxHeartbeats 400000 in
theorem top_ref (a : Option Addr) (n c : Nat) (us : List UInt64) (w : World) (hn : us.length = n) (hb : n ≤ 1000000) (h : Reads w a (us.map v64)) :
    Calls Try.prog 13 #[.slice a n c] w fun e w' => e = .returned (v64 (topL us)) ∧ w = w' := by
  go_enter Try.func13, Try.ntmps13
  go_wp2_with fail
  go_loop [3, 4] (fun t i => ∃ k : Nat, k ≤ n ∧ i = .int .i64 k ∧ t = v64 (topL (us.take k))) (fun _ i => n - (intOf i).toNat)
  case atStart => exact ⟨0, Nat.zero_le _, rfl, rfl⟩
  case round =>
    obtain ⟨k, hk, rfl, rfl⟩ := hrel
    by_cases hlt : k < n
    · have hku : k < us.length := by omega
      obtain h | ⟨g, off, rfl, h⟩ := h
      · simp at h; subst h; simp at hku
      have c0 : w.cell? ⟨g, off + k, none⟩ = some (v64 us[k]) := h k _ (by simp [hku])
      have ht : topL (us.take (k + 1)) = if topL (us.take k) < us[k] then us[k] else topL (us.take k) := by
        unfold topL; rw [List.take_succ_eq_append_getElem hku, List.foldl_append]; rfl
      have HT := keep ht
      clear ht h hn
      generalize us[k] = x at *
      generalize topL (us.take k) = t at *
      by_cases hlt2 : t < x
      · have d : decide (t < x) = true := decide_eq_true hlt2
        have HD := keep hlt2
        clear hlt2
        go_wp2_with fail
        go_round
        case rel => exact ⟨k + 1, by omega, by go_num, by rw [HT.out, if_pos HD.out]⟩
        case measure => simp [intOf]; omega
      · have d : decide (t < x) = false := decide_eq_false hlt2
        have HD := keep hlt2
        clear hlt2
        go_wp2_with fail
        go_round
        case rel => exact ⟨k + 1, by omega, by go_num, by rw [HT.out, if_neg HD.out]⟩
        case measure => simp [intOf]; omega
    · have e : us.take k = us := List.take_of_length_le (by omega)
      rw [e]
      clear e
      go_wp2_with fail
      go_ret
      exact ⟨rfl, rfl⟩

set_option maxHeartbeats 400000 in
theorem may_ref (a : Option Addr) (n c : Nat) (us : List UInt64) (x : UInt64) (w : World) (hn : us.length = n) (hb : n ≤ 1000000) (h : Reads w a (us.map v64)) :
    Calls Try.prog 12 #[.slice a n c, v64 x] w fun e w' => e = .returned (.bool (mayL us x)) ∧ w = w' := by
  have hm : mayL us x = (!us.contains x && (decide (n = 0) || decide (topL us < x) || decide (topL us - x < 64))) := by
    unfold mayL; rw [show us.isEmpty = decide (n = 0) from by cases us <;> simp at hn ⊢ <;> omega]
  have HMay := keep hm
  have ht := top_ref a n c us w hn hb h
  have HTop := keep ht
  clear hm ht
  go_enter Try.func12, Try.ntmps12
  go_wp2_with fail
  refine HTop.out.mono ?_
  rintro e w1 ⟨rfl, rfl⟩
  go_wp2_with fail
  go_loop [6] (fun i => ∃ k : Nat, k ≤ n ∧ i = .int .i64 k ∧ Hid ((us.take k).contains x = false)) (fun i => n - (intOf i).toNat)
  case atStart => exact ⟨0, Nat.zero_le _, rfl, keep rfl⟩
  case round =>
    obtain ⟨k, hk, rfl, HK⟩ := hrel
    by_cases hlt : k < n
    · have hku : k < us.length := by omega
      obtain h | ⟨g, off, rfl, h⟩ := h
      · simp at h; subst h; simp at hku
      have c0 : w.cell? ⟨g, off + k, none⟩ = some (v64 us[k]) := h k _ (by simp [hku])
      cases hx : us[k] == x
      · have HN : Hid ((us.take (k + 1)).contains x = false) := keep (by
          rw [List.take_succ_eq_append_getElem hku, List.contains_append, HK.out]
          simp at hx ⊢; exact fun e => hx e.symm)
        clear h hn HTop
        generalize us[k] = y at *
        go_wp2_with fail
        go_round
        case rel => exact ⟨k + 1, by omega, by go_num, HN⟩
        case measure => simp [intOf]; omega
      · have hfin : mayL us x = false := by
          rw [HMay.out]
          have : us.contains x = true := by
            simp at hx ⊢; rw [← hx]; exact List.getElem_mem hku
          rw [this]; rfl
        have HF := keep hfin
        clear h hn HTop hfin
        generalize us[k] = y at *
        go_wp2_with fail
        go_ret
        exact ⟨by rw [HF.out]; rfl, rfl⟩
    · have e : us.take k = us := List.take_of_length_le (by omega)
      rw [e] at HK
      have hfin : mayL us x = (decide (n = 0) || decide (topL us < x) || decide (topL us - x < 64)) := by rw [HMay.out, HK.out]; rfl
      have HF := keep hfin
      clear e h hn HTop hfin HK HMay
      generalize topL us = t at *
      by_cases h0 : n = 0
      · have d0 : ((n : Int) == 0) = true := by simp [h0]
        have H0 := keep h0
        clear h0
        go_wp2_with fail
        go_ret
        exact ⟨by rw [HF.out, decide_eq_true H0.out]; rfl, rfl⟩
      · have d0 : ((n : Int) == 0) = false := by simp; omega
        have H0 := keep h0
        clear h0
        cases d1 : decide (t < x)
        all_goals
          go_wp2_with fail
          go_ret
          exact ⟨by rw [HF.out, decide_eq_false H0.out, d1]; rfl, rfl⟩
end Go.Proofs.Ytaaokbchpbedgaa

/-
  ShaFills: what is filled up has a multiple of 64 bytes, and unlike texts are filled up to unlike ones: the walk of the law.
-/
import Derived.Test.YtbfgnlckmpnchaaAwake
namespace Go.Proofs.Ytbfgnlckmpnchaa
open Go.RowKit
set_option linter.unusedVariables false
set_option linter.unusedSimpArgs false
theorem fillf_take (l : List UInt8) : (fillf l).take l.length = l := by
  simp [fillf, fillp]
theorem fillf_tail (l : List UInt8) (q : Nat) (hq : q < 8) : bt (fillf l) ((fillf l).length - 8 + q) = nb (8 * l.length) (7 - q) := by
  have e : (fillf l).length - 8 = (fillp l).length := by simp [fillf, tl]
  rw [e]
  unfold fillf
  rw [bt_app_right (by omega), Nat.add_sub_cancel_left, bt_tl _ hq]
theorem fillf_inj {s t : List UInt8} (hs : s.length ≤ 400) (ht : t.length ≤ 400) (h : fillf s = fillf t) : s = t := by
  have h7 := fillf_tail s 7 (by omega)
  have h6 := fillf_tail s 6 (by omega)
  rw [h, fillf_tail t 7 (by omega)] at h7
  rw [h, fillf_tail t 6 (by omega)] at h6
  have e7 := congrArg UInt8.toNat h7
  have e6 := congrArg UInt8.toNat h6
  unfold nb at e7 e6
  rw [UInt8.toNat_ofNat', UInt8.toNat_ofNat'] at e7 e6
  simp only [Nat.sub_self, Nat.pow_zero, Nat.div_one, show 7 - 6 = 1 from rfl, Nat.pow_one, show (2 : Nat) ^ 8 = 256 from rfl] at e7 e6
  have hl : s.length = t.length := by omega
  have h1 := fillf_take s
  rw [h, hl, fillf_take t] at h1
  exact h1.symm
set_option maxHeartbeats 4000000 in
theorem fills_walk (s t : ByteArray) (w : World) : Calls Try.prog 3 #[.string s, .string t] w fun e w' => e = .returned (.bool true) ∧ Below w.heap.size w w' := by
  rw [tx_of s, tx_of t]
  generalize s.toList = l
  generalize t.toList = m
  by_cases hl : 400 < l.length
  · have gl : (400 : Int) < (l.length : Int) := by omega
    go_enter Try.func3, Try.ntmps3
    go_wp2_with fail
    refine (awake_any _).mono ?_; rintro e w1 ⟨rfl, hb1⟩
    go_wp2_with fail
    refine (awake_any _).mono ?_; rintro e w2 ⟨rfl, hb2⟩
    go_wp2_with fail
    go_ret
    exact ⟨rfl, hb1.trans (hb2.mono hb1.size)⟩
  · have gl : ¬ (400 : Int) < (l.length : Int) := by omega
    by_cases hm : 400 < m.length
    · have gm : (400 : Int) < (m.length : Int) := by omega
      go_enter Try.func3, Try.ntmps3
      go_wp2_with fail
      refine (awake_any _).mono ?_; rintro e w1 ⟨rfl, hb1⟩
      go_wp2_with fail
      refine (awake_any _).mono ?_; rintro e w2 ⟨rfl, hb2⟩
      go_wp2_with fail
      go_ret
      exact ⟨rfl, hb1.trans (hb2.mono hb1.size)⟩
    · have gm : ¬ (400 : Int) < (m.length : Int) := by omega
      have h64 := fillf_64 l
      have hfl := fillf_length l
      have hz : zc l.length < 64 := by unfold zc; omega
      have htk := fillf_take l
      have hinj : fillf l = fillf m ↔ l = m := ⟨fillf_inj (by omega) (by omega), fun h => by rw [h]⟩
      go_enter Try.func3, Try.ntmps3
      go_wp2_with fail
      refine (awake_any _).mono ?_; rintro e w1 ⟨rfl, hb1⟩
      go_wp2_with fail
      refine (fill_any l (by omega) _).mono ?_; rintro e w2 ⟨rfl, hb2⟩
      go_wp2_with fail
      refine (fill_any m (by omega) _).mono ?_; rintro e w3 ⟨rfl, hb3⟩
      generalize fillf l = a at *
      generalize fillf m = b at *
      have g64 : ((a.length : Int) % 64) = 0 := by omega
      have g9 : (l.length : Int) + 9 ≤ (a.length : Int) := by omega
      have g73 : (a.length : Int) < (l.length : Int) + 73 := by omega
      have gla : (l.length : Int) ≤ (a.length : Int) := by omega
      have HINJ := keep hinj
      clear hinj h64 hfl hz
      go_wp2_with fail
      go_ret
      have hb := (hb1.trans (hb2.mono hb1.size)).trans (hb3.mono (hb1.trans (hb2.mono hb1.size)).size)
      refine ⟨?_, hb⟩
      have hd : ((a == b) == (l == m)) = true := by
        have := HINJ.out
        rw [show (a == b) = (l == m) from by rw [Bool.eq_iff_iff, beq_iff_eq, beq_iff_eq]; exact this]
        simp
      exact congrArg (fun z => Ending.returned (Value.bool z)) hd
end Go.Proofs.Ytbfgnlckmpnchaa

/-
  queue: QueueFull, the plain law and the walk.
-/
import Derived.Test.YtldjlahkfdcllaaQAwake
import Derived.Test.YtldjlahkfdcllaaArgs
namespace Go.Proofs.Ytldjlahkfdcllaa
open Go.RowKit

/-! ### The plain law -/
def upto (n : Nat) : List Value := (List.range n).map fun j : Nat => Value.int .i64 (j : Int)
theorem upto_length (n : Nat) : (upto n).length = n := by simp [upto]
theorem upto_succ (n : Nat) : upto (n + 1) = upto n ++ [.int .i64 (n : Int)] := by simp [upto, List.range_succ]
theorem upto_ints (n : Nat) : Ints (upto n) := by
  intro u hu
  simp only [upto, List.mem_map] at hu
  obtain ⟨j, _, rfl⟩ := hu
  exact ⟨_, rfl⟩
/-- After i puts of one kind. -/
def fullS (lim : Nat) (b : Bool) (i : Nat) : Qs := if b then ⟨upto (min i lim), [], i - lim⟩ else ⟨[], upto (min i lim), i - lim⟩
theorem full_start (lim : Nat) (b : Bool) : fullS lim b 0 = ⟨[], [], 0⟩ := by cases b <;> simp [fullS, upto]
theorem full_put (lim : Nat) (b : Bool) (i : Nat) : (fullS lim b i).put lim b (.int .i64 (i : Int)) = (fullS lim b (i + 1), decide (lim ≤ i)) := by
  have h1 : i < lim → min (i + 1) lim = i + 1 ∧ min i lim = i ∧ i - lim = 0 ∧ i + 1 - lim = 0 := by omega
  have h2 : ¬ i < lim → min (i + 1) lim = lim ∧ min i lim = lim ∧ i + 1 - lim = i - lim + 1 := by omega
  cases b <;> simp only [fullS, Qs.put, if_true, if_false, upto_length, Bool.false_eq_true]
  all_goals
    by_cases h : i < lim
    · obtain ⟨e1, e2, e3, e4⟩ := h1 h
      have hd : decide (lim ≤ i) = false := by simp; omega
      rw [e1, e2, e3, e4, if_pos h, upto_succ, hd]
    · obtain ⟨e1, e2, e3⟩ := h2 h
      have hd : decide (lim ≤ i) = true := by simp; omega
      rw [e1, e2, e3, if_neg (by omega), hd]
theorem full_ints (lim : Nat) (b : Bool) (i : Nat) : Ints ((fullS lim b i).c ++ (fullS lim b i).d) := by
  cases b <;> simpa [fullS] using upto_ints _
theorem take_c_len (s : Qs) (z : Value) : (s.take z).1.c.length = s.c.length - 1 := by
  obtain ⟨c, d, dr⟩ := s
  cases c <;> cases d <;> simp [Qs.take]
theorem take_d_len (s : Qs) (z : Value) : (s.take z).1.d.length = if s.c.length = 0 then s.d.length - 1 else s.d.length := by
  obtain ⟨c, d, dr⟩ := s
  cases c <;> cases d <;> simp [Qs.take]
theorem take_dr (s : Qs) (z : Value) : (s.take z).1.dr = s.dr := by
  obtain ⟨c, d, dr⟩ := s
  cases c <;> cases d <;> simp [Qs.take]
theorem take_ints {s : Qs} (z : Value) (h : Ints (s.c ++ s.d)) : Ints ((s.take z).1.c ++ (s.take z).1.d) := by
  obtain ⟨c, d, dr⟩ := s
  cases c <;> cases d <;> simp only [Qs.take] <;> intro u hu <;> refine h u ?_ <;> simp at hu ⊢ <;> exact .inr hu
/-- .. and one of the other kind. -/
def fullT (lim : Nat) (b : Bool) (m : Nat) : Qs := if b then ⟨upto lim, [.int .i64 7], m⟩ else ⟨[.int .i64 7], upto lim, m⟩
theorem full_other (lim m : Nat) (b : Bool) (h : 1 ≤ lim) : (fullS lim b (lim + m)).put lim (!b) (.int .i64 7) = (fullT lim b m, false) := by
  have e1 : min (lim + m) lim = lim := by omega
  have e2 : lim + m - lim = m := by omega
  cases b <;> simp [fullS, fullT, Qs.put, e1, e2] <;> omega
theorem fullT_ints (lim m : Nat) (b : Bool) : Ints ((fullT lim b m).c ++ (fullT lim b m).d) := by
  have h7 : Ints [.int .i64 7] := fun u hu => ⟨7, by simpa using hu⟩
  cases b <;> simp only [fullT, if_true, if_false, Bool.false_eq_true] <;> intro u hu <;> rcases List.mem_append.1 hu with h | h
  · exact h7 u h
  · exact upto_ints _ u h
  · exact upto_ints _ u h
  · exact h7 u h
theorem fullT_lens (lim m : Nat) (b : Bool) : (fullT lim b m).c.length + (fullT lim b m).d.length = lim + 1 := by
  cases b <;> simp [fullT, upto_length]; omega
/-- After two takes there is room. -/
theorem full_room (lim m : Nat) (b : Bool) (h : 1 ≤ lim) (z : Value) (u : Value) : ((((fullT lim b m).take z).1.take z).1.put lim b u).2 = false := by
  have h1 := take_c_len ((fullT lim b m).take z).1 z
  have h2 := take_c_len (fullT lim b m) z
  have h3 := take_d_len ((fullT lim b m).take z).1 z
  have h4 := take_d_len (fullT lim b m) z
  unfold Qs.put
  cases b
  · have e1 : (fullT lim false m).c.length = 1 := rfl
    have e2 : (fullT lim false m).d.length = lim := upto_length _
    simp only [Bool.false_eq_true, if_false]
    rw [if_pos]
    rw [h3, h2, h4, e1, e2]; simp; omega
  · have e1 : (fullT lim true m).c.length = lim := upto_length _
    simp only [if_true]
    rw [if_pos]
    rw [h1, h2, e1]; omega

/-! ### The walk -/
def FullRel (q base lim : Nat) (b : Bool) (w wr : World) (i : Nat) : Prop := ∃ F, QAt 57 wr q base F lim (fullS lim b i) ∧ Below w.heap.size w wr
set_option maxHeartbeats 1000000 in
theorem full_walk (limit more : UInt8) (b : Bool) (w : World) : Calls Try.prog 6 #[v8 limit, v8 more, .bool b] w fun e w' => e = .returned (.bool true) ∧ Below w.heap.size w w' := by
  go_enter Try.func6, Try.ntmps6
  go_wp2_with fail
  refine (awake_any _).mono ?_; rintro e w1 ⟨rfl, hb1⟩
  go_wp2_with fail
  obtain ⟨K, hK, hK1, hK2⟩ : ∃ K : Nat, (1 + (limit.toNat : Int) % 50) = K ∧ 1 ≤ K ∧ K ≤ 50 := ⟨1 + limit.toNat % 50, by omega, by omega, by omega⟩
  obtain ⟨M, hM, hM2⟩ : ∃ M : Nat, (1 + (more.toNat : Int) % 20) = M ∧ M ≤ 20 := ⟨1 + more.toNat % 20, by omega, by omega⟩
  rw [hK, hM]
  clear hK hM
  refine (new_any K w.heap.size w1 hK1 (by omega) hb1.size).mono ?_
  rintro e w2 ⟨rfl, hQ2, hb2, hs2⟩
  have hR : FullRel w1.heap.size w.heap.size K b w w2 0 := ⟨_, by rw [full_start]; exact hQ2, hb1.trans (hb2.mono hb1.size)⟩
  clear hQ2 hb2 hb1
  unfold ptr
  generalize w1.heap.size = q at *
  go_wp2_with fail
  go_loopw [11] (fun i wr => ∃ k : Nat, k ≤ K + M ∧ i = .int .i64 k ∧ FullRel q w.heap.size K b w wr k) (fun i _ => K + M - (intOf i).toNat)
  case atStart => exact ⟨0, Nat.zero_le _, rfl, hR⟩
  case round =>
    obtain ⟨k, hk, rfl, F, hQ, hbel⟩ := hrel
    by_cases hlt : k < K + M
    · have hp := full_put K b k
      by_cases hkK : k < K
      · have hd : decide (K ≤ k) = false := by simp; omega
        have g1 : decide ((k : Int) < (K : Int)) = true := by simp; omega
        go_wp2_with fail
        refine (put_any _ K q _ F b k wr hQ ?_ (by omega)).mono ?_
        · cases b <;> simp [fullS] <;> omega
        rintro e w3 ⟨rfl, F3, hQ3, hT3, hF3⟩
        rw [hp, hd] at *
        unfold errOf
        have hf : FullRel q w.heap.size K b w w3 (k + 1) := ⟨F3, hQ3, hbel.trans (hT3.toBelow hbel.size (fun j hj => (hQ.size j hj).1))⟩
        clear hQ hQ3 hT3 hF3 hp
        go_wp2_with fail
        go_roundw
        case rel => exact ⟨k + 1, by omega, by go_num, hf⟩
        case measure => simp [intOf]; omega
      · have hd : decide (K ≤ k) = true := by simp; omega
        have g1 : decide ((k : Int) < (K : Int)) = false := by simp; omega
        go_wp2_with fail
        refine (put_any _ K q _ F b k wr hQ ?_ (by omega)).mono ?_
        · cases b <;> simp [fullS] <;> omega
        rintro e w3 ⟨rfl, F3, hQ3, hT3, hF3⟩
        rw [hp, hd] at *
        unfold errOf
        have hf : FullRel q w.heap.size K b w w3 (k + 1) := ⟨F3, hQ3, hbel.trans (hT3.toBelow hbel.size (fun j hj => (hQ.size j hj).1))⟩
        clear hQ hQ3 hT3 hF3 hp
        go_wp2_with fail
        go_roundw
        case rel => exact ⟨k + 1, by omega, by go_num, hf⟩
        case measure => simp [intOf]; omega
    · obtain rfl : k = K + M := by omega
      have h1 := full_other K M b hK1
      have h2 := fullT_ints K M b
      have h3 := fullT_lens K M b
      have h4 : (fullT K b M).dr = M := by cases b <;> rfl
      have h5 := full_room K M b hK1 (.int .i64 0) (.int .i64 1)
      have HR := keep h5
      clear h5
      have hF : ∀ {F : Nat → Prop} {s : Qs} {wz : World}, QAt 57 wz q w.heap.size F K s → ∀ j, F j → w.heap.size ≤ j := fun hq j hj => (hq.size j hj).1
      go_wp2_with fail
      refine Calls.mono (show Calls Try.prog 9 #[.pointer (some ⟨q, 0, none⟩), .bool !b, .int .i64 7] _ _ from put_any _ K q _ F (!b) 7 wr hQ ?_ (by omega)) ?_
      · cases b <;> simp [fullS] <;> omega
      rintro e w3 ⟨rfl, F3, hQ3, hT3, hF3⟩
      rw [h1] at *
      have hb3 := hbel.trans (hT3.toBelow hbel.size (hF hQ))
      clear hQ hT3 hF3 h1 hbel
      unfold errOf
      simp only at hQ3
      generalize fullT K b M = s at *
      go_wp2_with fail
      refine (len_any s K q _ F3 w3 hQ3).mono ?_
      rintro e w4 ⟨rfl, nq, rfl⟩
      have hQ4 : QAt 57 (w3.drewN nq) q w.heap.size F3 K s := hQ3
      have hb4 : Below w.heap.size w (w3.drewN nq) := ⟨hb3.os, hb3.tape, hb3.output, hb3.size, hb3.block⟩
      clear hQ3 hb3
      generalize w3.drewN nq = w4 at *
      have g1 : ((s.c.length : Int) + (s.d.length : Int) != (K : Int) + 1) = false := by simp; omega
      go_wp2_with fail
      refine (dropped_any s K q _ F3 w4 hQ4).mono ?_
      rintro e w5 ⟨rfl, rfl⟩
      rw [h4]
      go_wp2_with fail
      refine (take_any s K q _ F3 w4 hQ4 h2).mono ?_
      rintro e w5 ⟨rfl, F5, hQ5, hT5, _⟩
      have hb5 := hb4.trans (hT5.toBelow hb4.size (hF hQ4))
      clear hb4 hT5 hQ4
      have h6 := take_ints (.int .i64 0) h2
      have h7 := take_dr s (.int .i64 0)
      generalize s.take (.int .i64 0) = r at *
      go_wp2_with fail
      refine (take_any r.1 K q _ F5 w5 hQ5 h6).mono ?_
      rintro e w6 ⟨rfl, F6, hQ6, hT6, _⟩
      have hb6 := hb5.trans (hT6.toBelow hb5.size (hF hQ5))
      clear hb5 hT6 hQ5
      have h8 := take_dr r.1 (.int .i64 0)
      generalize r.1.take (.int .i64 0) = r2 at *
      go_wp2_with fail
      refine Calls.mono (show Calls Try.prog 9 #[.pointer (some ⟨q, 0, none⟩), .bool b, .int .i64 1] _ _ from put_any r2.1 K q _ F6 b 1 w6 hQ6 (by omega) (by omega)) ?_
      rintro e w7 ⟨rfl, F7, hQ7, hT7, _⟩
      rw [HR.out]
      unfold errOf
      have hb7 := hb6.trans (hT7.toBelow hb6.size (hF hQ6))
      go_wp2_with fail
      go_ret
      exact ⟨rfl, hb7⟩
end Go.Proofs.Ytldjlahkfdcllaa

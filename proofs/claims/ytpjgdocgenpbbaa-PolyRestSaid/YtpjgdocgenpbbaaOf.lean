/-
  poly: of: up to sixteen bytes, and a byte 1 behind, as a number of three words.
-/
import Derived.Test.YtpjgdocgenpbbaaWord
namespace Go.Proofs.Ytpjgdocgenpbbaa
open Go.RowKit
/-- The words of a text's bytes. -/
def wat (s : List UInt8) (j : Nat) : UInt64 := UInt64.ofNat (leN ((s.drop (8 * j)).take 8))
theorem wat_nat (s : List UInt8) (j : Nat) : (wat s j).toNat = leN ((s.drop (8 * j)).take 8) := by
  unfold wat
  rw [UInt64.toNat_ofNat', Nat.mod_eq_of_lt]
  have h := leN_lt ((s.drop (8 * j)).take 8)
  have h2 : (256 : Nat) ^ ((s.drop (8 * j)).take 8).length ≤ 256 ^ 8 := Nat.pow_le_pow_right (by omega) (by simp; omega)
  have h3 : (256 : Nat) ^ 8 = 2 ^ 64 := by decide
  omega
theorem leN_split (s : List UInt8) (n : Nat) : leN s = leN (s.take n) + 256 ^ (s.take n).length * leN (s.drop n) := by
  rw [← leN_append, List.take_append_drop]
theorem leN_eight (s : List UInt8) : leN s = leN (s.take 8) + 18446744073709551616 * leN (s.drop 8) := by
  rw [leN_split s 8]
  by_cases h : 8 ≤ s.length
  · rw [List.length_take, Nat.min_eq_left h]
  · rw [List.drop_eq_nil_of_le (by omega)]
    simp [leN]
theorem wat_V3 (s : List UInt8) (h : s.length ≤ 24) : V3 (wat s 0) (wat s 1) (wat s 2) = leN s := by
  unfold V3
  rw [wat_nat, wat_nat, wat_nat, leN_eight s, leN_eight (s.drop 8), List.drop_drop, leN_eight (s.drop (8 + 8)), List.drop_drop]
  rw [List.drop_eq_nil_of_le (show s.length ≤ 8 + 8 + 8 by omega)]
  simp only [Nat.mul_zero, List.drop_zero, leN, Nat.mul_one, show 8 * 2 = 8 + 8 from rfl]
  omega
theorem wat_none (s : List UInt8) (j : Nat) (h : s.length ≤ 8 * j) : wat s j = 0 := by
  unfold wat
  rw [List.drop_eq_nil_of_le h]
  rfl
def upw (f : Nat → UInt64) (k : Nat) : Nat → UInt64 := fun j => if j < k then f j else 0
theorem upw_set (n : Nat) (f : Nat → UInt64) (k : Nat) : (arr n fun j => v64 (upw f k j)).setIfInBounds k (v64 (f k)) = arr n fun j => v64 (upw f (k + 1) j) := by
  rw [arr_set]
  refine arr_congr fun i _ => ?_
  unfold upw
  by_cases h : i = k
  · simp [h]
  · by_cases h1 : i < k
    · simp [h, h1, show i < k + 1 by omega]
    · simp [h, h1, show ¬ i < k + 1 by omega]
structure OR (N : Nat) (w wr : World) (f : Nat → UInt64) : Prop where
  h0 : ∃ cs, Blk wr N 41 cs ∧ cs.size = 3
  h1 : Blk wr (N + 1) 41 (arr 3 fun j => v64 (f j))
  bel : Below N w wr
theorem of_any (l : List UInt8) (w : World) (hl : l.length ≤ 16) : Calls Try.prog 18 #[.string (tx l)] w fun e w' => ∃ x y z, e = .returned (.agg (n3 x y z)) ∧ V3 x y z = leN (l ++ [1]) ∧ Below w.heap.size w w' := by
  have hV := keep (wat_V3 (l ++ [1]) (by simp; omega))
  have hA : OR w.heap.size w ((w.alloc (.cells (n3 0 0 0) 41)).alloc (.cells (n3 0 0 0) 41)) (upw (wat (l ++ [1])) 0) :=
    ⟨⟨_, (Blk.made w 41 _).alloc _, rfl⟩, madeA w _ 41 _, belowB _ _ _⟩
  go_enter Try.func18, Try.ntmps18
  go_wp2_with fail
  have hlen : (l ++ [1]).length ≤ 17 := by simp; omega
  generalize hS : l ++ [1] = S at *
  generalize hN : w.heap.size = N at *
  go_loopw [7] (fun t wr => ∃ i : Nat, i ≤ 3 ∧ t = .int .i64 i ∧ OR N w wr (upw (wat S) i)) (fun t _ => 3 - (intOf t).toNat)
  case atStart => exact ⟨0, Nat.zero_le _, rfl, hA⟩
  case round =>
    obtain ⟨i, hi, rfl, hR⟩ := hrel
    clear hA
    by_cases h4 : i < 3
    · have g4 : (i : Int) < 3 := by omega
      by_cases h8 : 8 * i < S.length
      · have g8 : 8 * (i : Int) < (S.length : Int) := by omega
        have c1 := hR.h1.at_ (arr_get (fun j => v64 (upw (wat S) i j)) h4)
        have f1 := hR.h1.free i
        by_cases h9 : 8 * i + 8 ≤ S.length
        · have g9 : 8 * (i : Int) + 8 ≤ (S.length : Int) := by omega
          have hsl := slice_tx (P := Try.prog) 9 Try.underlying9 S .i64 .i64 (8 * (i : Int)) (8 * (i : Int) + 8) (8 * i) (8 * i + 8) (by omega) (by omega) (by omega) h9
          rw [show 8 * i + 8 - 8 * i = 8 by omega] at hsl
          go_wp2_with fail
          refine (word_any ((S.drop (8 * i)).take 8) wr (by simp; omega)).mono ?_
          rintro e w2 ⟨x, rfl, hx, rfl⟩
          rw [show x = wat S i from UInt64.toNat_inj.1 (by rw [hx, wat_nat])]
          have hf : OR N w (wr.setCell ⟨N + 1, i, none⟩ (v64 (wat S i))) (upw (wat S) (i + 1)) := by
            obtain ⟨⟨cs, h0, h00⟩, h1, hbel⟩ := hR
            have := h1.set i (v64 (wat S i))
            rw [upw_set] at this
            exact ⟨⟨cs, h0.other (by simp) _, h00⟩, this, hbel.setCell (by simp) _⟩
          clear hR hx
          go_wp2_with fail
          go_roundw
          case rel => exact ⟨i + 1, by omega, by go_num, hf⟩
          case measure => simp [intOf]; omega
        · have g9 : ¬ 8 * (i : Int) + 8 ≤ (S.length : Int) := by omega
          have hsl := slice_tx (P := Try.prog) 9 Try.underlying9 S .i64 .i64 (8 * (i : Int)) (S.length : Int) (8 * i) S.length (by omega) (by omega) (by omega) (Nat.le_refl _)
          rw [show (S.drop (8 * i)).take (S.length - 8 * i) = (S.drop (8 * i)).take 8 by rw [List.take_of_length_le (by simp), List.take_of_length_le (by simp; omega)]] at hsl
          go_wp2_with fail
          refine (word_any ((S.drop (8 * i)).take 8) wr (by simp; omega)).mono ?_
          rintro e w2 ⟨x, rfl, hx, rfl⟩
          rw [show x = wat S i from UInt64.toNat_inj.1 (by rw [hx, wat_nat])]
          have hf : OR N w (wr.setCell ⟨N + 1, i, none⟩ (v64 (wat S i))) (upw (wat S) (i + 1)) := by
            obtain ⟨⟨cs, h0, h00⟩, h1, hbel⟩ := hR
            have := h1.set i (v64 (wat S i))
            rw [upw_set] at this
            exact ⟨⟨cs, h0.other (by simp) _, h00⟩, this, hbel.setCell (by simp) _⟩
          clear hR hx
          go_wp2_with fail
          go_roundw
          case rel => exact ⟨i + 1, by omega, by go_num, hf⟩
          case measure => simp [intOf]; omega
      · have g8 : ¬ 8 * (i : Int) < (S.length : Int) := by omega
        have hf : OR N w wr (upw (wat S) (i + 1)) := by
          obtain ⟨h0, h1, hbel⟩ := hR
          have e : (arr 3 fun j => v64 (upw (wat S) i j)) = arr 3 fun j => v64 (upw (wat S) (i + 1) j) := arr_congr fun j _ => by
            unfold upw
            by_cases h : j = i
            · subst h; simp [wat_none S j (by omega)]
            · by_cases h1 : j < i
              · simp [h1, show j < i + 1 by omega]
              · simp [h1, show ¬ j < i + 1 by omega]
          rw [e] at h1
          exact ⟨h0, h1, hbel⟩
        clear hR
        go_wp2_with fail
        go_roundw
        case rel => exact ⟨i + 1, by omega, by go_num, hf⟩
        case measure => simp [intOf]; omega
    · have g4 : ¬ (i : Int) < 3 := by omega
      have e4 : i = 3 := by omega
      rw [e4] at hR
      clear e4 hi
      obtain ⟨⟨cs, h0, h00⟩, h1, hbel⟩ := hR
      have h1' : Blk wr (N + 1) 41 (n3 (wat S 0) (wat S 1) (wat S 2)) := h1
      clear h1
      go_wp2_with (first
        | (refine wpList_load_row rfl 41 (.tmp 3) rfl (N + 1) rfl 41 (n3 (wat S 0) (wat S 1) (wat S 2)) (0, 0) _ h1' Try.underlying41 rfl (by kernel_rfl) ?_)
        | (refine wpList_store_row rfl 41 (.tmp 2) (.tmp 29) rfl N (n3 (wat S 0) (wat S 1) (wat S 2)) rfl rfl 41 cs h0 (by kernel_rfl) (by rw [h00]; rfl) (n3_one _ _ _) ?_))
      refine bodyPost_ret (results_c rfl _ _ N 41 _ _ _ rfl (h0.setRow (n3 (wat S 0) (wat S 1) (wat S 2))) Try.underlying41 (by kernel_rfl)) rfl ?_
      exact ⟨_, _, _, rfl, hV.out, below_row hbel (Nat.le_refl _) _⟩
end Go.Proofs.Ytpjgdocgenpbbaa

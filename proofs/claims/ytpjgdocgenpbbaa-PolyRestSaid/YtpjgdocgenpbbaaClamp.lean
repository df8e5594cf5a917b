/-
  poly: Clamp: a key with its bits made 0.
-/
import Derived.Test.YtpjgdocgenpbbaaTimes
namespace Go.Proofs.Ytpjgdocgenpbbaa
open Go.RowKit
def karr (k : Nat → UInt8) : Array Value := arr 32 fun i => v8 (k i)
def cl (i : Nat) (x : UInt8) : UInt8 := if i < 16 then if i % 4 = 3 then x &&& 15 else if i % 4 = 0 ∧ 0 < i then x &&& 252 else x else x
def clampf (k : Nat → UInt8) : Nat → UInt8 := fun i => cl i (k i)
def clup (k : Nat → UInt8) (j : Nat) : Nat → UInt8 := fun i => if i < j then cl i (k i) else k i
theorem clup_set (k : Nat → UInt8) (j : Nat) (x : UInt8) (hx : x = cl j (k j)) : (karr (clup k j)).setIfInBounds j (v8 x) = karr (clup k (j + 1)) := by
  unfold karr
  rw [arr_set]
  refine arr_congr fun i _ => ?_
  unfold clup
  by_cases h : i = j
  · subst h; simp [hx]
  · by_cases h1 : i < j
    · simp [h, h1, show i < j + 1 by omega]
    · simp [h, h1, show ¬ i < j + 1 by omega]
theorem clup_stay (k : Nat → UInt8) (j : Nat) (hx : k j = cl j (k j)) : karr (clup k j) = karr (clup k (j + 1)) := arr_congr fun i _ => by
  unfold clup
  by_cases h : i = j
  · subst h; simp [← hx]
  · by_cases h1 : i < j
    · simp [h1, show i < j + 1 by omega]
    · simp [h1, show ¬ i < j + 1 by omega]
theorem clup_done (k : Nat → UInt8) : karr (clup k 16) = karr (clampf k) := arr_congr fun i _ => by
  unfold clup clampf cl
  by_cases h : i < 16 <;> simp [h]
theorem clup_zero (k : Nat → UInt8) : karr (clup k 0) = karr k := arr_congr fun i _ => by simp [clup]
structure CR (N : Nat) (w wr : World) (f : Nat → UInt8) : Prop where
  h0 : Blk wr N 23 (karr f)
  h1 : ∃ cs, Blk wr (N + 1) 23 cs ∧ cs.size = 32
  bel : Below N w wr
theorem CR.set {N : Nat} {w wr : World} {k : Nat → UInt8} {j : Nat} (h : CR N w wr (clup k j)) (x : UInt8) (hx : x = cl j (k j)) : CR N w (wr.setCell ⟨N, j, none⟩ (v8 x)) (clup k (j + 1)) := by
  obtain ⟨h0, ⟨cs, h1, h2⟩, h3⟩ := h
  have := h0.set j (v8 x)
  rw [clup_set k j x hx] at this
  exact ⟨this, ⟨cs, h1.other (by simp) _, h2⟩, h3.setCell (Nat.le_refl _) _⟩
theorem clamp_any (k : Nat → UInt8) (w : World) : Calls Try.prog 10 #[.agg (karr k)] w fun e w' => e = .returned (.agg (karr (clampf k))) ∧ Below w.heap.size w w' := by
  have hA0 : ∀ cs : Array Value, cs.size = 32 → CR w.heap.size w ((w.alloc (.cells (karr k) 23)).alloc (.cells cs 23)) (clup k 0) := fun cs hcs =>
    ⟨by rw [clup_zero]; exact (Blk.made w 23 _).alloc _, ⟨cs, madeA w _ 23 cs, hcs⟩, belowB _ _ _⟩
  go_enter Try.func10, Try.ntmps10
  go_wp2_with fail
  generalize hN : w.heap.size = N at *
  go_loopw [4] (fun z wr => ∃ i : Nat, i ≤ 16 ∧ z = .int .i64 i ∧ CR N w wr (clup k i)) (fun z _ => 16 - (intOf z).toNat)
  case atStart => exact ⟨0, Nat.zero_le _, rfl, hA0 _ (by rfl)⟩
  case round =>
    obtain ⟨i, hi, rfl, hR⟩ := hrel
    clear hA0
    by_cases h4 : i < 16
    · have g4 : (i : Int) < 16 := by omega
      have g5 : (i : Int) < 32 := by omega
      have c1 : wr.cell? ⟨N, i, none⟩ = some (v8 (k i)) := by
        have := hR.h0.at_ (arr_get (fun j => v8 (clup k i j)) (show i < 32 by omega))
        rwa [show clup k i i = k i by simp [clup]] at this
      have f1 := hR.h0.free i
      by_cases h3 : i % 4 = 3
      · have t3 : ((i : Int) % 4 == 3) = true := by simp; omega
        have t0 : ((i : Int) % 4 == 0) = false := by simp; omega
        have hf := hR.set (k i &&& 15) (by simp [cl, h4, h3])
        clear h3
        go_wp2_with fail
        clear hR c1 f1
        go_roundw
        case rel => exact ⟨i + 1, by omega, by go_num, hf⟩
        case measure => simp [intOf]; omega
      · have t3 : ((i : Int) % 4 == 3) = false := by simp; omega
        by_cases h0 : i % 4 = 0
        · have t0 : ((i : Int) % 4 == 0) = true := by simp; omega
          by_cases hz : 0 < i
          · have tz : decide ((0 : Int) < (i : Int)) = true := by simp; omega
            have hf := hR.set (k i &&& 252) (by simp [cl, h4, h0, hz])
            clear h3 h0
            go_wp2_with fail
            clear hR c1 f1
            go_roundw
            case rel => exact ⟨i + 1, by omega, by go_num, hf⟩
            case measure => simp [intOf]; omega
          · have tz : decide ((0 : Int) < (i : Int)) = false := by simp; omega
            have hf : CR N w wr (clup k (i + 1)) := ⟨by rw [← clup_stay k i (by simp [cl, h4, h0, hz])]; exact hR.h0, hR.h1, hR.bel⟩
            clear h3 h0
            go_wp2_with fail
            clear hR c1 f1
            go_roundw
            case rel => exact ⟨i + 1, by omega, by go_num, hf⟩
            case measure => simp [intOf]; omega
        · have t0 : ((i : Int) % 4 == 0) = false := by simp; omega
          have hf : CR N w wr (clup k (i + 1)) := ⟨by rw [← clup_stay k i (by simp [cl, h3, h0])]; exact hR.h0, hR.h1, hR.bel⟩
          clear h3 h0
          go_wp2_with fail
          clear hR c1 f1
          go_roundw
          case rel => exact ⟨i + 1, by omega, by go_num, hf⟩
          case measure => simp [intOf]; omega
    · have g4 : ¬ (i : Int) < 16 := by omega
      have e4 : i = 16 := by omega
      rw [e4] at hR
      clear e4 hi
      obtain ⟨h0, ⟨cs, h1, h2⟩, hbel⟩ := hR
      rw [clup_done] at h0
      go_wp2_with (first
        | (refine wpList_load_row rfl 23 (.tmp 1) rfl N rfl 23 (karr (clampf k)) (0, 0) _ h0 Try.underlying23 rfl (by kernel_rfl) ?_)
        | (refine wpList_store_row rfl 23 (.tmp 2) (.tmp 28) rfl (N + 1) (karr (clampf k)) rfl rfl 23 cs h1 (by kernel_rfl) (by rw [h2]; exact (arr_size _ _).symm) (arr_one _ _ fun i => rfl) ?_))
      refine bodyPost_ret (results_c rfl _ _ (N + 1) 23 _ _ _ rfl (h1.setRow (karr (clampf k))) Try.underlying23 (by kernel_rfl)) rfl ?_
      exact ⟨rfl, below_row hbel (by omega) _⟩
end Go.Proofs.Ytpjgdocgenpbbaa

/-
  PolyAdds: the second half of a key is added to the sum that comes without it: the walk of the law (written by wip/tools/adds04.py).
-/
import Derived.Test.YtpjgdocgenpbbaaAddsPlain
import Derived.Test.YtpjgdocgenpbbaaInv
import Derived.Deep.QuietTactic
namespace Go.Proofs.Ytpjgdocgenpbbaa
open Go.RowKit
structure PZ (M Z : Nat) (w wr : World) (k z : Nat → UInt8) : Prop where
  key : Blk wr M 23 (karr k)
  hz : Blk wr Z 23 (karr z)
  bel : Below M w wr
  lt : M < Z
section
variable {M Z : Nat} {w wr w' : World} {k z : Nat → UInt8}
theorem PZ.below (h : PZ M Z w wr k z) (hb : Below wr.heap.size wr w') : PZ M Z w w' k z :=
  ⟨h.key.kept hb, h.hz.kept hb, h.bel.trans (hb.mono (by have := h.key.lt; omega)), h.lt⟩
theorem PZ.drew (h : PZ M Z w wr k z) : PZ M Z w wr.drew k z := ⟨h.key.drew, h.hz.drew, h.bel.drew, h.lt⟩
theorem PZ.many (h : PZ M Z w wr k z) (n : Nat) : PZ M Z w (wr.drewN n) k z := ⟨h.key, h.hz, ⟨h.bel.os, h.bel.tape, h.bel.output, h.bel.size, h.bel.block⟩, h.lt⟩
theorem PZ.alloc (h : PZ M Z w wr k z) (o : Obj) : PZ M Z w (wr.alloc o) k z := ⟨h.key.alloc _, h.hz.alloc _, h.bel.alloc (by have := h.key.lt; omega) _, h.lt⟩
theorem PZ.row (h : PZ M Z w wr k z) {g : Nat} (hg : Z < g) (ds : Array Value) : PZ M Z w (wr.setRow g ds) k z := by
  have := h.lt
  exact ⟨h.key.otherRow (by omega) _, h.hz.otherRow (by omega) _, below_row h.bel (by omega) _, h.lt⟩
end
theorem PZ.set {M Z j : Nat} {w wr : World} {k : Nat → UInt8} (h : PZ M Z w wr k (highup k j)) : PZ M Z w (wr.setCell ⟨Z, 16 + j, none⟩ (v8 0)) k (highup k (j + 1)) := by
  have hl := h.lt
  refine ⟨h.key.other (by simp; omega) _, ?_, h.bel.setCell (by simp; omega) _, h.lt⟩
  have := h.hz.set (16 + j) (v8 0)
  rwa [highup_set] at this
/-- What a new variable holds: zeros, or what is stored. -/
def Var (Z : Nat) (w : World) (v : Value) (done stored : Bool) (cs : Array Value) : Prop :=
  done = true → ∃ g, v = .pointer (some ⟨g, 0, none⟩) ∧ Z < g ∧ ∃ ds, Blk w g 25 ds ∧ ds.size = 16 ∧ (stored = true → ds = cs)
theorem Var.below {Z : Nat} {w w' : World} {v : Value} {d s : Bool} {cs : Array Value} (h : Var Z w v d s cs) (hb : Below w.heap.size w w') : Var Z w' v d s cs := fun hd => by
  obtain ⟨g, h1, h2, ds, h3, h4⟩ := h hd
  exact ⟨g, h1, h2, ds, h3.kept hb, h4⟩
structure AI (M Z : Nat) (w : World) (k : Nat → UInt8) (l : List UInt8) (wr : World) (L : Nat → Bool) (u26 u27 u28 u29 u30 u31 u7 u8 : Value) : Prop where
  hp : PZ M Z w wr k (highz k)
  e0 : L 0 = true → u26 = .agg (karr (highz k))
  e1 : L 1 = true → u27 = .string (tx l)
  e2 : L 2 = true → u28 = .agg (uarr8 16 (sumf (highz k) l))
  e3 : L 3 = true → u29 = .agg (karr k)
  e4 : L 4 = true → u30 = .string (tx l)
  e5 : L 5 = true → u31 = .agg (uarr8 16 (sumf k l))
  e6 : Var Z wr u7 (L 6) (L 8) (uarr8 16 (sumf (highz k) l))
  e7 : Var Z wr u8 (L 7) (L 9) (uarr8 16 (sumf k l))
  ne : L 6 = true → L 7 = true → u7 ≠ u8
  imp8 : L 8 = true → L 6 = true
  imp9 : L 9 = true → L 7 = true
section
variable {M Z : Nat} {w wr w' : World} {k : Nat → UInt8} {l : List UInt8} {L : Nat → Bool} {u26 u27 u28 u29 u30 u31 u7 u8 : Value}
theorem AI.s0 (hA : AI M Z w k l wr L u26 u27 u28 u29 u30 u31 u7 u8) : AI M Z w k l wr (Inv.plus 0 L) (.agg (karr (highz k))) u27 u28 u29 u30 u31 u7 u8 :=
  ⟨hA.hp, fun _ => rfl, fun h => hA.e1 (by rwa [Inv.plus_ne _ (by omega)] at h), fun h => hA.e2 (by rwa [Inv.plus_ne _ (by omega)] at h), fun h => hA.e3 (by rwa [Inv.plus_ne _ (by omega)] at h), fun h => hA.e4 (by rwa [Inv.plus_ne _ (by omega)] at h), fun h => hA.e5 (by rwa [Inv.plus_ne _ (by omega)] at h), by rw [Inv.plus_ne _ (by omega), Inv.plus_ne _ (by omega)]; exact hA.e6, by rw [Inv.plus_ne _ (by omega), Inv.plus_ne _ (by omega)]; exact hA.e7, by rw [Inv.plus_ne _ (by omega), Inv.plus_ne _ (by omega)]; exact hA.ne, by rw [Inv.plus_ne _ (by omega), Inv.plus_ne _ (by omega)]; exact hA.imp8, by rw [Inv.plus_ne _ (by omega), Inv.plus_ne _ (by omega)]; exact hA.imp9⟩
theorem AI.s1 (hA : AI M Z w k l wr L u26 u27 u28 u29 u30 u31 u7 u8) : AI M Z w k l wr (Inv.plus 1 L) u26 (.string (tx l)) u28 u29 u30 u31 u7 u8 :=
  ⟨hA.hp, fun h => hA.e0 (by rwa [Inv.plus_ne _ (by omega)] at h), fun _ => rfl, fun h => hA.e2 (by rwa [Inv.plus_ne _ (by omega)] at h), fun h => hA.e3 (by rwa [Inv.plus_ne _ (by omega)] at h), fun h => hA.e4 (by rwa [Inv.plus_ne _ (by omega)] at h), fun h => hA.e5 (by rwa [Inv.plus_ne _ (by omega)] at h), by rw [Inv.plus_ne _ (by omega), Inv.plus_ne _ (by omega)]; exact hA.e6, by rw [Inv.plus_ne _ (by omega), Inv.plus_ne _ (by omega)]; exact hA.e7, by rw [Inv.plus_ne _ (by omega), Inv.plus_ne _ (by omega)]; exact hA.ne, by rw [Inv.plus_ne _ (by omega), Inv.plus_ne _ (by omega)]; exact hA.imp8, by rw [Inv.plus_ne _ (by omega), Inv.plus_ne _ (by omega)]; exact hA.imp9⟩
theorem AI.s3 (hA : AI M Z w k l wr L u26 u27 u28 u29 u30 u31 u7 u8) : AI M Z w k l wr (Inv.plus 3 L) u26 u27 u28 (.agg (karr k)) u30 u31 u7 u8 :=
  ⟨hA.hp, fun h => hA.e0 (by rwa [Inv.plus_ne _ (by omega)] at h), fun h => hA.e1 (by rwa [Inv.plus_ne _ (by omega)] at h), fun h => hA.e2 (by rwa [Inv.plus_ne _ (by omega)] at h), fun _ => rfl, fun h => hA.e4 (by rwa [Inv.plus_ne _ (by omega)] at h), fun h => hA.e5 (by rwa [Inv.plus_ne _ (by omega)] at h), by rw [Inv.plus_ne _ (by omega), Inv.plus_ne _ (by omega)]; exact hA.e6, by rw [Inv.plus_ne _ (by omega), Inv.plus_ne _ (by omega)]; exact hA.e7, by rw [Inv.plus_ne _ (by omega), Inv.plus_ne _ (by omega)]; exact hA.ne, by rw [Inv.plus_ne _ (by omega), Inv.plus_ne _ (by omega)]; exact hA.imp8, by rw [Inv.plus_ne _ (by omega), Inv.plus_ne _ (by omega)]; exact hA.imp9⟩
theorem AI.s4 (hA : AI M Z w k l wr L u26 u27 u28 u29 u30 u31 u7 u8) : AI M Z w k l wr (Inv.plus 4 L) u26 u27 u28 u29 (.string (tx l)) u31 u7 u8 :=
  ⟨hA.hp, fun h => hA.e0 (by rwa [Inv.plus_ne _ (by omega)] at h), fun h => hA.e1 (by rwa [Inv.plus_ne _ (by omega)] at h), fun h => hA.e2 (by rwa [Inv.plus_ne _ (by omega)] at h), fun h => hA.e3 (by rwa [Inv.plus_ne _ (by omega)] at h), fun _ => rfl, fun h => hA.e5 (by rwa [Inv.plus_ne _ (by omega)] at h), by rw [Inv.plus_ne _ (by omega), Inv.plus_ne _ (by omega)]; exact hA.e6, by rw [Inv.plus_ne _ (by omega), Inv.plus_ne _ (by omega)]; exact hA.e7, by rw [Inv.plus_ne _ (by omega), Inv.plus_ne _ (by omega)]; exact hA.ne, by rw [Inv.plus_ne _ (by omega), Inv.plus_ne _ (by omega)]; exact hA.imp8, by rw [Inv.plus_ne _ (by omega), Inv.plus_ne _ (by omega)]; exact hA.imp9⟩
theorem AI.s2 (hA : AI M Z w k l wr L u26 u27 u28 u29 u30 u31 u7 u8) (hb : Below wr.heap.size wr w') : AI M Z w k l w' (Inv.plus 2 L) u26 u27 (.agg (uarr8 16 (sumf (highz k) l))) u29 u30 u31 u7 u8 :=
  ⟨hA.hp.below hb, fun h => hA.e0 (by rwa [Inv.plus_ne _ (by omega)] at h), fun h => hA.e1 (by rwa [Inv.plus_ne _ (by omega)] at h), fun _ => rfl, fun h => hA.e3 (by rwa [Inv.plus_ne _ (by omega)] at h), fun h => hA.e4 (by rwa [Inv.plus_ne _ (by omega)] at h), fun h => hA.e5 (by rwa [Inv.plus_ne _ (by omega)] at h), by rw [Inv.plus_ne _ (by omega), Inv.plus_ne _ (by omega)]; exact hA.e6.below hb, by rw [Inv.plus_ne _ (by omega), Inv.plus_ne _ (by omega)]; exact hA.e7.below hb, by rw [Inv.plus_ne _ (by omega), Inv.plus_ne _ (by omega)]; exact hA.ne, by rw [Inv.plus_ne _ (by omega), Inv.plus_ne _ (by omega)]; exact hA.imp8, by rw [Inv.plus_ne _ (by omega), Inv.plus_ne _ (by omega)]; exact hA.imp9⟩
theorem AI.s5 (hA : AI M Z w k l wr L u26 u27 u28 u29 u30 u31 u7 u8) (hb : Below wr.heap.size wr w') : AI M Z w k l w' (Inv.plus 5 L) u26 u27 u28 u29 u30 (.agg (uarr8 16 (sumf k l))) u7 u8 :=
  ⟨hA.hp.below hb, fun h => hA.e0 (by rwa [Inv.plus_ne _ (by omega)] at h), fun h => hA.e1 (by rwa [Inv.plus_ne _ (by omega)] at h), fun h => hA.e2 (by rwa [Inv.plus_ne _ (by omega)] at h), fun h => hA.e3 (by rwa [Inv.plus_ne _ (by omega)] at h), fun h => hA.e4 (by rwa [Inv.plus_ne _ (by omega)] at h), fun _ => rfl, by rw [Inv.plus_ne _ (by omega), Inv.plus_ne _ (by omega)]; exact hA.e6.below hb, by rw [Inv.plus_ne _ (by omega), Inv.plus_ne _ (by omega)]; exact hA.e7.below hb, by rw [Inv.plus_ne _ (by omega), Inv.plus_ne _ (by omega)]; exact hA.ne, by rw [Inv.plus_ne _ (by omega), Inv.plus_ne _ (by omega)]; exact hA.imp8, by rw [Inv.plus_ne _ (by omega), Inv.plus_ne _ (by omega)]; exact hA.imp9⟩
theorem AI.s6 (hL : L 6 = false) (hA : AI M Z w k l wr L u26 u27 u28 u29 u30 u31 u7 u8) : AI M Z w k l (wr.alloc (.cells #[.int .u8 0, .int .u8 0, .int .u8 0, .int .u8 0, .int .u8 0, .int .u8 0, .int .u8 0, .int .u8 0, .int .u8 0, .int .u8 0, .int .u8 0, .int .u8 0, .int .u8 0, .int .u8 0, .int .u8 0, .int .u8 0] 25)) (Inv.plus 6 L) u26 u27 u28 u29 u30 u31 (.pointer (some ⟨wr.heap.size, 0, none⟩)) u8 :=
  ⟨hA.hp.alloc _, fun h => hA.e0 (by rwa [Inv.plus_ne _ (by omega)] at h), fun h => hA.e1 (by rwa [Inv.plus_ne _ (by omega)] at h), fun h => hA.e2 (by rwa [Inv.plus_ne _ (by omega)] at h), fun h => hA.e3 (by rwa [Inv.plus_ne _ (by omega)] at h), fun h => hA.e4 (by rwa [Inv.plus_ne _ (by omega)] at h), fun h => hA.e5 (by rwa [Inv.plus_ne _ (by omega)] at h), fun _ => ⟨_, rfl, hA.hp.hz.lt, _, Blk.made wr 25 _, rfl, fun h => by rw [Inv.plus_ne _ (by omega)] at h; exact absurd (hA.imp8 h) (by rw [hL]; exact Bool.false_ne_true)⟩, by rw [Inv.plus_ne _ (by omega), Inv.plus_ne _ (by omega)]; exact hA.e7.below (belowA wr _), fun _ h7 e => by
    rw [Inv.plus_ne _ (by omega)] at h7
    obtain ⟨g, h1, h2, ds, h3, _⟩ := hA.e7 h7
    rw [h1] at e
    injection e with e; injection e with e; injection e with e
    have := h3.lt; omega, fun _ => by simp, by rw [Inv.plus_ne _ (by omega), Inv.plus_ne _ (by omega)]; exact hA.imp9⟩
theorem AI.s7 (hL : L 7 = false) (hA : AI M Z w k l wr L u26 u27 u28 u29 u30 u31 u7 u8) : AI M Z w k l (wr.alloc (.cells #[.int .u8 0, .int .u8 0, .int .u8 0, .int .u8 0, .int .u8 0, .int .u8 0, .int .u8 0, .int .u8 0, .int .u8 0, .int .u8 0, .int .u8 0, .int .u8 0, .int .u8 0, .int .u8 0, .int .u8 0, .int .u8 0] 25)) (Inv.plus 7 L) u26 u27 u28 u29 u30 u31 u7 (.pointer (some ⟨wr.heap.size, 0, none⟩)) :=
  ⟨hA.hp.alloc _, fun h => hA.e0 (by rwa [Inv.plus_ne _ (by omega)] at h), fun h => hA.e1 (by rwa [Inv.plus_ne _ (by omega)] at h), fun h => hA.e2 (by rwa [Inv.plus_ne _ (by omega)] at h), fun h => hA.e3 (by rwa [Inv.plus_ne _ (by omega)] at h), fun h => hA.e4 (by rwa [Inv.plus_ne _ (by omega)] at h), fun h => hA.e5 (by rwa [Inv.plus_ne _ (by omega)] at h), by rw [Inv.plus_ne _ (by omega), Inv.plus_ne _ (by omega)]; exact hA.e6.below (belowA wr _), fun _ => ⟨_, rfl, hA.hp.hz.lt, _, Blk.made wr 25 _, rfl, fun h => by rw [Inv.plus_ne _ (by omega)] at h; exact absurd (hA.imp9 h) (by rw [hL]; exact Bool.false_ne_true)⟩, fun h6 _ e => by
    rw [Inv.plus_ne _ (by omega)] at h6
    obtain ⟨g, h1, h2, ds, h3, _⟩ := hA.e6 h6
    rw [h1] at e
    injection e with e; injection e with e; injection e with e
    have := h3.lt; omega, by rw [Inv.plus_ne _ (by omega), Inv.plus_ne _ (by omega)]; exact hA.imp8, fun _ => by simp⟩
theorem AI.s8 {g : Nat} {ds : Array Value} (hA : AI M Z w k l wr L u26 u27 u28 u29 u30 u31 (.pointer (some ⟨g, 0, none⟩)) u8) (hG : Blk wr g 25 ds) (hds : ds.size = 16) (hg : Z < g) (h6 : L 6 = true) :
    AI M Z w k l (wr.setRow g (uarr8 16 (sumf (highz k) l))) (Inv.plus 8 L) u26 u27 u28 u29 u30 u31 (.pointer (some ⟨g, 0, none⟩)) u8 :=
  ⟨hA.hp.row hg _, fun h => hA.e0 (by rwa [Inv.plus_ne _ (by omega)] at h), fun h => hA.e1 (by rwa [Inv.plus_ne _ (by omega)] at h), fun h => hA.e2 (by rwa [Inv.plus_ne _ (by omega)] at h), fun h => hA.e3 (by rwa [Inv.plus_ne _ (by omega)] at h), fun h => hA.e4 (by rwa [Inv.plus_ne _ (by omega)] at h), fun h => hA.e5 (by rwa [Inv.plus_ne _ (by omega)] at h), fun _ => ⟨g, rfl, hg, _, hG.setRow _, by simp [uarr8, arr_size], fun _ => rfl⟩, fun h7 => by
    rw [Inv.plus_ne _ (by omega)] at h7 ⊢
    obtain ⟨g', h1, h2, ds', h3, h4⟩ := hA.e7 h7
    have hne : g' ≠ g := fun e => hA.ne h6 h7 (by rw [h1, e])
    exact ⟨g', h1, h2, ds', h3.otherRow hne _, h4⟩, by rw [Inv.plus_ne _ (by omega), Inv.plus_ne _ (by omega)]; exact hA.ne, fun _ => by rw [Inv.plus_ne _ (by omega)]; exact h6, by rw [Inv.plus_ne _ (by omega), Inv.plus_ne _ (by omega)]; exact hA.imp9⟩
theorem AI.s9 {g : Nat} {ds : Array Value} (hA : AI M Z w k l wr L u26 u27 u28 u29 u30 u31 u7 (.pointer (some ⟨g, 0, none⟩))) (hG : Blk wr g 25 ds) (hds : ds.size = 16) (hg : Z < g) (h7 : L 7 = true) :
    AI M Z w k l (wr.setRow g (uarr8 16 (sumf k l))) (Inv.plus 9 L) u26 u27 u28 u29 u30 u31 u7 (.pointer (some ⟨g, 0, none⟩)) :=
  ⟨hA.hp.row hg _, fun h => hA.e0 (by rwa [Inv.plus_ne _ (by omega)] at h), fun h => hA.e1 (by rwa [Inv.plus_ne _ (by omega)] at h), fun h => hA.e2 (by rwa [Inv.plus_ne _ (by omega)] at h), fun h => hA.e3 (by rwa [Inv.plus_ne _ (by omega)] at h), fun h => hA.e4 (by rwa [Inv.plus_ne _ (by omega)] at h), fun h => hA.e5 (by rwa [Inv.plus_ne _ (by omega)] at h), fun h6 => by
    rw [Inv.plus_ne _ (by omega)] at h6 ⊢
    obtain ⟨g', h1, h2, ds', h3, h4⟩ := hA.e6 h6
    have hne : g' ≠ g := fun e => hA.ne h6 h7 (by rw [h1, e])
    exact ⟨g', h1, h2, ds', h3.otherRow hne _, h4⟩, fun _ => ⟨g, rfl, hg, _, hG.setRow _, by simp [uarr8, arr_size], fun _ => rfl⟩, by rw [Inv.plus_ne _ (by omega), Inv.plus_ne _ (by omega)]; exact hA.ne, by rw [Inv.plus_ne _ (by omega), Inv.plus_ne _ (by omega)]; exact hA.imp8, fun _ => by rw [Inv.plus_ne _ (by omega)]; exact h7⟩
end
set_option maxRecDepth 100000 in
set_option maxHeartbeats 4000000 in
theorem adds_walk (k : Nat → UInt8) (s : ByteArray) (w : World) : Calls Try.prog 7 #[.agg (karr k), .string s] w fun e w' => e = .returned (.bool true) ∧ Below w.heap.size w w' := by
  rw [tx_of s]
  generalize s.toList = l
  have hk0 : Blk (w.alloc (.cells (karr k) 23)) w.heap.size 23 (karr k) := Blk.made w 23 _
  have hb0 := belowA w (.cells (karr k) 23)
  by_cases h400 : 400 < l.length
  · have g : (400 : Int) < (l.length : Int) := by omega
    go_enter Try.func7, Try.ntmps7
    go_wp2_with fail
    refine (awake_any _).mono ?_; rintro e w1 ⟨rfl, hb1⟩
    have hB1 := hb0.trans (hb1.mono (by simp))
    go_wp2_with fail
    refine (awake_any _).mono ?_; rintro e w2 ⟨rfl, hb2⟩
    go_wp2_with fail
    go_ret
    exact ⟨rfl, hB1.trans (hb2.mono hB1.size)⟩
  · have g : ¬ (400 : Int) < (l.length : Int) := by omega
    go_enter Try.func7, Try.ntmps7
    go_wp2_with fail
    refine (awake_any _).mono ?_; rintro e w1 ⟨rfl, hb1⟩
    have hk1 := hk0.kept hb1
    have hB1 := hb0.trans (hb1.mono (by simp))
    have hlt := hk1.lt
    clear hk0 hb0 hb1
    go_wp2_with (first
      | (refine wpList_load_row rfl 23 (.tmp 2) rfl w.heap.size rfl 23 (karr k) (0, 0) _ hk1 Try.underlying23 rfl (by kernel_rfl) ?_)
      | (refine wpList_store_row rfl 23 (.tmp 5) (.tmp 19) rfl w1.heap.size (karr k) rfl rfl 23 _ (Blk.made w1 23 _) (by kernel_rfl) (by rw [karr, arr_size]; rfl) (arr_one _ _ fun i => rfl) ?_))
    have hA0 : ∀ cs : Array Value, PZ w.heap.size w1.heap.size w ((w1.alloc (.cells cs 23)).setRow w1.heap.size (karr k)) k (highup k 0) := fun cs =>
      ⟨(hk1.alloc _).otherRow (by omega) _, by
        have := (Blk.made w1 23 cs).setRow (karr k)
        rwa [← highup_zero] at this, below_row (hB1.alloc hB1.size _) hB1.size _, hlt⟩
    clear hk1 hB1
    generalize hM : w.heap.size = M at *
    generalize hZ : w1.heap.size = Z at *
    have HM := keep hM
    clear hM hZ hlt
    go_loopw [6] (fun t wr => ∃ j : Nat, j ≤ 16 ∧ t = .int .i64 ((16 + j : Nat) : Int) ∧ PZ M Z w wr k (highup k j)) (fun t _ => 32 - (intOf t).toNat)
    case atStart => exact ⟨0, Nat.zero_le _, rfl, hA0 _⟩
    case round =>
      obtain ⟨j, hj, rfl, hR⟩ := hrel
      clear hA0
      have hltR := hR.lt
      by_cases h5 : j < 16
      · have g5 : (16 : Int) + (j : Int) < 32 := by omega
        have c1 := hR.hz.at_ (arr_get (fun i => v8 (highup k j i)) (show 16 + j < 32 by omega))
        have f1 := hR.hz.free (16 + j)
        have hf := hR.set
        go_wp2_with fail
        clear hR c1 f1
        go_roundw
        case rel => exact ⟨j + 1, by omega, by go_num, hf⟩
        case measure => simp [intOf]; omega
      · have g5 : ¬ (16 : Int) + (j : Int) < 32 := by omega
        have e5 : j = 16 := by omega
        rw [e5] at hR
        clear e5 hj
        have hR2 : PZ M Z w wr k (highz k) := ⟨hR.key, by have := hR.hz; rwa [highup_done] at this, hR.bel, hR.lt⟩
        clear hR
        go_wp2_with fail
        refine Inv.wp_region_at (fun a0 L a' w' => ∃ u26 u27 u28 u29 u30 u31 u7 u8, a' = ((((((((a0.put (some 26) u26).put (some 27) u27).put (some 28) u28).put (some 29) u29).put (some 30) u30).put (some 31) u31).put (some 7) u7).put (some 8) u8) ∧ AI M Z w k l w' L u26 u27 u28 u29 u30 u31 u7 u8) 10 (by kernel_rfl) (by kernel_rfl) rfl ?_ (Inv.Steps.zero.more ?_ |>.more ?_ |>.more ?_ |>.more ?_ |>.more ?_ |>.more ?_ |>.more ?_ |>.more ?_ |>.more ?_ |>.more ?_) ?_
        · exact ⟨undef, undef, undef, undef, undef, undef, undef, undef, by simp only [Act.put, List.setIfInBounds_toArray, List.set_cons_succ, List.set_cons_zero, List.getElem_toArray, List.getElem_cons_zero, List.getElem_cons_succ], hR2.drew, (fun h => by cases h), (fun h => by cases h), (fun h => by cases h), (fun h => by cases h), (fun h => by cases h), (fun h => by cases h), (fun h => by cases h), (fun h => by cases h), (fun h => by cases h), (fun h => by cases h), (fun h => by cases h)⟩
        · refine Inv.step (i := 0) rfl rfl ?_
          rintro L a wr hk hi ⟨u26, u27, u28, u29, u30, u31, u7, u8, rfl, hA⟩ Q hQ
          have HQ := keep hQ
          clear hQ
          simp only [Act.put, List.setIfInBounds_toArray, List.set_cons_succ, List.set_cons_zero]
          go_wp2_with (refine wpList_load_row rfl 23 (.tmp 5) rfl Z rfl 23 (karr (highz k)) (0, 0) _ hA.hp.hz Try.underlying23 rfl (by kernel_rfl) ?_)
          refine HQ.out _ _ ⟨.agg (karr (highz k)), u27, u28, u29, u30, u31, u7, u8, by simp only [Act.put, List.setIfInBounds_toArray, List.set_cons_succ, List.set_cons_zero, List.getElem_toArray, List.getElem_cons_zero, List.getElem_cons_succ], hA.s0⟩
        · refine Inv.step (i := 1) rfl rfl ?_
          rintro L a wr hk hi ⟨u26, u27, u28, u29, u30, u31, u7, u8, rfl, hA⟩ Q hQ
          have HQ := keep hQ
          clear hQ
          simp only [Act.put, List.setIfInBounds_toArray, List.set_cons_succ, List.set_cons_zero]
          go_wp2_with fail
          refine HQ.out _ _ ⟨u26, .string (tx l), u28, u29, u30, u31, u7, u8, by simp only [Act.put, List.setIfInBounds_toArray, List.set_cons_succ, List.set_cons_zero, List.getElem_toArray, List.getElem_cons_zero, List.getElem_cons_succ], hA.s1⟩
        · refine Inv.step (i := 2) rfl rfl ?_
          rintro L a wr hk hi ⟨u26, u27, u28, u29, u30, u31, u7, u8, rfl, hA⟩ Q hQ
          have HQ := keep hQ
          clear hQ
          simp only [Act.put, List.setIfInBounds_toArray, List.set_cons_succ, List.set_cons_zero]
          obtain rfl := hA.e0 (hk 0 (by omega) (by kernel_rfl))
          obtain rfl := hA.e1 (hk 1 (by omega) (by kernel_rfl))
          go_wp2_with fail
          refine (sum_any (highz k) l _ (by omega)).mono ?_
          rintro e w4 ⟨rfl, hb⟩
          have hA2 := hA.s2 hb
          clear hb hA
          go_wp2_with fail
          refine HQ.out _ _ ⟨_, _, .agg (uarr8 16 (sumf (highz k) l)), u29, u30, u31, u7, u8, by simp only [Act.put, List.setIfInBounds_toArray, List.set_cons_succ, List.set_cons_zero, List.getElem_toArray, List.getElem_cons_zero, List.getElem_cons_succ], hA2⟩
        · refine Inv.step (i := 3) rfl rfl ?_
          rintro L a wr hk hi ⟨u26, u27, u28, u29, u30, u31, u7, u8, rfl, hA⟩ Q hQ
          have HQ := keep hQ
          clear hQ
          simp only [Act.put, List.setIfInBounds_toArray, List.set_cons_succ, List.set_cons_zero]
          go_wp2_with (refine wpList_load_row rfl 23 (.tmp 2) rfl M rfl 23 (karr k) (0, 0) _ hA.hp.key Try.underlying23 rfl (by kernel_rfl) ?_)
          refine HQ.out _ _ ⟨u26, u27, u28, .agg (karr k), u30, u31, u7, u8, by simp only [Act.put, List.setIfInBounds_toArray, List.set_cons_succ, List.set_cons_zero, List.getElem_toArray, List.getElem_cons_zero, List.getElem_cons_succ], hA.s3⟩
        · refine Inv.step (i := 4) rfl rfl ?_
          rintro L a wr hk hi ⟨u26, u27, u28, u29, u30, u31, u7, u8, rfl, hA⟩ Q hQ
          have HQ := keep hQ
          clear hQ
          simp only [Act.put, List.setIfInBounds_toArray, List.set_cons_succ, List.set_cons_zero]
          go_wp2_with fail
          refine HQ.out _ _ ⟨u26, u27, u28, u29, .string (tx l), u31, u7, u8, by simp only [Act.put, List.setIfInBounds_toArray, List.set_cons_succ, List.set_cons_zero, List.getElem_toArray, List.getElem_cons_zero, List.getElem_cons_succ], hA.s4⟩
        · refine Inv.step (i := 5) rfl rfl ?_
          rintro L a wr hk hi ⟨u26, u27, u28, u29, u30, u31, u7, u8, rfl, hA⟩ Q hQ
          have HQ := keep hQ
          clear hQ
          simp only [Act.put, List.setIfInBounds_toArray, List.set_cons_succ, List.set_cons_zero]
          obtain rfl := hA.e3 (hk 3 (by omega) (by kernel_rfl))
          obtain rfl := hA.e4 (hk 4 (by omega) (by kernel_rfl))
          go_wp2_with fail
          refine (sum_any k l _ (by omega)).mono ?_
          rintro e w4 ⟨rfl, hb⟩
          have hA2 := hA.s5 hb
          clear hb hA
          go_wp2_with fail
          refine HQ.out _ _ ⟨u26, u27, u28, _, _, .agg (uarr8 16 (sumf k l)), u7, u8, by simp only [Act.put, List.setIfInBounds_toArray, List.set_cons_succ, List.set_cons_zero, List.getElem_toArray, List.getElem_cons_zero, List.getElem_cons_succ], hA2⟩
        · refine Inv.step (i := 6) rfl rfl ?_
          rintro L a wr hk hi ⟨u26, u27, u28, u29, u30, u31, u7, u8, rfl, hA⟩ Q hQ
          have HQ := keep hQ
          clear hQ
          simp only [Act.put, List.setIfInBounds_toArray, List.set_cons_succ, List.set_cons_zero]
          have hA2 := hA.s6 hi
          clear hA
          go_wp2_with fail
          refine HQ.out _ _ ⟨u26, u27, u28, u29, u30, u31, .pointer (some ⟨wr.heap.size, 0, none⟩), u8, by simp only [Act.put, List.setIfInBounds_toArray, List.set_cons_succ, List.set_cons_zero, List.getElem_toArray, List.getElem_cons_zero, List.getElem_cons_succ], hA2⟩
        · refine Inv.step (i := 7) rfl rfl ?_
          rintro L a wr hk hi ⟨u26, u27, u28, u29, u30, u31, u7, u8, rfl, hA⟩ Q hQ
          have HQ := keep hQ
          clear hQ
          simp only [Act.put, List.setIfInBounds_toArray, List.set_cons_succ, List.set_cons_zero]
          have hA2 := hA.s7 hi
          clear hA
          go_wp2_with fail
          refine HQ.out _ _ ⟨u26, u27, u28, u29, u30, u31, u7, .pointer (some ⟨wr.heap.size, 0, none⟩), by simp only [Act.put, List.setIfInBounds_toArray, List.set_cons_succ, List.set_cons_zero, List.getElem_toArray, List.getElem_cons_zero, List.getElem_cons_succ], hA2⟩
        · refine Inv.step (i := 8) rfl rfl ?_
          rintro L a wr hk hi ⟨u26, u27, u28, u29, u30, u31, u7, u8, rfl, hA⟩ Q hQ
          have HQ := keep hQ
          clear hQ
          simp only [Act.put, List.setIfInBounds_toArray, List.set_cons_succ, List.set_cons_zero]
          obtain rfl := hA.e2 (hk 2 (by omega) (by kernel_rfl))
          obtain ⟨g, rfl, hg, ds, hG, hds, -⟩ := hA.e6 (hk 6 (by omega) (by kernel_rfl))
          have hA2 := hA.s8 hG hds hg (hk 6 (by omega) (by kernel_rfl))
          clear hA
          go_wp2_with (refine wpList_store_row rfl 25 (.tmp 7) (.tmp 28) rfl g (uarr8 16 (sumf (highz k) l)) rfl rfl 25 ds hG (by kernel_rfl) (by rw [hds]; simp [uarr8, arr_size]) (arr_one _ _ fun i => rfl) ?_)
          refine HQ.out _ _ ⟨u26, u27, _, u29, u30, u31, _, u8, by simp only [Act.put, List.setIfInBounds_toArray, List.set_cons_succ, List.set_cons_zero, List.getElem_toArray, List.getElem_cons_zero, List.getElem_cons_succ], hA2⟩
        · refine Inv.step (i := 9) rfl rfl ?_
          rintro L a wr hk hi ⟨u26, u27, u28, u29, u30, u31, u7, u8, rfl, hA⟩ Q hQ
          have HQ := keep hQ
          clear hQ
          simp only [Act.put, List.setIfInBounds_toArray, List.set_cons_succ, List.set_cons_zero]
          obtain rfl := hA.e5 (hk 5 (by omega) (by kernel_rfl))
          obtain ⟨g, rfl, hg, ds, hG, hds, -⟩ := hA.e7 (hk 7 (by omega) (by kernel_rfl))
          have hA2 := hA.s9 hG hds hg (hk 7 (by omega) (by kernel_rfl))
          clear hA
          go_wp2_with (refine wpList_store_row rfl 25 (.tmp 8) (.tmp 31) rfl g (uarr8 16 (sumf k l)) rfl rfl 25 ds hG (by kernel_rfl) (by rw [hds]; simp [uarr8, arr_size]) (arr_one _ _ fun i => rfl) ?_)
          refine HQ.out _ _ ⟨u26, u27, u28, u29, u30, _, u7, _, by simp only [Act.put, List.setIfInBounds_toArray, List.set_cons_succ, List.set_cons_zero, List.getElem_toArray, List.getElem_cons_zero, List.getElem_cons_succ], hA2⟩
        · rintro L a' wr2 hL ⟨u26, u27, u28, u29, u30, u31, u7, u8, rfl, hA⟩
          obtain ⟨ga, rfl, hga, da, hGa, -, hda⟩ := hA.e6 (hL 6 (by omega))
          obtain rfl := hda (hL 8 (by omega))
          obtain ⟨gb, rfl, hgb, db, hGb, -, hdb⟩ := hA.e7 (hL 7 (by omega))
          obtain rfl := hdb (hL 9 (by omega))
          have hP := hA.hp
          have hnab := hA.ne (hL 6 (by omega)) (hL 7 (by omega))
          clear hA hR2
          simp only [Act.put, List.setIfInBounds_toArray, List.set_cons_succ, List.set_cons_zero]
          go_wp2_with fail
          have hM2 := hP.lt
          have hs2 := hGa.lt
          have hs3 := hGb.lt
          have hne : ga ≠ gb := fun e => hnab (by rw [e])
          clear hnab
          go_loopw [9, 10] (fun c t wr => ∃ j : Nat, j ≤ 16 ∧ t = .int .i64 j ∧ c = .int .i64 (carr (tot (highz k) l) (sk k) j : Nat) ∧ PZ M Z w wr k (highz k) ∧ Blk wr ga 25 (uarr8 16 (sumf (highz k) l)) ∧ Blk wr gb 25 (uarr8 16 (sumf k l))) (fun _ t _ => 16 - (intOf t).toNat)
          case atStart => exact ⟨0, Nat.zero_le _, rfl, by simp [carr, Nat.mod_one], hP, hGa, hGb⟩
          case round =>
            obtain ⟨j, hj, rfl, rfl, hR, hA, hB⟩ := hrel
            clear hP hGa hGb
            by_cases h5 : j < 16
            · have g5 : (j : Int) < 16 := by omega
              have g6 : 16 + (j : Int) < 32 := by omega
              obtain ⟨st1, st2⟩ := adds_step k l j h5
              have hc := carr_le (tot (highz k) l) (sk k) j
              have c1 := hA.at_ (arr_get (fun i => v8 (sumf (highz k) l i)) h5)
              have c2 := hB.at_ (arr_get (fun i => v8 (sumf k l i)) h5)
              have c3 := hR.key.at_ (arr_get (fun i => v8 (k i)) (show 16 + j < 32 by omega))
              obtain ⟨x, hx⟩ : ∃ x, sumf (highz k) l j = x := ⟨_, rfl⟩
              obtain ⟨y, hy⟩ : ∃ y, sumf k l j = y := ⟨_, rfl⟩
              obtain ⟨z, hz⟩ : ∃ z, k (16 + j) = z := ⟨_, rfl⟩
              obtain ⟨c, hcc⟩ : ∃ c, carr (tot (highz k) l) (sk k) j = c := ⟨_, rfl⟩
              rw [hx, hz, hcc] at st1 st2
              rw [hy] at st1
              rw [hcc] at hc
              rw [hx] at c1
              rw [hy] at c2
              rw [hz] at c3
              have HC := keep hcc
              rw [hcc]
              have lx := lt8 x
              have lz := lt8 z
              clear hx hy hz hcc
              have ST1 := keep st1
              have ST2 := keep st2
              clear st1 st2
              go_wp2_with fail
              go_quiet (fail)
              have hq : (.int .u8 (((c : Int) + (x.toNat : Int) + (z.toNat : Int)) % 256) : Value) = v8 y := by
                rw [← ST1.out, v8, UInt8.toNat_ofNat']
                exact congrArg (Value.int .u8) (by omega)
              have hdv : (((c : Int) + (x.toNat : Int) + (z.toNat : Int)) / 256 : Int) = ((c + x.toNat + z.toNat) / 256 : Nat) := by omega
              have HDV := keep hdv
              clear hdv
              have hf : PZ M Z w (wr.drewN nq) k (highz k) ∧ Blk (wr.drewN nq) ga 25 (uarr8 16 (sumf (highz k) l)) ∧ Blk (wr.drewN nq) gb 25 (uarr8 16 (sumf k l)) := ⟨hR.many nq, hA, hB⟩
              clear hR hA hB c1 c3
              go_wp2_with fail
              rw [HDV.out, ST2.out]
              go_roundw
              case rel => exact ⟨j + 1, by omega, by go_num, rfl, hf⟩
              case measure => simp [intOf]; omega
            · have g5 : ¬ (j : Int) < 16 := by omega
              clear hj
              have hbel := hR.bel
              clear hR hA hB
              go_wp2_with fail
              go_ret
              exact ⟨rfl, by rw [HM.out]; exact hbel⟩
end Go.Proofs.Ytpjgdocgenpbbaa

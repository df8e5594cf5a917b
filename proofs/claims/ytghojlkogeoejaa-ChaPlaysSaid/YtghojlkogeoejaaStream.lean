/-
  cha: a block of the stream.
-/
import Derived.Test.YtghojlkogeoejaaFirst
import Derived.Test.YtghojlkogeoejaaDouble
namespace Go.Proofs.Ytghojlkogeoejaa
open Go.RowKit
/-- n double rounds. -/
def dbls (s : Nat → UInt32) : Nat → Nat → UInt32
  | 0 => s
  | n + 1 => dbl (dbls s n)
def addw (s t : Nat → UInt32) : Nat → UInt32 := fun i => s i + t i
/-- The words of a block of the stream; a byte of it. -/
def blockw (k : Nat → UInt8) (c : UInt32) (n : List UInt8) : Nat → UInt32 := addw (dbls (st0 k c n) 10) (st0 k c n)
def ks (k : Nat → UInt8) (c : UInt32) (n : List UInt8) : Nat → UInt8 := sbyte (blockw k c n)

structure SR (N M : Nat) (w wr : World) (s t : Nat → UInt32) : Prop where
  h0 : ∃ cs, Blk wr (N + 1) 42 cs ∧ cs.size = 64
  hv : Blk wr M 47 (warr s)
  hw : Blk wr (M + 1) 47 (warr t)
  bel : Below N w wr
  lt : N + 1 < M
theorem SR.keeps {N M : Nat} {w wr w' : World} {s t t' : Nat → UInt32} (h : SR N M w wr s t) (hk : Keeps [M + 1] wr w') (ht : Blk w' (M + 1) 47 (warr t')) (hN : N ≤ wr.heap.size) : SR N M w w' s t' := by
  obtain ⟨⟨cs, h0, h00⟩, h1, h2, h3, h4⟩ := h
  exact ⟨⟨cs, hk.blk h0 (by simp; omega), h00⟩, hk.blk h1 (by simp), ht, h3.trans (hk.toBelow hN (by simp; omega)), h4⟩
theorem made_row (w : World) (o : Obj) (g : Nat) (cs' cs : Array Value) (t : TypeId) : Blk (((w.alloc o).setRow g cs').alloc (.cells cs t)) (w.heap.size + 1) t cs := by
  have := Blk.made ((w.alloc o).setRow g cs') t cs
  rwa [show ((w.alloc o).setRow g cs').heap.size = w.heap.size + 1 by simp] at this

theorem SR.start {N : Nat} {w w1 : World} {cs o1 o2 : Array Value} (s : Nat → UInt32) (h0 : Blk w1 (N + 1) 42 cs) (hcs : cs.size = 64) (hb : Below N w w1) :
    SR N w1.heap.size w ((((w1.alloc (.cells o1 47)).setRow w1.heap.size (warr s)).alloc (.cells o2 47)).setRow (w1.heap.size + 1) (warr s)) s s := by
  have hlt := h0.lt
  refine ⟨⟨cs, (((h0.alloc _).otherRow (by omega) _).alloc _).otherRow (by omega) _, hcs⟩, (((Blk.made w1 47 o1).setRow _).alloc _).otherRow (by omega) _, (made_row w1 _ _ _ _ 47).setRow _, ?_, hlt⟩
  exact below_row ((below_row (hb.alloc (by omega) _) (by omega) _).alloc (by simp; omega) _) (by omega) _
/-- The first j words added. -/
def addto (t s : Nat → UInt32) (j : Nat) : Nat → UInt32 := fun i => if i < j then t i + s i else t i
theorem addto_set (t s : Nat → UInt32) (j : Nat) : warr (setw (addto t s j) j (t j + s j)) = warr (addto t s (j + 1)) := by
  refine arr_congr fun i _ => ?_
  unfold setw addto
  by_cases h : i = j
  · simp [h]
  · by_cases h1 : i < j
    · simp [h, h1, show i < j + 1 by omega]
    · simp [h, h1, show ¬ i < j + 1 by omega]
theorem addto_done (t s : Nat → UInt32) : warr (addto t s 16) = warr (addw t s) := arr_congr fun i hi => by simp [addto, addw, hi]

set_option maxHeartbeats 1000000 in
theorem stream_any (k : Nat → UInt8) (c : UInt32) (n : List UInt8) (w : World) (hn : n.length = 12) :
    Calls Try.prog 16 #[.agg (karr k), v32 c, .string (tx n)] w fun e w' => e = .returned (.agg (barr (ks k c n))) ∧ Below w.heap.size w w' := by
  obtain ⟨s, hs⟩ : ∃ s, s = st0 k c n := ⟨_, rfl⟩
  unfold ks blockw
  rw [← hs]
  have HS := keep hs
  clear hs
  go_enter Try.func16, Try.ntmps16
  go_wp2_with (refine wpList_load_row rfl 29 (.tmp 3) rfl w.heap.size rfl 29 (karr k) (0,0) _ ((Blk.made w 29 _).alloc _) Try.underlying29 rfl (by kernel_rfl) ?_)
  refine (first_any k c n _ hn).mono ?_
  rintro e w1 ⟨rfl, hb1⟩
  have h0 := (made1 w _ 42 _).kept hb1
  have hb0 := (((Below.refl _ _).alloc (Nat.le_refl _) _).alloc (by simp) _).trans (hb1.mono (by simp; omega))
  rw [← HS.out]
  clear hb1
  go_wp2_with (first
    | (refine wpList_store_row rfl 47 (.tmp 7) (.tmp 13) rfl w1.heap.size (warr s) rfl rfl 47 _ (Blk.made w1 47 _) (by kernel_rfl) (by kernel_rfl) (arr_one _ _ fun i => rfl) ?_)
    | (refine wpList_load_row rfl 47 (.tmp 7) rfl w1.heap.size rfl 47 (warr s) (0,0) _ ((Blk.made w1 47 _).setRow _) Try.underlying47 rfl (by kernel_rfl) ?_)
    | (refine wpList_store_row rfl 47 (.tmp 8) (.tmp 14) rfl (w1.heap.size + 1) (warr s) rfl rfl 47 _ (made_row w1 _ _ _ _ 47) (by kernel_rfl) (by kernel_rfl) (arr_one _ _ fun i => rfl) ?_))
  have hA := SR.start (o1 := #[.int .u32 0, .int .u32 0, .int .u32 0, .int .u32 0, .int .u32 0, .int .u32 0, .int .u32 0, .int .u32 0, .int .u32 0, .int .u32 0, .int .u32 0, .int .u32 0, .int .u32 0, .int .u32 0, .int .u32 0, .int .u32 0])
    (o2 := #[.int .u32 0, .int .u32 0, .int .u32 0, .int .u32 0, .int .u32 0, .int .u32 0, .int .u32 0, .int .u32 0, .int .u32 0, .int .u32 0, .int .u32 0, .int .u32 0, .int .u32 0, .int .u32 0, .int .u32 0, .int .u32 0]) s h0 (by kernel_rfl) hb0
  clear h0 hb0
  generalize w1.heap.size = M at *
  generalize hN : w.heap.size = N at *
  go_loopw [15] (fun i wr => ∃ j : Nat, j ≤ 10 ∧ i = .int .i64 j ∧ SR N M w wr s (dbls s j)) (fun i _ => 10 - (intOf i).toNat)
  case atStart => exact ⟨0, Nat.zero_le _, rfl, hA⟩
  case round =>
    obtain ⟨j, hj, rfl, hR⟩ := hrel
    clear hA
    have hNr : N ≤ wr.heap.size := by have := hR.hv.lt; have := hR.lt; omega
    by_cases h4 : j < 10
    · have g4 : (j : Int) < 10 := by omega
      go_wp2_with fail
      refine (double_any (dbls s j) (M + 1) wr hR.hw).mono ?_
      rintro e w2 ⟨rfl, hB2, hK2⟩
      have hf : SR N M w w2 s (dbls s (j + 1)) := hR.keeps hK2 hB2 hNr
      clear hR hB2 hK2
      go_wp2_with fail
      go_roundw
      case rel => exact ⟨j + 1, by omega, by go_num, hf⟩
      case measure => simp [intOf]; omega
    · have g4 : ¬ (j : Int) < 10 := by omega
      have e4 : j = 10 := by omega
      rw [e4] at hR
      clear e4 hj
      obtain ⟨t, ht⟩ : ∃ t, t = dbls s 10 := ⟨_, rfl⟩
      rw [← ht] at hR
      have HT := keep ht
      clear ht
      go_wp2_with fail
      have hA2 : SR N M w wr s (addto t s 0) := ⟨hR.h0, hR.hv, by have := hR.hw; rwa [show warr t = warr (addto t s 0) from arr_congr fun i _ => by simp [addto]] at this, hR.bel, hR.lt⟩
      clear hR
      go_loopw [19] (fun i wr => ∃ j : Nat, j ≤ 16 ∧ i = .int .i64 j ∧ SR N M w wr s (addto t s j)) (fun i _ => 16 - (intOf i).toNat)
      case atStart => exact ⟨0, Nat.zero_le _, rfl, hA2⟩
      case round =>
        obtain ⟨i, hi, rfl, hR⟩ := hrel
        clear hA2
        have hNr2 : N ≤ wr.heap.size := by have := hR.hv.lt; have := hR.lt; omega
        by_cases h5 : i < 16
        · have g5 : (i : Int) < 16 := by omega
          have c1 := hR.hw.at_ (warr_get _ h5)
          have c2 := hR.hv.at_ (warr_get _ h5)
          have f1 := hR.hw.free i
          rw [show addto t s i i = t i by simp [addto]] at c1
          go_wp2_with fail
          refine Mixed.wp_region (fun w' => ∃ u, w' = mix [M + 1] wr u) [(1, 0), (1, 1), (1, 2), (1, 3), (1, 4), (1, 5), (1, 6), (1, 7), (2, 8)] (by kernel_rfl) (by kernel_rfl) (Mx.drew0 _ _) ?_
          refine Mixed.reads (k := 1) (.inr ⟨rfl, rfl⟩) _ [0, 1, 2, 3, 4, 5, 6, 7] _ (by kernel_rfl) ?_
          simp only [List.filterMap_cons, List.filterMap_nil, List.getElem?_toArray, List.getElem?_cons_zero, List.getElem?_cons_succ]
          show wpQuiet _ _ _ _ [_, _, _, _, _, _, _, _] _
          iterate 8 go_big_quiet_step (fail)
          refine wpQuiet_nil ?_
          refine Mixed.effect (i := 8) rfl rfl ?_
          intro Q hQ
          go_wp2_with fail
          have hB := hR.hw.drew.set i (v32 (t i + s i))
          rw [warr_set, addto_set] at hB
          have hK : Keeps [M + 1] wr (wr.drew.setCell ⟨M + 1, i, none⟩ (v32 (t i + s i))) := (Keeps.refl _ _).drew.setCell (by simp) _
          refine hQ _ _ (Mx.of hK) ?_
          have hf : SR N M w (wr.drew.setCell ⟨M + 1, i, none⟩ (v32 (t i + s i))) s (addto t s (i + 1)) := hR.keeps hK hB hNr2
          clear hQ hK hB hR c1 c2 f1
          unfold Mixed.HL
          go_wp2_with fail
          go_roundw
          case rel => exact ⟨i + 1, by omega, by go_num, hf⟩
          case measure => simp [intOf]; omega
        · have g5 : ¬ (i : Int) < 16 := by omega
          have e4 : i = 16 := by omega
          rw [e4] at hR
          clear e4 hi
          obtain ⟨⟨cs0, h0, h00⟩, hv, hw, hbel, hlt⟩ := hR
          rw [addto_done] at hw
          go_wp2_with fail
          refine (bytes_any (addw t s) (M + 1) wr hw).mono ?_
          rintro e w3 ⟨rfl, hb3⟩
          have h03 := h0.kept hb3
          have hb4 := hbel.trans (hb3.mono hNr2)
          go_wp2_with (refine wpList_store_row rfl 42 (.tmp 6) (.tmp 31) rfl (N + 1) (barr (sbyte (addw t s))) rfl rfl 42 cs0 h03 (by kernel_rfl) (by rw [h00]; rfl) (arr_one _ _ fun i => rfl) ?_)
          refine bodyPost_ret (results_c rfl _ _ (N + 1) 42 _ _ _ rfl (h03.setRow (barr (sbyte (addw t s)))) Try.underlying42 (by kernel_rfl)) rfl ?_
          rw [HT.out, hN]
          exact ⟨rfl, below_row hb4 (by omega) _⟩
end Go.Proofs.Ytghojlkogeoejaa

/-
  cha: the document's block of the stream (written by wip/tools/rb03.py).
-/
import Derived.Test.YtghojlkogeoejaaRefWord
import Derived.Test.YtghojlkogeoejaaOwnText
namespace Go.Proofs.Ytghojlkogeoejaa
open Go.RowKit
structure V1 (N : Nat) (w wr : World) (s : Nat → UInt32) : Prop where
  hv : Blk wr (N + 1) 44 (warr s)
  bel : Below N w wr
theorem V1.set {N : Nat} {w wr : World} {f : Nat → UInt32} {j : Nat} (h : V1 N w wr (uptow f j)) : V1 N w (wr.setCell ⟨N + 1, j, none⟩ (v32 (f j))) (uptow f (j + 1)) :=
  ⟨by have := h.hv.set j (v32 (f j)); rwa [uptow_set] at this, h.bel.setCell (by simp) _⟩
theorem V1.drew {N : Nat} {w wr : World} {s : Nat → UInt32} (h : V1 N w wr s) : V1 N w wr.drew s := ⟨h.hv.drew, h.bel.drew⟩
structure V2 (N : Nat) (w wr : World) (s t : Nat → UInt32) : Prop where
  hv : Blk wr (N + 1) 44 (warr s)
  hw : Blk wr (N + 1 + 1) 44 (warr t)
  bel : Below N w wr
section
variable {N : Nat} {w wr w' : World} {s t t' : Nat → UInt32}
theorem V2.size (h : V2 N w wr s t) : N + 3 ≤ wr.heap.size := by have := h.hw.lt; omega
theorem V2.step (h : V2 N w wr s t) (hb : Below wr.heap.size wr w') (t' : Nat → UInt32) : V2 N w (w'.setRow (N + 1 + 1) (warr t')) s t' :=
  ⟨(h.hv.kept hb).otherRow (by omega) _, (h.hw.kept hb).setRow _, below_row (h.bel.trans (hb.mono (by have := h.size; omega))) (by omega) _⟩
theorem V2.start (h : V1 N w wr s) (hN : wr.heap.size = N + 1 + 1) (cs : Array Value) : V2 N w ((wr.alloc (.cells cs 44)).setRow (N + 1 + 1) (warr s)) s s :=
  ⟨(h.hv.alloc _).otherRow (by omega) _, by have := (Blk.made wr 44 cs).setRow (warr s); rwa [hN] at this, below_row (h.bel.alloc (by omega) _) (by omega) _⟩
theorem V2.drew (h : V2 N w wr s t) : V2 N w wr.drew s t := ⟨h.hv.drew, h.hw.drew, h.bel.drew⟩
theorem V2.grown (h : V2 N w wr s t) (o : Obj) {row : Option Nat} (hg : (wr.alloc o).grownBy w' row) (hr : ∀ k, row = some k → N + 3 ≤ k) : V2 N w w' s t := by
  have hs := h.size
  have hs2 := hg.size
  simp at hs2
  exact ⟨(h.hv.alloc o).grown hg (fun e => by have := hr _ e.symm; omega), (h.hw.alloc o).grown hg (fun e => by have := hr _ e.symm; omega), (h.bel.alloc (by omega) o).grown hg (by simp; omega) (fun k hk => by have := hr k hk; omega)⟩
end
def kt (k : Nat → UInt8) : List UInt8 := bgn ++ tl 32 k
theorem kt_length (k : Nat → UInt8) : (kt k).length = 48 := by simp [kt, bgn, tl]
theorem st_key (k : Nat → UInt8) (c : UInt32) (n : List UInt8) (i : Nat) (hi : i < 12) : rword (kt k) (4 * i) = st0 k c n i := by
  rw [rword_eq]
  have h1 : st0 k c n i = wordOf (stext k n) (4 * i) := by simp [st0, setw, raw, show i ≠ 12 by omega]
  have hb : ∀ j, j < 48 → bt (stext k n) j = bt (kt k) j := fun j hj => by
    unfold stext
    rw [bt_app_left (by simp [bgn, tl]; omega), bt_app_left (by simp [bgn, tl]; omega)]
    rfl
  rw [h1]
  unfold wordOf
  rw [hb _ (by omega), hb _ (by omega), hb _ (by omega), hb _ (by omega)]
theorem st_count (k : Nat → UInt8) (c : UInt32) (n : List UInt8) : st0 k c n 12 = c := by simp [st0, setw]
theorem st_nonce (k : Nat → UInt8) (c : UInt32) (n : List UInt8) (i : Nat) : rword n (4 * i) = st0 k c n (13 + i) := by
  rw [rword_eq]
  have h1 : st0 k c n (13 + i) = wordOf (stext k n) (4 * (13 + i)) := by simp [st0, setw, raw, show 13 + i ≠ 12 by omega]
  have hb : ∀ j, bt (stext k n) (52 + j) = bt n j := fun j => by
    unfold stext
    have hl : (bgn ++ tl 32 k ++ [48, 48, 48, 48]).length = 52 := by simp [bgn, tl]
    rw [bt_app_right (by omega), hl, show 52 + j - 52 = j by omega]
  rw [h1]
  unfold wordOf
  rw [show 4 * (13 + i) = 52 + 4 * i by omega, hb, show 52 + 4 * i + 1 = 52 + (4 * i + 1) by omega, hb, show 52 + 4 * i + 2 = 52 + (4 * i + 2) by omega, hb, show 52 + 4 * i + 3 = 52 + (4 * i + 3) by omega, hb]

set_option maxRecDepth 100000 in
set_option maxHeartbeats 2000000 in
theorem rblock_any (k : Nat → UInt8) (c : UInt32) (n : List UInt8) (w : World) (hn : n.length = 12) :
    Calls Try.prog 13 #[.agg (karr k), v32 c, .string (tx n)] w fun e w' => e = .returned (.string (tx (tl 64 (ks k c n)))) ∧ Below w.heap.size w w' := by
  obtain ⟨s, hs⟩ : ∃ s, s = st0 k c n := ⟨_, rfl⟩
  have E1 : ∀ i, i < 12 → rword (kt k) (4 * i) = s i := fun i hi => by rw [hs]; exact st_key k c n i hi
  have E2 : s 12 = c := by rw [hs]; exact st_count k c n
  have E3 : ∀ i, rword n (4 * i) = s (13 + i) := fun i => by rw [hs]; exact st_nonce k c n i
  unfold ks blockw
  rw [← hs]
  have HE1 := keep E1
  have HE2 := keep E2
  have HE3 := keep E3
  clear hs E1 E2 E3
  obtain ⟨i0, hi, hz0, hz1, hz2⟩ := info_parts info5b
  have hkey := Row8.ofBlk (Blk.made w 28 (karr k))
  go_enter Try.func13, Try.ntmps13
  go_wp2_with fail
  rw [hkey.back 31 9 5 Try.underlying31 Try.underlying5 Try.underlying9 32]
  clear hkey
  go_wp2_with fail
  rw [zeros16]
  have hS : 101 :: 120 :: 112 :: 97 :: 110 :: 100 :: 32 :: 51 :: 50 :: 45 :: 98 :: 121 :: 116 :: 101 :: 32 :: 107 :: tl 32 k = kt k := by simp [kt, bgn]
  rw [hS]
  clear hS
  have hkl := kt_length k
  generalize kt k = T at *
  have hA : V1 w.heap.size w ((w.alloc (.cells (karr k) 28)).alloc (.cells (warr fun _ => 0) 44)) (uptow s 0) :=
    ⟨by rw [uptow_zero]; exact made1 w _ 44 _, ((Below.refl _ _).alloc (Nat.le_refl _) _).alloc (by simp) _⟩
  have hsz : ((w.alloc (.cells (karr k) 28)).alloc (.cells (warr fun _ => 0) 44)).heap.size = w.heap.size + 1 + 1 := by simp
  generalize hN : w.heap.size = N at *
  go_loopw [9] (fun z wr => ∃ i : Nat, i ≤ 12 ∧ z = .int .i64 i ∧ V1 N w wr (uptow s i) ∧ wr.heap.size = N + 1 + 1) (fun z _ => 12 - (intOf z).toNat)
  case atStart => exact ⟨0, Nat.zero_le _, rfl, hA, hsz⟩
  case round =>
    obtain ⟨i, hi12, rfl, hR, hsz⟩ := hrel
    clear hA
    by_cases h4 : i < 12
    · have g4 : (i : Int) < 12 := by omega
      have x0 := idx_tx (P := Try.prog) 9 Try.underlying9 T .i64 (4 * (i : Int)) (4 * i) (by omega) (by omega)
      have x1 := idx_tx (P := Try.prog) 9 Try.underlying9 T .i64 (4 * (i : Int) + 1) (4 * i + 1) (by omega) (by omega)
      have x2 := idx_tx (P := Try.prog) 9 Try.underlying9 T .i64 (4 * (i : Int) + 2) (4 * i + 2) (by omega) (by omega)
      have x3 := idx_tx (P := Try.prog) 9 Try.underlying9 T .i64 (4 * (i : Int) + 3) (4 * i + 3) (by omega) (by omega)
      have c1 := hR.hv.at_ (warr_get _ (show i < 16 by omega))
      have f1 := hR.hv.free i
      have hx := HE1.out i h4
      unfold rword at hx
      have HX := keep hx
      clear hx
      go_wp2_with fail
      refine Mixed.wp_region (fun _ => True) [(1, 0), (1, 1), (1, 2), (1, 3), (1, 4), (1, 5), (1, 6), (1, 7), (1, 8), (1, 9), (1, 10), (1, 11), (1, 12), (1, 13), (1, 14), (1, 15), (1, 16), (1, 17), (1, 18), (1, 19), (1, 20), (1, 21), (1, 22), (1, 23), (1, 24), (1, 25), (1, 26), (1, 27), (1, 28), (1, 29), (1, 30), (2, 31)] (by kernel_rfl) (by kernel_rfl) trivial ?_
      refine Mixed.reads (k := 1) (.inr ⟨rfl, rfl⟩) _ [0, 1, 2, 3, 4, 5, 6, 7, 8, 9, 10, 11, 12, 13, 14, 15, 16, 17, 18, 19, 20, 21, 22, 23, 24, 25, 26, 27, 28, 29, 30] _ (by kernel_rfl) ?_
      simp only [List.filterMap_cons, List.filterMap_nil, List.getElem?_toArray, List.getElem?_cons_zero, List.getElem?_cons_succ]
      show wpQuiet _ _ _ _ [_, _, _, _, _, _, _, _, _, _, _, _, _, _, _, _, _, _, _, _, _, _, _, _, _, _, _, _, _, _, _] _
      iterate 31 go_big_quiet_step (fail)
      refine wpQuiet_nil ?_
      rw [HX.out]
      refine Mixed.effect (i := 31) rfl rfl ?_
      intro Q hQ
      go_wp2_with fail
      refine hQ _ _ trivial ?_
      have hf := hR.drew.set
      have hsz' : (wr.drew.setCell ⟨N + 1, i, none⟩ (v32 (s i))).heap.size = N + 1 + 1 := by simp [World.setCell, hsz]
      clear hQ hR c1 f1 x0 x1 x2 x3 HX
      unfold Mixed.HL
      go_wp2_with fail
      go_roundw
      case rel => exact ⟨i + 1, by omega, by go_num, hf, hsz'⟩
      case measure => simp [intOf]; omega
    · have g4 : ¬ (i : Int) < 12 := by omega
      have e4 : i = 12 := by omega
      rw [e4] at hR
      clear e4 hi12
      have c1 := hR.hv.at_ (warr_get _ (show 12 < 16 by omega))
      have f1 := hR.hv.free 12
      have hA := hR.set
      rw [HE2.out] at hA
      go_wp2_with fail
      have hsz' : (wr.setCell ⟨N + 1, 12, none⟩ (v32 c)).heap.size = N + 1 + 1 := by simp [World.setCell, hsz]
      clear hR c1 f1 hsz
      generalize wr.setCell ⟨N + 1, 12, none⟩ (v32 c) = w2 at *
      go_loopw [10] (fun z wr => ∃ i : Nat, i ≤ 3 ∧ z = .int .i64 i ∧ V1 N w wr (uptow s (13 + i)) ∧ wr.heap.size = N + 1 + 1) (fun z _ => 3 - (intOf z).toNat)
      case atStart => exact ⟨0, Nat.zero_le _, rfl, hA, hsz'⟩
      case round =>
        obtain ⟨i2, hi12, rfl, hR, hsz⟩ := hrel
        clear hA hsz'
        by_cases h4 : i2 < 3
        · have g5 : (i2 : Int) < 3 := by omega
          have x0 := idx_tx (P := Try.prog) 9 Try.underlying9 n .i64 (4 * (i2 : Int)) (4 * i2) (by omega) (by omega)
          have x1 := idx_tx (P := Try.prog) 9 Try.underlying9 n .i64 (4 * (i2 : Int) + 1) (4 * i2 + 1) (by omega) (by omega)
          have x2 := idx_tx (P := Try.prog) 9 Try.underlying9 n .i64 (4 * (i2 : Int) + 2) (4 * i2 + 2) (by omega) (by omega)
          have x3 := idx_tx (P := Try.prog) 9 Try.underlying9 n .i64 (4 * (i2 : Int) + 3) (4 * i2 + 3) (by omega) (by omega)
          have c1 := hR.hv.at_ (warr_get _ (show 13 + i2 < 16 by omega))
          have f1 := hR.hv.free (13 + i2)
          have hx := HE3.out i2
          unfold rword at hx
          have HX := keep hx
          clear hx
          go_wp2_with fail
          refine Mixed.wp_region (fun _ => True) [(1, 0), (1, 1), (1, 2), (1, 3), (1, 4), (1, 5), (1, 6), (1, 7), (1, 8), (1, 9), (1, 10), (1, 11), (1, 12), (1, 13), (1, 14), (1, 15), (1, 16), (1, 17), (1, 18), (1, 19), (1, 20), (1, 21), (1, 22), (1, 23), (1, 24), (1, 25), (1, 26), (1, 27), (1, 28), (1, 29), (1, 30), (1, 31), (2, 32)] (by kernel_rfl) (by kernel_rfl) trivial ?_
          refine Mixed.reads (k := 1) (.inr ⟨rfl, rfl⟩) _ [0, 1, 2, 3, 4, 5, 6, 7, 8, 9, 10, 11, 12, 13, 14, 15, 16, 17, 18, 19, 20, 21, 22, 23, 24, 25, 26, 27, 28, 29, 30, 31] _ (by kernel_rfl) ?_
          simp only [List.filterMap_cons, List.filterMap_nil, List.getElem?_toArray, List.getElem?_cons_zero, List.getElem?_cons_succ]
          show wpQuiet _ _ _ _ [_, _, _, _, _, _, _, _, _, _, _, _, _, _, _, _, _, _, _, _, _, _, _, _, _, _, _, _, _, _, _, _] _
          iterate 32 go_big_quiet_step (fail)
          refine wpQuiet_nil ?_
          rw [HX.out]
          refine Mixed.effect (i := 32) rfl rfl ?_
          intro Q hQ
          go_wp2_with fail
          refine hQ _ _ trivial ?_
          have hf : V1 N w (wr.drew.setCell ⟨N + 1, 13 + i2, none⟩ (v32 (s (13 + i2)))) (uptow s (13 + (i2 + 1))) := hR.drew.set
          have hsz' : (wr.drew.setCell ⟨N + 1, 13 + i2, none⟩ (v32 (s (13 + i2)))).heap.size = N + 1 + 1 := by simp [World.setCell, hsz]
          clear hQ hR c1 f1 x0 x1 x2 x3 HX
          unfold Mixed.HL
          go_wp2_with fail
          go_roundw
          case rel => exact ⟨i2 + 1, by omega, by go_num, hf, hsz'⟩
          case measure => simp [intOf]; omega
        · have g5 : ¬ (i2 : Int) < 3 := by omega
          have e4 : i2 = 3 := by omega
          rw [e4] at hR
          clear e4 hi12
          have hV : V1 N w wr s := ⟨by have := hR.hv; rwa [uptow_done] at this, hR.bel⟩
          clear hR
          go_wp2_with (first
            | (refine wpList_load_row rfl 44 (.tmp 8) rfl (N + 1) rfl 44 (warr s) (0, 0) _ hV.hv Try.underlying44 rfl (by kernel_rfl) ?_)
            | (refine wpList_store_row rfl 44 (.tmp 11) (.tmp 93) rfl (N + 1 + 1) (warr s) rfl rfl 44 _ (by have := Blk.made wr 44 (warr fun _ => 0); rw [hsz] at this; exact this) (by kernel_rfl) (by kernel_rfl) (arr_one _ _ fun i => rfl) ?_))
          have hA := V2.start hV hsz (warr fun _ => 0)
          rw [zeros16]
          clear hV
          generalize (wr.alloc (.cells (warr fun _ => 0) 44)).setRow (N + 1 + 1) (warr s) = w3 at *
          go_loopw [12] (fun z wr => ∃ i : Nat, i ≤ 10 ∧ z = .int .i64 i ∧ V2 N w wr s (dbls s i)) (fun z _ => 10 - (intOf z).toNat)
          case atStart => exact ⟨0, Nat.zero_le _, rfl, hA⟩
          case round =>
            obtain ⟨i3, hi3, rfl, hR⟩ := hrel
            clear hA hsz
            by_cases h4 : i3 < 10
            · have g6 : (i3 : Int) < 10 := by omega
              obtain ⟨t0, ht0⟩ : ∃ t, t = dbls s i3 := ⟨_, rfl⟩
              rw [← ht0] at hR
              have HT0 := keep ht0
              clear ht0
              go_wp2_with (refine wpList_load_row rfl 44 (.tmp 11) rfl (N + 1 + 1) rfl 44 (warr t0) (0, 0) _ hR.hw Try.underlying44 rfl (by kernel_rfl) ?_)
              refine Calls.mono (show Calls Try.prog 17 #[_, .int .i64 0, .int .i64 4, .int .i64 8, .int .i64 12] _ _ from rquarter_any 0 4 8 12 (by omega) (by omega) (by omega) (by omega) t0 _) ?_
              rintro e u0 ⟨rfl, hb⟩
              rw [rq_qst t0 0 4 8 12 (by omega) (by omega) (by omega) (by omega) (by omega) (by omega)]
              obtain ⟨t1, ht1⟩ : ∃ t, t = qst t0 0 4 8 12 := ⟨_, rfl⟩
              rw [← ht1]
              have hR' := hR.step hb t1
              have hcur := hR.hw.kept hb
              have HT1 := keep ht1
              clear hR ht1
              go_wp2_with (first
                | (refine wpList_store_row rfl 44 (.tmp 11) (.tmp 99) rfl (N + 1 + 1) (warr t1) rfl rfl 44 (warr t0) hcur (by kernel_rfl) (by kernel_rfl) (arr_one _ _ fun i => rfl) ?_)
                | (refine wpList_load_row rfl 44 (.tmp 11) rfl (N + 1 + 1) rfl 44 (warr t1) (0, 0) _ hR'.hw Try.underlying44 rfl (by kernel_rfl) ?_))
              clear hcur hb
              have hR := hR'
              clear hR'
              refine Calls.mono (show Calls Try.prog 17 #[_, .int .i64 1, .int .i64 5, .int .i64 9, .int .i64 13] _ _ from rquarter_any 1 5 9 13 (by omega) (by omega) (by omega) (by omega) t1 _) ?_
              rintro e u1 ⟨rfl, hb⟩
              rw [rq_qst t1 1 5 9 13 (by omega) (by omega) (by omega) (by omega) (by omega) (by omega)]
              obtain ⟨t2, ht2⟩ : ∃ t, t = qst t1 1 5 9 13 := ⟨_, rfl⟩
              rw [← ht2]
              have hR' := hR.step hb t2
              have hcur := hR.hw.kept hb
              have HT2 := keep ht2
              clear hR ht2
              go_wp2_with (first
                | (refine wpList_store_row rfl 44 (.tmp 11) (.tmp 101) rfl (N + 1 + 1) (warr t2) rfl rfl 44 (warr t1) hcur (by kernel_rfl) (by kernel_rfl) (arr_one _ _ fun i => rfl) ?_)
                | (refine wpList_load_row rfl 44 (.tmp 11) rfl (N + 1 + 1) rfl 44 (warr t2) (0, 0) _ hR'.hw Try.underlying44 rfl (by kernel_rfl) ?_))
              clear hcur hb
              have hR := hR'
              clear hR'
              refine Calls.mono (show Calls Try.prog 17 #[_, .int .i64 2, .int .i64 6, .int .i64 10, .int .i64 14] _ _ from rquarter_any 2 6 10 14 (by omega) (by omega) (by omega) (by omega) t2 _) ?_
              rintro e u2 ⟨rfl, hb⟩
              rw [rq_qst t2 2 6 10 14 (by omega) (by omega) (by omega) (by omega) (by omega) (by omega)]
              obtain ⟨t3, ht3⟩ : ∃ t, t = qst t2 2 6 10 14 := ⟨_, rfl⟩
              rw [← ht3]
              have hR' := hR.step hb t3
              have hcur := hR.hw.kept hb
              have HT3 := keep ht3
              clear hR ht3
              go_wp2_with (first
                | (refine wpList_store_row rfl 44 (.tmp 11) (.tmp 103) rfl (N + 1 + 1) (warr t3) rfl rfl 44 (warr t2) hcur (by kernel_rfl) (by kernel_rfl) (arr_one _ _ fun i => rfl) ?_)
                | (refine wpList_load_row rfl 44 (.tmp 11) rfl (N + 1 + 1) rfl 44 (warr t3) (0, 0) _ hR'.hw Try.underlying44 rfl (by kernel_rfl) ?_))
              clear hcur hb
              have hR := hR'
              clear hR'
              refine Calls.mono (show Calls Try.prog 17 #[_, .int .i64 3, .int .i64 7, .int .i64 11, .int .i64 15] _ _ from rquarter_any 3 7 11 15 (by omega) (by omega) (by omega) (by omega) t3 _) ?_
              rintro e u3 ⟨rfl, hb⟩
              rw [rq_qst t3 3 7 11 15 (by omega) (by omega) (by omega) (by omega) (by omega) (by omega)]
              obtain ⟨t4, ht4⟩ : ∃ t, t = qst t3 3 7 11 15 := ⟨_, rfl⟩
              rw [← ht4]
              have hR' := hR.step hb t4
              have hcur := hR.hw.kept hb
              have HT4 := keep ht4
              clear hR ht4
              go_wp2_with (first
                | (refine wpList_store_row rfl 44 (.tmp 11) (.tmp 105) rfl (N + 1 + 1) (warr t4) rfl rfl 44 (warr t3) hcur (by kernel_rfl) (by kernel_rfl) (arr_one _ _ fun i => rfl) ?_)
                | (refine wpList_load_row rfl 44 (.tmp 11) rfl (N + 1 + 1) rfl 44 (warr t4) (0, 0) _ hR'.hw Try.underlying44 rfl (by kernel_rfl) ?_))
              clear hcur hb
              have hR := hR'
              clear hR'
              refine Calls.mono (show Calls Try.prog 17 #[_, .int .i64 0, .int .i64 5, .int .i64 10, .int .i64 15] _ _ from rquarter_any 0 5 10 15 (by omega) (by omega) (by omega) (by omega) t4 _) ?_
              rintro e u4 ⟨rfl, hb⟩
              rw [rq_qst t4 0 5 10 15 (by omega) (by omega) (by omega) (by omega) (by omega) (by omega)]
              obtain ⟨t5, ht5⟩ : ∃ t, t = qst t4 0 5 10 15 := ⟨_, rfl⟩
              rw [← ht5]
              have hR' := hR.step hb t5
              have hcur := hR.hw.kept hb
              have HT5 := keep ht5
              clear hR ht5
              go_wp2_with (first
                | (refine wpList_store_row rfl 44 (.tmp 11) (.tmp 107) rfl (N + 1 + 1) (warr t5) rfl rfl 44 (warr t4) hcur (by kernel_rfl) (by kernel_rfl) (arr_one _ _ fun i => rfl) ?_)
                | (refine wpList_load_row rfl 44 (.tmp 11) rfl (N + 1 + 1) rfl 44 (warr t5) (0, 0) _ hR'.hw Try.underlying44 rfl (by kernel_rfl) ?_))
              clear hcur hb
              have hR := hR'
              clear hR'
              refine Calls.mono (show Calls Try.prog 17 #[_, .int .i64 1, .int .i64 6, .int .i64 11, .int .i64 12] _ _ from rquarter_any 1 6 11 12 (by omega) (by omega) (by omega) (by omega) t5 _) ?_
              rintro e u5 ⟨rfl, hb⟩
              rw [rq_qst t5 1 6 11 12 (by omega) (by omega) (by omega) (by omega) (by omega) (by omega)]
              obtain ⟨t6, ht6⟩ : ∃ t, t = qst t5 1 6 11 12 := ⟨_, rfl⟩
              rw [← ht6]
              have hR' := hR.step hb t6
              have hcur := hR.hw.kept hb
              have HT6 := keep ht6
              clear hR ht6
              go_wp2_with (first
                | (refine wpList_store_row rfl 44 (.tmp 11) (.tmp 109) rfl (N + 1 + 1) (warr t6) rfl rfl 44 (warr t5) hcur (by kernel_rfl) (by kernel_rfl) (arr_one _ _ fun i => rfl) ?_)
                | (refine wpList_load_row rfl 44 (.tmp 11) rfl (N + 1 + 1) rfl 44 (warr t6) (0, 0) _ hR'.hw Try.underlying44 rfl (by kernel_rfl) ?_))
              clear hcur hb
              have hR := hR'
              clear hR'
              refine Calls.mono (show Calls Try.prog 17 #[_, .int .i64 2, .int .i64 7, .int .i64 8, .int .i64 13] _ _ from rquarter_any 2 7 8 13 (by omega) (by omega) (by omega) (by omega) t6 _) ?_
              rintro e u6 ⟨rfl, hb⟩
              rw [rq_qst t6 2 7 8 13 (by omega) (by omega) (by omega) (by omega) (by omega) (by omega)]
              obtain ⟨t7, ht7⟩ : ∃ t, t = qst t6 2 7 8 13 := ⟨_, rfl⟩
              rw [← ht7]
              have hR' := hR.step hb t7
              have hcur := hR.hw.kept hb
              have HT7 := keep ht7
              clear hR ht7
              go_wp2_with (first
                | (refine wpList_store_row rfl 44 (.tmp 11) (.tmp 111) rfl (N + 1 + 1) (warr t7) rfl rfl 44 (warr t6) hcur (by kernel_rfl) (by kernel_rfl) (arr_one _ _ fun i => rfl) ?_)
                | (refine wpList_load_row rfl 44 (.tmp 11) rfl (N + 1 + 1) rfl 44 (warr t7) (0, 0) _ hR'.hw Try.underlying44 rfl (by kernel_rfl) ?_))
              clear hcur hb
              have hR := hR'
              clear hR'
              refine Calls.mono (show Calls Try.prog 17 #[_, .int .i64 3, .int .i64 4, .int .i64 9, .int .i64 14] _ _ from rquarter_any 3 4 9 14 (by omega) (by omega) (by omega) (by omega) t7 _) ?_
              rintro e u7 ⟨rfl, hb⟩
              rw [rq_qst t7 3 4 9 14 (by omega) (by omega) (by omega) (by omega) (by omega) (by omega)]
              obtain ⟨t8, ht8⟩ : ∃ t, t = qst t7 3 4 9 14 := ⟨_, rfl⟩
              rw [← ht8]
              have hR' := hR.step hb t8
              have hcur := hR.hw.kept hb
              have HT8 := keep ht8
              clear hR ht8
              go_wp2_with (first
                | (refine wpList_store_row rfl 44 (.tmp 11) (.tmp 113) rfl (N + 1 + 1) (warr t8) rfl rfl 44 (warr t7) hcur (by kernel_rfl) (by kernel_rfl) (arr_one _ _ fun i => rfl) ?_)
                | (refine wpList_load_row rfl 44 (.tmp 11) rfl (N + 1 + 1) rfl 44 (warr t8) (0, 0) _ hR'.hw Try.underlying44 rfl (by kernel_rfl) ?_))
              clear hcur hb
              have hR := hR'
              clear hR'
              have hf : V2 N w (u7.setRow (N + 1 + 1) (warr t8)) s (dbls s (i3 + 1)) := by
                have e8 : t8 = dbls s (i3 + 1) := by
                  rw [HT8.out, HT7.out, HT6.out, HT5.out, HT4.out, HT3.out, HT2.out, HT1.out, HT0.out]
                  rfl
                rw [← e8]
                exact hR
              clear hR HT0 HT1 HT2 HT3 HT4 HT5 HT6 HT7 HT8
              go_roundw
              case rel => exact ⟨i3 + 1, by omega, by go_num, hf⟩
              case measure => simp [intOf]; omega
            · have g6 : ¬ (i3 : Int) < 10 := by omega
              have e4 : i3 = 10 := by omega
              rw [e4] at hR
              clear e4 hi3
              obtain ⟨t, ht⟩ : ∃ t, t = dbls s 10 := ⟨_, rfl⟩
              rw [← ht] at hR
              have HT := keep ht
              clear ht
              go_wp2_with fail
              have hA : V2 N w wr s t ∧ Own wr (N + 3) (.slice none 0 0) ((tl (4 * 0) (sbyte (addw t s))).map v8) := ⟨hR, Own.nil _ _⟩
              clear hR
              go_loopw [14, 13] (fun z v wr => ∃ i : Nat, i ≤ 16 ∧ z = .int .i64 i ∧ V2 N w wr s t ∧ Own wr (N + 3) v ((tl (4 * i) (sbyte (addw t s))).map v8)) (fun z _ _ => 16 - (intOf z).toNat)
              case atStart => exact ⟨0, Nat.zero_le _, rfl, hA⟩
              case round =>
                obtain ⟨i4, hi4, rfl, hR, hO⟩ := hrel
                clear hA
                by_cases h4 : i4 < 16
                · have g7 : (i4 : Int) < 16 := by omega
                  have c1 := hR.hw.at_ (warr_get _ h4)
                  have c2 := hR.hv.at_ (warr_get _ h4)
                  go_wp2_with fail
                  refine Mixed.wp_region (fun _ => True) [(1, 0), (1, 1), (1, 2), (1, 3), (1, 4), (1, 5), (1, 6), (1, 7)] (by kernel_rfl) (by kernel_rfl) trivial ?_
                  refine Mixed.reads (k := 1) (.inr ⟨rfl, rfl⟩) _ [0, 1, 2, 3, 4, 5, 6, 7] _ (by kernel_rfl) ?_
                  simp only [List.filterMap_cons, List.filterMap_nil, List.getElem?_toArray, List.getElem?_cons_zero, List.getElem?_cons_succ]
                  show wpQuiet _ _ _ _ [_, _, _, _, _, _, _, _] _
                  iterate 8 go_big_quiet_step (fail)
                  refine wpQuiet_nil ?_
                  unfold Mixed.HL
                  have hR2 := hR.drew
                  have hO2 := hO.drew
                  clear hR hO c1 c2
                  go_wp2_with fail
                  generalize wr.drew = w4 at *
                  have hA : V2 N w w4 s t ∧ ∃ l, l.length = 4 * i4 + 0 ∧ l = tl (4 * i4 + 0) (sbyte (addw t s)) ∧ Own w4 (N + 3) u13 (l.map v8) := ⟨hR2, _, by rw [tl_length], rfl, hO2⟩
                  clear hR2 hO2
                  go_loopw [16, 15, 13] (fun z x v wr => ∃ j : Nat, j ≤ 4 ∧ z = .int .i64 j ∧ x = v32 (down (t i4 + s i4) j) ∧ V2 N w wr s t ∧ ∃ l, l.length = 4 * i4 + j ∧ l = tl (4 * i4 + j) (sbyte (addw t s)) ∧ Own wr (N + 3) v (l.map v8)) (fun z _ _ _ => 4 - (intOf z).toNat)
                  case atStart => exact ⟨0, Nat.zero_le _, rfl, rfl, hA⟩
                  case round =>
                    obtain ⟨j, hj, rfl, rfl, hR, l, hll, hl, hO⟩ := hrel
                    clear hA
                    by_cases h5 : j < 4
                    · have g8 : (j : Int) < 4 := by omega
                      obtain ⟨ao, capo, rfl, -, -, -⟩ := hO.form
                      rw [List.length_map] at *
                      obtain ⟨b, hb⟩ : ∃ b, (down (t i4 + s i4) j % 256).toUInt8 = b := ⟨_, rfl⟩
                      have hl2 : l ++ [b] = tl (4 * i4 + (j + 1)) (sbyte (addw t s)) := by
                        rw [← Nat.add_assoc, tl_succ, ← hl, ← hb]
                        exact congrArg (fun z => l ++ [z]) (sbyte_down (addw t s) i4 j h5)
                      have HL := keep hl2
                      clear hl hl2
                      have hnew : ∀ wz : World, (wz.alloc (.cells #[v8 b] 5)).cell? ⟨wz.heap.size, 0, none⟩ = some (v8 b) := fun wz => (Blk.made wz 5 #[v8 b]).at_ rfl
                      have hs := hR.size
                      go_wp2_with (at_builtin; refine wpList_append_one _ rfl (.tmp 129) (.tmp 133) 31 rfl (N + 3) 5 i0 (.int .u8 0) 1 Try.underlying31 hi hz0 hz1 hz2 rfl (.slice ao l.length capo) (l.map v8) rfl (hO.alloc _) wr.heap.size 1 (v8 b) rfl (hnew _) rfl (by rw [List.length_map]; omega) (by omega) (by simp; omega) ?_
                                   intro v4 w4 hown4 hg4 hv4
                                   have hR4 := hR.grown _ hg4 (fun k e => (hO.row k e).1)
                                   rw [map_v8_snoc] at hown4
                                   clear hg4 hv4 hO hR hnew)
                      go_roundw
                      case rel => exact ⟨j + 1, by omega, by go_num, rfl, hR4, l ++ [b], by rw [List.length_append, List.length_singleton]; omega, HL.out, hown4⟩
                      case measure => simp [intOf]; omega
                    · have g8 : ¬ (j : Int) < 4 := by omega
                      have e4 : j = 4 := by omega
                      rw [e4, show 4 * i4 + 4 = 4 * (i4 + 1) by omega] at hl
                      rw [hl] at hO
                      clear e4 hj hl hll
                      go_wp2_with fail
                      go_roundw
                      case rel => exact ⟨i4 + 1, by omega, by go_num, hR, hO⟩
                      case measure => simp [intOf]; omega
                · have g7 : ¬ (i4 : Int) < 16 := by omega
                  have e4 : i4 = 16 := by omega
                  rw [e4] at hO
                  have hO64 : Own wr (N + 3) u13 ((tl 64 (sbyte (addw t s))).map v8) := hO
                  have hbel := hR.bel
                  clear e4 hi4 hO hR
                  go_wp2_with fail
                  rw [hO64.back 31 9 5 Try.underlying31 Try.underlying5 Try.underlying9]
                  go_wp2_with fail
                  go_ret
                  rw [HT.out, hN]
                  exact ⟨rfl, hbel⟩
end Go.Proofs.Ytghojlkogeoejaa

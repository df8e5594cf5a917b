/-
  cha: the document's mask: byte by byte, the blocks one after the other (written by wip/tools/rm03.py).
-/
import Derived.Test.YtghojlkogeoejaaRefBlock
import Derived.Test.YtghojlkogeoejaaMask
import Derived.Test.YtghojlkogeoejaaOwn
namespace Go.Proofs.Ytghojlkogeoejaa
open Go.RowKit
structure KR (N : Nat) (k : Nat → UInt8) (w wr : World) : Prop where
  key : Blk wr N 28 (karr k)
  bel : Below N w wr
theorem KR.grown {N : Nat} {k : Nat → UInt8} {w wr w' : World} (h : KR N k w wr) (o : Obj) {row : Option Nat} (hg : (wr.drew.alloc o).grownBy w' row) (hr : ∀ j, row = some j → N + 1 ≤ j) : KR N k w w' := by
  have hs := h.key.lt
  exact ⟨(h.key.drew.alloc o).grown hg (fun e => by have := hr _ e.symm; omega), (h.bel.drew.alloc (Nat.le_of_lt hs) o).grown hg (by simp; omega) (fun j hj => by have := hr j hj; omega)⟩

set_option maxHeartbeats 1000000 in
theorem rmask_any (k : Nat → UInt8) (c : UInt32) (n l : List UInt8) (w : World) (hn : n.length = 12) (hl : l.length < 1099511627776) :
    Calls Try.prog 14 #[.agg (karr k), v32 c, .string (tx n), .string (tx l)] w fun e w' => e = .returned (.string (tx (maskl k c n l))) ∧ Below w.heap.size w w' := by
  obtain ⟨i0, hi, hz0, hz1, hz2⟩ := info_parts info5b
  have hA : KR w.heap.size k w (w.alloc (.cells (karr k) 28)) := ⟨Blk.made w 28 _, (Below.refl _ _).alloc (Nat.le_refl _) _⟩
  go_enter Try.func14, Try.ntmps14
  go_wp2_with fail
  generalize hN : w.heap.size = N at *
  go_loopw [11, 9, 10, 1] (fun z v t y wr => ∃ (i : Nat) (xs bl : List UInt8), i ≤ l.length ∧ z = .int .i64 i ∧ t = .string (tx bl) ∧ y = v32 (c + UInt32.ofNat ((i + 63) / 64)) ∧ xs.length = i ∧ xs = tl i (mby k c n l) ∧
    (i % 64 ≠ 0 → bl = tl 64 (ks k (c + UInt32.ofNat (i / 64)) n)) ∧ KR N k w wr ∧ Own wr (N + 1) v (xs.map v8)) (fun z _ _ _ _ => l.length - (intOf z).toNat)
  case atStart => exact ⟨0, [], [], Nat.zero_le _, rfl, rfl, by simp, rfl, rfl, fun h => absurd rfl h, hA, Own.nil _ _⟩
  case round =>
    obtain ⟨i, xs, bl, hil, rfl, rfl, rfl, hxl, hxs, hbl, hR, hO⟩ := hrel
    clear hA
    by_cases h4 : i < l.length
    · have g4 : (i : Int) < (l.length : Int) := by omega
      have x0 := idx_tx (P := Try.prog) 9 Try.underlying9 l .i64 (i : Int) i rfl h4
      obtain ⟨ao, capo, rfl, -, -, -⟩ := hO.form
      rw [List.length_map] at *
      rw [hxl] at hO
      by_cases h64 : i % 64 = 0
      · have g64 : ((i : Int) % 64 == 0) = true := by simp; omega
        have hc1 : c + UInt32.ofNat ((i + 63) / 64) = c + UInt32.ofNat (i / 64) := by rw [show (i + 63) / 64 = i / 64 by omega]
        have HC : Hid (c + UInt32.ofNat (i / 64) + 1 = c + UInt32.ofNat ((i + 1 + 63) / 64)) := keep (by
          rw [show (i + 1 + 63) / 64 = i / 64 + 1 by omega, UInt32.ofNat_add, UInt32.add_assoc]
          rfl)
        rw [hc1]
        clear hc1 hbl h64
        have hNr : N ≤ wr.heap.size := by have := hR.key.lt; omega
        go_wp2_with (refine wpList_load_row rfl 28 (.tmp 4) rfl N rfl 28 (karr k) (0, 0) _ hR.key Try.underlying28 rfl (by kernel_rfl) ?_)
        refine (rblock_any k (c + UInt32.ofNat (i / 64)) n _ hn).mono ?_
        rintro e w2 ⟨rfl, hb2⟩
        have hR2 : KR N k w w2 := ⟨hR.key.kept hb2, hR.bel.trans (hb2.mono hNr)⟩
        have hO2 := hO.below hb2
        clear hR hO hb2 hNr
        have hR := hR2
        have hO := hO2
        clear hR2 hO2
        generalize w2 = wr at *
        have x1 := idx_tx (P := Try.prog) 9 Try.underlying9 (tl 64 (ks k (c + UInt32.ofNat (i / 64)) n)) .i64 ((i : Int) % 64) (i % 64) (by omega) (by rw [tl_length]; omega)
        rw [bt_tl _ (by omega)] at x1
        obtain ⟨b, hb⟩ : ∃ b, bt l i ^^^ ks k (c + UInt32.ofNat (i / 64)) n (i % 64) = b := ⟨_, rfl⟩
        have hl2 : xs ++ [b] = tl (i + 1) (mby k c n l) := by
          rw [tl_succ, ← hxs, ← hb]
          rfl
        have HL := keep hl2
        have HB : Hid ((i + 1) % 64 ≠ 0 → tl 64 (ks k (c + UInt32.ofNat (i / 64)) n) = tl 64 (ks k (c + UInt32.ofNat ((i + 1) / 64)) n)) := keep (fun h => by rw [show (i + 1) / 64 = i / 64 by omega])
        clear hl2
        have hnew : ∀ wz : World, (wz.alloc (.cells #[v8 b] 5)).cell? ⟨wz.heap.size, 0, none⟩ = some (v8 b) := fun wz => (Blk.made wz 5 #[v8 b]).at_ rfl
        have hs := hR.key.lt
        go_wp2_with fail
        refine Mixed.wp_region (fun _ => True) [(0, 0), (1, 1), (1, 2), (1, 3), (1, 4), (1, 5), (1, 6), (1, 7), (1, 8), (2, 9), (2, 10), (1, 11)] (by kernel_rfl) (by kernel_rfl) trivial ?_
        refine Mixed.reads (k := 0) (.inl ⟨rfl, rfl⟩) _ [0] _ (by kernel_rfl) ?_
        simp only [List.filterMap_cons, List.filterMap_nil, List.getElem?_toArray, List.getElem?_cons_zero]
        show wpQuiet _ _ _ _ [_] _
        iterate 1 go_big_quiet_step (fail)
        refine wpQuiet_nil ?_
        refine Mixed.reads (k := 1) (.inr ⟨rfl, rfl⟩) _ [1, 2, 3, 4, 5, 6, 7, 8] _ (by kernel_rfl) ?_
        simp only [List.filterMap_cons, List.filterMap_nil, List.getElem?_toArray, List.getElem?_cons_zero, List.getElem?_cons_succ]
        show wpQuiet _ _ _ _ [_, _, _, _, _, _, _, _] _
        iterate 8 go_big_quiet_step (fail)
        refine wpQuiet_nil ?_
        refine Mixed.effect (i := 9) rfl rfl ?_
        intro Q hQ
        go_wp2_with fail
        refine hQ _ _ trivial ?_
        clear hQ
        refine Mixed.effect (i := 10) rfl rfl ?_
        intro Q hQ
        simp only [List.getElem_toArray, List.getElem_cons_zero, List.getElem_cons_succ]
        refine wpList_append_one _ rfl (.tmp 27) (.tmp 36) 31 rfl (N + 1) 5 i0 (.int .u8 0) 1 Try.underlying31 hi hz0 hz1 hz2 rfl (.slice ao i capo) (xs.map v8) rfl (hO.drew.alloc _) wr.heap.size 1 (v8 b) rfl (hnew wr.drew) rfl (by rw [List.length_map]; omega) (by omega) (by simp; omega) ?_
        intro v4 w4 hown4 hg4 hv4
        have hR4 := hR.grown _ hg4 (fun k e => (hO.row k e).1)
        rw [map_v8_snoc] at hown4
        simp only [Act.put, List.setIfInBounds_toArray, List.set_cons_succ, List.set_cons_zero]
        refine hQ _ _ trivial ?_
        clear hQ hg4 hv4 hO hR hnew
        refine Mixed.reads (k := 1) (.inr ⟨rfl, rfl⟩) _ [11] _ (by kernel_rfl) ?_
        simp only [List.filterMap_cons, List.filterMap_nil, List.getElem?_toArray, List.getElem?_cons_zero, List.getElem?_cons_succ]
        show wpQuiet _ _ _ _ [_] _
        iterate 1 go_big_quiet_step (fail)
        refine wpQuiet_nil ?_
        unfold Mixed.HL
        go_wp2_with fail
        go_roundw
        case rel => exact ⟨i + 1, xs ++ [b], tl 64 (ks k (c + UInt32.ofNat (i / 64)) n), by omega, by go_num, rfl, by rw [HC.out], by rw [List.length_append, List.length_singleton]; omega, HL.out, HB.out, hR4, hown4⟩
        case measure => simp [intOf]; omega
      · have g64 : ((i : Int) % 64 == 0) = false := by simp; omega
        have hbl' := hbl h64
        subst hbl'
        clear hbl
        have HC : Hid (c + UInt32.ofNat ((i + 63) / 64) = c + UInt32.ofNat ((i + 1 + 63) / 64)) := keep (by rw [show (i + 1 + 63) / 64 = (i + 63) / 64 by omega])
        have x1 := idx_tx (P := Try.prog) 9 Try.underlying9 (tl 64 (ks k (c + UInt32.ofNat (i / 64)) n)) .i64 ((i : Int) % 64) (i % 64) (by omega) (by rw [tl_length]; omega)
        rw [bt_tl _ (by omega)] at x1
        obtain ⟨b, hb⟩ : ∃ b, bt l i ^^^ ks k (c + UInt32.ofNat (i / 64)) n (i % 64) = b := ⟨_, rfl⟩
        have hl2 : xs ++ [b] = tl (i + 1) (mby k c n l) := by
          rw [tl_succ, ← hxs, ← hb]
          rfl
        have HL := keep hl2
        have HB : Hid ((i + 1) % 64 ≠ 0 → tl 64 (ks k (c + UInt32.ofNat (i / 64)) n) = tl 64 (ks k (c + UInt32.ofNat ((i + 1) / 64)) n)) := keep (fun h => by rw [show (i + 1) / 64 = i / 64 by omega])
        clear hl2
        have hnew : ∀ wz : World, (wz.alloc (.cells #[v8 b] 5)).cell? ⟨wz.heap.size, 0, none⟩ = some (v8 b) := fun wz => (Blk.made wz 5 #[v8 b]).at_ rfl
        have hs := hR.key.lt
        go_wp2_with fail
        refine Mixed.wp_region (fun _ => True) [(0, 0), (1, 1), (1, 2), (1, 3), (1, 4), (1, 5), (1, 6), (1, 7), (1, 8), (2, 9), (2, 10), (1, 11)] (by kernel_rfl) (by kernel_rfl) trivial ?_
        refine Mixed.reads (k := 0) (.inl ⟨rfl, rfl⟩) _ [0] _ (by kernel_rfl) ?_
        simp only [List.filterMap_cons, List.filterMap_nil, List.getElem?_toArray, List.getElem?_cons_zero]
        show wpQuiet _ _ _ _ [_] _
        iterate 1 go_big_quiet_step (fail)
        refine wpQuiet_nil ?_
        refine Mixed.reads (k := 1) (.inr ⟨rfl, rfl⟩) _ [1, 2, 3, 4, 5, 6, 7, 8] _ (by kernel_rfl) ?_
        simp only [List.filterMap_cons, List.filterMap_nil, List.getElem?_toArray, List.getElem?_cons_zero, List.getElem?_cons_succ]
        show wpQuiet _ _ _ _ [_, _, _, _, _, _, _, _] _
        iterate 8 go_big_quiet_step (fail)
        refine wpQuiet_nil ?_
        refine Mixed.effect (i := 9) rfl rfl ?_
        intro Q hQ
        go_wp2_with fail
        refine hQ _ _ trivial ?_
        clear hQ
        refine Mixed.effect (i := 10) rfl rfl ?_
        intro Q hQ
        simp only [List.getElem_toArray, List.getElem_cons_zero, List.getElem_cons_succ]
        refine wpList_append_one _ rfl (.tmp 27) (.tmp 36) 31 rfl (N + 1) 5 i0 (.int .u8 0) 1 Try.underlying31 hi hz0 hz1 hz2 rfl (.slice ao i capo) (xs.map v8) rfl (hO.drew.alloc _) wr.heap.size 1 (v8 b) rfl (hnew wr.drew) rfl (by rw [List.length_map]; omega) (by omega) (by simp; omega) ?_
        intro v4 w4 hown4 hg4 hv4
        have hR4 := hR.grown _ hg4 (fun k e => (hO.row k e).1)
        rw [map_v8_snoc] at hown4
        simp only [Act.put, List.setIfInBounds_toArray, List.set_cons_succ, List.set_cons_zero]
        refine hQ _ _ trivial ?_
        clear hQ hg4 hv4 hO hR hnew
        refine Mixed.reads (k := 1) (.inr ⟨rfl, rfl⟩) _ [11] _ (by kernel_rfl) ?_
        simp only [List.filterMap_cons, List.filterMap_nil, List.getElem?_toArray, List.getElem?_cons_zero, List.getElem?_cons_succ]
        show wpQuiet _ _ _ _ [_] _
        iterate 1 go_big_quiet_step (fail)
        refine wpQuiet_nil ?_
        unfold Mixed.HL
        go_wp2_with fail
        go_roundw
        case rel => exact ⟨i + 1, xs ++ [b], tl 64 (ks k (c + UInt32.ofNat (i / 64)) n), by omega, by go_num, rfl, by rw [HC.out], by rw [List.length_append, List.length_singleton]; omega, HL.out, HB.out, hR4, hown4⟩
        case measure => simp [intOf]; omega
    · have g4 : ¬ (i : Int) < (l.length : Int) := by omega
      have e4 : i = l.length := by omega
      have hOl : Own wr (N + 1) u9 ((maskl k c n l).map v8) := by
        have := hO
        rw [hxs, e4] at this
        exact this
      have hbel := hR.bel
      clear e4 hO hR hxs hbl
      go_wp2_with fail
      rw [hOl.back 31 9 5 Try.underlying31 Try.underlying5 Try.underlying9]
      go_wp2_with fail
      go_ret
      rw [hN]
      exact ⟨rfl, hbel⟩
end Go.Proofs.Ytghojlkogeoejaa

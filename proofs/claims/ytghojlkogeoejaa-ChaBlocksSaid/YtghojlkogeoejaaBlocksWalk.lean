/-
  ChaBlocks: a text of zero bytes is masked to the blocks, whose counts go round: the walk of the law.
-/
import Derived.Test.YtghojlkogeoejaaPartsWalk
import Derived.Test.YtghojlkogeoejaaBlock
namespace Go.Proofs.Ytghojlkogeoejaa
open Go.RowKit
/-- The first i blocks. -/
def blks (k : Nat → UInt8) (c : UInt32) (n : List UInt8) (i : Nat) : List UInt8 := tl (64 * i) fun j => ks k (c + UInt32.ofNat (j / 64)) n (j % 64)
theorem blks_succ (k : Nat → UInt8) (c : UInt32) (n : List UInt8) (i : Nat) : blks k c n i ++ tl 64 (ks k (c + UInt32.ofNat i) n) = blks k c n (i + 1) := by
  unfold blks
  rw [show 64 * (i + 1) = 64 * i + 64 by omega, tl_add]
  refine congrArg (_ ++ ·) (tl_congr fun j hj => ?_)
  rw [show (64 * i + j) / 64 = i by omega, show (64 * i + j) % 64 = j by omega]
theorem mask_zeros (k : Nat → UInt8) (c : UInt32) (n : List UInt8) (i : Nat) : maskl k c n (tl (64 * i) fun _ => 0) = blks k c n i := by
  unfold maskl blks
  rw [tl_length]
  exact tl_congr fun j hj => by
    unfold mby
    rw [bt_tl _ hj, UInt8.zero_xor]
theorem blks_length (k : Nat → UInt8) (c : UInt32) (n : List UInt8) (i : Nat) : (blks k c n i).length = 64 * i := tl_length _ _
structure BK (N : Nat) (k n : Nat → UInt8) (w wr : World) : Prop where
  key : Blk wr N 29 (karr k)
  non : Blk wr (N + 1) 30 (narr n)
  bel : Below N w wr
theorem BK.below {N : Nat} {k n : Nat → UInt8} {w wr w' : World} (h : BK N k n w wr) (hb : Below wr.heap.size wr w') : BK N k n w w' :=
  ⟨h.key.kept hb, h.non.kept hb, h.bel.trans (hb.mono (by have := h.key.lt; omega))⟩
theorem BK.drew {N : Nat} {k n : Nat → UInt8} {w wr : World} (h : BK N k n w wr) : BK N k n w wr.drew := ⟨h.key.drew, h.non.drew, h.bel.drew⟩
theorem info5 : (Try.prog.info? 5).map (fun i => (i.zero, i.size, i.bytes)) = some (some (.int .u8 0), 1, 1) := by kernel_rfl

theorem blocks_walk (k : Nat → UInt8) (c : UInt32) (n : Nat → UInt8) (m : UInt8) (w : World) :
    Calls Try.prog 7 #[.agg (karr k), v32 c, .agg (narr n), v8 m] w fun e w' => e = .returned (.bool true) ∧ Below w.heap.size w w' := by
  have hA : BK w.heap.size k n w ((w.alloc (.cells (karr k) 29)).alloc (.cells (narr n) 30)) :=
    ⟨(Blk.made w 29 _).alloc _, by have := Blk.made (w.alloc (.cells (karr k) 29)) 30 (narr n); simpa using this, ((Below.refl _ _).alloc (Nat.le_refl _) _).alloc (by simp) _⟩
  obtain ⟨M, hM, hM4⟩ : ∃ M : Nat, ((m.toNat : Int) % 5) = M ∧ M < 5 := ⟨m.toNat % 5, by omega, by omega⟩
  have HM := keep hM4
  go_enter Try.func7, Try.ntmps7
  go_wp2_with fail
  refine (awake_any _).mono ?_; rintro e w1 ⟨rfl, rfl⟩
  have HMM := keep hM
  clear hM
  go_wp2_with fail
  rw [HMM.out]
  clear HMM
  generalize hN : w.heap.size = N at *
  go_loopw [11, 10] (fun z t wr => ∃ i : Nat, i ≤ M ∧ z = .int .i64 i ∧ t = .string (tx (blks k c (tl 12 n) i)) ∧ BK N k n w wr) (fun z _ _ => M - (intOf z).toNat)
  case atStart => exact ⟨0, Nat.zero_le _, rfl, rfl, hA⟩
  case round =>
    obtain ⟨i, hi, rfl, rfl, hR⟩ := hrel
    clear hA
    by_cases h4 : i < M
    · have g4 : (i : Int) < (M : Int) := by omega
      have hadd : ∀ t, binOp .add t (v32 c) (.int .u32 (i : Int)) = pure (v32 (c + UInt32.ofNat i)) := fun t => by
        have h := u32_ofNat i
        rw [show (i : Int) % 4294967296 = i by omega] at h
        rw [h, v32_add]
      have hcv := narr_back hR.drew.non
      go_wp2_with fail
      refine Mixed.wp_region (fun _ => True) [(1, 0), (1, 1), (1, 2), (1, 3), (1, 4), (1, 5), (1, 6), (2, 7), (1, 8), (1, 9), (1, 10), (1, 11), (1, 12)] (by kernel_rfl) (by kernel_rfl) trivial ?_
      refine Mixed.read_row (i := 0) rfl rfl 29 (.tmp 4) rfl N rfl 29 (karr k) _ hR.key.drew Try.underlying29 rfl (by kernel_rfl) ?_
      simp only [List.getElem_toArray, List.getElem_cons_zero, Act.put, List.setIfInBounds_toArray, List.set_cons_succ, List.set_cons_zero]
      refine Mixed.reads (k := 1) (.inr ⟨rfl, rfl⟩) _ [1, 2, 3, 4, 5, 6] _ (by kernel_rfl) ?_
      simp only [List.filterMap_cons, List.filterMap_nil, List.getElem?_toArray, List.getElem?_cons_zero, List.getElem?_cons_succ]
      show wpQuiet _ _ _ _ [_, _, _, _, _, _] _
      iterate 6 go_big_quiet_step (fail)
      refine wpQuiet_nil ?_
      refine Mixed.effect (i := 7) rfl rfl ?_
      intro Q hQ
      go_wp2_with fail
      refine (block_any k (c + UInt32.ofNat i) (tl 12 n) _ (tl_length _ _)).mono ?_
      rintro e w3 ⟨rfl, hb3⟩
      have hf := hR.drew.below hb3
      clear hR hb3 hcv hadd
      go_wp2_with fail
      refine hQ _ _ trivial ?_
      clear hQ
      refine Mixed.reads (k := 1) (.inr ⟨rfl, rfl⟩) _ [8, 9, 10, 11, 12] _ (by kernel_rfl) ?_
      simp only [List.filterMap_cons, List.filterMap_nil, List.getElem?_toArray, List.getElem?_cons_zero, List.getElem?_cons_succ]
      show wpQuiet _ _ _ _ [_, _, _, _, _] _
      iterate 5 go_big_quiet_step (fail)
      refine wpQuiet_nil ?_
      unfold Mixed.HL
      have hbl := blks_length k c (tl 12 n) i
      have hsum : (blks k c (tl 12 n) i).length + 64 ≤ 9223372036854775807 := by omega
      go_wp2_with fail
      rw [blks_succ]
      go_roundw
      case rel => exact ⟨i + 1, by omega, by go_num, rfl, hf⟩
      case measure => simp [intOf]; omega
    · obtain rfl : i = M := by omega
      have hM5 := HM.out
      have hz := keep (mask_zeros k c (tl 12 n) i)
      have hnr := hR.non.lt
      obtain ⟨w2, hmk, hrow, hb2⟩ : ∃ w2, (Instr.makeSlice 31 (.int .i64 (64 * (i : Int))) (.int .i64 (64 * (i : Int)))).run Try.prog wr.drew = .ok (.slice (some ⟨wr.heap.size, 0, none⟩) (64 * i) (64 * i)) w2 ∧ Row8 w2 wr.heap.size 0 (64 * i) (fun _ => 0) ∧ Below wr.heap.size wr w2 := by
        obtain ⟨w2, h1, h2, h3⟩ := make_bytes (P := Try.prog) wr.drew 31 5 (64 * i) Try.underlying31 info5 (by omega) (64 * (i : Int)) (by omega)
        exact ⟨w2, h1, h2, ⟨h3.os, h3.tape, h3.output, h3.size, h3.block⟩⟩
      have hcv : ∀ u, (convert 31 9 (.slice (some ⟨N + 1, 0, none⟩) 12 12)).run Try.prog (mix [] wr u) = .ok (.string (tx (tl 12 n))) (mix [] wr u) := fun u => narr_back ((mix_keeps [] wr u).blk hR.non (by simp))
      have hcv2 := hrow.back (P := Try.prog) 31 9 5 Try.underlying31 Try.underlying5 Try.underlying9 (64 * i)
      have hK2 : Keeps [] wr w2 := Keeps.ofBelow hb2 _
      have hR2 := hR.below hb2
      have heq : (blks k c (tl 12 n) i == blks k c (tl 12 n) i) = true := by simp
      go_wp2_with fail
      refine Mixed.wp_region (fun w' => ∃ u, w' = mix [] wr u) [(0, 0), (0, 1), (0, 2), (0, 3), (1, 4), (1, 5), (2, 6), (1, 7), (2, 8), (1, 9), (1, 10), (1, 11), (1, 12), (1, 13)] (by kernel_rfl) (by kernel_rfl) (Mx.drew0 _ _) ?_
      refine Mixed.read_row0 (i := 0) rfl rfl 29 (.tmp 4) rfl N rfl 29 (karr k) _ (by rintro _ ⟨u, rfl⟩; exact (mix_keeps [] wr u).blk hR.key (by simp)) Try.underlying29 rfl (by kernel_rfl) ?_
      simp only [List.getElem_toArray, List.getElem_cons_zero, Act.put, List.setIfInBounds_toArray, List.set_cons_succ, List.set_cons_zero]
      refine Mixed.reads (k := 0) (.inl ⟨rfl, rfl⟩) _ [1, 2, 3] _ (by kernel_rfl) ?_
      simp only [List.filterMap_cons, List.filterMap_nil, List.getElem?_toArray, List.getElem?_cons_zero, List.getElem?_cons_succ]
      show wpQuiet _ _ _ _ [_, _, _] _
      iterate 3 go_big_quiet_step (fail)
      refine wpQuiet_nil ?_
      refine Mixed.reads (k := 1) (.inr ⟨rfl, rfl⟩) _ [4, 5] _ (by kernel_rfl) ?_
      simp only [List.filterMap_cons, List.filterMap_nil, List.getElem?_toArray, List.getElem?_cons_zero, List.getElem?_cons_succ]
      show wpQuiet _ _ _ _ [_, _] _
      iterate 2 go_big_quiet_step (fail)
      refine wpQuiet_nil ?_
      refine Mixed.effect (i := 6) rfl rfl ?_
      intro Q hQ
      go_wp2_with fail
      refine hQ _ _ (Mx.of hK2) ?_
      clear hQ
      refine Mixed.reads (k := 1) (.inr ⟨rfl, rfl⟩) _ [7] _ (by kernel_rfl) ?_
      simp only [List.filterMap_cons, List.filterMap_nil, List.getElem?_toArray, List.getElem?_cons_zero, List.getElem?_cons_succ]
      show wpQuiet _ _ _ _ [_] _
      iterate 1 go_big_quiet_step (fail)
      refine wpQuiet_nil ?_
      refine Mixed.effect (i := 8) rfl rfl ?_
      intro Q hQ
      go_wp2_with fail
      refine (mask_any k c (tl 12 n) (tl (64 * i) fun _ => 0) _ (tl_length _ _) (by rw [tl_length]; omega)).mono ?_
      rintro e w3 ⟨rfl, hb3⟩
      rw [hz.out]
      have hf := hR2.below hb3
      go_wp2_with fail
      refine hQ _ _ (Mx.of (hK2.below hb3 hK2.size)) ?_
      clear hQ
      refine Mixed.reads (k := 1) (.inr ⟨rfl, rfl⟩) _ [9, 10, 11, 12, 13] _ (by kernel_rfl) ?_
      simp only [List.filterMap_cons, List.filterMap_nil, List.getElem?_toArray, List.getElem?_cons_zero, List.getElem?_cons_succ]
      show wpQuiet _ _ _ _ [_, _, _, _, _] _
      iterate 5 go_big_quiet_step (fail)
      refine wpQuiet_nil ?_
      unfold Mixed.HL
      go_wp2_with fail
      go_ret
      exact ⟨rfl, by rw [hN]; exact hf.bel⟩
end Go.Proofs.Ytghojlkogeoejaa

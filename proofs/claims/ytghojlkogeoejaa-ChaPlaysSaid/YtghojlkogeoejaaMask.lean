/-
  cha: Mask: each byte of a text with the stream's byte.
-/
import Derived.Test.YtghojlkogeoejaaStream
namespace Go.Proofs.Ytghojlkogeoejaa
open Go.RowKit
/-- The j-th masked byte of l; l masked up to place p. -/
def mby (k : Nat → UInt8) (c : UInt32) (n : List UInt8) (l : List UInt8) (j : Nat) : UInt8 := bt l j ^^^ ks k (c + UInt32.ofNat (j / 64)) n (j % 64)
def mup (k : Nat → UInt8) (c : UInt32) (n : List UInt8) (l : List UInt8) (p : Nat) : Nat → UInt8 := fun j => if j < p then mby k c n l j else bt l j
def maskl (k : Nat → UInt8) (c : UInt32) (n : List UInt8) (l : List UInt8) : List UInt8 := tl l.length (mby k c n l)
structure MR (N B : Nat) (k : Nat → UInt8) (w wr : World) (len : Nat) (f : Nat → UInt8) : Prop where
  key : Blk wr N 29 (karr k)
  row : Row8 wr B 0 len f
  bel : Below N w wr
  lt : N < B
theorem u32_ofNat (m : Nat) : Value.int .u32 ((m : Int) % 4294967296) = v32 (UInt32.ofNat m) := by
  unfold v32
  rw [UInt32.toNat_ofNat']
  exact congrArg _ (by omega)
/-- One byte more is masked. -/
theorem mup_set (k : Nat → UInt8) (c : UInt32) (n l : List UInt8) (p : Nat) (x : UInt8) (hx : x = mby k c n l p) (i : Nat) : (if i = p then x else mup k c n l p i) = mup k c n l (p + 1) i := by
  unfold mup
  by_cases h : i = p
  · subst h; simp [hx]
  · by_cases h1 : i < p
    · simp [h, h1, show i < p + 1 by omega]
    · simp [h, h1, show ¬ i < p + 1 by omega]
theorem mby_at (k : Nat → UInt8) (c : UInt32) (n l : List UInt8) (m i : Nat) (hi : i < 64) : mby k c n l (64 * m + i) = bt l (64 * m + i) ^^^ ks k (c + UInt32.ofNat m) n i := by
  unfold mby
  rw [show (64 * m + i) / 64 = m by omega, show (64 * m + i) % 64 = i by omega]
theorem MR.below {N B : Nat} {k : Nat → UInt8} {w wr w' : World} {len : Nat} {f : Nat → UInt8} (h : MR N B k w wr len f) (hb : Below wr.heap.size wr w') (hN : N ≤ wr.heap.size) : MR N B k w w' len f :=
  ⟨h.key.kept hb, h.row.kept hb, h.bel.trans (hb.mono hN), h.lt⟩
theorem mask_bad (k : Nat → UInt8) (c : UInt32) (n l : List UInt8) (w : World) (hn : n.length ≠ 12) :
    Calls Try.prog 11 #[.agg (karr k), v32 c, .string (tx n), .string (tx l)] w fun e w' => e = .returned (.tuple #[.string (tx []), .int .i64 1]) ∧ Below w.heap.size w w' := by
  have hn2 : ((n.length : Int) != 12) = true := by simp; omega
  go_enter Try.func11, Try.ntmps11
  go_wp2_with fail
  go_ret2
  exact ⟨rfl, (Below.refl _ _).alloc (Nat.le_refl _) _⟩
theorem mask_any (k : Nat → UInt8) (c : UInt32) (n l : List UInt8) (w : World) (hn : n.length = 12) (hl : l.length < 1099511627776) :
    Calls Try.prog 11 #[.agg (karr k), v32 c, .string (tx n), .string (tx l)] w fun e w' => e = .returned (.tuple #[.string (tx (maskl k c n l)), .int .i64 0]) ∧ Below w.heap.size w w' := by
  have hn2 : ((n.length : Int) != 12) = false := by simp; omega
  obtain ⟨cap, w1, hconv, hrow, hb1⟩ := bytes_tx (P := Try.prog) (w.alloc (.cells (karr k) 29)) l 9 31 5 Try.underlying9 Try.underlying31 Try.underlying5
  obtain ⟨L, hL⟩ : ∃ L, L = l.length := ⟨_, rfl⟩
  rw [← hL] at hconv hrow hl
  have hA : MR w.heap.size (w.heap.size + 1) k w w1 L (mup k c n l (64 * 0)) :=
    ⟨(Blk.made w 29 _).kept hb1, by have := hrow; simp at this; exact this.congr fun i _ => by simp [mup], ((Below.refl _ _).alloc (Nat.le_refl _) _).trans (hb1.mono (by simp)), by omega⟩
  unfold maskl
  rw [← hL]
  have HL := keep hL
  clear hL hrow hb1
  go_enter Try.func11, Try.ntmps11
  go_wp2_with fail
  generalize hN : w.heap.size = N at *
  go_loopw [11] (fun i wr => ∃ m : Nat, (m = 0 ∨ 64 * m < L + 64) ∧ i = .int .i64 ((64 * m : Nat) : Int) ∧ MR N (N + 1) k w wr L (mup k c n l (64 * m))) (fun i _ => L + 64 - (intOf i).toNat)
  case atStart => exact ⟨0, .inl rfl, rfl, hA⟩
  case round =>
    obtain ⟨m, hm, rfl, hR⟩ := hrel
    clear hA
    by_cases h4 : 64 * m < L
    · have g4 : (64 * (m : Int)) < (L : Int) := by omega
      have hkey := hR.key
      have hNr : N ≤ wr.heap.size := by have := hR.key.lt; omega
      have hadd : ∀ t, binOp .add t (v32 c) (.int .u32 ((m : Int) % 4294967296)) = pure (v32 (c + UInt32.ofNat m)) := fun t => by rw [u32_ofNat, v32_add]
      go_wp2_with (refine wpList_load_row rfl 29 (.tmp 4) rfl N rfl 29 (karr k) (0,0) _ hkey Try.underlying29 rfl (by kernel_rfl) ?_)
      refine (stream_any k (c + UInt32.ofNat m) n wr hn).mono ?_
      rintro e w2 ⟨rfl, hb2⟩
      have hR2 := hR.below hb2 hNr
      clear hR hb2 hkey hadd hNr
      have hNr : N ≤ w2.heap.size := by have := hR2.key.lt; omega
      by_cases h6 : 64 * m + 64 ≤ L
      · have g8 : (64 : Int) ≤ (L : Int) - 64 * m := by omega
        go_wp2_with (refine wpList_store_row rfl 42 (.tmp 12) (.tmp 32) rfl w2.heap.size (barr (ks k (c + UInt32.ofNat m) n)) rfl rfl 42 _ (Blk.made w2 42 _) (by kernel_rfl) (by rw [barr, arr_size]; rfl) (arr_one _ _ fun i => rfl) ?_)
        have hB0 : MR N (N + 1) k w ((w2.alloc (.cells #[.int .u8 0, .int .u8 0, .int .u8 0, .int .u8 0, .int .u8 0, .int .u8 0, .int .u8 0, .int .u8 0, .int .u8 0, .int .u8 0, .int .u8 0, .int .u8 0, .int .u8 0, .int .u8 0, .int .u8 0, .int .u8 0, .int .u8 0, .int .u8 0, .int .u8 0, .int .u8 0, .int .u8 0, .int .u8 0, .int .u8 0, .int .u8 0, .int .u8 0, .int .u8 0, .int .u8 0, .int .u8 0, .int .u8 0, .int .u8 0, .int .u8 0, .int .u8 0, .int .u8 0, .int .u8 0, .int .u8 0, .int .u8 0, .int .u8 0, .int .u8 0, .int .u8 0, .int .u8 0, .int .u8 0, .int .u8 0, .int .u8 0, .int .u8 0, .int .u8 0, .int .u8 0, .int .u8 0, .int .u8 0, .int .u8 0, .int .u8 0, .int .u8 0, .int .u8 0, .int .u8 0, .int .u8 0, .int .u8 0, .int .u8 0, .int .u8 0, .int .u8 0, .int .u8 0, .int .u8 0, .int .u8 0, .int .u8 0, .int .u8 0, .int .u8 0] 42)).setRow w2.heap.size (barr (ks k (c + UInt32.ofNat m) n))) L (mup k c n l (64 * m + 0)) :=
          ⟨(hR2.key.alloc _).otherRow (by have := hR2.key.lt; omega) _, (hR2.row.alloc _).otherRow (by have := hR2.row.lt; omega) _, below_row (hR2.bel.alloc hNr _) hNr _, hR2.lt⟩
        have hC0 := (Blk.made w2 42 #[.int .u8 0, .int .u8 0, .int .u8 0, .int .u8 0, .int .u8 0, .int .u8 0, .int .u8 0, .int .u8 0, .int .u8 0, .int .u8 0, .int .u8 0, .int .u8 0, .int .u8 0, .int .u8 0, .int .u8 0, .int .u8 0, .int .u8 0, .int .u8 0, .int .u8 0, .int .u8 0, .int .u8 0, .int .u8 0, .int .u8 0, .int .u8 0, .int .u8 0, .int .u8 0, .int .u8 0, .int .u8 0, .int .u8 0, .int .u8 0, .int .u8 0, .int .u8 0, .int .u8 0, .int .u8 0, .int .u8 0, .int .u8 0, .int .u8 0, .int .u8 0, .int .u8 0, .int .u8 0, .int .u8 0, .int .u8 0, .int .u8 0, .int .u8 0, .int .u8 0, .int .u8 0, .int .u8 0, .int .u8 0, .int .u8 0, .int .u8 0, .int .u8 0, .int .u8 0, .int .u8 0, .int .u8 0, .int .u8 0, .int .u8 0, .int .u8 0, .int .u8 0, .int .u8 0, .int .u8 0, .int .u8 0, .int .u8 0, .int .u8 0, .int .u8 0]).setRow (barr (ks k (c + UInt32.ofNat m) n))
        have hne : w2.heap.size ≠ N + 1 := by have := hR2.row.lt; omega
        have hNb : N ≤ w2.heap.size := hNr
        clear hR2 hNr
        generalize w2.heap.size = b12 at *
        go_loopw [38] (fun z wr => ∃ i : Nat, i ≤ 64 ∧ z = .int .i64 i ∧ MR N (N + 1) k w wr L (mup k c n l (64 * m + i)) ∧ Blk wr b12 42 (barr (ks k (c + UInt32.ofNat m) n))) (fun z _ => 64 - (intOf z).toNat)
        case atStart => exact ⟨0, Nat.zero_le _, rfl, hB0, hC0⟩
        case round =>
          obtain ⟨i, hi, rfl, hR3, hC⟩ := hrel
          clear hB0 hC0
          by_cases h5 : i < 64
          · have g5 : (i : Int) < 64 := by omega
            have g6 : 64 * (m : Int) + i < (L : Int) := by omega
            have g7 : (i : Int) < 64 := by omega
            have c1 := hR3.row.at_ (64 * m + i) (by omega)
            have c2 := hC.at_ (arr_get (fun j => v8 (ks k (c + UInt32.ofNat m) n j)) (show i < 64 by omega))
            have f1 := hR3.row.free (64 * m + i) (by omega)
            have hcur : mup k c n l (64 * m + i) (64 * m + i) = bt l (64 * m + i) := by simp [mup]
            rw [hcur] at c1
            simp only [Nat.zero_add] at c1 f1
            have hbn := hR3.key.lt
            have hNw : N ≤ wr.heap.size := by omega
            obtain ⟨x, hx⟩ : ∃ x, x = bt l (64 * m + i) ^^^ ks k (c + UInt32.ofNat m) n i := ⟨_, rfl⟩
            have hrow := (hR3.row.drew.set (64 * m + i) x (64 * m + i) (by omega)).congr fun j _ => mup_set k c n l (64 * m + i) x (hx.trans (mby_at k c n l m i (by omega)).symm) j
            have hKey := hR3.key.drew.other (p := ⟨N + 1, 64 * m + i, none⟩) (by simp) (v8 x)
            have hC' := hC.drew.other (p := ⟨N + 1, 64 * m + i, none⟩) hne (v8 x)
            have hbl := hR3.bel.drew.setCell (p := ⟨N + 1, 64 * m + i, none⟩) (by simp) (v8 x)
            have hlt3 := hR3.lt
            have HX := keep hx
            clear hcur hx hbn
            go_wp2_with fail
            refine Mixed.wp_region (fun w' => ∃ u, w' = mix [N + 1] wr u) [(1, 0), (1, 1), (1, 2), (1, 3), (1, 4), (1, 5), (1, 6), (1, 7), (1, 8), (1, 9), (1, 10), (2, 11)] (by kernel_rfl) (by kernel_rfl) (Mx.drew0 _ _) ?_
            refine Mixed.reads (k := 1) (.inr ⟨rfl, rfl⟩) _ [0, 1, 2, 3, 4, 5, 6, 7, 8, 9, 10] _ (by kernel_rfl) ?_
            simp only [List.filterMap_cons, List.filterMap_nil, List.getElem?_toArray, List.getElem?_cons_zero, List.getElem?_cons_succ]
            show wpQuiet _ _ _ _ [_, _, _, _, _, _, _, _, _, _, _] _
            iterate 11 go_big_quiet_step (fail)
            refine wpQuiet_nil ?_
            rw [← HX.out]
            refine Mixed.effect (i := 11) rfl rfl ?_
            intro Q hQ
            go_wp2_with fail
            refine hQ _ _ (Mx.of ((Keeps.refl _ _).drew.setCell (p := ⟨N + 1, 64 * m + i, none⟩) (by simp) _)) ?_
            have hf : MR N (N + 1) k w (wr.drew.setCell ⟨N + 1, 64 * m + i, none⟩ (v8 x)) L (mup k c n l (64 * m + i + 1)) := ⟨hKey, hrow, hbl, hlt3⟩
            clear hQ hrow hKey hbl hR3 c1 c2 f1
            unfold Mixed.HL
            go_wp2_with fail
            go_roundw
            case rel => exact ⟨i + 1, by omega, by go_num, hf, hC'⟩
            case measure => simp [intOf]; omega
          · have g5 : ¬ (i : Int) < 64 := by omega
            have hiq : i = 64 := by omega
            rw [hiq] at hR3
            clear hiq hi hC
            have hf : MR N (N + 1) k w wr L (mup k c n l (64 * (m + 1))) := ⟨hR3.key, hR3.row.congr fun j hj => by first | (simp [mup, show j < 64 * m + 64 by omega, show j < 64 * (m + 1) by omega]; done) | (simp only [mup, show 64 * (m + 1) = 64 * m + 64 by omega]; done), hR3.bel, hR3.lt⟩
            clear hR3
            go_wp2_with fail
            go_roundw
            case rel => exact ⟨m + 1, .inr (by omega), by go_num, hf⟩
            case measure => simp [intOf]; omega

      · have g8 : ¬ (64 : Int) ≤ (L : Int) - 64 * m := by omega
        go_wp2_with (refine wpList_store_row rfl 42 (.tmp 12) (.tmp 32) rfl w2.heap.size (barr (ks k (c + UInt32.ofNat m) n)) rfl rfl 42 _ (Blk.made w2 42 _) (by kernel_rfl) (by rw [barr, arr_size]; rfl) (arr_one _ _ fun i => rfl) ?_)
        have hB0 : MR N (N + 1) k w ((w2.alloc (.cells #[.int .u8 0, .int .u8 0, .int .u8 0, .int .u8 0, .int .u8 0, .int .u8 0, .int .u8 0, .int .u8 0, .int .u8 0, .int .u8 0, .int .u8 0, .int .u8 0, .int .u8 0, .int .u8 0, .int .u8 0, .int .u8 0, .int .u8 0, .int .u8 0, .int .u8 0, .int .u8 0, .int .u8 0, .int .u8 0, .int .u8 0, .int .u8 0, .int .u8 0, .int .u8 0, .int .u8 0, .int .u8 0, .int .u8 0, .int .u8 0, .int .u8 0, .int .u8 0, .int .u8 0, .int .u8 0, .int .u8 0, .int .u8 0, .int .u8 0, .int .u8 0, .int .u8 0, .int .u8 0, .int .u8 0, .int .u8 0, .int .u8 0, .int .u8 0, .int .u8 0, .int .u8 0, .int .u8 0, .int .u8 0, .int .u8 0, .int .u8 0, .int .u8 0, .int .u8 0, .int .u8 0, .int .u8 0, .int .u8 0, .int .u8 0, .int .u8 0, .int .u8 0, .int .u8 0, .int .u8 0, .int .u8 0, .int .u8 0, .int .u8 0, .int .u8 0] 42)).setRow w2.heap.size (barr (ks k (c + UInt32.ofNat m) n))) L (mup k c n l (64 * m + 0)) :=
          ⟨(hR2.key.alloc _).otherRow (by have := hR2.key.lt; omega) _, (hR2.row.alloc _).otherRow (by have := hR2.row.lt; omega) _, below_row (hR2.bel.alloc hNr _) hNr _, hR2.lt⟩
        have hC0 := (Blk.made w2 42 #[.int .u8 0, .int .u8 0, .int .u8 0, .int .u8 0, .int .u8 0, .int .u8 0, .int .u8 0, .int .u8 0, .int .u8 0, .int .u8 0, .int .u8 0, .int .u8 0, .int .u8 0, .int .u8 0, .int .u8 0, .int .u8 0, .int .u8 0, .int .u8 0, .int .u8 0, .int .u8 0, .int .u8 0, .int .u8 0, .int .u8 0, .int .u8 0, .int .u8 0, .int .u8 0, .int .u8 0, .int .u8 0, .int .u8 0, .int .u8 0, .int .u8 0, .int .u8 0, .int .u8 0, .int .u8 0, .int .u8 0, .int .u8 0, .int .u8 0, .int .u8 0, .int .u8 0, .int .u8 0, .int .u8 0, .int .u8 0, .int .u8 0, .int .u8 0, .int .u8 0, .int .u8 0, .int .u8 0, .int .u8 0, .int .u8 0, .int .u8 0, .int .u8 0, .int .u8 0, .int .u8 0, .int .u8 0, .int .u8 0, .int .u8 0, .int .u8 0, .int .u8 0, .int .u8 0, .int .u8 0, .int .u8 0, .int .u8 0, .int .u8 0, .int .u8 0]).setRow (barr (ks k (c + UInt32.ofNat m) n))
        have hne : w2.heap.size ≠ N + 1 := by have := hR2.row.lt; omega
        have hNb : N ≤ w2.heap.size := hNr
        clear hR2 hNr
        generalize w2.heap.size = b12 at *
        go_loopw [38] (fun z wr => ∃ i : Nat, i ≤ (L - 64 * m) ∧ z = .int .i64 i ∧ MR N (N + 1) k w wr L (mup k c n l (64 * m + i)) ∧ Blk wr b12 42 (barr (ks k (c + UInt32.ofNat m) n))) (fun z _ => (L - 64 * m) - (intOf z).toNat)
        case atStart => exact ⟨0, Nat.zero_le _, rfl, hB0, hC0⟩
        case round =>
          obtain ⟨i, hi, rfl, hR3, hC⟩ := hrel
          clear hB0 hC0
          by_cases h5 : i < (L - 64 * m)
          · have g5 : (i : Int) < (L : Int) - 64 * m := by omega
            have g6 : 64 * (m : Int) + i < (L : Int) := by omega
            have g7 : (i : Int) < 64 := by omega
            have c1 := hR3.row.at_ (64 * m + i) (by omega)
            have c2 := hC.at_ (arr_get (fun j => v8 (ks k (c + UInt32.ofNat m) n j)) (show i < 64 by omega))
            have f1 := hR3.row.free (64 * m + i) (by omega)
            have hcur : mup k c n l (64 * m + i) (64 * m + i) = bt l (64 * m + i) := by simp [mup]
            rw [hcur] at c1
            simp only [Nat.zero_add] at c1 f1
            have hbn := hR3.key.lt
            have hNw : N ≤ wr.heap.size := by omega
            obtain ⟨x, hx⟩ : ∃ x, x = bt l (64 * m + i) ^^^ ks k (c + UInt32.ofNat m) n i := ⟨_, rfl⟩
            have hrow := (hR3.row.drew.set (64 * m + i) x (64 * m + i) (by omega)).congr fun j _ => mup_set k c n l (64 * m + i) x (hx.trans (mby_at k c n l m i (by omega)).symm) j
            have hKey := hR3.key.drew.other (p := ⟨N + 1, 64 * m + i, none⟩) (by simp) (v8 x)
            have hC' := hC.drew.other (p := ⟨N + 1, 64 * m + i, none⟩) hne (v8 x)
            have hbl := hR3.bel.drew.setCell (p := ⟨N + 1, 64 * m + i, none⟩) (by simp) (v8 x)
            have hlt3 := hR3.lt
            have HX := keep hx
            clear hcur hx hbn
            go_wp2_with fail
            refine Mixed.wp_region (fun w' => ∃ u, w' = mix [N + 1] wr u) [(1, 0), (1, 1), (1, 2), (1, 3), (1, 4), (1, 5), (1, 6), (1, 7), (1, 8), (1, 9), (1, 10), (2, 11)] (by kernel_rfl) (by kernel_rfl) (Mx.drew0 _ _) ?_
            refine Mixed.reads (k := 1) (.inr ⟨rfl, rfl⟩) _ [0, 1, 2, 3, 4, 5, 6, 7, 8, 9, 10] _ (by kernel_rfl) ?_
            simp only [List.filterMap_cons, List.filterMap_nil, List.getElem?_toArray, List.getElem?_cons_zero, List.getElem?_cons_succ]
            show wpQuiet _ _ _ _ [_, _, _, _, _, _, _, _, _, _, _] _
            iterate 11 go_big_quiet_step (fail)
            refine wpQuiet_nil ?_
            rw [← HX.out]
            refine Mixed.effect (i := 11) rfl rfl ?_
            intro Q hQ
            go_wp2_with fail
            refine hQ _ _ (Mx.of ((Keeps.refl _ _).drew.setCell (p := ⟨N + 1, 64 * m + i, none⟩) (by simp) _)) ?_
            have hf : MR N (N + 1) k w (wr.drew.setCell ⟨N + 1, 64 * m + i, none⟩ (v8 x)) L (mup k c n l (64 * m + i + 1)) := ⟨hKey, hrow, hbl, hlt3⟩
            clear hQ hrow hKey hbl hR3 c1 c2 f1
            unfold Mixed.HL
            go_wp2_with fail
            go_roundw
            case rel => exact ⟨i + 1, by omega, by go_num, hf, hC'⟩
            case measure => simp [intOf]; omega
          · have g5 : ¬ (i : Int) < (L : Int) - 64 * m := by omega
            have hiq : i = (L - 64 * m) := by omega
            rw [hiq] at hR3
            clear hiq hi hC
            have hf : MR N (N + 1) k w wr L (mup k c n l (64 * (m + 1))) := ⟨hR3.key, hR3.row.congr fun j hj => by first | (simp [mup, show j < 64 * m + (L - 64 * m) by omega, show j < 64 * (m + 1) by omega]; done) | (simp only [mup, show 64 * (m + 1) = 64 * m + 64 by omega]; done), hR3.bel, hR3.lt⟩
            clear hR3
            go_wp2_with fail
            go_roundw
            case rel => exact ⟨m + 1, .inr (by omega), by go_num, hf⟩
            case measure => simp [intOf]; omega
    · have g4 : ¬ (64 * (m : Int)) < (L : Int) := by omega
      have hrow := hR.row.congr (g := mby k c n l) fun j hj => by simp [mup, show j < 64 * m by omega]
      have hbel := hR.bel
      clear hR
      go_wp2_with fail
      rw [hrow.back 31 9 5 Try.underlying31 Try.underlying5 Try.underlying9 cap]
      go_wp2_with fail
      go_ret2
      exact ⟨rfl, by rw [hN]; exact hbel⟩
end Go.Proofs.Ytghojlkogeoejaa

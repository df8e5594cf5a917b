/-
  ChaParts: a text masked in two parts, at a whole block, is masked as it is at once: the walk of the law.
-/
import Derived.Test.YtghojlkogeoejaaTwiceWalk
import Derived.Test.YtghojlkogeoejaaMixedRow
namespace Go.Proofs.Ytghojlkogeoejaa
open Go.RowKit
theorem mask_parts (k : Nat → UInt8) (c : UInt32) (n l : List UInt8) (A : Nat) (hA : 64 * A ≤ l.length) :
    maskl k c n (l.take (64 * A)) ++ maskl k (c + UInt32.ofNat A) n (l.drop (64 * A)) = maskl k c n l := by
  refine ext_bt (by rw [List.length_append, maskl_length, maskl_length, maskl_length]; simp; omega) fun i hi => ?_
  rw [List.length_append, maskl_length, maskl_length] at hi
  simp only [List.length_take, List.length_drop] at hi
  have hil : i < l.length := by omega
  have h1 : bt (maskl k c n l) i = mby k c n l i := bt_tl _ hil
  rw [h1]
  by_cases h : i < 64 * A
  · rw [bt_app_left (by rw [maskl_length]; simp; omega)]
    have h2 : bt (maskl k c n (l.take (64 * A))) i = mby k c n (l.take (64 * A)) i := bt_tl _ (by simp; omega)
    rw [h2]
    unfold mby
    congr 1
    simp [bt, h]
  · rw [bt_app_right (by rw [maskl_length]; simp; omega), maskl_length]
    have h3 : (l.take (64 * A)).length = 64 * A := by simp; omega
    have h2 : bt (maskl k (c + UInt32.ofNat A) n (l.drop (64 * A))) (i - 64 * A) = mby k (c + UInt32.ofNat A) n (l.drop (64 * A)) (i - 64 * A) := bt_tl _ (by simp; omega)
    rw [h3, h2]
    unfold mby
    rw [bt_drop, show 64 * A + (i - 64 * A) = i by omega, show (i - 64 * A) % 64 = i % 64 by omega, show (i - 64 * A) / 64 = i / 64 - A by omega, UInt32.add_assoc, ← UInt32.ofNat_add, show A + (i / 64 - A) = i / 64 by omega]

theorem parts_walk (k : Nat → UInt8) (c : UInt32) (n : Nat → UInt8) (s : ByteArray) (cut : UInt8) (w : World) :
    Calls Try.prog 5 #[.agg (karr k), v32 c, .agg (narr n), .string s, v8 cut] w fun e w' => e = .returned (.bool true) ∧ Below w.heap.size w w' := by
  rw [tx_of s]
  generalize s.toList = l
  by_cases h600 : 600 < l.length
  · have g : (600 : Int) < (l.length : Int) := by omega
    go_enter Try.func5, Try.ntmps5
    go_wp2_with fail
    refine (awake_any _).mono ?_; rintro e w1 ⟨rfl, rfl⟩
    go_wp2_with fail
    refine (awake_any _).mono ?_; rintro e w1 ⟨rfl, rfl⟩
    go_wp2_with fail
    go_ret
    exact ⟨rfl, ((Below.refl _ _).alloc (Nat.le_refl _) _).alloc (by simp) _⟩
  · have g : ¬ (600 : Int) < (l.length : Int) := by omega
    have hN : Blk ((w.alloc (.cells (karr k) 29)).alloc (.cells (narr n) 30)) (w.heap.size + 1) 30 (narr n) := by have := Blk.made (w.alloc (.cells (karr k) 29)) 30 (narr n); simpa using this
    have hK : Blk ((w.alloc (.cells (karr k) 29)).alloc (.cells (narr n) 30)) w.heap.size 29 (karr k) := (Blk.made w 29 _).alloc _
    have hcv := narr_back hN
    have hB : Below w.heap.size w ((w.alloc (.cells (karr k) 29)).alloc (.cells (narr n) 30)) := ((Below.refl _ _).alloc (Nat.le_refl _) _).alloc (by simp) _
    have hsz : w.heap.size ≤ ((w.alloc (.cells (karr k) 29)).alloc (.cells (narr n) 30)).heap.size := hB.size
    go_enter Try.func5, Try.ntmps5
    go_wp2_with fail
    refine (awake_any _).mono ?_; rintro e w1 ⟨rfl, rfl⟩
    go_wp2_with (refine wpList_load_row rfl 29 (.tmp 5) rfl w.heap.size rfl 29 (karr k) (0,0) _ hK Try.underlying29 rfl (by kernel_rfl) ?_)
    · obtain ⟨A, hA, hA2⟩ : ∃ A : Nat, ((l.length : Int) / 64) = A ∧ 64 * A ≤ l.length := ⟨l.length / 64, by omega, by omega⟩
      rw [hA]
      clear hA
      refine (mask_any k c (tl 12 n) l _ (tl_length _ _) (by omega)).mono ?_
      rintro e w2 ⟨rfl, hb2⟩
      have hK2 := hK.kept hb2
      have hB2 := hB.trans (hb2.mono hsz)
      clear hK hB hb2 hcv hN hsz
      have hM := keep (mask_parts k c (tl 12 n) l A hA2)
      have g64 : 64 * (A : Int) ≤ (l.length : Int) := by omega
      have hadd : ∀ t, binOp .add t (v32 c) (.int .u32 (A : Int)) = pure (v32 (c + UInt32.ofNat A)) := fun t => by
        have h := u32_ofNat A
        rw [show (A : Int) % 4294967296 = A by omega] at h
        rw [h, v32_add]
      go_wp2_with fail
      refine Mixed.wp_region (fun _ => True) [(1, 0), (1, 1), (1, 2), (1, 3), (1, 4), (1, 5), (1, 6), (2, 7), (1, 8), (1, 9), (1, 10), (1, 11), (1, 12)] (by kernel_rfl) (by kernel_rfl) trivial ?_
      refine Mixed.read_row (i := 0) rfl rfl 29 (.tmp 5) rfl w.heap.size rfl 29 (karr k) _ hK2.drew Try.underlying29 rfl (by kernel_rfl) ?_
      simp only [List.getElem_toArray, List.getElem_cons_zero, Act.put, List.setIfInBounds_toArray, List.set_cons_succ, List.set_cons_zero]
      refine Mixed.reads (k := 1) (.inr ⟨rfl, rfl⟩) _ [1, 2, 3, 4, 5, 6] _ (by kernel_rfl) ?_
      simp only [List.filterMap_cons, List.filterMap_nil, List.getElem?_toArray, List.getElem?_cons_zero, List.getElem?_cons_succ]
      show wpQuiet _ _ _ _ [_, _, _, _, _, _] _
      iterate 6 go_big_quiet_step (fail)
      refine wpQuiet_nil ?_
      refine Mixed.effect (i := 7) rfl rfl ?_
      intro Q hQ
      go_wp2_with fail
      refine (mask_any k c (tl 12 n) (l.take (64 * A)) _ (tl_length _ _) (by simp; omega)).mono ?_
      rintro e w3 ⟨rfl, hb3⟩
      have hK3 := hK2.drew.kept hb3
      have hB3 := hB2.drew.trans (hb3.mono hB2.size)
      go_wp2_with fail
      refine hQ _ _ trivial ?_
      clear hQ hK2 hB2 hb3
      refine Mixed.reads (k := 1) (.inr ⟨rfl, rfl⟩) _ [8, 9, 10, 11, 12] _ (by kernel_rfl) ?_
      simp only [List.filterMap_cons, List.filterMap_nil, List.getElem?_toArray, List.getElem?_cons_zero, List.getElem?_cons_succ]
      show wpQuiet _ _ _ _ [_, _, _, _, _] _
      iterate 5 go_big_quiet_step (fail)
      refine wpQuiet_nil ?_
      unfold Mixed.HL
      go_wp2_with fail
      refine Mixed.wp_region (fun _ => True) [(1, 0), (1, 1), (1, 2), (1, 3), (1, 4), (1, 5), (1, 6), (1, 7), (1, 8), (1, 9), (2, 10), (1, 11), (1, 12), (1, 13), (1, 14), (1, 15)] (by kernel_rfl) (by kernel_rfl) trivial ?_
      refine Mixed.read_row (i := 0) rfl rfl 29 (.tmp 5) rfl w.heap.size rfl 29 (karr k) _ hK3.drew Try.underlying29 rfl (by kernel_rfl) ?_
      simp only [List.getElem_toArray, List.getElem_cons_zero, Act.put, List.setIfInBounds_toArray, List.set_cons_succ, List.set_cons_zero]
      refine Mixed.reads (k := 1) (.inr ⟨rfl, rfl⟩) _ [1, 2, 3, 4, 5, 6, 7, 8, 9] _ (by kernel_rfl) ?_
      simp only [List.filterMap_cons, List.filterMap_nil, List.getElem?_toArray, List.getElem?_cons_zero, List.getElem?_cons_succ]
      show wpQuiet _ _ _ _ [_, _, _, _, _, _, _, _, _] _
      iterate 9 go_big_quiet_step (fail)
      refine wpQuiet_nil ?_
      refine Mixed.effect (i := 10) rfl rfl ?_
      intro Q hQ
      go_wp2_with fail
      rw [show List.take (l.length - 64 * A) (List.drop (64 * A) l) = l.drop (64 * A) from List.take_of_length_le (by simp)]
      refine (mask_any k (c + UInt32.ofNat A) (tl 12 n) (l.drop (64 * A)) _ (tl_length _ _) (by simp; omega)).mono ?_
      rintro e w4 ⟨rfl, hb4⟩
      have hB4 := hB3.drew.trans (hb4.mono hB3.size)
      go_wp2_with fail
      refine hQ _ _ trivial ?_
      clear hQ hK3 hB3 hb4
      refine Mixed.reads (k := 1) (.inr ⟨rfl, rfl⟩) _ [11, 12, 13, 14, 15] _ (by kernel_rfl) ?_
      simp only [List.filterMap_cons, List.filterMap_nil, List.getElem?_toArray, List.getElem?_cons_zero, List.getElem?_cons_succ]
      show wpQuiet _ _ _ _ [_, _, _, _, _] _
      iterate 5 go_big_quiet_step (fail)
      refine wpQuiet_nil ?_
      unfold Mixed.HL
      have hl1 : (maskl k c (tl 12 n) (l.take (64 * A))).length + (maskl k (c + UInt32.ofNat A) (tl 12 n) (l.drop (64 * A))).length ≤ 9223372036854775807 := by rw [maskl_length, maskl_length]; simp; omega
      have heq : (maskl k c (tl 12 n) l == maskl k c (tl 12 n) (l.take (64 * A)) ++ maskl k (c + UInt32.ofNat A) (tl 12 n) (l.drop (64 * A))) = true := by rw [hM.out]; simp
      go_wp2_with fail
      go_ret
      exact ⟨rfl, hB4⟩
    · obtain ⟨A, hA, hA2⟩ : ∃ A : Nat, ((cut.toNat : Int) % 9) = A ∧ 64 * A ≤ l.length := ⟨cut.toNat % 9, by omega, by omega⟩
      rw [hA]
      clear hA
      refine (mask_any k c (tl 12 n) l _ (tl_length _ _) (by omega)).mono ?_
      rintro e w2 ⟨rfl, hb2⟩
      have hK2 := hK.kept hb2
      have hB2 := hB.trans (hb2.mono hsz)
      clear hK hB hb2 hcv hN hsz
      have hM := keep (mask_parts k c (tl 12 n) l A hA2)
      have g64 : 64 * (A : Int) ≤ (l.length : Int) := by omega
      have hadd : ∀ t, binOp .add t (v32 c) (.int .u32 (A : Int)) = pure (v32 (c + UInt32.ofNat A)) := fun t => by
        have h := u32_ofNat A
        rw [show (A : Int) % 4294967296 = A by omega] at h
        rw [h, v32_add]
      go_wp2_with fail
      refine Mixed.wp_region (fun _ => True) [(1, 0), (1, 1), (1, 2), (1, 3), (1, 4), (1, 5), (1, 6), (2, 7), (1, 8), (1, 9), (1, 10), (1, 11), (1, 12)] (by kernel_rfl) (by kernel_rfl) trivial ?_
      refine Mixed.read_row (i := 0) rfl rfl 29 (.tmp 5) rfl w.heap.size rfl 29 (karr k) _ hK2.drew Try.underlying29 rfl (by kernel_rfl) ?_
      simp only [List.getElem_toArray, List.getElem_cons_zero, Act.put, List.setIfInBounds_toArray, List.set_cons_succ, List.set_cons_zero]
      refine Mixed.reads (k := 1) (.inr ⟨rfl, rfl⟩) _ [1, 2, 3, 4, 5, 6] _ (by kernel_rfl) ?_
      simp only [List.filterMap_cons, List.filterMap_nil, List.getElem?_toArray, List.getElem?_cons_zero, List.getElem?_cons_succ]
      show wpQuiet _ _ _ _ [_, _, _, _, _, _] _
      iterate 6 go_big_quiet_step (fail)
      refine wpQuiet_nil ?_
      refine Mixed.effect (i := 7) rfl rfl ?_
      intro Q hQ
      go_wp2_with fail
      refine (mask_any k c (tl 12 n) (l.take (64 * A)) _ (tl_length _ _) (by simp; omega)).mono ?_
      rintro e w3 ⟨rfl, hb3⟩
      have hK3 := hK2.drew.kept hb3
      have hB3 := hB2.drew.trans (hb3.mono hB2.size)
      go_wp2_with fail
      refine hQ _ _ trivial ?_
      clear hQ hK2 hB2 hb3
      refine Mixed.reads (k := 1) (.inr ⟨rfl, rfl⟩) _ [8, 9, 10, 11, 12] _ (by kernel_rfl) ?_
      simp only [List.filterMap_cons, List.filterMap_nil, List.getElem?_toArray, List.getElem?_cons_zero, List.getElem?_cons_succ]
      show wpQuiet _ _ _ _ [_, _, _, _, _] _
      iterate 5 go_big_quiet_step (fail)
      refine wpQuiet_nil ?_
      unfold Mixed.HL
      go_wp2_with fail
      refine Mixed.wp_region (fun _ => True) [(1, 0), (1, 1), (1, 2), (1, 3), (1, 4), (1, 5), (1, 6), (1, 7), (1, 8), (1, 9), (2, 10), (1, 11), (1, 12), (1, 13), (1, 14), (1, 15)] (by kernel_rfl) (by kernel_rfl) trivial ?_
      refine Mixed.read_row (i := 0) rfl rfl 29 (.tmp 5) rfl w.heap.size rfl 29 (karr k) _ hK3.drew Try.underlying29 rfl (by kernel_rfl) ?_
      simp only [List.getElem_toArray, List.getElem_cons_zero, Act.put, List.setIfInBounds_toArray, List.set_cons_succ, List.set_cons_zero]
      refine Mixed.reads (k := 1) (.inr ⟨rfl, rfl⟩) _ [1, 2, 3, 4, 5, 6, 7, 8, 9] _ (by kernel_rfl) ?_
      simp only [List.filterMap_cons, List.filterMap_nil, List.getElem?_toArray, List.getElem?_cons_zero, List.getElem?_cons_succ]
      show wpQuiet _ _ _ _ [_, _, _, _, _, _, _, _, _] _
      iterate 9 go_big_quiet_step (fail)
      refine wpQuiet_nil ?_
      refine Mixed.effect (i := 10) rfl rfl ?_
      intro Q hQ
      go_wp2_with fail
      rw [show List.take (l.length - 64 * A) (List.drop (64 * A) l) = l.drop (64 * A) from List.take_of_length_le (by simp)]
      refine (mask_any k (c + UInt32.ofNat A) (tl 12 n) (l.drop (64 * A)) _ (tl_length _ _) (by simp; omega)).mono ?_
      rintro e w4 ⟨rfl, hb4⟩
      have hB4 := hB3.drew.trans (hb4.mono hB3.size)
      go_wp2_with fail
      refine hQ _ _ trivial ?_
      clear hQ hK3 hB3 hb4
      refine Mixed.reads (k := 1) (.inr ⟨rfl, rfl⟩) _ [11, 12, 13, 14, 15] _ (by kernel_rfl) ?_
      simp only [List.filterMap_cons, List.filterMap_nil, List.getElem?_toArray, List.getElem?_cons_zero, List.getElem?_cons_succ]
      show wpQuiet _ _ _ _ [_, _, _, _, _] _
      iterate 5 go_big_quiet_step (fail)
      refine wpQuiet_nil ?_
      unfold Mixed.HL
      have hl1 : (maskl k c (tl 12 n) (l.take (64 * A))).length + (maskl k (c + UInt32.ofNat A) (tl 12 n) (l.drop (64 * A))).length ≤ 9223372036854775807 := by rw [maskl_length, maskl_length]; simp; omega
      have heq : (maskl k c (tl 12 n) l == maskl k c (tl 12 n) (l.take (64 * A)) ++ maskl k (c + UInt32.ofNat A) (tl 12 n) (l.drop (64 * A))) = true := by rw [hM.out]; simp
      go_wp2_with fail
      go_ret
      exact ⟨rfl, hB4⟩
end Go.Proofs.Ytghojlkogeoejaa

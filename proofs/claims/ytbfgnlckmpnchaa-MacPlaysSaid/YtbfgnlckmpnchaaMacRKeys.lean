/-
  mac: the keys of a root, the document's: the walk (written by wip/tools/mac_rkeys.py).
-/
import Derived.Test.YtbfgnlckmpnchaaMacRef
import Derived.Test.YtbfgnlckmpnchaaMacNext
import Derived.Test.YtbfgnlckmpnchaaMacRow
namespace Go.Proofs.Ytbfgnlckmpnchaa
open Go.RowKit
set_option linter.unusedVariables false
set_option linter.unusedSimpArgs false
structure RKS (N : Nat) (w wr : World) (root : Nat → UInt8) (info : List UInt8) (v : Value) (i : Nat) : Prop where
  r : Blk wr N 33 (b8 32 root)
  k : Keyed 33 wr (N + 1) v (kkey root info) i
  bel : Below N w wr
abbrev HPX (N : Nat) (w : World) (root : Nat → UInt8) (info : List UInt8) (v : Value) (i : Nat) (wr : World) : Prop := RKS N w wr root info v i
theorem RKS.below {N : Nat} {w wr w' : World} {root : Nat → UInt8} {info : List UInt8} {v : Value} {i : Nat} (h : RKS N w wr root info v i) (hb : Below wr.heap.size wr w') : RKS N w w' root info v i :=
  ⟨h.r.kept hb, h.k.below hb, h.bel.trans (hb.mono (by have := h.r.lt; omega))⟩
theorem Keyed.row {w : World} {base e n g : Nat} {v : Value} {F : Nat → Nat → UInt8} (h : Keyed e w base v F n) (hne : v.ownBlock ≠ some g) (cs : Array Value) : Keyed e (w.setRow g cs) base v F n := by
  refine ⟨h.1, ?_⟩
  rcases h.2 with hn | ⟨b, cap, cur, rfl, h1, hg, rest⟩
  · exact .inl hn
  · exact .inr ⟨b, cap, cur, rfl, h1, (setRow_other w g b cs (fun q => hne (by rw [← q]; rfl))).trans hg, rest⟩
set_option maxRecDepth 100000 in
set_option maxHeartbeats 8000000 in
theorem rkeys_any (root : Nat → UInt8) (info : List UInt8) (n : Nat) (hn : n ≤ 100) (hl : info.length ≤ 900) (w : World) : Calls Try.prog 33 #[.agg (b8 32 root), .string (tx info), .int .i64 (n : Int)] w fun e w' => ∃ v, e = .returned v ∧ Keyed 33 w' w.heap.size v (kkey root info) n ∧ Below w.heap.size w w' := by
  obtain ⟨i0, hi0, hz0, hz1, hz2⟩ := info_parts info33k
  have hS : RKS w.heap.size w (w.alloc (.cells (b8 32 root) 33)) root info (.slice none 0 0) 0 := ⟨Blk.made w 33 _, World.ownsRow_nil _ _ _ _, belowA w _⟩
  go_enter Try.func33, Try.ntmps33
  go_wp2_with fail
  generalize w.alloc (.cells (b8 32 root) 33) = w0 at *
  go_loopw [7, 8, 9] (fun v t z wr => ∃ i : Nat, i ≤ n ∧ z = .int .i64 ((i : Int) + 1) ∧ t = .string (tx (kprev root info i)) ∧ RKS w.heap.size w wr root info v i) (fun _ _ z _ => n + 1 - (intOf z).toNat)
  case atStart => exact ⟨0, Nat.zero_le _, rfl, rfl, hS⟩
  case round =>
    clear hS
    obtain ⟨i, hi, rfl, rfl, hS⟩ := hrel
    obtain ⟨a, c, rfl, hc1, hc2⟩ := hS.k.form
    by_cases hin : i < n
    · have gin : (i : Int) + 1 ≤ (n : Int) := by omega
      have gi256 : (i : Int) + 1 < 256 := by omega
      have hms : msum (tl 32 root) (kprev root info i ++ info ++ [UInt8.ofNat (i + 1)]) = kkey root info i := rfl
      have hkp : tl 32 (kkey root info i) = kprev root info (i + 1) := rfl
      have hkl := kprev_length root info i
      obtain ⟨f, hf⟩ : ∃ f, kkey root info i = f := ⟨_, rfl⟩
      rw [hf] at hms hkp
      obtain ⟨A, hA⟩ : ∃ A, kprev root info i = A := ⟨_, rfl⟩
      rw [hA] at hms hkl ⊢
      obtain ⟨ai, hai⟩ : ∃ ai, A ++ info = ai := ⟨_, rfl⟩
      have hail : ai.length ≤ 1000 := by rw [← hai, List.length_append]; omega
      rw [hai] at hms
      obtain ⟨b, hbb⟩ : ∃ b, UInt8.ofNat (i + 1) = b := ⟨_, rfl⟩
      have hcb : (.int .u8 ((i : Int) + 1) : Value) = v8 b := by
        rw [← hbb]
        unfold v8
        rw [UInt8.toNat_ofNat', Nat.mod_eq_of_lt (by omega)]
        rfl
      rw [hbb] at hms
      obtain ⟨m, hm⟩ : ∃ m, ai ++ [b] = m := ⟨_, rfl⟩
      have hml : m.length ≤ 1001 := by rw [← hm, List.length_append]; simp; omega
      rw [hm] at hms
      have hC : ∀ w, Calls Try.prog 31 #[.string (tx (tl 32 root)), .string (tx m)] w fun e w' => e = .returned (.agg (b8 32 f)) ∧ Below w.heap.size w w' := fun w => by
        rw [← hms]
        exact rmsum_any _ _ (by rw [tl_length]; omega) (by omega) w
      have HC := keep hC
      have HAI := keep hai
      have HM := keep hm
      have HKP := keep hkp
      have HFE := keep hf
      have HCB := keep hcb
      have g1 : A.length + info.length ≤ 9223372036854775807 := by omega
      have g2 : ai.length + 1 ≤ 9223372036854775807 := by omega
      have hNl := hS.r.lt
      have hvM : ∀ k, (.slice a i c : Value).ownBlock = some k → k < wr.heap.size := fun k hk => (World.ownsRow.lt hS.k k hk).2
      have hHB : ∀ w1 w2, HPX w.heap.size w root info (.slice a i c) i w1 → wr.heap.size ≤ w1.heap.size → Below w1.heap.size w1 w2 → HPX w.heap.size w root info (.slice a i c) i w2 := fun w1 w2 h hs hb => RKS.below h hb
      have hHR : ∀ w1 g cs, HPX w.heap.size w root info (.slice a i c) i w1 → wr.heap.size ≤ g → HPX w.heap.size w root info (.slice a i c) i (w1.setRow g cs) := fun w1 g cs h hg =>
        ⟨h.r.otherRow (by omega) _, h.k.row (fun q => by have := hvM _ q; omega) _, below_row h.bel (by omega) _⟩
      have hP0 : HPX w.heap.size w root info (.slice a i c) i wr.drew := ⟨hS.r.drew, hS.k, hS.bel.drew⟩
      clear hC hai hm hms hkp hf hA hbb hcb hS
      go_wp2_with fail
      refine Inv.wp_region_at (fun a0 L a' w' => ∃ u0 u1 u2 u3 u4 u5 u6 u7 u8 u9 u10 u11, a' = ((((((((((((a0.put (some 16) u0).put (some 17) u1).put (some 18) u2).put (some 19) u3).put (some 20) u4).put (some 21) u5).put (some 22) u6).put (some 23) u7).put (some 24) u8).put (some 25) u9).put (some 26) u10).put (some 10) u11) ∧ KI wr.heap.size (HPX w.heap.size w root info (.slice a i c) i) (.agg (b8 32 root)) (.string (tx (tl 32 root))) (.string (tx A)) (.string (tx info)) (.string (tx ai)) (.int .i64 ((i : Int) + 1)) (.int .u8 ((i : Int) + 1)) (.string (tx [b])) (.string (tx m)) (.agg (b8 32 f)) (.int .u8 ((i : Int) + 1)) f 33 L w' u0 u1 u2 u3 u4 u5 u6 u7 u8 u9 u10 u11) 13 (by kernel_rfl) (by kernel_rfl) rfl ?_ (Inv.Steps.zero.more ?_ |>.more ?_ |>.more ?_ |>.more ?_ |>.more ?_ |>.more ?_ |>.more ?_ |>.more ?_ |>.more ?_ |>.more ?_ |>.more ?_ |>.more ?_ |>.more ?_) ?_
      · exact ⟨u16, u17, u18, u19, u20, u21, u22, u23, u24, u25, u26, u10, by simp only [Act.put, List.setIfInBounds_toArray, List.set_cons_succ, List.set_cons_zero, List.getElem_toArray, List.getElem_cons_zero, List.getElem_cons_succ], KI.start hP0 (Nat.le_refl _)⟩
      · refine Inv.step (i := 0) rfl rfl ?_
        rintro L ac wr hk hi ⟨u0, u1, u2, u3, u4, u5, u6, u7, u8, u9, u10, u11, rfl, hA⟩ Q hQ
        have HQ := keep hQ
        clear hQ
        simp only [Act.put, List.setIfInBounds_toArray, List.set_cons_succ, List.set_cons_zero]
        have hr0 := hA.hp.r
        have hA2 := hA.s0
        clear hA
        go_wp2_with (refine wpList_load_row rfl 33 (.tmp 3) rfl w.heap.size rfl 33 (b8 32 root) (0, 0) _ hr0 Try.underlying33 rfl (by kernel_rfl) ?_)
        refine HQ.out _ _ ⟨.agg (b8 32 root), _, _, _, _, _, _, _, _, _, _, _, by simp only [Act.put, List.setIfInBounds_toArray, List.set_cons_succ, List.set_cons_zero, List.getElem_toArray, List.getElem_cons_zero, List.getElem_cons_succ], hA2⟩
      · refine Inv.step (i := 1) rfl rfl ?_
        rintro L ac wr hk hi ⟨u0, u1, u2, u3, u4, u5, u6, u7, u8, u9, u10, u11, rfl, hA⟩ Q hQ
        have HQ := keep hQ
        clear hQ
        simp only [Act.put, List.setIfInBounds_toArray, List.set_cons_succ, List.set_cons_zero]
        obtain rfl := hA.e0 (hk 0 (by omega) (by kernel_rfl))
        go_wp2_with fail
        refine (text_any root _).mono ?_
        rintro e w4 ⟨rfl, hb⟩
        have hA2 := hA.s1b hHB hb
        clear hA hb
        go_wp2_with fail
        refine HQ.out _ _ ⟨_, .string (tx (tl 32 root)), _, _, _, _, _, _, _, _, _, _, by simp only [Act.put, List.setIfInBounds_toArray, List.set_cons_succ, List.set_cons_zero, List.getElem_toArray, List.getElem_cons_zero, List.getElem_cons_succ], hA2⟩
      · refine Inv.step (i := 2) rfl rfl ?_
        rintro L ac wr hk hi ⟨u0, u1, u2, u3, u4, u5, u6, u7, u8, u9, u10, u11, rfl, hA⟩ Q hQ
        have HQ := keep hQ
        clear hQ
        simp only [Act.put, List.setIfInBounds_toArray, List.set_cons_succ, List.set_cons_zero]
        have hA2 := hA.s2
        clear hA
        go_wp2_with fail
        refine HQ.out _ _ ⟨_, _, .string (tx A), _, _, _, _, _, _, _, _, _, by simp only [Act.put, List.setIfInBounds_toArray, List.set_cons_succ, List.set_cons_zero, List.getElem_toArray, List.getElem_cons_zero, List.getElem_cons_succ], hA2⟩
      · refine Inv.step (i := 3) rfl rfl ?_
        rintro L ac wr hk hi ⟨u0, u1, u2, u3, u4, u5, u6, u7, u8, u9, u10, u11, rfl, hA⟩ Q hQ
        have HQ := keep hQ
        clear hQ
        simp only [Act.put, List.setIfInBounds_toArray, List.set_cons_succ, List.set_cons_zero]
        have hA2 := hA.s3
        clear hA
        go_wp2_with fail
        refine HQ.out _ _ ⟨_, _, _, .string (tx info), _, _, _, _, _, _, _, _, by simp only [Act.put, List.setIfInBounds_toArray, List.set_cons_succ, List.set_cons_zero, List.getElem_toArray, List.getElem_cons_zero, List.getElem_cons_succ], hA2⟩
      · refine Inv.step (i := 4) rfl rfl ?_
        rintro L ac wr hk hi ⟨u0, u1, u2, u3, u4, u5, u6, u7, u8, u9, u10, u11, rfl, hA⟩ Q hQ
        have HQ := keep hQ
        clear hQ
        simp only [Act.put, List.setIfInBounds_toArray, List.set_cons_succ, List.set_cons_zero]
        obtain rfl := hA.e2 (hk 2 (by omega) (by kernel_rfl))
        obtain rfl := hA.e3 (hk 3 (by omega) (by kernel_rfl))
        have hA2 := hA.s4
        clear hA
        go_wp2_with fail
        rw [HAI.out]
        refine HQ.out _ _ ⟨_, _, _, _, .string (tx ai), _, _, _, _, _, _, _, by simp only [Act.put, List.setIfInBounds_toArray, List.set_cons_succ, List.set_cons_zero, List.getElem_toArray, List.getElem_cons_zero, List.getElem_cons_succ], hA2⟩
      · refine Inv.step (i := 5) rfl rfl ?_
        rintro L ac wr hk hi ⟨u0, u1, u2, u3, u4, u5, u6, u7, u8, u9, u10, u11, rfl, hA⟩ Q hQ
        have HQ := keep hQ
        clear hQ
        simp only [Act.put, List.setIfInBounds_toArray, List.set_cons_succ, List.set_cons_zero]
        have hA2 := hA.s5
        clear hA
        go_wp2_with fail
        refine HQ.out _ _ ⟨_, _, _, _, _, .int .i64 ((i : Int) + 1), _, _, _, _, _, _, by simp only [Act.put, List.setIfInBounds_toArray, List.set_cons_succ, List.set_cons_zero, List.getElem_toArray, List.getElem_cons_zero, List.getElem_cons_succ], hA2⟩
      · refine Inv.step (i := 6) rfl rfl ?_
        rintro L ac wr hk hi ⟨u0, u1, u2, u3, u4, u5, u6, u7, u8, u9, u10, u11, rfl, hA⟩ Q hQ
        have HQ := keep hQ
        clear hQ
        simp only [Act.put, List.setIfInBounds_toArray, List.set_cons_succ, List.set_cons_zero]
        obtain rfl := hA.e5 (hk 5 (by omega) (by kernel_rfl))
        have hA2 := hA.s6
        clear hA
        go_wp2_with fail
        refine HQ.out _ _ ⟨_, _, _, _, _, _, .int .u8 ((i : Int) + 1), _, _, _, _, _, by simp only [Act.put, List.setIfInBounds_toArray, List.set_cons_succ, List.set_cons_zero, List.getElem_toArray, List.getElem_cons_zero, List.getElem_cons_succ], hA2⟩
      · refine Inv.step (i := 7) rfl rfl ?_
        rintro L ac wr hk hi ⟨u0, u1, u2, u3, u4, u5, u6, u7, u8, u9, u10, u11, rfl, hA⟩ Q hQ
        have HQ := keep hQ
        clear hQ
        simp only [Act.put, List.setIfInBounds_toArray, List.set_cons_succ, List.set_cons_zero]
        obtain rfl := hA.e6 (hk 6 (by omega) (by kernel_rfl))
        have hA2 := hA.s7 hHB
        clear hA
        go_wp2_with fail
        refine HQ.out _ _ ⟨_, _, _, _, _, _, _, .slice (some ⟨wr.heap.size, 0, none⟩) 1 1, _, _, _, _, by simp only [Act.put, List.setIfInBounds_toArray, List.set_cons_succ, List.set_cons_zero, List.getElem_toArray, List.getElem_cons_zero, List.getElem_cons_succ], hA2⟩
      · refine Inv.step (i := 8) rfl rfl ?_
        rintro L ac wr hk hi ⟨u0, u1, u2, u3, u4, u5, u6, u7, u8, u9, u10, u11, rfl, hA⟩ Q hQ
        have HQ := keep hQ
        clear hQ
        simp only [Act.put, List.setIfInBounds_toArray, List.set_cons_succ, List.set_cons_zero]
        have h12 : L 12 = false := by
          cases hq : L 12 with
          | false => rfl
          | true => exact absurd (hA.i12 hq).2 (by rw [hi]; exact Bool.false_ne_true)
        obtain ⟨g, rfl, hG⟩ := hA.e7 (hk 7 (by omega) (by kernel_rfl)) h12
        rw [HCB.out] at hG
        have hcv := back1 hG
        have hA2 := hA.s8
        clear hA
        go_wp2_with fail
        refine HQ.out _ _ ⟨_, _, _, _, _, _, _, _, .string (tx [b]), _, _, _, by simp only [Act.put, List.setIfInBounds_toArray, List.set_cons_succ, List.set_cons_zero, List.getElem_toArray, List.getElem_cons_zero, List.getElem_cons_succ], hA2⟩
      · refine Inv.step (i := 9) rfl rfl ?_
        rintro L ac wr hk hi ⟨u0, u1, u2, u3, u4, u5, u6, u7, u8, u9, u10, u11, rfl, hA⟩ Q hQ
        have HQ := keep hQ
        clear hQ
        simp only [Act.put, List.setIfInBounds_toArray, List.set_cons_succ, List.set_cons_zero]
        obtain rfl := hA.e4 (hk 4 (by omega) (by kernel_rfl))
        obtain rfl := hA.e8 (hk 8 (by omega) (by kernel_rfl))
        have hA2 := hA.s9
        clear hA
        go_wp2_with fail
        rw [HM.out]
        refine HQ.out _ _ ⟨_, _, _, _, _, _, _, _, _, .string (tx m), _, _, by simp only [Act.put, List.setIfInBounds_toArray, List.set_cons_succ, List.set_cons_zero, List.getElem_toArray, List.getElem_cons_zero, List.getElem_cons_succ], hA2⟩
      · refine Inv.step (i := 10) rfl rfl ?_
        rintro L ac wr hk hi ⟨u0, u1, u2, u3, u4, u5, u6, u7, u8, u9, u10, u11, rfl, hA⟩ Q hQ
        have HQ := keep hQ
        clear hQ
        simp only [Act.put, List.setIfInBounds_toArray, List.set_cons_succ, List.set_cons_zero]
        obtain rfl := hA.e1 (hk 1 (by omega) (by kernel_rfl))
        obtain rfl := hA.e9 (hk 9 (by omega) (by kernel_rfl))
        go_wp2_with fail
        refine (HC.out _).mono ?_
        rintro e w4 ⟨rfl, hb⟩
        have hA2 := hA.s10b hHB hb
        clear hA hb
        go_wp2_with fail
        refine HQ.out _ _ ⟨_, _, _, _, _, _, _, _, _, _, .agg (b8 32 f), _, by simp only [Act.put, List.setIfInBounds_toArray, List.set_cons_succ, List.set_cons_zero, List.getElem_toArray, List.getElem_cons_zero, List.getElem_cons_succ], hA2⟩
      · refine Inv.step (i := 11) rfl rfl ?_
        rintro L ac wr hk hi ⟨u0, u1, u2, u3, u4, u5, u6, u7, u8, u9, u10, u11, rfl, hA⟩ Q hQ
        have HQ := keep hQ
        clear hQ
        simp only [Act.put, List.setIfInBounds_toArray, List.set_cons_succ, List.set_cons_zero]
        have hA2 := hA.s11 hHB hi
        clear hA
        go_wp2_with fail
        refine HQ.out _ _ ⟨_, _, _, _, _, _, _, _, _, _, _, .pointer (some ⟨wr.heap.size, 0, none⟩), by simp only [Act.put, List.setIfInBounds_toArray, List.set_cons_succ, List.set_cons_zero, List.getElem_toArray, List.getElem_cons_zero, List.getElem_cons_succ], hA2⟩
      · refine Inv.step (i := 12) rfl rfl ?_
        rintro L ac wr hk hi ⟨u0, u1, u2, u3, u4, u5, u6, u7, u8, u9, u10, u11, rfl, hA⟩ Q hQ
        have HQ := keep hQ
        clear hQ
        simp only [Act.put, List.setIfInBounds_toArray, List.set_cons_succ, List.set_cons_zero]
        obtain rfl := hA.e10 (hk 10 (by omega) (by kernel_rfl))
        obtain ⟨g, ds, rfl, hg, hG, hds, -⟩ := hA.e11 (hk 11 (by omega) (by kernel_rfl))
        have hA2 := hA.s12 hHR hG hds hg (hk 11 (by omega) (by kernel_rfl)) (hk 8 (by omega) (by kernel_rfl))
        clear hA
        go_wp2_with (refine wpList_store_row rfl 33 (.tmp 10) (.tmp 26) rfl g (b8 32 f) rfl rfl 33 ds hG (by kernel_rfl) (by rw [hds]; exact (arr_size _ _).symm) (arr_one _ _ fun i => rfl) ?_)
        refine HQ.out _ _ ⟨_, _, _, _, _, _, _, _, _, _, _, _, by simp only [Act.put, List.setIfInBounds_toArray, List.set_cons_succ, List.set_cons_zero, List.getElem_toArray, List.getElem_cons_zero, List.getElem_cons_succ], hA2⟩
      · rintro L a' wr2 hL ⟨u0, u1, u2, u3, u4, u5, u6, u7, u8, u9, u10, u11, rfl, hA⟩
        obtain ⟨g, ds, rfl, hg, hG, -, hds⟩ := hA.e11 (hL 11 (by omega))
        obtain rfl := hds (hL 12 (by omega))
        have hP := hA.hp
        clear hA hHB hHR
        simp only [Act.put, List.setIfInBounds_toArray, List.set_cons_succ, List.set_cons_zero]
        have hbs := b8_one f
        have hfin : ∀ w3 v3, w3.ownsRow (w.heap.size + 1) 33 32 v3 (i + 1) (krow (kkey root info) i ++ (b8 32 f).toList) → (wr2.alloc (.cells (b8 32 f) 33)).grownBy w3 (.slice a i c : Value).ownBlock → RKS w.heap.size w w3 root info v3 (i + 1) ∧ Blk w3 g 33 (b8 32 f) := fun w3 v3 ho hgr =>
          ⟨⟨(hP.r.alloc _).grown hgr (hP.k.ne (by omega)), by rw [← HFE.out] at ho; exact ho, (hP.bel.alloc hP.bel.size _).grown hgr (by have := hP.bel.size; simp; omega) (fun k hk => by have := (World.ownsRow.lt hP.k k hk).1; omega)⟩, (hG.alloc _).grown hgr (fun q => by have := hvM _ q.symm; omega)⟩
        have HFIN := keep hfin
        have hkA := hP.k.alloc (.cells (b8 32 f) 33)
        have hnc := one_cells wr2 33 (b8 32 f)
        have hsz2 := hP.bel.size
        clear hfin hP
        go_wp2_with (first
          | (refine wpList_load_row rfl 33 (.tmp 10) rfl g rfl 33 (b8 32 f) (0, 0) _ hG Try.underlying33 rfl (by kernel_rfl) ?_)
          | (refine wpList_one_arr rfl 50 33 (.tmp 28) rfl (b8 32 f) rfl (arr_size _ _) i0 _ Try.underlying50 hi0 hz0 hz1 ?_)
          | (at_builtin; refine wpList_append_own _ rfl (.tmp 27) (.tmp 29) 50 rfl (w.heap.size + 1) 33 i0 (.agg (arr 32 fun _ => .int .u8 0)) 32 32 Try.underlying50 hi0 hz0 hz1 hz2 (arr_size _ _) (by omega) (.slice a i c) i (krow (kkey root info) i) rfl hkA ⟨wr2.heap.size, 0, none⟩ 1 1 (b8 32 f).toList rfl (b8_list_length _) hnc hbs (by simp only [maxLen]; omega) (by omega) (by simp; omega) ?_
             intro v3 w3 ho hgr _
             obtain ⟨hS3, hG3⟩ := HFIN.out w3 v3 ho hgr
             clear ho hgr hkA hnc hbs HFIN)
          | (refine wpList_load_row rfl 33 (.tmp 10) rfl g rfl 33 (b8 32 f) (0, 0) _ hG3 Try.underlying33 rfl (by kernel_rfl) ?_))
        refine (text_any f _).mono ?_
        rintro e w4 ⟨rfl, hb4⟩
        have hS4 := hS3.below hb4
        clear hS3 hb4 hG3 hG
        go_wp2_with fail
        go_roundw
        case rel => exact ⟨i + 1, by omega, by go_num, congrArg (fun z => Value.string (tx z)) HKP.out, hS4⟩
        case measure => simp [intOf]; omega
    · have gin : ¬ (i : Int) + 1 ≤ (n : Int) := by omega
      obtain rfl : i = n := by omega
      have HF : Hid (Keyed 33 wr w.heap.size (.slice a i c) (kkey root info) i ∧ Below w.heap.size w wr) := ⟨hS.k.mono (by omega), hS.bel⟩
      clear hS
      go_wp2_with fail
      go_ret
      exact ⟨_, rfl, HF.out⟩
end Go.Proofs.Ytbfgnlckmpnchaa

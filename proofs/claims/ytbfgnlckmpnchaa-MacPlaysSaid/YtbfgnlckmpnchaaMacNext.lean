/-
  mac: one key behind the other: the program's walk of the inner function of Keys (written by wip/tools/mac_next.py).
-/
import Derived.Test.YtbfgnlckmpnchaaMacKI
namespace Go.Proofs.Ytbfgnlckmpnchaa
open Go.RowKit
set_option linter.unusedVariables false
set_option linter.unusedSimpArgs false
theorem back1 {w : World} {g : Nat} {x : UInt8} (h : Blk w g 5 #[v8 x]) : (convert 43 9 (.slice (some ⟨g, 0, none⟩) 1 1)).run Try.prog w = .ok (.string (tx [x])) w := by
  have hr : Row8 w g 0 1 (fun _ => x) := ⟨h.lt, fun j hj => by
    obtain rfl : j = 0 := by omega
    rw [Nat.zero_add]; exact h.at_ rfl, fun j _ => by rw [Nat.zero_add]; exact h.free _⟩
  exact hr.back 43 9 5 Try.underlying43 Try.underlying5 Try.underlying9 1
structure NX (w0 : World) (R A I : Nat) (root : Nat → UInt8) (ahead info : List UInt8) (wr : World) : Prop where
  r : Blk wr R 34 (b8 32 root)
  a : Blk wr A 9 #[.string (tx ahead)]
  i : Blk wr I 9 #[.string (tx info)]
  z : Blk wr w0.heap.size 34 #[.int .u8 0, .int .u8 0, .int .u8 0, .int .u8 0, .int .u8 0, .int .u8 0, .int .u8 0, .int .u8 0, .int .u8 0, .int .u8 0, .int .u8 0, .int .u8 0, .int .u8 0, .int .u8 0, .int .u8 0, .int .u8 0, .int .u8 0, .int .u8 0, .int .u8 0, .int .u8 0, .int .u8 0, .int .u8 0, .int .u8 0, .int .u8 0, .int .u8 0, .int .u8 0, .int .u8 0, .int .u8 0, .int .u8 0, .int .u8 0, .int .u8 0, .int .u8 0]
  bel : Below w0.heap.size w0 wr
set_option maxRecDepth 100000 in
set_option maxHeartbeats 8000000 in
theorem next_any (R A I : Nat) (root : Nat → UInt8) (ahead info : List UInt8) (c : Nat) (w : World) (hR : Blk w R 34 (b8 32 root)) (hA : Blk w A 9 #[.string (tx ahead)]) (hI : Blk w I 9 #[.string (tx info)]) (hRA : R ≠ A) (hIA : I ≠ A) (hc : c < 256) (hl1 : ahead.length ≤ 1000) (hl2 : info.length ≤ 1000)
    (F : Nat → UInt8) (hF : msum (tl 32 root) (ahead ++ info ++ [UInt8.ofNat c]) = F) :
    Calls Try.prog 46 #[.int .i64 (c : Int), .pointer (some ⟨R, 0, none⟩), .pointer (some ⟨A, 0, none⟩), .pointer (some ⟨I, 0, none⟩)] w fun e w' => e = .returned (.agg (b8 32 F)) ∧ Keeps [A] w w' ∧ Blk w' A 9 #[.string (tx (tl 32 F))] := by
  have hRl := hR.lt
  have hAl := hA.lt
  have hIl := hI.lt
  obtain ⟨b, hb⟩ : ∃ b, UInt8.ofNat c = b := ⟨_, rfl⟩
  have hcb : (.int .u8 (c : Int) : Value) = v8 b := by
    rw [← hb]
    unfold v8
    rw [UInt8.toNat_ofNat', Nat.mod_eq_of_lt (by omega)]
  rw [hb] at hF
  obtain ⟨ai, hai⟩ : ∃ ai, ahead ++ info = ai := ⟨_, rfl⟩
  have hail : ai.length ≤ 2000 := by rw [← hai]; simp; omega
  rw [hai] at hF
  obtain ⟨m, hm⟩ : ∃ m, ai ++ [b] = m := ⟨_, rfl⟩
  have hml : m.length ≤ 2001 := by rw [← hm]; simp; omega
  rw [hm] at hF
  have HAI := keep hai
  have HCB := keep hcb
  have HM := keep hm
  have hC : ∀ w, Calls Try.prog 28 #[.string (tx (tl 32 root)), .string (tx m)] w fun e w' => e = .returned (.agg (b8 32 F)) ∧ Below w.heap.size w w' := fun w => by
    rw [← hF]
    exact msum_any _ _ (by rw [tl_length]; omega) (by omega) w
  have HC := keep hC
  have hHB : ∀ w1 w2, NX w R A I root ahead info w1 → w.heap.size + 1 ≤ w1.heap.size → Below w1.heap.size w1 w2 → NX w R A I root ahead info w2 := fun w1 w2 h hs hb => ⟨h.r.kept hb, h.a.kept hb, h.i.kept hb, h.z.kept hb, h.bel.trans (hb.mono (by omega))⟩
  have hHR : ∀ w1 g cs, NX w R A I root ahead info w1 → w.heap.size + 1 ≤ g → NX w R A I root ahead info (w1.setRow g cs) := fun w1 g cs h hg => ⟨h.r.otherRow (by omega) _, h.a.otherRow (by omega) _, h.i.otherRow (by omega) _, h.z.otherRow (by omega) _, below_row h.bel (by omega) _⟩
  have hP0 : NX w R A I root ahead info (w.alloc (.cells #[.int .u8 0, .int .u8 0, .int .u8 0, .int .u8 0, .int .u8 0, .int .u8 0, .int .u8 0, .int .u8 0, .int .u8 0, .int .u8 0, .int .u8 0, .int .u8 0, .int .u8 0, .int .u8 0, .int .u8 0, .int .u8 0, .int .u8 0, .int .u8 0, .int .u8 0, .int .u8 0, .int .u8 0, .int .u8 0, .int .u8 0, .int .u8 0, .int .u8 0, .int .u8 0, .int .u8 0, .int .u8 0, .int .u8 0, .int .u8 0, .int .u8 0, .int .u8 0] 34)).drew := ⟨(hR.alloc _).drew, (hA.alloc _).drew, (hI.alloc _).drew, (Blk.made w 34 _).drew, (belowA w _).drew⟩
  have hcat1 : ahead.length + info.length ≤ 9223372036854775807 := by omega
  have hcat2 : ai.length + 1 ≤ 9223372036854775807 := by omega
  have hc2 : (c : Int) < 256 := by omega
  clear hC hb hF hR hA hI hai hm hcb
  go_enter Try.func46, Try.ntmps46
  go_wp2_with fail
  refine Inv.wp_region_at (fun a0 L a' w' => ∃ u0 u1 u2 u3 u4 u5 u6 u7 u8 u9 u10 u11, a' = ((((((((((((a0.put (some 7) u0).put (some 8) u1).put (some 9) u2).put (some 10) u3).put (some 11) u4).put (some 12) u5).put (some 13) u6).put (some 14) u7).put (some 15) u8).put (some 16) u9).put (some 17) u10).put (some 6) u11) ∧ KI (w.heap.size + 1) (NX w R A I root ahead info) (.slice (some ⟨R, 0, none⟩) 32 32) (.string (tx (tl 32 root))) (.string (tx ahead)) (.string (tx info)) (.string (tx ai)) (.int .i64 (c : Int)) (.int .u8 (c : Int)) (.string (tx [b])) (.string (tx m)) (.agg (b8 32 F)) (.int .u8 (c : Int)) F 34 L w' u0 u1 u2 u3 u4 u5 u6 u7 u8 u9 u10 u11) 13 (by kernel_rfl) (by kernel_rfl) rfl ?_ (Inv.Steps.zero.more ?_ |>.more ?_ |>.more ?_ |>.more ?_ |>.more ?_ |>.more ?_ |>.more ?_ |>.more ?_ |>.more ?_ |>.more ?_ |>.more ?_ |>.more ?_ |>.more ?_) ?_
  · exact ⟨undef, undef, undef, undef, undef, undef, undef, undef, undef, undef, undef, undef, by simp only [Act.put, List.setIfInBounds_toArray, List.set_cons_succ, List.set_cons_zero, List.getElem_toArray, List.getElem_cons_zero, List.getElem_cons_succ], KI.start hP0 (by simp)⟩
  · refine Inv.step (i := 0) rfl rfl ?_
    rintro L a wr hk hi ⟨u0, u1, u2, u3, u4, u5, u6, u7, u8, u9, u10, u11, rfl, hA⟩ Q hQ
    have HQ := keep hQ
    clear hQ
    simp only [Act.put, List.setIfInBounds_toArray, List.set_cons_succ, List.set_cons_zero]
    have hA2 := hA.s0
    clear hA
    go_wp2_with fail
    refine HQ.out _ _ ⟨.slice (some ⟨R, 0, none⟩) 32 32, _, _, _, _, _, _, _, _, _, _, _, by simp only [Act.put, List.setIfInBounds_toArray, List.set_cons_succ, List.set_cons_zero, List.getElem_toArray, List.getElem_cons_zero, List.getElem_cons_succ], hA2⟩
  · refine Inv.step (i := 1) rfl rfl ?_
    rintro L a wr hk hi ⟨u0, u1, u2, u3, u4, u5, u6, u7, u8, u9, u10, u11, rfl, hA⟩ Q hQ
    have HQ := keep hQ
    clear hQ
    simp only [Act.put, List.setIfInBounds_toArray, List.set_cons_succ, List.set_cons_zero]
    obtain rfl := hA.e0 (hk 0 (by omega) (by kernel_rfl))
    have hcv := back32 hA.hp.r
    have hA2 := hA.s1
    clear hA
    go_wp2_with fail
    refine HQ.out _ _ ⟨_, .string (tx (tl 32 root)), _, _, _, _, _, _, _, _, _, _, by simp only [Act.put, List.setIfInBounds_toArray, List.set_cons_succ, List.set_cons_zero, List.getElem_toArray, List.getElem_cons_zero, List.getElem_cons_succ], hA2⟩
  · refine Inv.step (i := 2) rfl rfl ?_
    rintro L a wr hk hi ⟨u0, u1, u2, u3, u4, u5, u6, u7, u8, u9, u10, u11, rfl, hA⟩ Q hQ
    have HQ := keep hQ
    clear hQ
    simp only [Act.put, List.setIfInBounds_toArray, List.set_cons_succ, List.set_cons_zero]
    have c1 := hA.hp.a.at_ (i := 0) (v := .string (tx ahead)) rfl
    have hA2 := hA.s2
    clear hA
    go_wp2_with fail
    refine HQ.out _ _ ⟨_, _, .string (tx ahead), _, _, _, _, _, _, _, _, _, by simp only [Act.put, List.setIfInBounds_toArray, List.set_cons_succ, List.set_cons_zero, List.getElem_toArray, List.getElem_cons_zero, List.getElem_cons_succ], hA2⟩
  · refine Inv.step (i := 3) rfl rfl ?_
    rintro L a wr hk hi ⟨u0, u1, u2, u3, u4, u5, u6, u7, u8, u9, u10, u11, rfl, hA⟩ Q hQ
    have HQ := keep hQ
    clear hQ
    simp only [Act.put, List.setIfInBounds_toArray, List.set_cons_succ, List.set_cons_zero]
    have c1 := hA.hp.i.at_ (i := 0) (v := .string (tx info)) rfl
    have hA2 := hA.s3
    clear hA
    go_wp2_with fail
    refine HQ.out _ _ ⟨_, _, _, .string (tx info), _, _, _, _, _, _, _, _, by simp only [Act.put, List.setIfInBounds_toArray, List.set_cons_succ, List.set_cons_zero, List.getElem_toArray, List.getElem_cons_zero, List.getElem_cons_succ], hA2⟩
  · refine Inv.step (i := 4) rfl rfl ?_
    rintro L a wr hk hi ⟨u0, u1, u2, u3, u4, u5, u6, u7, u8, u9, u10, u11, rfl, hA⟩ Q hQ
    have HQ := keep hQ
    clear hQ
    simp only [Act.put, List.setIfInBounds_toArray, List.set_cons_succ, List.set_cons_zero]
    obtain rfl := hA.e2 (hk 2 (by omega) (by kernel_rfl))
    obtain rfl := hA.e3 (hk 3 (by omega) (by kernel_rfl))
    have hA2 := hA.s4
    clear hA
    go_wp2_with fail
    rw [HAI.out]
    refine HQ.out _ _ ⟨_, _, _, _, .string (tx ai), _, _, _, _, _, _, _, by simp only [Act.put, List.setIfInBounds_toArray, List.set_cons_succ, List.set_cons_zero, List.getElem_toArray, List.getElem_cons_zero, List.getElem_cons_succ], hA2⟩
  · refine Inv.step (i := 5) rfl rfl ?_
    rintro L a wr hk hi ⟨u0, u1, u2, u3, u4, u5, u6, u7, u8, u9, u10, u11, rfl, hA⟩ Q hQ
    have HQ := keep hQ
    clear hQ
    simp only [Act.put, List.setIfInBounds_toArray, List.set_cons_succ, List.set_cons_zero]
    have hA2 := hA.s5
    clear hA
    go_wp2_with fail
    refine HQ.out _ _ ⟨_, _, _, _, _, .int .i64 (c : Int), _, _, _, _, _, _, by simp only [Act.put, List.setIfInBounds_toArray, List.set_cons_succ, List.set_cons_zero, List.getElem_toArray, List.getElem_cons_zero, List.getElem_cons_succ], hA2⟩
  · refine Inv.step (i := 6) rfl rfl ?_
    rintro L a wr hk hi ⟨u0, u1, u2, u3, u4, u5, u6, u7, u8, u9, u10, u11, rfl, hA⟩ Q hQ
    have HQ := keep hQ
    clear hQ
    simp only [Act.put, List.setIfInBounds_toArray, List.set_cons_succ, List.set_cons_zero]
    obtain rfl := hA.e5 (hk 5 (by omega) (by kernel_rfl))
    have hA2 := hA.s6
    clear hA
    go_wp2_with fail
    refine HQ.out _ _ ⟨_, _, _, _, _, _, .int .u8 (c : Int), _, _, _, _, _, by simp only [Act.put, List.setIfInBounds_toArray, List.set_cons_succ, List.set_cons_zero, List.getElem_toArray, List.getElem_cons_zero, List.getElem_cons_succ], hA2⟩
  · refine Inv.step (i := 7) rfl rfl ?_
    rintro L a wr hk hi ⟨u0, u1, u2, u3, u4, u5, u6, u7, u8, u9, u10, u11, rfl, hA⟩ Q hQ
    have HQ := keep hQ
    clear hQ
    simp only [Act.put, List.setIfInBounds_toArray, List.set_cons_succ, List.set_cons_zero]
    obtain rfl := hA.e6 (hk 6 (by omega) (by kernel_rfl))
    have hA2 := hA.s7 hHB
    clear hA
    go_wp2_with fail
    refine HQ.out _ _ ⟨_, _, _, _, _, _, _, .slice (some ⟨wr.heap.size, 0, none⟩) 1 1, _, _, _, _, by simp only [Act.put, List.setIfInBounds_toArray, List.set_cons_succ, List.set_cons_zero, List.getElem_toArray, List.getElem_cons_zero, List.getElem_cons_succ], hA2⟩
  · refine Inv.step (i := 8) rfl rfl ?_
    rintro L a wr hk hi ⟨u0, u1, u2, u3, u4, u5, u6, u7, u8, u9, u10, u11, rfl, hA⟩ Q hQ
    have HQ := keep hQ
    clear hQ
    simp only [Act.put, List.setIfInBounds_toArray, List.set_cons_succ, List.set_cons_zero]
    have h12 : L 12 = false := by
      cases hq : L 12 with
      | false => rfl
      | true => exact absurd (hA.i12 hq).2 (by rw [hi]; exact Bool.false_ne_true)
    obtain ⟨g, rfl, hG⟩ := hA.e7 (hk 7 (by omega) (by kernel_rfl)) h12
    rw [HCB.out] at hG
    have hcv := back1 hG
    have hA2 := hA.s8
    clear hA
    go_wp2_with fail
    refine HQ.out _ _ ⟨_, _, _, _, _, _, _, _, .string (tx [b]), _, _, _, by simp only [Act.put, List.setIfInBounds_toArray, List.set_cons_succ, List.set_cons_zero, List.getElem_toArray, List.getElem_cons_zero, List.getElem_cons_succ], hA2⟩
  · refine Inv.step (i := 9) rfl rfl ?_
    rintro L a wr hk hi ⟨u0, u1, u2, u3, u4, u5, u6, u7, u8, u9, u10, u11, rfl, hA⟩ Q hQ
    have HQ := keep hQ
    clear hQ
    simp only [Act.put, List.setIfInBounds_toArray, List.set_cons_succ, List.set_cons_zero]
    obtain rfl := hA.e4 (hk 4 (by omega) (by kernel_rfl))
    obtain rfl := hA.e8 (hk 8 (by omega) (by kernel_rfl))
    have hA2 := hA.s9
    clear hA
    go_wp2_with fail
    rw [HM.out]
    refine HQ.out _ _ ⟨_, _, _, _, _, _, _, _, _, .string (tx m), _, _, by simp only [Act.put, List.setIfInBounds_toArray, List.set_cons_succ, List.set_cons_zero, List.getElem_toArray, List.getElem_cons_zero, List.getElem_cons_succ], hA2⟩
  · refine Inv.step (i := 10) rfl rfl ?_
    rintro L a wr hk hi ⟨u0, u1, u2, u3, u4, u5, u6, u7, u8, u9, u10, u11, rfl, hA⟩ Q hQ
    have HQ := keep hQ
    clear hQ
    simp only [Act.put, List.setIfInBounds_toArray, List.set_cons_succ, List.set_cons_zero]
    obtain rfl := hA.e1 (hk 1 (by omega) (by kernel_rfl))
    obtain rfl := hA.e9 (hk 9 (by omega) (by kernel_rfl))
    go_wp2_with fail
    refine (HC.out _).mono ?_
    rintro e w4 ⟨rfl, hb⟩
    have hA2 := hA.s10b hHB hb
    clear hA hb
    go_wp2_with fail
    refine HQ.out _ _ ⟨_, _, _, _, _, _, _, _, _, _, .agg (b8 32 F), _, by simp only [Act.put, List.setIfInBounds_toArray, List.set_cons_succ, List.set_cons_zero, List.getElem_toArray, List.getElem_cons_zero, List.getElem_cons_succ], hA2⟩
  · refine Inv.step (i := 11) rfl rfl ?_
    rintro L a wr hk hi ⟨u0, u1, u2, u3, u4, u5, u6, u7, u8, u9, u10, u11, rfl, hA⟩ Q hQ
    have HQ := keep hQ
    clear hQ
    simp only [Act.put, List.setIfInBounds_toArray, List.set_cons_succ, List.set_cons_zero]
    have hA2 := hA.s11 hHB hi
    clear hA
    go_wp2_with fail
    refine HQ.out _ _ ⟨_, _, _, _, _, _, _, _, _, _, _, .pointer (some ⟨wr.heap.size, 0, none⟩), by simp only [Act.put, List.setIfInBounds_toArray, List.set_cons_succ, List.set_cons_zero, List.getElem_toArray, List.getElem_cons_zero, List.getElem_cons_succ], hA2⟩
  · refine Inv.step (i := 12) rfl rfl ?_
    rintro L a wr hk hi ⟨u0, u1, u2, u3, u4, u5, u6, u7, u8, u9, u10, u11, rfl, hA⟩ Q hQ
    have HQ := keep hQ
    clear hQ
    simp only [Act.put, List.setIfInBounds_toArray, List.set_cons_succ, List.set_cons_zero]
    obtain rfl := hA.e10 (hk 10 (by omega) (by kernel_rfl))
    obtain ⟨g, ds, rfl, hg, hG, hds, -⟩ := hA.e11 (hk 11 (by omega) (by kernel_rfl))
    have hA2 := hA.s12 hHR hG hds hg (hk 11 (by omega) (by kernel_rfl)) (hk 8 (by omega) (by kernel_rfl))
    clear hA
    go_wp2_with (refine wpList_store_row rfl 34 (.tmp 6) (.tmp 17) rfl g (b8 32 F) rfl rfl 34 ds hG (by kernel_rfl) (by rw [hds]; exact (arr_size _ _).symm) (arr_one _ _ fun i => rfl) ?_)
    refine HQ.out _ _ ⟨_, _, _, _, _, _, _, _, _, _, _, _, by simp only [Act.put, List.setIfInBounds_toArray, List.set_cons_succ, List.set_cons_zero, List.getElem_toArray, List.getElem_cons_zero, List.getElem_cons_succ], hA2⟩
  · rintro L a' wr2 hL ⟨u0, u1, u2, u3, u4, u5, u6, u7, u8, u9, u10, u11, rfl, hA⟩
    obtain ⟨g, ds, rfl, hg, hG, -, hds⟩ := hA.e11 (hL 11 (by omega))
    obtain rfl := hds (hL 12 (by omega))
    have hP := hA.hp
    clear hA
    simp only [Act.put, List.setIfInBounds_toArray, List.set_cons_succ, List.set_cons_zero]
    have hcv := back32 hG
    have c1 := hP.a.at_ (i := 0) (v := .string (tx ahead)) rfl
    have f1 := hP.a.free 0
    have hgA : g ≠ A := by omega
    have q1 : Blk (wr2.setCell ⟨A, 0, none⟩ (.string (tx (tl 32 F)))) g 34 (b8 32 F) := hG.other (by simpa using hgA) _
    have q2 : Blk (wr2.setCell ⟨A, 0, none⟩ (.string (tx (tl 32 F)))) w.heap.size 34 #[.int .u8 0, .int .u8 0, .int .u8 0, .int .u8 0, .int .u8 0, .int .u8 0, .int .u8 0, .int .u8 0, .int .u8 0, .int .u8 0, .int .u8 0, .int .u8 0, .int .u8 0, .int .u8 0, .int .u8 0, .int .u8 0, .int .u8 0, .int .u8 0, .int .u8 0, .int .u8 0, .int .u8 0, .int .u8 0, .int .u8 0, .int .u8 0, .int .u8 0, .int .u8 0, .int .u8 0, .int .u8 0, .int .u8 0, .int .u8 0, .int .u8 0, .int .u8 0] := hP.z.other (by simp; omega) _
    have q3 : Blk (wr2.setCell ⟨A, 0, none⟩ (.string (tx (tl 32 F)))) A 9 #[.string (tx (tl 32 F))] := hP.a.set 0 _
    have q4 : Keeps [A] w (wr2.setCell ⟨A, 0, none⟩ (.string (tx (tl 32 F)))) := (Keeps.ofBelow hP.bel [A]).setCell (by simp) _
    go_wp2_with (first
      | (refine wpList_load_row rfl 34 (.tmp 6) rfl g rfl 34 (b8 32 F) (0, 0) _ q1 Try.underlying34 rfl (by kernel_rfl) ?_)
      | (refine wpList_store_row rfl 34 (.tmp 5) (.tmp 20) rfl w.heap.size (b8 32 F) rfl rfl 34 _ q2 (by kernel_rfl) (by unfold b8; rw [arr_size]; rfl) (arr_one _ _ fun i => rfl) ?_))
    refine bodyPost_ret (results_c rfl _ _ w.heap.size 34 _ _ _ rfl (q2.setRow (b8 32 F)) Try.underlying34 (by kernel_rfl)) rfl ?_
    exact ⟨rfl, q4.setRow (by omega) _, q3.otherRow (by omega) _⟩
end Go.Proofs.Ytbfgnlckmpnchaa

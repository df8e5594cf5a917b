/-
  QueuePlays: the walk: the queue and the document's lists go side by side.
-/
import Derived.Test.YtldjlahkfdcllaaPlaysMem
import Derived.Test.YtldjlahkfdcllaaFrame
namespace Go.Proofs.Ytldjlahkfdcllaa
open Go.RowKit

def pact (x : UInt8) : Value := v8 x
def int64v (x : Int) : Value := .int .i64 x
def PR (q p base K : Nat) (w wr : World) (k : Nat) : Prop := ∃ F s vc vd, PM q p base K w wr F s s vc vd ∧ s.dr ≤ k ∧ Ints (s.c ++ s.d) ∧ s.c.length + s.d.length ≤ k

set_option maxRecDepth 100000 in
set_option maxHeartbeats 1000000 in
theorem plays_walk (limit : Int) (a : Option Addr) (len cap : Nat) (us : List (UInt8 × Int)) (w : World) (hr : InPairs v8 (Value.int .i64) w a len us) :
    Calls Try.prog 4 #[.int .i64 limit, .slice a len cap] w fun e w' => e = .returned (.bool true) ∧ Below w.heap.size w w' := by
  obtain ⟨hl, hmax, hr⟩ := hr
  by_cases h200 : 200 < len
  · have g200 : (200 : Int) < (len : Int) := by omega
    clear hr
    go_enter Try.func4, Try.ntmps4
    go_wp2_with fail
    refine (awake_any _).mono ?_; rintro e w1 ⟨rfl, hb1⟩
    go_wp2_with fail
    refine (awake_any _).mono ?_; rintro e w2 ⟨rfl, hb2⟩
    go_wp2_with fail
    go_ret
    exact ⟨rfl, hb1.trans (hb2.mono hb1.size)⟩
  · have g200 : ¬ (200 : Int) < (len : Int) := by omega
    by_cases hbad : limit < 1 ∨ 65536 < limit
    · go_enter Try.func4, Try.ntmps4
      go_wp2_with fail
      refine (awake_any _).mono ?_; rintro e w1 ⟨rfl, hb1⟩
      go_wp2_with fail
      refine (new_bad limit _ hbad).mono ?_; rintro e w2 ⟨rfl, rfl⟩
      by_cases hb2 : limit < 1
      · have g1 : decide (limit < 1) = true := by simp; omega
        go_wp2_with fail
        go_ret
        exact ⟨rfl, hb1⟩
      · have g1 : decide (limit < 1) = false := by simp; omega
        have g2 : decide (65536 < limit) = true := by simp; omega
        go_wp2_with fail
        go_ret
        exact ⟨rfl, hb1⟩
    · obtain ⟨K, rfl, hK1, hK2⟩ : ∃ K : Nat, limit = K ∧ 1 ≤ K ∧ K ≤ 65536 := ⟨limit.toNat, by omega, by omega, by omega⟩
      have g1 : decide ((K : Int) < 1) = false := by simp; omega
      have g2 : decide (65536 < (K : Int)) = false := by simp; omega
      clear hbad
      go_enter Try.func4, Try.ntmps4
      go_wp2_with fail
      refine (awake_any _).mono ?_; rintro e w1 ⟨rfl, hb1⟩
      go_wp2_with fail
      refine (new_any K w.heap.size w1 hK1 hK2 hb1.size).mono ?_
      rintro e w2 ⟨rfl, hQ2, hb2, hs2⟩
      unfold ptr
      go_wp2_with fail
      have hA : PR w1.heap.size w2.heap.size w.heap.size K w (w2.alloc (.cells #[.slice none 0 0, .slice none 0 0, .int .i64 0] 37)) 0 :=
        ⟨_, ⟨[], [], 0⟩, .slice none 0 0, .slice none 0 0, ⟨hQ2.below ((Below.refl _ _).alloc (Nat.le_refl _) _), Blk.made w2 37 _, ⟨Own.nil _ _, Own.nil _ _, by simp [Value.ownBlock], by simp [Value.ownBlock]⟩, fun e => by
          have e' : w2.heap.size = w1.heap.size := e
          omega, (hb1.trans (hb2.mono hb1.size)).alloc (Nat.le_trans hb1.size (Nat.le_of_lt hs2)) _, Nat.le_trans hb1.size (Nat.le_of_lt hs2)⟩, Nat.le_refl _, fun u hu => by simp at hu, Nat.le_refl _⟩
      clear hQ2 hb2 hb1
      generalize w2.heap.size = p at *
      generalize w1.heap.size = q at *
      go_loopw [8] (fun i wr => ∃ k : Nat, k ≤ len ∧ i = .int .i64 k ∧ PR q p w.heap.size K w wr k) (fun i _ => len - (intOf i).toNat)
      case atStart => exact ⟨0, Nat.zero_le _, rfl, hA⟩
      case round =>
        obtain ⟨k, hk, rfl, F, s, vc, vd, hM, hdr, hints, hcnt⟩ := hrel
        by_cases hlt : k < len
        · obtain h0 | ⟨b, off, rfl, hb, hc⟩ := hr
          · omega
          have hku : k < us.length := by omega
          have c0 : wr.cell? ⟨b, off + k * 2, none⟩ = some (v8 us[k].1) := (hM.bel.cell hb).trans (hc k hku).1
          have c1 : wr.cell? ⟨b, off + k * 2 + 1, none⟩ = some (.int .i64 us[k].2) := (hM.bel.cell hb).trans (hc k hku).2
          have hbs := hM.bel.size
          have hbw := hM.bel.size
          clear hc hA
          generalize us[k].1 = d at *
          generalize us[k].2 = x at *
          have p0 := hM.hp.at_ (i := 0) rfl
          have p1 := hM.hp.at_ (i := 1) rfl
          have p2 := hM.hp.at_ (i := 2) rfl
          obtain ⟨ac, capc, rfl, -, -, -⟩ := hM.hv.c.form
          obtain ⟨ad, capd, rfl, -, -, -⟩ := hM.hv.d.form
          by_cases hd3 : d % 3 = 0
          · have hd0 : (d % 3 == 0) = true := by simp [hd3]
            cases hcd : s.c ++ s.d with
            | nil =>
              have hp := take_nothing s hcd (.int .i64 0)
              go_wp2_with fail
              refine (rtake_any s _ _ wr w.heap.size _ hM.hv hints).mono ?_
              rintro e w3 ⟨vc', vd', rfl, hv3, hb3⟩
              rw [hp] at hv3 ⊢
              obtain ⟨ac', capc', rfl, -, -, -⟩ := hv3.c.form
              obtain ⟨ad', capd', rfl, -, -, -⟩ := hv3.d.form
              unfold rval
              have f0 := (hM.hp.kept hb3).free 0
              have f1 := (hM.hp.kept hb3).free 1
              have f2 := (hM.hp.kept hb3).free 2
              have hp3 := (hM.hp.kept hb3).lt
              have p30 := (hM.hp.kept hb3).at_ (i := 0) rfl
              have p31 := (hM.hp.kept hb3).at_ (i := 1) rfl
              have p32 := (hM.hp.kept hb3).at_ (i := 2) rfl
              go_wp2_with fail
              have hM4 := (hM.stored hb3 hv3 hbs).below ((Below.refl _ _).alloc (Nat.le_refl _) (.cells #[.slice ac' s.c.length capc', .slice ad' s.d.length capd', .int .i64 s.dr] 37)) (by simp [World.setCell]; have := hb3.size; omega)
              refine (take_any s K q _ F _ hM4.hq hints).mono ?_
              rintro e w7 ⟨rfl, F7, hQ7, hT7, hF7⟩
              rw [hp] at hQ7 ⊢
              have hM7 := hM4.turned hQ7 hT7 hF7 (by simp [World.setCell]; have := hb3.size; omega)
              clear hQ7 hT7 hF7 hM4 p30 p31 p32 f0 f1 f2 hp3 hp hv3 hM c0 c1 p0 p1 p2

              have hbs7 := hM7.bel.size
              have p70 := hM7.hp.at_ (i := 0) rfl
              have p71 := hM7.hp.at_ (i := 1) rfl
              have p72 := hM7.hp.at_ (i := 2) rfl
              have n70 : ((s.c.length : Int) != s.c.length) = false := by simp
              have n71 : ((s.d.length : Int) != s.d.length) = false := by simp
              have n72 : ((s.dr : Int) != s.dr) = false := by simp
              go_wp2_with fail
              refine (len_any s K q _ F7 _ hM7.hq).mono ?_
              rintro e w8 ⟨rfl, j8, rfl⟩
              have q70 : (w7.drewN j8).cell? ⟨p, 0, none⟩ = _ := p70
              have q71 : (w7.drewN j8).cell? ⟨p, 1, none⟩ = _ := p71
              have q72 : (w7.drewN j8).cell? ⟨p, 2, none⟩ = _ := p72
              have hM8 := hM7.many j8
              generalize w7.drewN j8 = w8 at *
              go_wp2_with fail
              go_big_quiet (first | (exact (dropped_any s K q _ F7 _ (hM8.hq.many _)).mono fun _ _ h => ⟨h.1, _, h.2.symm⟩))
              have hf := hM8.many nq
              clear p70 p71 p72 q70 q71 q72 n70 n71 n72 hM7 hM8 hbs7
              generalize w8.drewN nq = w9 at *
              go_wp2_with fail
              go_roundw

              case rel => exact ⟨k + 1, by omega, by go_num, F7, s, _, _, hf, by omega, hints, by omega⟩
              case measure => simp [intOf]; omega
            | cons u r =>
              have hin : Ints (u :: r) := by rw [← hcd]; exact hints
              obtain ⟨z, rfl⟩ := hin u (by simp)
              obtain ⟨s', b', hp, hcd', hdr'⟩ := take_something s hcd (.int .i64 0)
              have hints' : Ints (s'.c ++ s'.d) := by rw [hcd']; exact fun y hy => hin y (List.mem_cons_of_mem _ hy)
              have hln : s'.c.length + s'.d.length ≤ k := by
                have h1 := congrArg List.length hcd
                have h2 := congrArg List.length hcd'
                simp only [List.length_append, List.length_cons] at h1 h2
                omega
              have HN := keep hln
              have HD := keep hdr'
              clear hln hdr'
              go_wp2_with fail
              refine (rtake_any s _ _ wr w.heap.size _ hM.hv hints).mono ?_
              rintro e w3 ⟨vc', vd', rfl, hv3, hb3⟩
              rw [hp] at hv3 ⊢
              obtain ⟨ac', capc', rfl, -, -, -⟩ := hv3.c.form
              obtain ⟨ad', capd', rfl, -, -, -⟩ := hv3.d.form
              unfold rval
              have f0 := (hM.hp.kept hb3).free 0
              have f1 := (hM.hp.kept hb3).free 1
              have f2 := (hM.hp.kept hb3).free 2
              have hp3 := (hM.hp.kept hb3).lt
              have p30 := (hM.hp.kept hb3).at_ (i := 0) rfl
              have p31 := (hM.hp.kept hb3).at_ (i := 1) rfl
              have p32 := (hM.hp.kept hb3).at_ (i := 2) rfl
              go_wp2_with fail
              have hM4 := (hM.stored hb3 hv3 hbs).below ((Below.refl _ _).alloc (Nat.le_refl _) (.cells #[.slice ac' s'.c.length capc', .slice ad' s'.d.length capd', .int .i64 s'.dr] 37)) (by simp [World.setCell]; have := hb3.size; omega)
              refine (take_any s K q _ F _ hM4.hq hints).mono ?_
              rintro e w7 ⟨rfl, F7, hQ7, hT7, hF7⟩
              rw [hp] at hQ7 ⊢
              have hM7 := hM4.turned hQ7 hT7 hF7 (by simp [World.setCell]; have := hb3.size; omega)
              have nz : (z != z) = false := by simp
              have nb : (b' != b') = false := by simp
              clear hQ7 hT7 hF7 hM4 p30 p31 p32 f0 f1 f2 hp3 hp hv3 hM c0 c1 p0 p1 p2

              have hbs7 := hM7.bel.size
              have p70 := hM7.hp.at_ (i := 0) rfl
              have p71 := hM7.hp.at_ (i := 1) rfl
              have p72 := hM7.hp.at_ (i := 2) rfl
              have n70 : ((s'.c.length : Int) != s'.c.length) = false := by simp
              have n71 : ((s'.d.length : Int) != s'.d.length) = false := by simp
              have n72 : ((s'.dr : Int) != s'.dr) = false := by simp
              go_wp2_with fail
              refine (len_any s' K q _ F7 _ hM7.hq).mono ?_
              rintro e w8 ⟨rfl, j8, rfl⟩
              have q70 : (w7.drewN j8).cell? ⟨p, 0, none⟩ = _ := p70
              have q71 : (w7.drewN j8).cell? ⟨p, 1, none⟩ = _ := p71
              have q72 : (w7.drewN j8).cell? ⟨p, 2, none⟩ = _ := p72
              have hM8 := hM7.many j8
              generalize w7.drewN j8 = w8 at *
              go_wp2_with fail
              go_big_quiet (first | (exact (dropped_any s' K q _ F7 _ (hM8.hq.many _)).mono fun _ _ h => ⟨h.1, _, h.2.symm⟩))
              have hf := hM8.many nq
              clear p70 p71 p72 q70 q71 q72 n70 n71 n72 hM7 hM8 hbs7
              generalize w8.drewN nq = w9 at *
              go_wp2_with fail
              go_roundw

              case rel => exact ⟨k + 1, by omega, by go_num, F7, s', _, _, hf, by have := HD.out; omega, hints', by have := HN.out; omega⟩
              case measure => simp [intOf]; omega
          · have hd0 : (d % 3 == 0) = false := by simp [hd3]
            obtain ⟨bb, hd1⟩ : ∃ bb, (d % 3 == 1) = bb := ⟨_, rfl⟩
            obtain ⟨s', dd, hp, hints', hdr', hln'⟩ := put_facts s K bb x hints
            have HN := keep hln'
            have HD := keep hdr'
            have hbr : b < wr.heap.size := by omega
            have hv0 : RVal wr.drew w.heap.size (fun k => F k ∨ k = p) s _ _ := ⟨hM.hv.c, hM.hv.d, hM.hv.nc, hM.hv.nd⟩
            clear hln' hdr'
            have cm0 : ∀ u, (mix [] wr u).cell? ⟨p, 0, none⟩ = some (.slice ac s.c.length capc) := fun u => (mix_cell _ wr u (p := ⟨p, 0, none⟩) hM.hp.lt (by simp)).trans p0
            have cm1 : ∀ u, (mix [] wr u).cell? ⟨p, 1, none⟩ = some (.slice ad s.d.length capd) := fun u => (mix_cell _ wr u (p := ⟨p, 1, none⟩) hM.hp.lt (by simp)).trans p1
            have cm2 : ∀ u, (mix [] wr u).cell? ⟨p, 2, none⟩ = some (.int .i64 s.dr) := fun u => (mix_cell _ wr u (p := ⟨p, 2, none⟩) hM.hp.lt (by simp)).trans p2
            have cx0 : ∀ u, (mix [] wr u).cell? ⟨b, off + k * 2, none⟩ = some (v8 d) := fun u => (mix_cell _ wr u (p := ⟨b, off + k * 2, none⟩) hbr (by simp)).trans c0
            have cx1 : ∀ u, (mix [] wr u).cell? ⟨b, off + k * 2 + 1, none⟩ = some (.int .i64 x) := fun u => (mix_cell _ wr u (p := ⟨b, off + k * 2 + 1, none⟩) hbr (by simp)).trans c1
            go_wp2_with fail
            refine Mixed.wp_region2 (fun w' => ∃ u, w' = mix [] wr u) (fun w' => ∃ u, w' = mix [] wr u) 14 18
              [(0, 0), (0, 1), (0, 2), (0, 3), (0, 4), (0, 5), (0, 6), (0, 7), (0, 8), (0, 9), (0, 10), (0, 11), (0, 12), (0, 13), (2, 14), (0, 15), (0, 16), (0, 17), (2, 18), (2, 19), (1, 20)]
              [(0, 0), (0, 1), (0, 2), (0, 3), (0, 4), (0, 5), (0, 6), (0, 7), (0, 8), (0, 9), (0, 10), (0, 11), (0, 12), (0, 13), (2, 18), (2, 14), (0, 15), (0, 16), (0, 17), (2, 19), (1, 20)]
              (by kernel_rfl) (by kernel_rfl) (by kernel_rfl) (Mx.drew0 _ _) (Mx.drew0 _ _) ?_ ?_
            · refine Mixed.reads (k := 0) (.inl ⟨rfl, rfl⟩) _ [0, 1, 2, 3, 4, 5, 6, 7, 8, 9, 10, 11, 12, 13] _ (by kernel_rfl) ?_
              simp only [List.filterMap_cons, List.filterMap_nil, List.getElem?_toArray, List.getElem?_cons_zero, List.getElem?_cons_succ]
              show wpQuiet _ _ _ _ [_, _, _, _, _, _, _, _, _, _, _, _, _, _] _
              iterate 14 go_big_quiet_step (fail)
              refine wpQuiet_nil ?_
              refine Mixed.effect (i := 14) rfl rfl ?_
              intro Q hQ
              go_wp2_with fail
              refine (rput_any s K bb x _ _ wr.drew w.heap.size _ hv0 hints hK2 (by omega) hbs hM.lt).mono ?_
              rintro e w3 ⟨vc', vd', rfl, hv3, hb3⟩
              obtain ⟨ac', capc', rfl, -, -, -⟩ := hv3.c.form
              obtain ⟨ad', capd', rfl, -, -, -⟩ := hv3.d.form
              rw [hp] at hv3 ⊢
              unfold rval
              go_wp2_with fail

              have hK3 : Keeps [] wr w3 := (Keeps.refl [] wr).drew.below hb3 (Nat.le_refl _)
              have hb3' : Below wr.heap.size wr w3 := ⟨hb3.os, hb3.tape, hb3.output, hb3.size, hb3.block⟩
              refine hQ _ _ (Mx.of hK3) ?_
              clear hQ
              refine Mixed.reads (k := 0) (.inl ⟨rfl, rfl⟩) _ [15, 16, 17] _ (by kernel_rfl) ?_
              simp only [List.filterMap_cons, List.filterMap_nil, List.getElem?_toArray, List.getElem?_cons_zero, List.getElem?_cons_succ]
              show wpQuiet _ _ _ _ [_, _, _] _
              iterate 3 go_big_quiet_step (fail)
              refine wpQuiet_nil ?_
              refine Mixed.effect (i := 18) rfl rfl ?_
              intro Q hQ
              go_wp2_with fail
              refine hQ _ _ (Mx.of (hK3.alloc _)) ?_
              clear hQ
              refine Mixed.effect (i := 19) rfl rfl ?_
              intro Q hQ
              go_wp2_with fail
              refine hQ _ _ (Mx.of (hK3.alloc _)) ?_
              clear hQ
              refine Mixed.reads (k := 1) (.inr ⟨rfl, rfl⟩) _ [20] _ (by kernel_rfl) ?_
              simp only [List.filterMap_cons, List.filterMap_nil, List.getElem?_toArray, List.getElem?_cons_zero, List.getElem?_cons_succ]
              show wpQuiet _ _ _ _ [_] _
              iterate 1 go_big_quiet_step (fail)
              refine wpQuiet_nil ?_
              unfold Mixed.HL
              have hM5 := hM.below (hb3'.alloc hb3'.size (.cells #[.slice ac' s'.c.length capc', .slice ad' s'.d.length capd', .int .i64 (s'.dr : Int)] 37)) hbs
              have hv5 := hv3.below ((Below.refl w3.heap.size w3).alloc (Nat.le_refl _) (.cells #[.slice ac' s'.c.length capc', .slice ad' s'.d.length capd', .int .i64 (s'.dr : Int)] 37))
              have h16 := Blk.made w3 37 #[.slice ac' s'.c.length capc', .slice ad' s'.d.length capd', .int .i64 (s'.dr : Int)]
              clear hK3 hb3 hb3' hv3 hv0
              generalize (w3.alloc (.cells #[.slice ac' s'.c.length capc', .slice ad' s'.d.length capd', .int .i64 (s'.dr : Int)] 37)) = w5 at *
              generalize w3.heap.size = g16 at *

              have hbs5 := hM5.bel.size
              have t50 := h16.at_ (i := 0) rfl
              have t51 := h16.at_ (i := 1) rfl
              have t52 := h16.at_ (i := 2) rfl
              have p50 := hM5.hp.at_ (i := 0) rfl
              have p51 := hM5.hp.at_ (i := 1) rfl
              have p52 := hM5.hp.at_ (i := 2) rfl
              have f50 := hM5.hp.free 0
              have f51 := hM5.hp.free 1
              have f52 := hM5.hp.free 2
              go_wp2_with fail
              have hM6 := hM5.stored (Below.refl _ _) hv5 hbs5
              have hbs6 := hM6.bel.size
              have x60 := (hM6.bel.cell (p := ⟨b, off + k * 2, none⟩) hb).trans ((hM.bel.cell hb).symm.trans c0)
              have x61 := (hM6.bel.cell (p := ⟨b, off + k * 2 + 1, none⟩) hb).trans ((hM.bel.cell hb).symm.trans c1)
              clear t50 t51 t52 p50 p51 p52 f50 f51 f52 hM5 hv5 h16 hM
              generalize (((w5.setCell ⟨p, 0, none⟩ (.slice ac' s'.c.length capc')).setCell ⟨p, 1, none⟩ (.slice ad' s'.d.length capd')).setCell ⟨p, 2, none⟩ (.int .i64 (s'.dr : Int))) = w6 at *
              clear c0 c1 p0 p1 p2 cm0 cm1 cm2 cx0 cx1
              refine Mixed.wp_region (fun _ => True) [(1, 0), (1, 1), (1, 2), (1, 3), (1, 4), (1, 5), (1, 6), (1, 7), (1, 8), (1, 9), (1, 10), (1, 11), (1, 12), (2, 13), (1, 14)] (by kernel_rfl) (by kernel_rfl) trivial ?_
              refine Mixed.reads (k := 1) (.inr ⟨rfl, rfl⟩) _ [0, 1, 2, 3, 4, 5, 6, 7, 8, 9, 10, 11, 12] _ (by kernel_rfl) ?_
              simp only [List.filterMap_cons, List.filterMap_nil, List.getElem?_toArray, List.getElem?_cons_zero, List.getElem?_cons_succ]
              show wpQuiet _ _ _ _ [_, _, _, _, _, _, _, _, _, _, _, _, _] _
              iterate 13 go_big_quiet_step (fail)
              refine wpQuiet_nil ?_
              refine Mixed.effect (i := 13) rfl rfl ?_
              intro Q hQ
              go_wp2_with fail

              refine (put_any s K q _ F bb x w6.drew (hM6.hq.many 1) (by omega) hK2).mono ?_
              rintro e w7 ⟨rfl, F7, hQ7, hT7, hF7⟩
              have hM7 := (hM6.many 1).turned hQ7 hT7 hF7 hbs6
              rw [hp] at hM7 ⊢
              unfold errOf
              clear hM6 x60 x61 hQ7 hT7 hF7 hp
              cases dd
              all_goals
                go_wp2_with fail
                refine hQ _ _ trivial ?_
                clear hQ
                refine Mixed.reads (k := 1) (.inr ⟨rfl, rfl⟩) _ [14] _ (by kernel_rfl) ?_
                simp only [List.filterMap_cons, List.filterMap_nil, List.getElem?_toArray, List.getElem?_cons_zero, List.getElem?_cons_succ]
                show wpQuiet _ _ _ _ [_] _
                iterate 1 go_big_quiet_step (fail)
                refine wpQuiet_nil ?_
                unfold Mixed.HL

                have hbs7 := hM7.bel.size
                have p70 := hM7.hp.at_ (i := 0) rfl
                have p71 := hM7.hp.at_ (i := 1) rfl
                have p72 := hM7.hp.at_ (i := 2) rfl
                have n70 : ((s'.c.length : Int) != s'.c.length) = false := by simp
                have n71 : ((s'.d.length : Int) != s'.d.length) = false := by simp
                have n72 : ((s'.dr : Int) != s'.dr) = false := by simp
                go_wp2_with fail
                refine (len_any s' K q _ F7 _ hM7.hq).mono ?_
                rintro e w8 ⟨rfl, j8, rfl⟩
                have q70 : (w7.drewN j8).cell? ⟨p, 0, none⟩ = _ := p70
                have q71 : (w7.drewN j8).cell? ⟨p, 1, none⟩ = _ := p71
                have q72 : (w7.drewN j8).cell? ⟨p, 2, none⟩ = _ := p72
                have hM8 := hM7.many j8
                generalize w7.drewN j8 = w8 at *
                go_wp2_with fail
                go_big_quiet (first | (exact (dropped_any s' K q _ F7 _ (hM8.hq.many _)).mono fun _ _ h => ⟨h.1, _, h.2.symm⟩))
                have hf := hM8.many nq
                clear p70 p71 p72 q70 q71 q72 n70 n71 n72 hM7 hM8 hbs7
                generalize w8.drewN nq = w9 at *
                go_wp2_with fail
                go_roundw

                case rel => exact ⟨k + 1, by omega, by go_num, F7, s', _, _, hf, by have := HD.out; omega, hints', by have := HN.out; omega⟩
                case measure => simp [intOf]; omega
            · refine Mixed.reads (k := 0) (.inl ⟨rfl, rfl⟩) _ [0, 1, 2, 3, 4, 5, 6, 7, 8, 9, 10, 11, 12, 13] _ (by kernel_rfl) ?_
              simp only [List.filterMap_cons, List.filterMap_nil, List.getElem?_toArray, List.getElem?_cons_zero, List.getElem?_cons_succ]
              show wpQuiet _ _ _ _ [_, _, _, _, _, _, _, _, _, _, _, _, _, _] _
              iterate 14 go_big_quiet_step (fail)
              refine wpQuiet_nil ?_
              refine Mixed.effect (i := 18) rfl rfl ?_
              intro Q hQ
              go_wp2_with fail
              refine hQ _ _ (Mx.of ((Keeps.refl [] wr).drew.alloc _)) ?_
              clear hQ
              have hv1 : RVal (wr.drew.alloc (.cells #[.slice none 0 0, .slice none 0 0, .int .i64 0] 37)) w.heap.size (fun k => (F k ∨ k = p) ∨ k = wr.heap.size) s _ _ :=
                (hv0.below ((Below.refl _ _).alloc (Nat.le_refl _) _)).more fun k hk hk' => by rcases hk' with hk' | hk'
                                                                                               · have := (hv0.c.row k hk').2; exact absurd hk (Nat.ne_of_lt this)
                                                                                               · have := (hv0.d.row k hk').2; exact absurd hk (Nat.ne_of_lt this)
              refine Mixed.effect (i := 14) rfl rfl ?_
              intro Q hQ
              go_wp2_with fail
              refine (rput_any s K bb x _ _ _ w.heap.size _ hv1 hints hK2 (by omega) (by simp; omega) (fun k hk => by rcases hk with hk | hk; (have := hM.lt k hk; simp; omega); (simp; omega))).mono ?_
              rintro e w3 ⟨vc', vd', rfl, hv3, hb3⟩
              obtain ⟨ac', capc', rfl, -, -, -⟩ := hv3.c.form
              obtain ⟨ad', capd', rfl, -, -, -⟩ := hv3.d.form
              rw [hp] at hv3 ⊢
              unfold rval
              go_wp2_with fail

              have hK3 : Keeps [] wr w3 := ((Keeps.refl [] wr).drew.alloc _).below hb3 (by simp)
              have hb3' : Below wr.heap.size wr w3 := ⟨hb3.os, hb3.tape, hb3.output, hK3.size, fun k hk => hK3.block k hk (by simp)⟩
              have z16 : Blk w3 wr.heap.size 37 #[.slice none 0 0, .slice none 0 0, .int .i64 0] := (Blk.made wr.drew 37 _).kept hb3
              have z0 := z16.at_ (i := 0) rfl
              have z1 := z16.at_ (i := 1) rfl
              have z2 := z16.at_ (i := 2) rfl
              have y0 := z16.free 0
              have y1 := z16.free 1
              have y2 := z16.free 2
              refine hQ _ _ (Mx.of hK3) ?_
              clear hQ
              refine Mixed.reads (k := 0) (.inl ⟨rfl, rfl⟩) _ [15, 16, 17] _ (by kernel_rfl) ?_
              simp only [List.filterMap_cons, List.filterMap_nil, List.getElem?_toArray, List.getElem?_cons_zero, List.getElem?_cons_succ]
              show wpQuiet _ _ _ _ [_, _, _] _
              iterate 3 go_big_quiet_step (fail)
              refine wpQuiet_nil ?_
              refine Mixed.effect (i := 19) rfl rfl ?_
              intro Q hQ
              go_wp2_with fail
              have nope : wr.heap.size < wr.heap.size → wr.heap.size ∈ ([] : List Nat) := fun h => absurd h (Nat.lt_irrefl _)
              refine hQ _ _ (Mx.of (((hK3.setCell nope _).setCell nope _).setCell nope _)) ?_
              clear hQ
              refine Mixed.reads (k := 1) (.inr ⟨rfl, rfl⟩) _ [20] _ (by kernel_rfl) ?_
              simp only [List.filterMap_cons, List.filterMap_nil, List.getElem?_toArray, List.getElem?_cons_zero, List.getElem?_cons_succ]
              show wpQuiet _ _ _ _ [_] _
              iterate 1 go_big_quiet_step (fail)
              refine wpQuiet_nil ?_
              unfold Mixed.HL
              have hM5 := hM.below (((hb3'.setCell (p := ⟨wr.heap.size, 0, none⟩) (Nat.le_refl _) (.slice ac' s'.c.length capc')).setCell (p := ⟨wr.heap.size, 1, none⟩) (Nat.le_refl _) (.slice ad' s'.d.length capd')).setCell (p := ⟨wr.heap.size, 2, none⟩) (Nat.le_refl _) (.int .i64 (s'.dr : Int))) hbs
              have hv5 := (((hv3.set (.inr rfl) 0 (.slice ac' s'.c.length capc')).set (.inr rfl) 1 (.slice ad' s'.d.length capd')).set (.inr rfl) 2 (.int .i64 (s'.dr : Int))).weak (F' := fun k => F k ∨ k = p) fun k hk => .inl hk
              have h16 := ((z16.set 0 (.slice ac' s'.c.length capc')).set 1 (.slice ad' s'.d.length capd')).set 2 (.int .i64 (s'.dr : Int))
              clear hK3 hb3 hb3' hv3 hv0 hv1 z16 z0 z1 z2 y0 y1 y2 nope
              generalize (((w3.setCell ⟨wr.heap.size, 0, none⟩ (.slice ac' s'.c.length capc')).setCell ⟨wr.heap.size, 1, none⟩ (.slice ad' s'.d.length capd')).setCell ⟨wr.heap.size, 2, none⟩ (.int .i64 (s'.dr : Int))) = w5 at *
              obtain ⟨g16, hg16⟩ : ∃ g, g = wr.heap.size := ⟨_, rfl⟩
              rw [← hg16] at h16 ⊢
              clear hg16

              have hbs5 := hM5.bel.size
              have t50 := h16.at_ (i := 0) rfl
              have t51 := h16.at_ (i := 1) rfl
              have t52 := h16.at_ (i := 2) rfl
              have p50 := hM5.hp.at_ (i := 0) rfl
              have p51 := hM5.hp.at_ (i := 1) rfl
              have p52 := hM5.hp.at_ (i := 2) rfl
              have f50 := hM5.hp.free 0
              have f51 := hM5.hp.free 1
              have f52 := hM5.hp.free 2
              go_wp2_with fail
              have hM6 := hM5.stored (Below.refl _ _) hv5 hbs5
              have hbs6 := hM6.bel.size
              have x60 := (hM6.bel.cell (p := ⟨b, off + k * 2, none⟩) hb).trans ((hM.bel.cell hb).symm.trans c0)
              have x61 := (hM6.bel.cell (p := ⟨b, off + k * 2 + 1, none⟩) hb).trans ((hM.bel.cell hb).symm.trans c1)
              clear t50 t51 t52 p50 p51 p52 f50 f51 f52 hM5 hv5 h16 hM
              generalize (((w5.setCell ⟨p, 0, none⟩ (.slice ac' s'.c.length capc')).setCell ⟨p, 1, none⟩ (.slice ad' s'.d.length capd')).setCell ⟨p, 2, none⟩ (.int .i64 (s'.dr : Int))) = w6 at *
              clear c0 c1 p0 p1 p2 cm0 cm1 cm2 cx0 cx1
              refine Mixed.wp_region (fun _ => True) [(1, 0), (1, 1), (1, 2), (1, 3), (1, 4), (1, 5), (1, 6), (1, 7), (1, 8), (1, 9), (1, 10), (1, 11), (1, 12), (2, 13), (1, 14)] (by kernel_rfl) (by kernel_rfl) trivial ?_
              refine Mixed.reads (k := 1) (.inr ⟨rfl, rfl⟩) _ [0, 1, 2, 3, 4, 5, 6, 7, 8, 9, 10, 11, 12] _ (by kernel_rfl) ?_
              simp only [List.filterMap_cons, List.filterMap_nil, List.getElem?_toArray, List.getElem?_cons_zero, List.getElem?_cons_succ]
              show wpQuiet _ _ _ _ [_, _, _, _, _, _, _, _, _, _, _, _, _] _
              iterate 13 go_big_quiet_step (fail)
              refine wpQuiet_nil ?_
              refine Mixed.effect (i := 13) rfl rfl ?_
              intro Q hQ
              go_wp2_with fail

              refine (put_any s K q _ F bb x w6.drew (hM6.hq.many 1) (by omega) hK2).mono ?_
              rintro e w7 ⟨rfl, F7, hQ7, hT7, hF7⟩
              have hM7 := (hM6.many 1).turned hQ7 hT7 hF7 hbs6
              rw [hp] at hM7 ⊢
              unfold errOf
              clear hM6 x60 x61 hQ7 hT7 hF7 hp
              cases dd
              all_goals
                go_wp2_with fail
                refine hQ _ _ trivial ?_
                clear hQ
                refine Mixed.reads (k := 1) (.inr ⟨rfl, rfl⟩) _ [14] _ (by kernel_rfl) ?_
                simp only [List.filterMap_cons, List.filterMap_nil, List.getElem?_toArray, List.getElem?_cons_zero, List.getElem?_cons_succ]
                show wpQuiet _ _ _ _ [_] _
                iterate 1 go_big_quiet_step (fail)
                refine wpQuiet_nil ?_
                unfold Mixed.HL

                have hbs7 := hM7.bel.size
                have p70 := hM7.hp.at_ (i := 0) rfl
                have p71 := hM7.hp.at_ (i := 1) rfl
                have p72 := hM7.hp.at_ (i := 2) rfl
                have n70 : ((s'.c.length : Int) != s'.c.length) = false := by simp
                have n71 : ((s'.d.length : Int) != s'.d.length) = false := by simp
                have n72 : ((s'.dr : Int) != s'.dr) = false := by simp
                go_wp2_with fail
                refine (len_any s' K q _ F7 _ hM7.hq).mono ?_
                rintro e w8 ⟨rfl, j8, rfl⟩
                have q70 : (w7.drewN j8).cell? ⟨p, 0, none⟩ = _ := p70
                have q71 : (w7.drewN j8).cell? ⟨p, 1, none⟩ = _ := p71
                have q72 : (w7.drewN j8).cell? ⟨p, 2, none⟩ = _ := p72
                have hM8 := hM7.many j8
                generalize w7.drewN j8 = w8 at *
                go_wp2_with fail
                go_big_quiet (first | (exact (dropped_any s' K q _ F7 _ (hM8.hq.many _)).mono fun _ _ h => ⟨h.1, _, h.2.symm⟩))
                have hf := hM8.many nq
                clear p70 p71 p72 q70 q71 q72 n70 n71 n72 hM7 hM8 hbs7
                generalize w8.drewN nq = w9 at *
                go_wp2_with fail
                go_roundw

                case rel => exact ⟨k + 1, by omega, by go_num, F7, s', _, _, hf, by have := HD.out; omega, hints', by have := HN.out; omega⟩
                case measure => simp [intOf]; omega
        · obtain rfl : k = len := by omega
          go_wp2_with fail
          go_ret
          exact ⟨rfl, hM.bel⟩
end Go.Proofs.Ytldjlahkfdcllaa

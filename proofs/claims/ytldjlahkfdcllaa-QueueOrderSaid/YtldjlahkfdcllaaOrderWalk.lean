/-
  queue: QueueOrder, the walk (printed by wip/tools/order.py: its two kinds are alike).
-/
import Derived.Test.YtldjlahkfdcllaaOrderMem
namespace Go.Proofs.Ytldjlahkfdcllaa
open Go.RowKit

set_option maxHeartbeats 4000000 in
theorem order_walk (a : Option Addr) (len cap : Nat) (us : List Bool) (limit : UInt8) (w : World) (hr : InRow Value.bool w a len us) :
    Calls Try.prog 3 #[.slice a len cap, v8 limit] w fun e w' => e = .returned (.bool true) ∧ Below w.heap.size w w' := by
  obtain ⟨hl, hmax, hr⟩ := hr
  by_cases h200 : 200 < len
  · have g200 : (200 : Int) < (len : Int) := by omega
    clear hr
    go_enter Try.func3, Try.ntmps3
    go_wp2_with fail
    refine (awake_any _).mono ?_; rintro e w1 ⟨rfl, hb1⟩
    go_wp2_with fail
    refine (awake_any _).mono ?_; rintro e w2 ⟨rfl, hb2⟩
    go_wp2_with fail
    go_ret
    exact ⟨rfl, hb1.trans (hb2.mono hb1.size)⟩
  · have g200 : ¬ (200 : Int) < (len : Int) := by omega
    obtain ⟨i0, hi, hz0, hz1, hz2⟩ := info_parts info3
    have hlim : limit.toNat < 256 := limit.toNat_lt
    go_enter Try.func3, Try.ntmps3
    go_wp2_with fail
    refine (awake_any _).mono ?_; rintro e w1 ⟨rfl, hb1⟩
    go_wp2_with fail
    obtain ⟨K, hK, hK1, hK2⟩ : ∃ K : Nat, (1 + (limit.toNat : Int)) = K ∧ 1 ≤ K ∧ K ≤ 65536 := ⟨1 + limit.toNat, by omega, by omega, by have := limit.toNat_lt; omega⟩
    rw [hK]
    clear hK
    refine (new_any K w.heap.size w1 hK1 hK2 hb1.size).mono ?_
    rintro e w2 ⟨rfl, hQ2, hb2, hs2⟩
    unfold ptr
    go_wp2_with fail
    have hA : OrdA w1.heap.size w2.heap.size w.heap.size K w (w2.alloc (.cells #[.slice none 0 0, .slice none 0 0] 29)) 0 :=
      ⟨fun k => k = w1.heap.size, ⟨[], [], 0⟩, .slice none 0 0, .slice none 0 0, ⟨hQ2.below ((Below.refl _ _).alloc (Nat.le_refl _) _), Blk.made w2 29 _, Own.nil _ _, Own.nil _ _, fun e => absurd e (by omega), by simp [Value.ownBlock], by simp [Value.ownBlock], by simp [Value.ownBlock],
        (hb1.trans (hb2.mono hb1.size)).alloc (Nat.le_trans hb1.size (Nat.le_of_lt hs2)) _, Nat.le_trans hb1.size (Nat.le_of_lt hs2)⟩, rfl, fun u hu => by simp at hu⟩
    clear hQ2 hb2 hb1
    generalize w2.heap.size = p at *
    generalize w1.heap.size = q at *
    go_loopw [8] (fun i wr => ∃ k : Nat, k ≤ len ∧ i = .int .i64 k ∧ OrdA q p w.heap.size K w wr k) (fun i _ => len - (intOf i).toNat)
    case atStart => exact ⟨0, Nat.zero_le _, rfl, hA⟩
    case round =>
      obtain ⟨k, hk, rfl, F, s, v0, v1, hM, hcnt, hints⟩ := hrel
      by_cases hlt : k < len
      · obtain h0 | ⟨b, off, rfl, hb, hc⟩ := hr
        · omega
        have hku : k < us.length := by omega
        have c0 : wr.cell? ⟨b, off + k, none⟩ = some (.bool us[k]) := (hM.bel.cell hb).trans (hc k hku)
        clear hc hA
        have hbs := hM.bel.size
        generalize us[k] = x at *
        cases x
        · by_cases hroom : s.d.length < K
          · have hp : s.put K false (.int .i64 k) = (⟨s.c, s.d ++ [.int .i64 k], s.dr⟩, false) := by simp [Qs.put, hroom]
            go_wp2_with fail
            refine (put_any s K q _ F false k wr hM.hq (by omega) hK2).mono ?_
            rintro e w3 ⟨rfl, F3, hQ3, hT3, hF3⟩
            rw [hp] at *
            unfold errOf
            have hM3 := hM.turned hQ3 hT3 hF3 hbs
            have hbs3 := hM3.bel.size
            have c3 : w3.cell? ⟨b, off + k, none⟩ = some (.bool false) := (hM3.bel.cell hb).trans ((hM.bel.cell hb).symm.trans c0)
            clear hM hQ3 hT3 hF3 hp c0
            obtain ⟨a0, cap0, rfl, _, _, _⟩ := hM3.h0.form
            have cp := hM3.hp.at_ (i := 0) rfl
            have fp := hM3.hp.free 0
            have hnew : ∀ wz : World, (wz.alloc (.cells #[.int .i64 k] 3)).cell? ⟨wz.heap.size, 0, none⟩ = some (.int .i64 k) := fun wz => (Blk.made wz 3 #[.int .i64 k]).at_ rfl
            go_wp2_with (at_builtin; refine wpList_append_one _ rfl (.tmp 53) (.tmp 55) 28 rfl w.heap.size 3 i0 (.int .i64 0) 8 Try.underlying28 hi hz0 hz1 hz2 rfl (.slice a0 s.d.length cap0) s.d rfl (hM3.h0.alloc _) w3.heap.size 1 (.int .i64 k) rfl (hnew _) rfl (by omega) (by omega) (by simp; omega) ?_; intro v4 w4 hown4 hg4 hv4; have hBp4 := (hM3.hp.alloc _).grown hg4 (fun e => (hM3.n0 p e.symm).2 rfl); have fp4 := hBp4.free 0; have cp4 := hBp4.at_ (i := 0) rfl; have hM5 := hM3.app0 _ hg4 hown4 hv4 hbs3; obtain ⟨a4, cap4, rfl, -, -, -⟩ := hown4.form; rw [List.length_append, List.length_singleton] at *; clear hg4 hv4 hM3 hnew cp fp hBp4 hown4)
            have hf : OrdA q p w.heap.size K w (w4.setCell ⟨p, 0, none⟩ (.slice a4 (s.d.length + 1) cap4)) (k + 1) := ⟨F3, _, _, _, hM5, by simp; omega, ints_d hints k⟩
            clear hM5 hints
            go_roundw
            case rel => exact ⟨k + 1, by omega, by go_num, hf⟩
            case measure => simp [intOf]; omega
          · have hp : s.put K false (.int .i64 k) = (⟨s.c, s.d, s.dr + 1⟩, true) := by simp [Qs.put, hroom]
            go_wp2_with fail
            refine (put_any s K q _ F false k wr hM.hq (by omega) hK2).mono ?_
            rintro e w3 ⟨rfl, F3, hQ3, hT3, hF3⟩
            rw [hp] at *
            unfold errOf
            have hM3 := hM.turned hQ3 hT3 hF3 hbs
            have hbs3 := hM3.bel.size
            have c3 : w3.cell? ⟨b, off + k, none⟩ = some (.bool false) := (hM3.bel.cell hb).trans ((hM.bel.cell hb).symm.trans c0)
            clear hM hQ3 hT3 hF3 hp c0
            have hf : OrdA q p w.heap.size K w w3 (k + 1) := ⟨F3, _, _, _, hM3, by simp; omega, hints⟩
            clear hM3 hints
            go_wp2_with fail
            go_roundw
            case rel => exact ⟨k + 1, by omega, by go_num, hf⟩
            case measure => simp [intOf]; omega
        · by_cases hroom : s.c.length < K
          · have hp : s.put K true (.int .i64 k) = (⟨s.c ++ [.int .i64 k], s.d, s.dr⟩, false) := by simp [Qs.put, hroom]
            go_wp2_with fail
            refine (put_any s K q _ F true k wr hM.hq (by omega) hK2).mono ?_
            rintro e w3 ⟨rfl, F3, hQ3, hT3, hF3⟩
            rw [hp] at *
            unfold errOf
            have hM3 := hM.turned hQ3 hT3 hF3 hbs
            have hbs3 := hM3.bel.size
            have c3 : w3.cell? ⟨b, off + k, none⟩ = some (.bool true) := (hM3.bel.cell hb).trans ((hM.bel.cell hb).symm.trans c0)
            clear hM hQ3 hT3 hF3 hp c0
            obtain ⟨a1, cap1, rfl, _, _, _⟩ := hM3.h1.form
            have cp := hM3.hp.at_ (i := 1) rfl
            have fp := hM3.hp.free 1
            have hnew : ∀ wz : World, (wz.alloc (.cells #[.int .i64 k] 3)).cell? ⟨wz.heap.size, 0, none⟩ = some (.int .i64 k) := fun wz => (Blk.made wz 3 #[.int .i64 k]).at_ rfl
            go_wp2_with (at_builtin; refine wpList_append_one _ rfl (.tmp 53) (.tmp 55) 28 rfl w.heap.size 3 i0 (.int .i64 0) 8 Try.underlying28 hi hz0 hz1 hz2 rfl (.slice a1 s.c.length cap1) s.c rfl (hM3.h1.alloc _) w3.heap.size 1 (.int .i64 k) rfl (hnew _) rfl (by omega) (by omega) (by simp; omega) ?_; intro v4 w4 hown4 hg4 hv4; have hBp4 := (hM3.hp.alloc _).grown hg4 (fun e => (hM3.n1 p e.symm).2 rfl); have fp4 := hBp4.free 1; have cp4 := hBp4.at_ (i := 1) rfl; have hM5 := hM3.app1 _ hg4 hown4 hv4 hbs3; obtain ⟨a4, cap4, rfl, -, -, -⟩ := hown4.form; rw [List.length_append, List.length_singleton] at *; clear hg4 hv4 hM3 hnew cp fp hBp4 hown4)
            have hf : OrdA q p w.heap.size K w (w4.setCell ⟨p, 1, none⟩ (.slice a4 (s.c.length + 1) cap4)) (k + 1) := ⟨F3, _, _, _, hM5, by simp; omega, ints_c hints k⟩
            clear hM5 hints
            go_roundw
            case rel => exact ⟨k + 1, by omega, by go_num, hf⟩
            case measure => simp [intOf]; omega
          · have hp : s.put K true (.int .i64 k) = (⟨s.c, s.d, s.dr + 1⟩, true) := by simp [Qs.put, hroom]
            go_wp2_with fail
            refine (put_any s K q _ F true k wr hM.hq (by omega) hK2).mono ?_
            rintro e w3 ⟨rfl, F3, hQ3, hT3, hF3⟩
            rw [hp] at *
            unfold errOf
            have hM3 := hM.turned hQ3 hT3 hF3 hbs
            have hbs3 := hM3.bel.size
            have c3 : w3.cell? ⟨b, off + k, none⟩ = some (.bool true) := (hM3.bel.cell hb).trans ((hM.bel.cell hb).symm.trans c0)
            clear hM hQ3 hT3 hF3 hp c0
            have hf : OrdA q p w.heap.size K w w3 (k + 1) := ⟨F3, _, _, _, hM3, by simp; omega, hints⟩
            clear hM3 hints
            go_wp2_with fail
            go_roundw
            case rel => exact ⟨k + 1, by omega, by go_num, hf⟩
            case measure => simp [intOf]; omega
      · clear hA hr
        obtain rfl : k = len := by omega
        have hbs := hM.bel.size
        have hlt : s.c.length + s.d.length ≤ k := by omega
        have hdr : (s.dr : Int) = (k : Int) - ((s.c ++ s.d).length : Int) := by simp; omega
        have hT : OrdT q p w.heap.size K w wr s.c s.d v0 v1 s.dr 0 (.slice none 0 0) := ⟨F, s, [], ⟨hM, Own.nil _ _, by simp [Value.ownBlock]⟩, by simp, .inl rfl, rfl⟩
        clear hM hcnt
        generalize s.c = xs at *
        generalize s.d = ys at *
        generalize s.dr = dr at *
        clear s
        go_wp2_with fail
        go_loopw [10, 11] (fun v i wr => ∃ j : Nat, j ≤ k + 1 ∧ i = .int .i64 j ∧ OrdT q p w.heap.size K w wr xs ys v0 v1 dr j v) (fun _ i _ => k + 1 - (intOf i).toNat)
        case atStart => exact ⟨0, Nat.zero_le _, rfl, hT⟩
        case round =>
          obtain ⟨j, hj, rfl, F, s, gs, hG, hall, hor, hsd⟩ := hrel
          have hbs := hG.m.bel.size
          by_cases hlt : j < k + 1
          · cases hcd : s.c ++ s.d with
            | nil =>
              have hp := take_nothing s hcd (.int .i64 0)
              go_wp2_with fail
              refine (take_any s K q _ F _ hG.m.hq (by rw [hcd]; exact fun u hu => by cases hu)).mono ?_
              rintro e w3 ⟨rfl, F3, hQ3, hT3, hF3⟩
              rw [hp] at *
              have hf : OrdT q p w.heap.size K w w3 xs ys v0 v1 dr (j + 1) _ := ⟨F3, s, gs, hG.turned hQ3 hT3 hF3 hbs, hall, .inr hcd, hsd⟩
              clear hG hQ3 hT3 hF3 hp
              go_wp2_with fail
              go_roundw
              case rel => exact ⟨j + 1, by omega, by go_num, hf⟩
              case measure => simp [intOf]; omega
            | cons u r =>
              have hin : Ints (u :: r) := fun y hy => hints y (by rw [← hall, hcd]; exact List.mem_append_right _ hy)
              obtain ⟨z, rfl⟩ := hin u (by simp)
              obtain ⟨s', b', hp, hcd', hdr'⟩ := take_something s hcd (.int .i64 0)
              have hgl : Hid (gs.length = j) := keep (by
                rcases hor with h1 | h1
                · exact h1
                · rw [hcd] at h1; cases h1)
              go_wp2_with fail
              refine (take_any s K q _ F _ hG.m.hq (by rw [hcd]; exact hin)).mono ?_
              rintro e w3 ⟨rfl, F3, hQ3, hT3, hF3⟩
              rw [hp] at *
              have hG3 := hG.turned hQ3 hT3 hF3 hbs
              have hbs3 := hG3.m.bel.size
              clear hG hQ3 hT3 hF3 hp
              obtain ⟨ag, capg, rfl, -, -, -⟩ := hG3.hg.form
              have hnew : ∀ wz : World, (wz.alloc (.cells #[.int .i64 z] 3)).cell? ⟨wz.heap.size, 0, none⟩ = some (.int .i64 z) := fun wz => (Blk.made wz 3 #[.int .i64 z]).at_ rfl
              go_wp2_with (at_builtin; refine wpList_append_one _ rfl (.tmp 71) (.tmp 73) 28 rfl w.heap.size 3 i0 (.int .i64 0) 8 Try.underlying28 hi hz0 hz1 hz2 rfl (.slice ag gs.length capg) gs rfl (hG3.hg.alloc _) w3.heap.size 1 (.int .i64 z) rfl (hnew _) rfl (by have := hgl.out; omega) (by omega) (by simp; omega) ?_; intro v4 w4 hown4 hg4 hv4; have hG5 := keep (hG3.app _ hg4 hown4 hv4 hbs3); obtain ⟨a4, cap4, rfl, -, -, -⟩ := hown4.form; rw [List.length_append, List.length_singleton] at *; clear hg4 hv4 hG3 hnew hown4)
              have hf : OrdT q p w.heap.size K w w4 xs ys v0 v1 dr (j + 1) _ := ⟨F3, s', _, hG5.out, by rw [hcd', ← hall, hcd]; simp, .inl (by have := hgl.out; simp; omega), by omega⟩
              clear hG5
              go_roundw
              case rel => exact ⟨j + 1, by omega, by go_num, hf⟩
              case measure => simp [intOf]; omega
          · obtain ⟨rfl, hgs⟩ : s.dr = dr ∧ gs = xs ++ ys := by
              refine ⟨hsd, ?_⟩
              rcases hor with h1 | h1
              · have h2 := congrArg List.length hall
                rw [List.length_append] at h2
                have h3 : (s.c ++ s.d).length = 0 := by rw [List.length_append] at h2 ⊢; simp only [List.length_append] at h2; omega
                rw [List.eq_nil_of_length_eq_zero h3, List.append_nil] at hall
                exact hall
              · rw [h1, List.append_nil] at hall; exact hall
            rw [hgs] at hG
            clear hgs hor hall hT
            obtain ⟨L, hL⟩ : ∃ L, L = xs ++ ys := ⟨_, rfl⟩
            rw [← hL] at hG hdr
            have hints' : Ints L := by rw [hL]; exact hints
            have hL200 : L.length ≤ 200 := by rw [hL, List.length_append]; omega
            have HLL := keep hL
            clear hL
            have hin1 : ∀ u ∈ xs, u.oneCell' = true := fun u hu => by obtain ⟨z, rfl⟩ := hints u (List.mem_append_left _ hu); rfl
            have hin0 : ∀ u ∈ ys, u.oneCell' = true := fun u hu => by obtain ⟨z, rfl⟩ := hints u (List.mem_append_right _ hu); rfl
            obtain ⟨ag, capg, rfl, -, -, -⟩ := hG.hg.form
            obtain ⟨a0, cap0, rfl, -, -, -⟩ := hG.m.h0.form
            obtain ⟨a1, cap1, rfl, -, -, -⟩ := hG.m.h1.form
            have HLT := keep hlt
            have HD := keep hdr
            clear hdr
            have cm1 : ∀ u, (mix [] wr u).cell? ⟨p, 1, none⟩ = some (.slice a1 xs.length cap1) := fun u => (mix_cell _ wr u (p := ⟨p, 1, none⟩) hG.m.hp.lt (by simp)).trans (hG.m.hp.at_ rfl)
            have cm0 : ∀ u, (mix [] wr u).cell? ⟨p, 0, none⟩ = some (.slice a0 ys.length cap0) := fun u => (mix_cell _ wr u (p := ⟨p, 0, none⟩) hG.m.hp.lt (by simp)).trans (hG.m.hp.at_ rfl)
            go_wp2_with fail
            refine Mixed.wp_region (fun w' => ∃ u, w' = mix [] wr u) [(0, 1), (0, 2), (0, 4), (0, 5), (2, 0), (2, 3), (2, 6), (1, 7)] (by kernel_rfl) (by kernel_rfl) (Mx.drew0 _ _) ?_
            refine Mixed.reads (k := 0) (.inl ⟨rfl, rfl⟩) _ [1, 2, 4, 5] _ (by kernel_rfl) ?_
            simp only [List.filterMap_cons, List.filterMap_nil, List.getElem?_toArray, List.getElem?_cons_zero, List.getElem?_cons_succ]
            show wpQuiet _ _ _ _ [_, _, _, _] _
            iterate 4 go_big_quiet_step (fail)
            refine wpQuiet_nil ?_
            refine Mixed.effect (i := 0) rfl rfl ?_
            intro Q hQ
            go_wp2_with fail
            refine hQ _ _ (Mx.of ?_) ?_
            · exact ((Keeps.refl _ _).alloc _).drew
            refine Mixed.effect (i := 3) rfl rfl ?_
            intro Q hQ
            simp only [List.getElem_toArray, List.getElem_cons_zero, List.getElem_cons_succ]
            refine (wpList_append_src _ rfl (.tmp 75) (.tmp 77) 28 28 rfl w.heap.size 3 i0 (.int .i64 0) 8 Try.underlying28 hi hz0 hz1 hz2 rfl (.slice (some ⟨wr.heap.size, 0, none⟩) 0 0) [] rfl (own_empty hbs (by simp))
              (.slice a1 xs.length cap1) xs.length xs rfl (((hG.m.h1.alloc _).drew).src Try.underlying28 hin1) (by have := HLT.out; simp; omega) (by omega) (by simp; omega) ?_)
            intro v5 w5 hown5 hg5 hv5
            have hK5 : Keeps [] wr w5 := ((Keeps.refl [] wr).alloc (.cells #[] 3)).drew.grown hg5 (fun k' e hlt' => by simp [Value.ownBlock] at e; omega)
            have hv5' : ∀ k', v5.ownBlock = some k' → wr.heap.size ≤ k' := fun k' hk' => by
              rcases hv5 k' hk' with h1 | h1
              · simp [Value.ownBlock] at h1; omega
              · simp at h1; omega
            have HB5 : w.heap.size ≤ w5.heap.size := Nat.le_trans hbs hK5.size
            obtain ⟨a5, cap5, rfl, -, -, -⟩ := hown5.form
            simp only [Act.put, List.setIfInBounds_toArray, List.set_cons_succ, List.set_cons_zero]
            refine hQ _ _ (Mx.of hK5) ?_
            clear hQ hg5 hv5
            refine Mixed.effect (i := 6) rfl rfl ?_
            intro Q hQ
            simp only [List.getElem_toArray, List.getElem_cons_zero, List.getElem_cons_succ]
            refine (wpList_append_src _ rfl (.tmp 78) (.tmp 80) 28 28 rfl w.heap.size 3 i0 (.int .i64 0) 8 Try.underlying28 hi hz0 hz1 hz2 rfl (.slice a5 ([] ++ xs).length cap5) ([] ++ xs) rfl hown5
              (.slice a0 ys.length cap0) ys.length ys rfl ((hG.m.h0.keeps hK5 (by simp)).src Try.underlying28 hin0) (by have := HLT.out; simp; omega) (by omega) HB5 ?_)
            intro v6 w6 hown6 hg6 hv6
            have hK6 : Keeps [] wr w6 := hK5.grown hg6 (fun k' e hlt' => by have := hv5' k' e; omega)
            rw [List.nil_append, ← HLL.out] at hown6
            obtain ⟨a6, cap6, rfl, -, -, -⟩ := hown6.form
            simp only [Act.put, List.setIfInBounds_toArray, List.set_cons_succ, List.set_cons_zero]
            refine hQ _ _ (Mx.of hK6) ?_
            refine Mixed.reads (k := 1) (.inr ⟨rfl, rfl⟩) _ [7] _ (by kernel_rfl) ?_
            simp only [List.filterMap_cons, List.filterMap_nil, List.getElem?_toArray, List.getElem?_cons_zero, List.getElem?_cons_succ]
            show wpQuiet _ _ _ _ [_] _
            iterate 1 go_big_quiet_step (fail)
            refine wpQuiet_nil ?_
            unfold Mixed.HL
            have hC : OrdC q w.heap.size K w w6 s L (.slice ag L.length capg) (.slice a6 L.length cap6) :=
              ⟨F, hG.m.hq.keep hK6.size (fun k' hk' => hK6.block k' (hG.m.hq.size k' hk').2 (by simp)), hG.hg.keeps hK6 (by simp), hown6, hG.m.bel.trans (hK6.toBelow hbs (by simp))⟩
            clear hG hK6 hown6 hg6 hv6 hQ hown5 hK5 hv5' cm0 cm1 hin0 hin1
            generalize hn : L.length = n at *
            go_wp2_with fail
            go_loopw [16] (fun i wz => ∃ j : Nat, j ≤ n ∧ i = .int .i64 j ∧ OrdC q w.heap.size K w wz s L (.slice ag n capg) (.slice a6 n cap6)) (fun i _ => n - (intOf i).toNat)
            case atStart => exact ⟨0, Nat.zero_le _, rfl, hC⟩
            case round =>
              obtain ⟨j, hj, rfl, hC'⟩ := hrel
              by_cases hlt2 : j < n
              · have hC2 := hC'
                obtain ⟨F', hQ', hg', h6', hb'⟩ := hC'
                subst hn
                obtain ⟨g1, o1, rfl, _, _, e1⟩ := hg'.at_ hlt2
                obtain ⟨g2, o2, rfl, _, _, e2⟩ := h6'.at_ hlt2
                obtain ⟨z, hz⟩ := hints' L[j] (List.getElem_mem hlt2)
                rw [hz] at e1 e2
                clear hQ' hg' h6' hb' hC hz
                generalize L.length = n at *
                have g0 : ((n : Int) != (n : Int)) = false := by simp
                go_wp2_with fail
                go_quiet (fail)
                go_wp2_with fail
                go_roundw
                case rel => exact ⟨j + 1, by omega, by go_num, hC2.many _⟩
                case measure => simp [intOf]; omega
              · obtain ⟨F', hQ', hg', h6', hb'⟩ := hC'
                clear hg' h6' hC
                have hD := HD.out
                have g0 : ((n : Int) == (n : Int)) = true := by simp
                have g1 : ((s.dr : Int) == (k : Int) - (n : Int)) = true := by simp; omega
                go_wp2_with fail
                refine (dropped_any s K q _ F' _ hQ').mono ?_
                rintro e w7 ⟨rfl, rfl⟩
                go_wp2_with fail
                go_ret
                exact ⟨rfl, hb'⟩
end Go.Proofs.Ytldjlahkfdcllaa

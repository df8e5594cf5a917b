/-
  window: WindowShifts, the plain law and the walk.
-/
import Derived.Test.YtaaokbchpbedgaaAwake
import Derived.Test.YtaaokbchpbedgaaArgs
namespace Go.Proofs.Ytaaokbchpbedgaa
open Go.RowKit

/-! ### The plain law -/
/-- t is s, all numbers greater by d. -/
def Shifted (d : Nat) (s t : St) : Prop := ∃ S, Inv s S ∧ Inv t (fun x => ∃ y, S y ∧ x = y + d) ∧ s.live = t.live ∧ (s.live = true → t.top.toNat = s.top.toNat + d)
theorem shifted_start (d : Nat) : Shifted d ⟨0, 0, false⟩ ⟨0, 0, false⟩ := ⟨_, inv_start, by simpa using inv_start, rfl, by simp⟩
theorem shifted_has {d : Nat} {s t : St} (h : Shifted d s t) {n m : UInt64} (hm : m.toNat = n.toNat + d) : t.has m = s.has n := by
  obtain ⟨S, h1, h2, h3, h4⟩ := h
  rw [Bool.eq_iff_iff, has_iff h1, has_iff h2, ← h3]
  constructor
  · rintro ⟨g1, g2, g3⟩
    have h4 := h4 g1
    refine ⟨g1, by omega, ?_⟩
    rcases g3 with g3 | ⟨y, g3, g4⟩
    · left; omega
    · right; rwa [show n.toNat = y by omega]
  · rintro ⟨g1, g2, g3⟩
    have h4 := h4 g1
    refine ⟨g1, by omega, ?_⟩
    rcases g3 with g3 | g3
    · left; omega
    · right; exact ⟨_, g3, hm⟩
theorem shifted_take {d : Nat} {s t : St} (h : Shifted d s t) {n m : UInt64} (hm : m.toNat = n.toNat + d) : Shifted d (s.take n) (t.take m) := by
  have hh := shifted_has h hm
  cases hs : s.has n with
  | true => rw [take_same hs, take_same (hh.trans hs)]; exact h
  | false =>
    obtain ⟨S, h1, h2, h3, h4⟩ := h
    refine ⟨_, take_inv h1 n hs, ?_, ?_, ?_⟩
    · have := take_inv h2 m (hh.trans hs)
      refine cast (congrArg (Inv (t.take m)) (funext fun x => propext ⟨?_, ?_⟩)) this
      · rintro (rfl | ⟨y, g1, g2⟩)
        · exact ⟨n.toNat, .inl rfl, hm⟩
        · exact ⟨y, .inr g1, g2⟩
      · rintro ⟨y, rfl | g1, g2⟩
        · left; omega
        · exact .inr ⟨y, g1, g2⟩
    · unfold St.take
      rw [hs, hh.trans hs, h3]
      simp only [Bool.false_eq_true, if_false]
      split
      · rfl
      · split <;> split <;> rfl
    · intro _
      unfold St.take
      rw [hs, hh.trans hs, ← h3]
      simp only [Bool.false_eq_true, if_false]
      by_cases hl : s.live = false
      · rw [if_pos hl, if_pos hl]; exact hm
      · rw [if_neg hl, if_neg hl]
        have h4 := h4 (by simpa using hl)
        by_cases hlt : s.top < n
        · have hlt' : t.top < m := by rw [UInt64.lt_iff_toNat_lt] at hlt ⊢; omega
          rw [if_pos hlt, if_pos hlt']; exact hm
        · have hlt' : ¬ t.top < m := by rw [UInt64.lt_iff_toNat_lt] at hlt ⊢; omega
          rw [if_neg hlt, if_neg hlt']; exact h4
theorem sum_nat (x d : UInt32) : (x.toUInt64 + d.toUInt64).toNat = x.toUInt64.toNat + d.toNat := by
  have h : (x.toUInt64 + d.toUInt64).toNat = (x.toUInt64.toNat + d.toUInt64.toNat) % 18446744073709551616 := UInt64.toNat_add _ _
  have := lt32 x
  have := lt32 d
  rw [UInt32.toNat_toUInt64] at h ⊢
  rw [UInt32.toNat_toUInt64] at h
  omega

/-! ### The walk -/
/-- What holds at every round's head. -/
def ShRel (d b1 b2 : Nat) (w wr : World) : Prop := ∃ s t, Blk wr b1 30 (St.cells s) ∧ Blk wr b2 30 (St.cells t) ∧ Shifted d s t ∧ Below w.heap.size w wr
set_option maxHeartbeats 1000000 in
theorem shifts_walk (a : Option Addr) (len cap : Nat) (us : List UInt32) (d : UInt32) (w : World) (hr : InRow v32 w a len us) :
    Calls Try.prog 3 #[.slice a len cap, v32 d] w fun e w' => e = .returned (.bool true) ∧ Below w.heap.size w w' := by
  obtain ⟨hl, hmax, hr⟩ := hr
  by_cases h200 : 200 < len
  · have g200 : (200 : Int) < (len : Int) := by omega
    clear hr
    go_enter Try.func3, Try.ntmps3
    go_wp2_with fail
    refine (awake_any _).mono ?_; rintro e w1 ⟨rfl, hb1⟩
    go_wp2_with fail
    refine (awake_any _).mono ?_; rintro e w2 ⟨rfl, hb2⟩
    go_wp2_with fail
    go_ret
    exact ⟨rfl, hb1.trans (hb2.mono hb1.size)⟩
  · have g200 : ¬ (200 : Int) < (len : Int) := by omega
    go_enter Try.func3, Try.ntmps3
    go_wp2_with fail
    refine (awake_any _).mono ?_; rintro e w1 ⟨rfl, hb1⟩
    go_wp2_with fail
    have hW : ShRel d.toNat w1.heap.size (w1.heap.size + 1) w ((w1.alloc (.cells #[.int .u64 0, .int .u64 0, .bool false] 30)).alloc (.cells #[.int .u64 0, .int .u64 0, .bool false] 30)) :=
      ⟨_, _, (new_win w1).alloc _, by have := new_win (w1.alloc (.cells #[.int .u64 0, .int .u64 0, .bool false] 30)); simpa using this, shifted_start _, ((hb1.alloc hb1.size _).alloc (by have := hb1.size; simp; omega) _)⟩
    have hne : w1.heap.size ≠ w1.heap.size + 1 := by omega
    have hbs := hb1.size
    have hbs2 : w.heap.size ≤ w1.heap.size + 1 := by omega
    clear hb1
    generalize hg1 : w1.heap.size = b1 at *
    generalize hg2 : b1 + 1 = b2 at *
    clear hg1 hg2
    go_loopw [7] (fun i wr => ∃ k : Nat, k ≤ len ∧ i = .int .i64 k ∧ ShRel d.toNat b1 b2 w wr) (fun i _ => len - (intOf i).toNat)
    case atStart => exact ⟨0, Nat.zero_le _, rfl, hW⟩
    case round =>
      obtain ⟨k, hk, rfl, s, t, hB1, hB2, hS, hbel⟩ := hrel
      by_cases hlt : k < len
      · go_wp2_with fail
        obtain h0 | ⟨b, off, rfl, hb, hc⟩ := hr
        · omega
        have hbb : b < w.heap.size := hb
        have c0 : wr.cell? ⟨b, off + k, none⟩ = some (v32 us[k]) := (hbel.cell hb).trans (hc k (by omega))
        have cm : ∀ u, (mix [b1, b2] wr u).cell? ⟨b, off + k, none⟩ = some (v32 us[k]) := fun u => (mix_cell [b1, b2] wr u (by have := hbel.size; simp; omega) (by simp; omega)).trans c0
        clear hc
        have hx := sum_nat us[k] d
        have HE := keep (shifted_has hS hx)
        have HS := keep (shifted_take hS hx)
        clear hx hS
        generalize us[k] = x at *
        refine Mixed.wp_region (fun w' => ∃ u, w' = mix [b1, b2] wr u) [(1, 0), (1, 1), (1, 2), (1, 3), (1, 4), (1, 5), (0, 7), (0, 8), (0, 9), (0, 10), (0, 11), (0, 12), (0, 13), (0, 14), (0, 15), (2, 6), (2, 16), (1, 17)] (by kernel_rfl) (by kernel_rfl) (Mx.drew0 _ _) ?_
        refine Mixed.reads (k := 1) (.inr ⟨rfl, rfl⟩) _ [0, 1, 2, 3, 4, 5] _ (by kernel_rfl) ?_
        simp only [List.filterMap_cons, List.filterMap_nil, List.getElem?_toArray, List.getElem?_cons_zero, List.getElem?_cons_succ]
        show wpQuiet _ _ _ _ [_, _, _, _, _, _] _
        iterate 6 go_big_quiet_step (fail)
        refine wpQuiet_nil ?_
        refine Mixed.reads (k := 0) (.inl ⟨rfl, rfl⟩) _ [7, 8, 9, 10, 11, 12, 13, 14, 15] _ (by kernel_rfl) ?_
        simp only [List.filterMap_cons, List.filterMap_nil, List.getElem?_toArray, List.getElem?_cons_zero, List.getElem?_cons_succ]
        show wpQuiet _ _ _ _ [_, _, _, _, _, _, _, _, _] _
        iterate 9 go_big_quiet_step (fail)
        refine wpQuiet_nil ?_
        refine Mixed.effect (i := 6) rfl rfl ?_
        intro Q hQ
        go_wp2_with fail
        refine (take_any s _ b1 _ hB1.drew).mono ?_
        rintro e w2 ⟨rfl, hC1, hK1⟩
        go_wp2_with fail
        have hKa : Keeps [b1, b2] wr w2 := ⟨hK1.os, hK1.tape, hK1.output, hK1.size, fun i hi hn => hK1.block i hi (fun h => hn (by simp at h; simp [h]))⟩
        refine hQ _ _ (Mx.of hKa) ?_
        have hC2 : Blk w2 b2 30 t.cells := hK1.blk hB2.drew (by simp; omega)
        refine Mixed.effect (i := 16) rfl rfl ?_
        intro Q hQ
        go_wp2_with fail
        refine (take_any t _ b2 _ hC2).mono ?_
        rintro e w3 ⟨rfl, hD2, hK2⟩
        have hD1 : Blk w3 b1 30 (s.take x.toUInt64).cells := hK2.blk hC1 (by simp; omega)
        have hKb : Keeps [b1, b2] wr w3 := hKa.trans ⟨hK2.os, hK2.tape, hK2.output, hK2.size, fun i hi hn => hK2.block i hi (fun h => hn (by simp at h; simp [h]))⟩
        go_wp2_with fail
        refine hQ _ _ (Mx.of hKb) ?_
        have he : (s.err x.toUInt64 != t.err (x.toUInt64 + d.toUInt64)) = false := by unfold St.err; rw [HE.out]; simp
        refine Mixed.reads (k := 1) (.inr ⟨rfl, rfl⟩) _ [17] _ (by kernel_rfl) ?_
        simp only [List.filterMap_cons, List.filterMap_nil, List.getElem?_toArray, List.getElem?_cons_zero, List.getElem?_cons_succ]
        show wpQuiet _ _ _ _ [_] _
        iterate 1 go_big_quiet_step (fail)
        refine wpQuiet_nil ?_
        unfold Mixed.HL
        go_wp2_with fail
        go_roundw
        case rel => exact ⟨k + 1, by omega, by go_num, _, _, hD1, hD2, HS.out, hbel.trans (hKb.toBelow (by have := hbel.size; omega) (by simp; omega))⟩
        case measure => simp [intOf]; omega
      · go_wp2_with fail
        go_ret
        exact ⟨rfl, hbel⟩
end Go.Proofs.Ytaaokbchpbedgaa

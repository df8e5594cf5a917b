/-
  window: WindowPlays, the plain law and the walk.
-/
import Derived.Test.YtaaokbchpbedgaaAwake
import Derived.Test.YtaaokbchpbedgaaArgs
import Derived.Test.YtaaokbchpbedgaaRef
namespace Go.Proofs.Ytaaokbchpbedgaa
open Go.RowKit

/-! ### The plain law -/
/-- The window's state is that of the list of the numbers that were taken. -/
def Plays (s : St) (m : List UInt64) : Prop := Inv s (fun x => ∃ n ∈ m, n.toNat = x) ∧ s.live = !m.isEmpty ∧ s.top = topL m
theorem plays_start : Plays ⟨0, 0, false⟩ [] := ⟨by simpa using inv_start, rfl, rfl⟩
theorem plays_may {s : St} {m : List UInt64} (h : Plays s m) (n : UInt64) : mayL m n = !s.has n := by
  obtain ⟨h1, h2, h3⟩ := h
  have hi := has_iff h1 n
  unfold mayL
  rw [Bool.eq_iff_iff]
  simp only [Bool.and_eq_true, Bool.not_eq_true', Bool.or_eq_true, decide_eq_true_eq, List.isEmpty_iff, ← h3]
  rw [show (s.has n = false) ↔ ¬ (s.has n = true) from by simp, hi]
  rcases h1 with ⟨g1, g2⟩ | ⟨g1, g2, g3, g4⟩
  · have hm : m = [] := by rw [g1] at h2; cases m <;> simp at h2 ⊢
    subst hm
    simp [g1]
  · have hm : m ≠ [] := by rintro rfl; rw [g1] at h2; cases h2
    have hmem : m.contains n = true ↔ ∃ y ∈ m, y.toNat = n.toNat := by
      rw [List.contains_iff_mem]
      constructor
      · intro hh; exact ⟨n, hh, rfl⟩
      · rintro ⟨y, hy, e⟩; rw [← UInt64.toNat_inj.1 e]; exact hy
    rw [show (m.contains n = false) ↔ ¬ (m.contains n = true) from by simp, hmem]
    by_cases hlt : s.top < n
    · rw [UInt64.lt_iff_toNat_lt] at hlt
      constructor
      · intro _ ⟨_, h5, _⟩; omega
      · intro _
        refine ⟨fun hx => ?_, .inl (.inr (by rw [UInt64.lt_iff_toNat_lt]; exact hlt))⟩
        have := g3 _ hx; omega
    · have hnlt := hlt
      rw [UInt64.lt_iff_toNat_lt] at hlt
      have hs := sub_nat s.top n (by omega)
      constructor
      · rintro ⟨h4, h5⟩ ⟨_, h6, h7⟩
        rcases h7 with h7 | h7
        · rcases h5 with (h5 | h5) | h5
          · exact hm h5
          · exact hnlt h5
          · rw [UInt64.lt_iff_toNat_lt, hs] at h5
            have h5' : s.top.toNat - n.toNat < 64 := h5
            omega
        · exact h4 h7
      · intro h4
        refine ⟨fun hx => h4 ⟨g1, by omega, .inr hx⟩, .inr ?_⟩
        rw [UInt64.lt_iff_toNat_lt, hs]
        show s.top.toNat - n.toNat < 64
        rcases Nat.lt_or_ge (s.top.toNat - n.toNat) 64 with hh | hh
        · exact hh
        · exact absurd ⟨g1, by omega, .inl hh⟩ h4
theorem plays_take {s : St} {m : List UInt64} (h : Plays s m) {n : UInt64} (hh : s.has n = false) : Plays (s.take n) (m ++ [n]) := by
  obtain ⟨h1, h2, h3⟩ := h
  refine ⟨cast (congrArg (Inv (s.take n)) (funext fun x => propext ⟨?_, ?_⟩)) (take_inv h1 n hh), ?_, ?_⟩
  · rintro (rfl | ⟨y, g1, g2⟩)
    · exact ⟨n, by simp, rfl⟩
    · exact ⟨y, by simp [g1], g2⟩
  · rintro ⟨y, g1, g2⟩
    rcases List.mem_append.1 g1 with g1 | g1
    · exact .inr ⟨y, g1, g2⟩
    · rw [List.mem_singleton] at g1; subst g1; exact .inl g2.symm
  · have : (s.take n).live = true := by
      unfold St.take
      rw [hh]
      simp only [Bool.false_eq_true, if_false]
      split
      · rfl
      · split <;> rfl
    rw [this]
    cases m <;> rfl
  · have ht : topL (m ++ [n]) = maxOf s.top n := by unfold topL; rw [List.foldl_append]; rw [h3]; rfl
    rw [ht]
    unfold St.take maxOf
    rw [hh]
    simp only [Bool.false_eq_true, if_false]
    by_cases hl : s.live = false
    · rw [if_pos hl]
      have hm : m = [] := by rw [hl] at h2; cases m <;> simp at h2 ⊢
      subst hm
      have h0 : s.top = 0 := h3
      rw [h0]
      show n = _
      split
      · rfl
      · rename_i hlt
        rw [UInt64.lt_iff_toNat_lt] at hlt
        have : n.toNat = 0 := by simp at hlt; omega
        exact UInt64.toNat_inj.1 this
    · rw [if_neg hl]
      split <;> rfl
theorem plays_len {s : St} {m : List UInt64} (h : Plays s m) : s.live = decide (0 < (m.length : Int)) := by
  rw [h.2.1]; cases m <;> simp <;> omega

/-! ### The walk -/
theorem info26 : (Try.prog.info? 26).map (fun i => (i.zero, i.size, i.bytes)) = some (some (.int .u64 0), 1, 8) := by kernel_rfl
theorem own_reads {w : World} {base : Nat} {a : Option Addr} {n c : Nat} {xs : List Value} (h : Own w base (.slice a n c) xs) : Reads w a xs := by
  rcases h with ⟨_, h⟩ | ⟨g, off, cap, e, _, _, _, _, _, h⟩
  · exact .inl h
  · injection e with e _ _; exact .inr ⟨g, off, e, h⟩
/-- What holds at every round's head, k rounds being done. -/
def PlRel (b1 : Nat) (w wr : World) (k : Nat) (v : Value) : Prop :=
  ∃ s m, Blk wr b1 30 (St.cells s) ∧ Plays s m ∧ m.length ≤ k ∧ Own wr (b1 + 1) v (m.map v64) ∧ b1 < wr.heap.size ∧ Below w.heap.size w wr
set_option maxHeartbeats 2000000 in
theorem plays_walk (a : Option Addr) (len cap : Nat) (us : List UInt64) (w : World) (hr : InRow v64 w a len us) :
    Calls Try.prog 7 #[.slice a len cap] w fun e w' => e = .returned (.bool true) ∧ Below w.heap.size w w' := by
  obtain ⟨hl, hmax, hr⟩ := hr
  by_cases h200 : 200 < len
  · have g200 : (200 : Int) < (len : Int) := by omega
    clear hr
    go_enter Try.func7, Try.ntmps7
    go_wp2_with fail
    refine (awake_any _).mono ?_; rintro e w1 ⟨rfl, hb1⟩
    go_wp2_with fail
    refine (awake_any _).mono ?_; rintro e w2 ⟨rfl, hb2⟩
    go_wp2_with fail
    go_ret
    exact ⟨rfl, hb1.trans (hb2.mono hb1.size)⟩
  · have g200 : ¬ (200 : Int) < (len : Int) := by omega
    obtain ⟨i0, hi, hz0, hz1, hz2⟩ := info_parts info26
    go_enter Try.func7, Try.ntmps7
    go_wp2_with fail
    refine (awake_any _).mono ?_; rintro e w1 ⟨rfl, hb1⟩
    go_wp2_with fail
    have hW : PlRel w1.heap.size w (w1.alloc (.cells #[.int .u64 0, .int .u64 0, .bool false] 30)) 0 (.slice none 0 0) := ⟨_, _, new_win w1, plays_start, Nat.le_refl _, Own.nil _ _, by simp, hb1.alloc hb1.size _⟩
    have hbs := hb1.size
    clear hb1
    generalize hg1 : w1.heap.size = b1 at *
    clear hg1
    go_loopw [4, 5] (fun v i wr => ∃ k : Nat, k ≤ len ∧ i = .int .i64 k ∧ PlRel b1 w wr k v) (fun _ i _ => len - (intOf i).toNat)
    case atStart => exact ⟨0, Nat.zero_le _, rfl, hW⟩
    case round =>
      obtain ⟨k, hk, rfl, s, m, hB1, hP, hml, hown, hbsz, hbel⟩ := hrel
      by_cases hlt : k < len
      · obtain h0 | ⟨b, off, rfl, hb, hc⟩ := hr
        · omega
        have c0 : wr.cell? ⟨b, off + k, none⟩ = some (v64 us[k]) := (hbel.cell hb).trans (hc k (by omega))
        clear hc
        generalize us[k] = x at *
        obtain ⟨ao, capo, rfl, _, _, _⟩ := hown.form
        have hrd := own_reads hown
        rw [List.length_map]
        have hown' : Own wr (b1 + 1) (.slice ao m.length capo) (m.map v64) := by have := hown; rw [List.length_map] at this; exact this
        clear hown
        cases hh : s.has x
        · have HM : Hid (mayL m x = true) := keep (by rw [plays_may hP x, hh]; rfl)
          have HE : Hid (s.err x = 0) := keep (by unfold St.err; rw [hh]; rfl)
          have HP := keep (plays_take hP hh)
          clear hh hP
          go_wp2_with fail
          refine (may_ref ao m.length capo m x _ rfl (by omega) hrd).mono ?_
          rintro e w2 ⟨rfl, rfl⟩
          rw [HM.out]
          go_wp2_with fail
          refine (take_any s x b1 _ hB1).mono ?_
          rintro e w3 ⟨rfl, hB3, hK3⟩
          rw [HE.out]
          have hown3 : Own w3 (b1 + 1) (.slice ao m.length capo) (m.map v64) := hown'.keeps hK3 (fun i hi => by simp at hi; subst hi; exact hown'.ne (by omega))
          have hbel3 : Below w.heap.size w w3 := hbel.trans (hK3.toBelow hbel.size (by simp; omega))
          have hsz3 : b1 < w3.heap.size := Nat.lt_of_lt_of_le hbsz hK3.size
          have c3 : w3.cell? ⟨b, off + k, none⟩ = some (v64 x) := (hK3.cell (p := ⟨b, off + k, none⟩) (by have := hbel.size; simp; omega) (by simp; omega)).trans c0
          clear hK3 hown' hbel hB1 hrd c0
          have hnew : ∀ wz : World, (wz.alloc (.cells #[v64 x] 26)).cell? ⟨wz.heap.size, 0, none⟩ = some (v64 x) := fun wz => (Blk.made wz 26 #[v64 x]).at_ rfl
          go_wp2_with (at_builtin; refine wpList_append_one _ rfl (.tmp 54) (.tmp 59) 39 rfl (b1 + 1) 26 i0 (.int .u64 0) 8 Try.underlying39 hi hz0 hz1 hz2 rfl (.slice ao m.length capo) (m.map v64) rfl (hown3.alloc _) w3.heap.size 1 (v64 x) rfl (hnew _) rfl (by rw [List.length_map]; omega) (by omega) (by simp; omega) ?_; intro v4 w4 hown4 hg4 _)
          have hB4 : Blk w4 b1 30 (s.take x).cells := (hB3.alloc _).grown hg4 (fun e => (hown3.ne (k := b1) (by omega)) e.symm)
          have hbel4 : Below w.heap.size w w4 := (hbel3.alloc hbel3.size _).grown hg4 (by have := hbel3.size; simp; omega) (fun k hk => by have := (hown3.row k hk).1; omega)
          have hsz4 : b1 < w4.heap.size := by have := hg4.size; simp at this; omega
          have e4 : m.map v64 ++ [v64 x] = (m ++ [x]).map v64 := by simp
          rw [e4] at hown4
          obtain ⟨a4, cap4, rfl, _, _, _⟩ := hown4.form
          have el : ((m ++ [x]).map v64).length = (m ++ [x]).length := List.length_map _
          rw [el] at hown4 ⊢
          have hml4 : (m ++ [x]).length ≤ k + 1 := by simp; omega
          clear hB3 hown3 hbel3 hg4 hnew e4 el c3 hsz3 hml
          generalize hm4 : m ++ [x] = m4 at *
          clear hm4
          generalize s.take x = s4 at *
          refine (top_any s4 b1 _ hB4).mono ?_
          rintro e w5 ⟨rfl, hb5⟩
          go_wp2_with fail
          refine (top_ref a4 m4.length cap4 m4 _ rfl (by omega) (own_reads (hown4.below hb5))).mono ?_
          rintro e w6 ⟨rfl, rfl⟩
          have h1 : (s4.top != topL m4) = false := by rw [HP.out.2.2]; simp
          have h2 := plays_len HP.out
          have fin : PlRel b1 w w5 (k + 1) (.slice a4 m4.length cap4) := ⟨s4, m4, hB4.kept hb5, HP.out, by omega, hown4.below hb5, Nat.lt_of_lt_of_le hsz4 hb5.size, hbel4.trans (hb5.mono hbel4.size)⟩
          clear hB4 hown4 hb5 hbel4
          go_wp2_with fail
          go_roundw
          case rel => exact ⟨k + 1, by omega, by go_num, fin⟩
          case measure => simp [intOf]; omega
        · have HM : Hid (mayL m x = false) := keep (by rw [plays_may hP x, hh]; rfl)
          have HE : Hid (s.err x = 6) := keep (by unfold St.err; rw [hh]; rfl)
          have HS := keep (take_same hh)
          have HP := keep hP
          clear hh hP
          go_wp2_with fail
          refine (may_ref ao m.length capo m x _ rfl (by omega) hrd).mono ?_
          rintro e w2 ⟨rfl, rfl⟩
          rw [HM.out]
          go_wp2_with fail
          refine (take_any s x b1 _ hB1).mono ?_
          rintro e w3 ⟨rfl, hB3, hK3⟩
          rw [HE.out]
          have hown3 : Own w3 (b1 + 1) (.slice ao m.length capo) (m.map v64) := hown'.keeps hK3 (fun i hi => by simp at hi; subst hi; exact hown'.ne (by omega))
          have hbel3 : Below w.heap.size w w3 := hbel.trans (hK3.toBelow hbel.size (by simp; omega))
          have hsz3 : b1 < w3.heap.size := Nat.lt_of_lt_of_le hbsz hK3.size
          have c3 : w3.cell? ⟨b, off + k, none⟩ = some (v64 x) := (hK3.cell (p := ⟨b, off + k, none⟩) (by have := hbel.size; simp; omega) (by simp; omega)).trans c0
          clear hK3 hown' hbel hB1 hrd c0
          rw [HS.out] at hB3
          go_wp2_with fail
          refine (top_any s b1 _ hB3).mono ?_
          rintro e w4 ⟨rfl, hb4⟩
          go_wp2_with fail
          refine (top_ref ao m.length capo m _ rfl (by omega) (own_reads (hown3.below hb4))).mono ?_
          rintro e w5 ⟨rfl, rfl⟩
          have h1 : (s.top != topL m) = false := by rw [HP.out.2.2]; simp
          have h2 := plays_len HP.out
          have fin : PlRel b1 w w4 (k + 1) (.slice ao m.length capo) := ⟨s, m, hB3.kept hb4, HP.out, by omega, hown3.below hb4, Nat.lt_of_lt_of_le hsz3 hb4.size, hbel3.trans (hb4.mono hbel3.size)⟩
          clear hB3 hown3 hb4 hbel3
          go_wp2_with fail
          go_roundw
          case rel => exact ⟨k + 1, by omega, by go_num, fin⟩
          case measure => simp [intOf]; omega
      · go_wp2_with fail
        refine (top_nil _).mono ?_
        rintro e w2 ⟨rfl, rfl⟩
        go_wp2_with fail
        refine Calls.mono (show Calls Try.prog 9 #[.pointer none, v64 1] _ _ from take_nil 1 _) ?_
        rintro e w2 ⟨rfl, rfl⟩
        go_wp2_with fail
        refine Calls.mono (show Calls Try.prog 11 #[.pointer none, v64 1] _ _ from may_nil 1 _) ?_
        rintro e w2 ⟨rfl, rfl⟩
        go_wp2_with fail
        go_ret
        exact ⟨rfl, hbel⟩
end Go.Proofs.Ytaaokbchpbedgaa

/-
  window: WindowNear, the plain law and the walk.
-/
import Derived.Test.YtaaokbchpbedgaaAwake
import Derived.Test.YtaaokbchpbedgaaArgs
namespace Go.Proofs.Ytaaokbchpbedgaa
open Go.RowKit

/-! ### The plain law -/
/-- Of the numbers from base on, 64 of them, f tells which were taken; no other one was. -/
def Near (base : Nat) (s : St) (f : Nat → Bool) : Prop := Inv s (fun x => ∃ j, j < 64 ∧ x = base + j ∧ f j = true)
theorem near_start (base : Nat) : Near base ⟨0, 0, false⟩ (fun _ => false) := by simpa [Near] using inv_start
theorem near_has {base : Nat} {s : St} {f : Nat → Bool} (h : Near base s f) {n : UInt64} {j : Nat} (hj : j < 64) (hn : n.toNat = base + j) : s.has n = f j := by
  rw [Bool.eq_iff_iff, has_iff h]
  constructor
  · rintro ⟨g1, g2, g3⟩
    rcases h with ⟨h1, _⟩ | ⟨_, ⟨i, hi, hi2, _⟩, _, _⟩
    · rw [h1] at g1; cases g1
    · rcases g3 with g3 | ⟨i', hi', hi2', hf⟩
      · omega
      · rwa [show j = i' by omega]
  · intro hf
    have hm : ∃ j, j < 64 ∧ n.toNat = base + j ∧ f j = true := ⟨j, hj, hn, hf⟩
    rcases h with ⟨_, h2⟩ | ⟨h1, _, h3, _⟩
    · exact absurd hm (h2 _)
    · exact ⟨h1, h3 _ hm, .inr hm⟩
theorem near_take {base : Nat} {s : St} {f : Nat → Bool} (h : Near base s f) {n : UInt64} {j : Nat} (hj : j < 64) (hn : n.toNat = base + j) : Near base (s.take n) (fun i => if i = j then true else f i) := by
  have hh := near_has h hj hn
  cases hf : f j with
  | true =>
    rw [take_same (hh.trans hf)]
    have : (fun i => if i = j then true else f i) = f := funext fun i => by
      by_cases hi : i = j
      · subst hi; simp [hf]
      · simp [hi]
    rw [this]; exact h
  | false =>
    refine cast (congrArg (Inv (s.take n)) (funext fun x => propext ⟨?_, ?_⟩)) (take_inv h n (hh.trans hf))
    · rintro (rfl | ⟨i, g1, g2, g3⟩)
      · exact ⟨j, hj, hn, by simp⟩
      · exact ⟨i, g1, g2, by simp [g3]⟩
    · rintro ⟨i, g1, g2, g3⟩
      by_cases hi : i = j
      · subst hi; left; omega
      · exact .inr ⟨i, g1, g2, by simpa [hi] using g3⟩
theorem half_nat (first : UInt64) : (shr64 first 1).toNat = first.toNat / 2 := by
  have h : (1 : UInt64) < 64 := by decide
  unfold shr64
  rw [if_pos h, UInt64.toNat_shiftRight]
  show first.toNat >>> 1 = _
  rw [Nat.shiftRight_eq_div_pow]
theorem near_sum (first : UInt64) (x : UInt8) : (shr64 first 1 + x.toUInt64 % 64).toNat = (shr64 first 1).toNat + x.toNat % 64 := by
  have h : (shr64 first 1 + x.toUInt64 % 64).toNat = ((shr64 first 1).toNat + (x.toUInt64 % 64).toNat) % 18446744073709551616 := UInt64.toNat_add _ _
  have h1 : (x.toUInt64 % 64).toNat = x.toNat % 64 := by rw [UInt64.toNat_mod, UInt8.toNat_toUInt64]; rfl
  have h2 := half_nat first
  have := lt64 first
  rw [h1] at h
  omega

/-! ### The walk -/
/-- What holds at every round's head. -/
def NearRel (base b1 b2 : Nat) (w wr : World) : Prop := ∃ s f, Blk wr b1 30 (St.cells s) ∧ Blk wr b2 35 (arr 64 fun j => .bool (f j)) ∧ Near base s f ∧ Below w.heap.size w wr
set_option maxHeartbeats 1000000 in
theorem near_walk (first : UInt64) (a : Option Addr) (len cap : Nat) (us : List UInt8) (w : World) (hr : InRow v8 w a len us) :
    Calls Try.prog 4 #[v64 first, .slice a len cap] w fun e w' => e = .returned (.bool true) ∧ Below w.heap.size w w' := by
  obtain ⟨hl, hmax, hr⟩ := hr
  by_cases h200 : 200 < len
  · have g200 : (200 : Int) < (len : Int) := by omega
    clear hr
    go_enter Try.func4, Try.ntmps4
    go_wp2_with fail
    refine (awake_any _).mono ?_; rintro e w1 ⟨rfl, hb1⟩
    go_wp2_with fail
    refine (awake_any _).mono ?_; rintro e w2 ⟨rfl, hb2⟩
    go_wp2_with fail
    go_ret
    exact ⟨rfl, hb1.trans (hb2.mono hb1.size)⟩
  · have g200 : ¬ (200 : Int) < (len : Int) := by omega
    go_enter Try.func4, Try.ntmps4
    go_wp2_with fail
    refine (awake_any _).mono ?_; rintro e w1 ⟨rfl, hb1⟩
    go_wp2_with fail
    have hW : NearRel (shr64 first 1).toNat w1.heap.size (w1.heap.size + 1) w ((w1.alloc (.cells #[.int .u64 0, .int .u64 0, .bool false] 30)).alloc (.cells (arr 64 fun _ => .bool false) 35)) :=
      ⟨_, _, (new_win w1).alloc _, by have := Blk.made (w1.alloc (.cells #[.int .u64 0, .int .u64 0, .bool false] 30)) 35 (arr 64 fun _ => .bool false); simpa using this, near_start _, ((hb1.alloc hb1.size _).alloc (by have := hb1.size; simp; omega) _)⟩
    have hne : w1.heap.size ≠ w1.heap.size + 1 := by omega
    have hbs := hb1.size
    have hbs2 : w.heap.size ≤ w1.heap.size + 1 := by omega
    clear hb1
    generalize hg1 : w1.heap.size = b1 at *
    generalize hg2 : b1 + 1 = b2 at *
    clear hg1 hg2
    have hsum := fun x => near_sum first x
    have HSUM := keep hsum
    clear hsum
    generalize shr64 first 1 = base at *
    go_loopw [8] (fun i wr => ∃ k : Nat, k ≤ len ∧ i = .int .i64 k ∧ NearRel base.toNat b1 b2 w wr) (fun i _ => len - (intOf i).toNat)
    case atStart => exact ⟨0, Nat.zero_le _, rfl, hW⟩
    case round =>
      obtain ⟨k, hk, rfl, s, f, hB1, hB2, hN, hbel⟩ := hrel
      by_cases hlt : k < len
      · obtain h0 | ⟨b, off, rfl, hb, hc⟩ := hr
        · omega
        have c0 : wr.cell? ⟨b, off + k, none⟩ = some (v8 us[k]) := (hbel.cell hb).trans (hc k (by omega))
        clear hc
        generalize us[k] = x at *
        have hx := HSUM.out x
        have hj : x.toNat % 64 < 64 := Nat.mod_lt _ (by omega)
        have HE := keep (near_has hN hj hx)
        have HS := keep (near_take hN hj hx)
        clear hx hN
        have c1 : wr.cell? ⟨b2, x.toNat % 64, none⟩ = some (.bool (f (x.toNat % 64))) := hB2.at_ (arr_get _ hj)
        go_wp2_with fail
        refine (take_any s _ b1 _ hB1).mono ?_
        rintro e w2 ⟨rfl, hC1, hK1⟩
        have hC2 : Blk w2 b2 35 (arr 64 fun j => .bool (f j)) := hK1.blk hB2 (by simp; omega)
        have c2 : w2.cell? ⟨b2, x.toNat % 64, none⟩ = some (.bool (f (x.toNat % 64))) := hC2.at_ (arr_get _ hj)
        have f2 := hC2.free (x.toNat % 64)
        have he : s.err (base + x.toUInt64 % 64) = if f (x.toNat % 64) = true then 6 else 0 := by unfold St.err; rw [HE.out]
        rw [he]
        clear c1 he
        have hD : ∀ wz, Blk wz b2 35 ((arr 64 fun j => .bool (f j)).setIfInBounds (x.toNat % 64) (.bool true)) → Blk wz b2 35 (arr 64 fun i => .bool (if i = x.toNat % 64 then true else f i)) := fun wz h => by
          rw [arr_set] at h
          have e : (fun i => if i = x.toNat % 64 then Value.bool true else .bool (f i)) = fun i => .bool (if i = x.toNat % 64 then true else f i) := funext fun i => by split <;> rfl
          rwa [e] at h
        have HD := keep hD
        clear hD
        cases hf : f (x.toNat % 64)
        all_goals
          rw [hf] at c2
          clear hf
          go_wp2_with fail
          go_roundw
          case rel => exact ⟨k + 1, by omega, by go_num, _, _, hC1.other (by simp; omega) _, HD.out _ (hC2.set _ _), HS.out, (hbel.trans (hK1.toBelow (by have := hbel.size; omega) (by simp; omega))).setCell (by simp; omega) _⟩
          case measure => simp [intOf]; omega
      · go_wp2_with fail
        go_ret
        exact ⟨rfl, hbel⟩
end Go.Proofs.Ytaaokbchpbedgaa

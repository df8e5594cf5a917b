/-
  window: WindowRises, the plain law and the walk.
-/
import Derived.Test.YtaaokbchpbedgaaAwake
import Derived.Test.YtaaokbchpbedgaaArgs
import Derived.Test.YtaaokbchpbedgaaOwn
namespace Go.Proofs.Ytaaokbchpbedgaa
open Go.RowKit

/-! ### The plain law -/
/-- ns were taken, none of them above m. -/
def Risen (s : St) (ns : List UInt64) (m : UInt64) : Prop := Inv s (fun x => ∃ n ∈ ns, n.toNat = x) ∧ ∀ n ∈ ns, n.toNat ≤ m.toNat
theorem risen_start : Risen ⟨0, 0, false⟩ [] 0 := ⟨by simpa using inv_start, by simp⟩
theorem risen_new {s : St} {ns : List UInt64} {m n : UInt64} (h : Risen s ns m) (hn : m.toNat < n.toNat) : s.has n = false := by
  cases hh : s.has n with
  | false => rfl
  | true =>
    obtain ⟨g1, g2, _⟩ := (has_iff h.1 n).1 hh
    rcases h.1 with ⟨h1, _⟩ | ⟨_, ⟨x, hx, h2⟩, _, _⟩
    · rw [h1] at g1; cases g1
    · have := h.2 x hx; omega
theorem risen_take {s : St} {ns : List UInt64} {m n : UInt64} (h : Risen s ns m) (hn : m.toNat < n.toNat) : Risen (s.take n) (ns ++ [n]) n := by
  refine ⟨cast (congrArg (Inv (s.take n)) (funext fun x => propext ⟨?_, ?_⟩)) (take_inv h.1 n (risen_new h hn)), ?_⟩
  · rintro (rfl | ⟨y, h1, h2⟩)
    · exact ⟨n, by simp, rfl⟩
    · exact ⟨y, by simp [h1], h2⟩
  · rintro ⟨y, h1, h2⟩
    rcases List.mem_append.1 h1 with h1 | h1
    · exact .inr ⟨y, h1, h2⟩
    · rw [List.mem_singleton] at h1; subst h1; exact .inl h2.symm
  · intro y hy
    rcases List.mem_append.1 hy with hy | hy
    · have := h.2 y hy; omega
    · rw [List.mem_singleton] at hy; subst hy; exact Nat.le_refl _
theorem risen_old {s : St} {ns : List UInt64} {m n : UInt64} (h : Risen s ns m) (hn : n ∈ ns) : s.has n = true := has_of_mem h.1 ⟨n, hn, rfl⟩
theorem step_nat (m : UInt64) (x : UInt16) (h : m.toNat ≤ 200 * 65536) : (m + 1 + x.toUInt64).toNat = m.toNat + 1 + x.toNat := by
  have h1 : (m + 1 + x.toUInt64).toNat = ((m + 1).toNat + x.toUInt64.toNat) % 18446744073709551616 := UInt64.toNat_add _ _
  have h2 : (m + 1).toNat = (m.toNat + 1) % 18446744073709551616 := UInt64.toNat_add _ _
  have h3 : x.toUInt64.toNat = x.toNat := UInt16.toNat_toUInt64 x
  have := lt16 x
  omega

/-! ### The walk -/
theorem info26 : (Try.prog.info? 26).map (fun i => (i.zero, i.size, i.bytes)) = some (some (.int .u64 0), 1, 8) := by kernel_rfl
/-- What holds at the first loop's every head, k numbers having been taken. -/
def RisRel (b1 : Nat) (w wr : World) (k : Nat) (m : UInt64) (v : Value) : Prop :=
  ∃ s ns, Blk wr b1 30 (St.cells s) ∧ Risen s ns m ∧ ns.length = k ∧ m.toNat ≤ k * 65536 ∧ Own wr (b1 + 1) v (ns.map v64) ∧ b1 < wr.heap.size ∧ Below w.heap.size w wr
/-- What holds at the second's. -/
def RisRel2 (b1 : Nat) (w wr : World) (s : St) (v : Value) (ns : List UInt64) : Prop :=
  Blk wr b1 30 (St.cells s) ∧ Own wr (b1 + 1) v (ns.map v64) ∧ Below w.heap.size w wr
set_option maxHeartbeats 1000000 in
theorem rises_walk (a : Option Addr) (len cap : Nat) (us : List UInt16) (w : World) (hr : InRow v16 w a len us) :
    Calls Try.prog 5 #[.slice a len cap] w fun e w' => e = .returned (.bool true) ∧ Below w.heap.size w w' := by
  obtain ⟨hl, hmax, hr⟩ := hr
  by_cases h200 : 200 < len
  · have g200 : (200 : Int) < (len : Int) := by omega
    clear hr
    go_enter Try.func5, Try.ntmps5
    go_wp2_with fail
    refine (awake_any _).mono ?_; rintro e w1 ⟨rfl, hb1⟩
    go_wp2_with fail
    refine (awake_any _).mono ?_; rintro e w2 ⟨rfl, hb2⟩
    go_wp2_with fail
    go_ret
    exact ⟨rfl, hb1.trans (hb2.mono hb1.size)⟩
  · have g200 : ¬ (200 : Int) < (len : Int) := by omega
    obtain ⟨i0, hi, hz0, hz1, hz2⟩ := info_parts info26
    go_enter Try.func5, Try.ntmps5
    go_wp2_with fail
    refine (awake_any _).mono ?_; rintro e w1 ⟨rfl, hb1⟩
    go_wp2_with fail
    have hW : RisRel w1.heap.size w (w1.alloc (.cells #[.int .u64 0, .int .u64 0, .bool false] 30)) 0 0 (.slice none 0 0) := ⟨_, _, new_win w1, risen_start, rfl, Nat.zero_le _, Own.nil _ _, by simp, hb1.alloc hb1.size _⟩
    have hbs := hb1.size
    clear hb1
    generalize hg1 : w1.heap.size = b1 at *
    clear hg1
    go_loopw [4, 5, 6] (fun v n i wr => ∃ (k : Nat) (m : UInt64), k ≤ len ∧ i = .int .i64 k ∧ n = v64 m ∧ RisRel b1 w wr k m v) (fun _ _ i _ => len - (intOf i).toNat)
    case atStart => exact ⟨0, 0, Nat.zero_le _, rfl, rfl, hW⟩
    case round =>
      obtain ⟨k, m, hk, rfl, rfl, s, ns, hB1, hR, hlen, hm, hown, hbsz, hbel⟩ := hrel
      by_cases hlt : k < len
      · obtain h0 | ⟨b, off, rfl, hb, hc⟩ := hr
        · omega
        have c0 : wr.cell? ⟨b, off + k, none⟩ = some (v16 us[k]) := (hbel.cell hb).trans (hc k (by omega))
        clear hc
        generalize us[k] = x at *
        have hx := step_nat m x (Nat.le_trans hm (Nat.mul_le_mul_right 65536 (show k ≤ 200 by omega)))
        have hxl := lt16 x
        have HT := keep (risen_take hR (n := m + 1 + x.toUInt64) (by omega))
        have hsk : (ns.map v64).length = k := by simpa using hlen
        have HK := keep hsk
        have he0 : s.err (m + 1 + x.toUInt64) = 0 := by unfold St.err; rw [risen_new hR (by omega)]; rfl
        have HE := keep he0
        have HX := keep hx
        have HM := keep hm
        clear hR hx hsk he0 hm
        have hnew : ∀ y : UInt64, (wr.alloc (.cells #[v64 y] 26)).cell? ⟨wr.heap.size, 0, none⟩ = some (v64 y) := fun y => (Blk.made wr 26 #[v64 y]).at_ rfl
        go_wp2_with (at_builtin; refine wpList_append_one _ rfl (.tmp 32) (.tmp 34) 39 rfl (b1 + 1) 26 i0 (.int .u64 0) 8 Try.underlying39 hi hz0 hz1 hz2 rfl _ _ rfl (hown.alloc _) wr.heap.size 1 (v64 (m + 1 + x.toUInt64)) rfl (hnew _) rfl (by rw [HK.out]; omega) (by omega) (by simp; omega) ?_; intro v2 w2 hown2 hg2 _)
        have hB2 : Blk w2 b1 30 s.cells := (hB1.alloc _).grown hg2 (fun e => (hown.ne (k := b1) (by omega)) e.symm)
        have hbel2 : Below w.heap.size w w2 := (hbel.alloc hbel.size _).grown hg2 (by have := hbel.size; simp; omega) (fun k hk => by have := (hown.row k hk).1; omega)
        have hsz2 : b1 < w2.heap.size := by have := hg2.size; simp at this; omega
        refine (take_any s _ b1 _ hB2).mono ?_
        rintro e w3 ⟨rfl, hB3, hK3⟩
        rw [HE.out]
        have fin : RisRel b1 w w3 (k + 1) (m + 1 + x.toUInt64) v2 :=
          ⟨_, _, hB3, HT.out, by have := HK.out; simp at this; simp [this], by have := HX.out; have := HM.out; omega, by simpa using hown2.keeps hK3 (fun k hk => by simp at hk; subst hk; exact hown2.ne (by omega)),
            Nat.lt_of_lt_of_le hsz2 hK3.size, hbel2.trans (hK3.toBelow hbel2.size (by simp; omega))⟩
        clear hown hown2 hg2 hK3 hB3 hB2 hbel2 hbel hB1 hnew
        go_wp2_with fail
        go_roundw
        case rel => exact ⟨k + 1, _, by omega, by go_num, rfl, fin⟩
        case measure => simp [intOf]; omega
      · clear hr
        obtain ⟨ao, capo, rfl, hco, hmo, _⟩ := hown.form
        have hlk : (ns.map v64).length = k := by simpa using hlen
        have hown' : Own wr (b1 + 1) (.slice ao k capo) (ns.map v64) := by have := hown; rw [hlk] at this; exact this
        rw [hlk]
        have HR := keep hR
        have HL := keep hlk
        have HLn := keep hlen
        have hk200 : k ≤ 200 := by omega
        have hrel0 : RisRel2 b1 w wr s (.slice ao k capo) ns := ⟨hB1, hown', hbel⟩
        clear hR hlk hlen hm hco hown hown' hB1 hbel hmo
        go_wp2_with fail
        obtain ⟨wo, rfl⟩ : ∃ wo : World, wo = wr := ⟨_, rfl⟩
        go_loopw [7] (fun i wr => ∃ j : Nat, j ≤ k ∧ i = .int .i64 j ∧ RisRel2 b1 w wr s (.slice ao k capo) ns) (fun i _ => k - (intOf i).toNat)
        case atStart => exact ⟨0, Nat.zero_le _, rfl, hrel0⟩
        case round =>
          obtain ⟨j, hj, rfl, hB1, hown, hbel⟩ := hrel
          clear hrel0
          by_cases hltj : j < k
          · have hjl : j < (ns.map v64).length := by rw [HL.out]; exact hltj
            obtain ⟨g, off, rfl, hg, hgs, hc⟩ := hown.at_ hjl
            have hjn : j < ns.length := by rw [HLn.out]; exact hltj
            have c0 : wr.cell? ⟨g, off + j, none⟩ = some (v64 ns[j]) := by rw [hc]; simp
            have hh : s.has ns[j] = true := risen_old HR.out (List.getElem_mem hjn)
            have he : s.err ns[j] = 6 := by unfold St.err; rw [hh]; rfl
            have HE := keep he
            have HS := keep (take_same hh)
            clear hc he hh
            generalize ns[j] = y at *
            go_wp2_with fail
            refine (take_any s y b1 _ hB1).mono ?_
            rintro e w3 ⟨rfl, hB3, hK3⟩
            rw [HE.out]
            rw [HS.out] at hB3
            have fin : RisRel2 b1 w w3 s (.slice (some ⟨g, off, none⟩) k capo) ns :=
              ⟨hB3, hown.keeps hK3 (fun i hi => by simp at hi; subst hi; exact hown.ne (by omega)), hbel.trans (hK3.toBelow hbel.size (by simp; omega))⟩
            clear hown hbel hB1 hB3 hK3
            go_wp2_with fail
            go_roundw
            case rel => exact ⟨j + 1, by omega, by go_num, fin⟩
            case measure => simp [intOf]; omega
          · go_wp2_with fail
            go_ret
            exact ⟨rfl, hbel⟩
end Go.Proofs.Ytaaokbchpbedgaa

/-
  poly: the document's sum of two numbers of bytes: the walk (written by wip/tools/rplus04.py).
-/
import Derived.Test.YtpjgdocgenpbbaaRefPlus
namespace Go.Proofs.Ytpjgdocgenpbbaa
open Go.RowKit
set_option maxHeartbeats 2000000 in
theorem rplus_any (aa ab : Option Addr) (na nb ca cb : Nat) (la lb : List Nat) (w : World) (hA0 : Nums w (.slice aa na ca) la) (hB0 : Nums w (.slice ab nb cb) lb) (hna : la.length = na) (hnb : lb.length = nb) (hla : Dig la) (hlb : Dig lb) (hl1 : na < 1000) (hl2 : nb < 1000) :
    Calls Try.prog 24 #[.slice aa na ca, .slice ab nb cb] w fun e w' => ∃ v lo, e = .returned v ∧ Own w' w.heap.size v (lo.map nv) ∧ Dig lo ∧ leI lo = leI la + leI lb ∧ lo.length ≤ max na nb + 1 ∧ Below w.heap.size w w' := by
  have hva : ∀ k, (.slice aa na ca : Value).ownBlock = some k → k < w.heap.size := fun k hk => (Own.row hA0 k hk).2
  have hvb : ∀ k, (.slice ab nb cb : Value).ownBlock = some k → k < w.heap.size := fun k hk => (Own.row hB0 k hk).2
  obtain ⟨i0, hi0, hz0, hz1, hz2⟩ := info_parts info3i
  have hS : PS w.heap.size w w la lb [] (.slice aa na ca) (.slice ab nb cb) (.slice none 0 0) 0 0 := ⟨hA0, hB0, Own.nil _ _, Below.refl _ _, fun x hx => by simp at hx, rfl, by simp [leI], by omega, fun _ _ => by omega⟩
  clear hA0 hB0
  go_enter Try.func24, Try.ntmps24
  go_wp2_with fail
  go_loopw [7, 5, 6] (fun z v t wr => ∃ (i c : Nat) (lo : List Nat), z = .int .i64 i ∧ t = .int .i64 c ∧ PS w.heap.size w wr la lb lo (.slice aa na ca) (.slice ab nb cb) v i c) (fun z _ t _ => 2 * (max la.length lb.length + 1 - (intOf z).toNat) + (intOf t).toNat)
  case atStart => exact ⟨0, 0, [], rfl, rfl, hS⟩
  case round =>
    obtain ⟨i, c, lo, rfl, rfl, hP⟩ := hrel
    clear hS
    have hmx : i ≤ max la.length lb.length + 1 := by
      by_cases h : la.length ≤ i ∧ lb.length ≤ i
      · have := hP.top h.1 h.2; omega
      · omega
    subst hna hnb
    by_cases hA : i < la.length
    · have gA : (i : Int) < (la.length : Int) := by omega
      by_cases hB : i < lb.length
      · have gB : (i : Int) < (lb.length : Int) := by omega
        obtain ⟨ga, oa, rfl, hga, ca⟩ := hP.ha.at_ hA
        have dla := hla.lt i
        unfold nv at ca
        obtain ⟨gb, ob, rfl, hgb, cb⟩ := hP.hb.at_ hB
        have dlb := hlb.lt i
        unfold nv at cb
        obtain ⟨ao, capo, rfl, -, -, -⟩ := hP.ho.form
        rw [List.length_map, hP.len] at *
        have hcar := hP.carry
        have hOo := hP.ho
        have hbs := hP.bel.size
        have hi1 : i < 2000 := by omega
        have HXL : (lo.map nv).length < 1099511627776 := by rw [List.length_map, hP.len]; omega
        have hnew : ∀ wz : World, (wz.alloc (.cells #[.int .i64 (((c : Int) + (dg la i : Int) + (dg lb i : Int)) % 256)] 3)).cell? ⟨wz.heap.size, 0, none⟩ = some (.int .i64 (((c : Int) + (dg la i : Int) + (dg lb i : Int)) % 256)) := fun wz => (Blk.made wz 3 #[.int .i64 (((c : Int) + (dg la i : Int) + (dg lb i : Int)) % 256)]).at_ rfl
        have hval : (.int .i64 (((c : Int) + (dg la i : Int) + (dg lb i : Int)) % 256) : Value) = nv ((c + dg la i + dg lb i) % 256) := congrArg (Value.int .i64) (by omega)
        have hqv : (((c : Int) + (dg la i : Int) + (dg lb i : Int)) / 256 : Int) = ((c + dg la i + dg lb i) / 256 : Nat) := by omega
        have HVAL := keep hval
        have HQ := keep hqv
        have hgoes : i < max la.length lb.length ∨ 0 < c := by omega
        have HG := keep hgoes
        have HP := keep hP
        clear hval hqv hgoes hP
        go_wp2_with (at_builtin; refine wpList_append_one _ rfl (.tmp 44) (.tmp 47) 32 rfl w.heap.size 3 i0 (.int .i64 0) 8 Try.underlying32 hi0 hz0 hz1 hz2 rfl (.slice ao i capo) (lo.map nv) rfl (hOo.alloc _) wr.heap.size 1 (.int .i64 (((c : Int) + (dg la i : Int) + (dg lb i : Int)) % 256)) rfl (hnew _) rfl HXL (by omega) (by simp; omega) ?_
                     intro v4 w4 hown4 hg4 hv4
                     rw [HVAL.out] at hown4
                     have hf := HP.out.step hla hlb rfl hva hvb _ hg4 hown4 HG.out
                     clear hg4 hv4 hown4 hOo hnew HP)
        rw [HQ.out]
        go_roundw
        case rel => exact ⟨i + 1, _, _, by go_num, rfl, hf⟩
        case measure => have hq := HQ.out; have hg := HG.out; simp [intOf]; omega
      · have gB : ¬ (i : Int) < (lb.length : Int) := by omega
        obtain ⟨ga, oa, rfl, hga, ca⟩ := hP.ha.at_ hA
        have dla := hla.lt i
        unfold nv at ca
        have eb : dg lb i = 0 := dg_none (by omega)
        obtain ⟨ao, capo, rfl, -, -, -⟩ := hP.ho.form
        rw [List.length_map, hP.len] at *
        have hcar := hP.carry
        have hOo := hP.ho
        have hbs := hP.bel.size
        have hi1 : i < 2000 := by omega
        have HXL : (lo.map nv).length < 1099511627776 := by rw [List.length_map, hP.len]; omega
        have hnew : ∀ wz : World, (wz.alloc (.cells #[.int .i64 (((c : Int) + (dg la i : Int)) % 256)] 3)).cell? ⟨wz.heap.size, 0, none⟩ = some (.int .i64 (((c : Int) + (dg la i : Int)) % 256)) := fun wz => (Blk.made wz 3 #[.int .i64 (((c : Int) + (dg la i : Int)) % 256)]).at_ rfl
        have hval : (.int .i64 (((c : Int) + (dg la i : Int)) % 256) : Value) = nv ((c + dg la i + dg lb i) % 256) := congrArg (Value.int .i64) (by omega)
        have hqv : (((c : Int) + (dg la i : Int)) / 256 : Int) = ((c + dg la i + dg lb i) / 256 : Nat) := by omega
        have HVAL := keep hval
        have HQ := keep hqv
        have hgoes : i < max la.length lb.length ∨ 0 < c := by omega
        have HG := keep hgoes
        have HP := keep hP
        clear hval hqv hgoes hP
        go_wp2_with (at_builtin; refine wpList_append_one _ rfl (.tmp 44) (.tmp 47) 32 rfl w.heap.size 3 i0 (.int .i64 0) 8 Try.underlying32 hi0 hz0 hz1 hz2 rfl (.slice ao i capo) (lo.map nv) rfl (hOo.alloc _) wr.heap.size 1 (.int .i64 (((c : Int) + (dg la i : Int)) % 256)) rfl (hnew _) rfl HXL (by omega) (by simp; omega) ?_
                     intro v4 w4 hown4 hg4 hv4
                     rw [HVAL.out] at hown4
                     have hf := HP.out.step hla hlb rfl hva hvb _ hg4 hown4 HG.out
                     clear hg4 hv4 hown4 hOo hnew HP)
        rw [HQ.out]
        go_roundw
        case rel => exact ⟨i + 1, _, _, by go_num, rfl, hf⟩
        case measure => have hq := HQ.out; have hg := HG.out; simp [intOf]; omega
    · have gA : ¬ (i : Int) < (la.length : Int) := by omega
      by_cases hB : i < lb.length
      · have gB : (i : Int) < (lb.length : Int) := by omega
        have ea : dg la i = 0 := dg_none (by omega)
        obtain ⟨gb, ob, rfl, hgb, cb⟩ := hP.hb.at_ hB
        have dlb := hlb.lt i
        unfold nv at cb
        obtain ⟨ao, capo, rfl, -, -, -⟩ := hP.ho.form
        rw [List.length_map, hP.len] at *
        have hcar := hP.carry
        have hOo := hP.ho
        have hbs := hP.bel.size
        have hi1 : i < 2000 := by omega
        have HXL : (lo.map nv).length < 1099511627776 := by rw [List.length_map, hP.len]; omega
        have hnew : ∀ wz : World, (wz.alloc (.cells #[.int .i64 (((c : Int) + (dg lb i : Int)) % 256)] 3)).cell? ⟨wz.heap.size, 0, none⟩ = some (.int .i64 (((c : Int) + (dg lb i : Int)) % 256)) := fun wz => (Blk.made wz 3 #[.int .i64 (((c : Int) + (dg lb i : Int)) % 256)]).at_ rfl
        have hval : (.int .i64 (((c : Int) + (dg lb i : Int)) % 256) : Value) = nv ((c + dg la i + dg lb i) % 256) := congrArg (Value.int .i64) (by omega)
        have hqv : (((c : Int) + (dg lb i : Int)) / 256 : Int) = ((c + dg la i + dg lb i) / 256 : Nat) := by omega
        have HVAL := keep hval
        have HQ := keep hqv
        have hgoes : i < max la.length lb.length ∨ 0 < c := by omega
        have HG := keep hgoes
        have HP := keep hP
        clear hval hqv hgoes hP
        go_wp2_with (at_builtin; refine wpList_append_one _ rfl (.tmp 44) (.tmp 47) 32 rfl w.heap.size 3 i0 (.int .i64 0) 8 Try.underlying32 hi0 hz0 hz1 hz2 rfl (.slice ao i capo) (lo.map nv) rfl (hOo.alloc _) wr.heap.size 1 (.int .i64 (((c : Int) + (dg lb i : Int)) % 256)) rfl (hnew _) rfl HXL (by omega) (by simp; omega) ?_
                     intro v4 w4 hown4 hg4 hv4
                     rw [HVAL.out] at hown4
                     have hf := HP.out.step hla hlb rfl hva hvb _ hg4 hown4 HG.out
                     clear hg4 hv4 hown4 hOo hnew HP)
        rw [HQ.out]
        go_roundw
        case rel => exact ⟨i + 1, _, _, by go_num, rfl, hf⟩
        case measure => have hq := HQ.out; have hg := HG.out; simp [intOf]; omega
      · have gB : ¬ (i : Int) < (lb.length : Int) := by omega
        by_cases hC : 0 < c
        · have gC : (0 : Int) < (c : Int) := by omega
          have ea : dg la i = 0 := dg_none (by omega)
          have eb : dg lb i = 0 := dg_none (by omega)
          obtain ⟨ao, capo, rfl, -, -, -⟩ := hP.ho.form
          rw [List.length_map, hP.len] at *
          have hcar := hP.carry
          have hOo := hP.ho
          have hbs := hP.bel.size
          have hi1 : i < 2000 := by omega
          have HXL : (lo.map nv).length < 1099511627776 := by rw [List.length_map, hP.len]; omega
          have hnew : ∀ wz : World, (wz.alloc (.cells #[.int .i64 (((c : Int)) % 256)] 3)).cell? ⟨wz.heap.size, 0, none⟩ = some (.int .i64 (((c : Int)) % 256)) := fun wz => (Blk.made wz 3 #[.int .i64 (((c : Int)) % 256)]).at_ rfl
          have hval : (.int .i64 (((c : Int)) % 256) : Value) = nv ((c + dg la i + dg lb i) % 256) := congrArg (Value.int .i64) (by omega)
          have hqv : (((c : Int)) / 256 : Int) = ((c + dg la i + dg lb i) / 256 : Nat) := by omega
          have HVAL := keep hval
          have HQ := keep hqv
          have hgoes : i < max la.length lb.length ∨ 0 < c := by omega
          have HG := keep hgoes
          have HP := keep hP
          clear hval hqv hgoes hP
          go_wp2_with (at_builtin; refine wpList_append_one _ rfl (.tmp 44) (.tmp 47) 32 rfl w.heap.size 3 i0 (.int .i64 0) 8 Try.underlying32 hi0 hz0 hz1 hz2 rfl (.slice ao i capo) (lo.map nv) rfl (hOo.alloc _) wr.heap.size 1 (.int .i64 (((c : Int)) % 256)) rfl (hnew _) rfl HXL (by omega) (by simp; omega) ?_
                       intro v4 w4 hown4 hg4 hv4
                       rw [HVAL.out] at hown4
                       have hf := HP.out.step hla hlb rfl hva hvb _ hg4 hown4 HG.out
                       clear hg4 hv4 hown4 hOo hnew HP)
          rw [HQ.out]
          go_roundw
          case rel => exact ⟨i + 1, _, _, by go_num, rfl, hf⟩
          case measure => have hq := HQ.out; have hg := HG.out; simp [intOf]; omega
        · have gC : ¬ (0 : Int) < (c : Int) := by omega
          have hc0 : c = 0 := by omega
          have hsum := hP.sum
          rw [hc0, Nat.mul_zero, Nat.add_zero, List.take_of_length_le (by omega), List.take_of_length_le (by omega)] at hsum
          have hlen : lo.length ≤ max la.length lb.length + 1 := by rw [hP.len]; exact hmx
          have hR : Own wr w.heap.size u5 (lo.map nv) ∧ Dig lo ∧ leI lo = leI la + leI lb ∧ lo.length ≤ max la.length lb.length + 1 ∧ Below w.heap.size w wr := ⟨hP.ho, hP.dig, hsum, hlen, hP.bel⟩
          have HR := keep hR
          clear hP hsum hlen hR hc0
          go_wp2_with fail
          go_ret
          exact ⟨_, rfl, lo, HR.out⟩
end Go.Proofs.Ytpjgdocgenpbbaa

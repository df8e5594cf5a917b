/-
  poly: the document's rest of a number of bytes: the walk (written by wip/tools/rrest04.py).
-/
import Derived.Test.YtpjgdocgenpbbaaRefRestPlain
namespace Go.Proofs.Ytpjgdocgenpbbaa
open Go.RowKit
set_option linter.unusedVariables false
set_option linter.unusedSimpArgs false
set_option maxRecDepth 100000 in
set_option maxHeartbeats 4000000 in
theorem rrest_any (aa : Option Addr) (na ca : Nat) (l : List Nat) (w : World) (hA0 : Nums w (.slice aa na ca) l) (hna : l.length = na) (hl : Dig l) (hl1 : na ≤ 40) (hV : leI l < 256 ^ 32) :
    Calls Try.prog 13 #[.slice aa na ca] w fun e w' => ∃ v lo, e = .returned v ∧ Own w' w.heap.size v (lo.map nv) ∧ Dig lo ∧ leI lo = leI l % pr ∧ lo.length = 17 ∧ Below w.heap.size w w' := by
  obtain ⟨i0, hi0, hz0, hz1, hz2⟩ := info_parts info3i
  have hS := (hA0.alloc (.cells #[] 3)).src (P := Try.prog) Try.underlying32 (map_nv_one _)
  rw [List.length_map] at hS
  subst hna
  have hF : D2 w.heap.size w (w.alloc (.cells #[] 3)) (.slice (some ⟨w.heap.size, 0, none⟩) 0 0) (.slice none 0 0) [] [] := (D2.start w).fresh 3
  generalize hN : w.heap.size = N at *
  have HN := keep hN
  have HV := keep hV
  clear hA0 hV
  go_enter Try.func13, Try.ntmps13
  go_wp2_with (at_builtin; refine wpList_append_src _ rfl (.tmp 13) (.tmp 14) 32 32 rfl N 3 i0 (.int .i64 0) 8 Try.underlying32 hi0 hz0 hz1 hz2 rfl _ [] rfl hF.ha _ _ _ rfl hS (by simp; omega) (by omega) (by simp; omega) ?_
               intro v1 w1 hown1 hg1 hv1
               have hD := hF.grow0 hg1 hown1 hv1 (List.nil_append _)
               clear hg1 hv1 hown1 hF hS)
  clear hN
  go_loopw [3] (fun v wr => ∃ x, D2 N w wr v (.slice none 0 0) x [] ∧ Dig x ∧ leI x = leI l ∧ x.length ≤ 40) (fun v _ => 18 - slen v)
  case atStart => exact ⟨_, hD, hl, rfl, hl1⟩
  case round =>
    obtain ⟨x, hD, hdx, hvx, hlx⟩ := hrel
    obtain ⟨a, c, rfl, hc1, hc2⟩ := hD.form'
    have hsz := hD.size
    by_cases h18 : x.length < 18
    · have g18 : (x.length : Int) < 18 := by omega
      have hnew : ∀ wz : World, (wz.alloc (.cells #[.int .i64 (0)] 3)).cell? ⟨wz.heap.size, 0, none⟩ = some (.int .i64 (0)) := fun wz => (Blk.made wz 3 #[.int .i64 (0)]).at_ rfl
      have hOo := hD.ha
      have HXL : (x.map nv).length < 1099511627776 := by rw [List.length_map]; omega
      go_wp2_with (at_builtin; refine wpList_append_one _ rfl (.tmp 19) (.tmp 20) 32 rfl N 3 i0 (.int .i64 0) 8 Try.underlying32 hi0 hz0 hz1 hz2 rfl (.slice a x.length c) (x.map nv) rfl (hOo.alloc _) _ 1 (.int .i64 (0)) rfl (hnew _) rfl HXL (by omega) (by simp; omega) ?_
                   intro v4 w4 hown4 hg4 hv4
                   have hD2 := hD.grow _ hg4 hown4 hv4 (map_nv_snoc x 0)
                   clear hg4 hv4 hown4 hOo hnew HXL)
    
      go_roundw
      case rel => exact ⟨x ++ [0], hD2, hdx.snoc (by omega), by rw [leI_snoc0]; exact hvx, by rw [List.length_append]; simp; omega⟩
      case measure =>
        obtain ⟨a4, c4, e4, -, -⟩ := hD2.form'
        simp [e4, slen]; omega
    · have g18 : ¬ (x.length : Int) < 18 := by omega
      go_wp2_with fail
      obtain ⟨wo, rfl⟩ : ∃ wo : World, wo = wr := ⟨_, rfl⟩
      go_loopw [3, 4] (fun v z wr => ∃ (i : Nat) (x : List Nat), i ≤ 3 ∧ z = .int .i64 i ∧ D2 N w wr v (.slice none 0 0) x [] ∧ Dig x ∧ leI x = fo (leI l) i ∧ 18 ≤ x.length ∧ x.length ≤ 40) (fun _ z _ => 3 - (intOf z).toNat)
      case atStart => exact ⟨0, x, Nat.zero_le _, rfl, hD, hdx, hvx, by omega, hlx⟩
      case round =>
        clear hD hdx hvx hlx hc1 hc2 hsz h18
        obtain ⟨i, x, hi3, rfl, hD, hdx, hvx, hl18, hl40⟩ := hrel
        obtain ⟨a, c, rfl, hc1, hc2⟩ := hD.form'
        by_cases h3 : i < 3
        · have g3 : (i : Int) < 3 := by omega
          have hF := hD.symm.fresh 3
          clear hD
          obtain ⟨wo, rfl⟩ : ∃ wo : World, wo = wr := ⟨_, rfl⟩
          go_wp2_with fail
          go_loopw [5, 6] (fun v z wr => ∃ (j : Nat), 16 ≤ j ∧ j ≤ x.length ∧ z = .int .i64 j ∧ D2 N w wr v (.slice a x.length c) ((x.take j).drop 16) x) (fun _ z _ => x.length - (intOf z).toNat)
          case atStart => exact ⟨16, Nat.le_refl _, by omega, rfl, by
            rw [List.drop_eq_nil_of_le (by simp; omega)]
            exact hF⟩
          case round => 
            obtain ⟨j, hj16, hjx, rfl, hE⟩ := hrel
            clear hF
            have hln : ((x.take j).drop 16).length = j - 16 := by rw [List.length_drop, List.length_take]; omega
            obtain ⟨ah, ch, rfl, hch1, hch2⟩ := hE.formN hln
            have hsz := hE.size
            by_cases hjl : j < x.length
            · have gjl : (j : Int) < (x.length : Int) := by omega
              obtain ⟨g, off, rfl, hg⟩ := hE.symm.addr (by omega)
              have hcx := hE.cellB hjl
              have hdj := hdx.lt j
              have hnext : ((x.take j).drop 16).map nv ++ [.int .i64 (dg x j : Int)] = ((x.take (j + 1)).drop 16).map nv := by
                rw [List.take_succ_eq_append_getElem hjl, List.drop_append_of_le_length (by rw [List.length_take]; omega), List.map_append, dg_eq hjl]
                rfl
              have HNX := keep hnext
              clear hnext
              have hnew : ∀ wz : World, (wz.alloc (.cells #[.int .i64 ((dg x j : Int))] 3)).cell? ⟨wz.heap.size, 0, none⟩ = some (.int .i64 ((dg x j : Int))) := fun wz => (Blk.made wz 3 #[.int .i64 ((dg x j : Int))]).at_ rfl
              have hOo := hE.ha
              have HXL : (((x.take j).drop 16).map nv).length < 1099511627776 := by rw [List.length_map, hln]; omega
              go_wp2_with (at_builtin; refine wpList_append_one _ rfl (.tmp 33) (.tmp 38) 32 rfl N 3 i0 (.int .i64 0) 8 Try.underlying32 hi0 hz0 hz1 hz2 rfl (.slice ah (j - 16) ch) (((x.take j).drop 16).map nv) rfl (hOo.alloc _) _ 1 (.int .i64 ((dg x j : Int))) rfl (hnew _) rfl HXL (by omega) (by simp; omega) ?_
                           intro v4 w4 hown4 hg4 hv4
                           have hE2 := hE.grow _ hg4 hown4 hv4 HNX.out
                           clear hg4 hv4 hown4 hOo hnew HXL)
              go_roundw
              case rel => exact ⟨j + 1, by omega, by omega, by go_num, hE2⟩
              case measure => simp [intOf]; omega
            · have gjl : ¬ (j : Int) < (x.length : Int) := by omega
              obtain rfl : j = x.length := by omega
              rw [List.take_length] at hE hln
              obtain ⟨hi, hhi⟩ : ∃ hi, hi = x.drop 16 := ⟨_, rfl⟩
              rw [← hhi] at hE hln
              rw [← hln] at hE hch1 ⊢
              have hdh : Dig hi := by rw [hhi]; exact hdx.drop 16
              obtain ⟨g, off, rfl, hg⟩ := hE.symm.addr (by omega)
              obtain ⟨gh, offh, rfl, hgh⟩ := hE.addr (by omega)
              have hS := ((hE.symm.take (k := 16) (by omega)).ha.alloc (.cells #[] 3)).src (P := Try.prog) Try.underlying32 (map_nv_one _)
              rw [List.length_map, List.length_take, Nat.min_eq_left (by omega)] at hS
              have hF := hE.symm.fresh 3
              have gc16 : (16 : Int) ≤ (c : Int) := by omega
              have hl40' : hi.length ≤ 24 := by omega
              have HHI := keep hhi
              have hd0 := hdh.lt 0
              have g1 : (0 : Int) < (hi.length : Int) := by omega
              clear hhi hln hE
              have hE0 : (.int .i64 ((dg hi 0 : Int) % 4) : Value) = nv (dg hi 0 % 4) := congrArg (Value.int .i64) (by omega)
              have HE0 := keep hE0
              clear hE0
              have hnew : ∀ wz : World, (wz.alloc (.cells #[.int .i64 ((dg hi 0 : Int) % 4)] 3)).cell? ⟨wz.heap.size, 0, none⟩ = some (.int .i64 ((dg hi 0 : Int) % 4)) := fun wz => (Blk.made wz 3 #[.int .i64 ((dg hi 0 : Int) % 4)]).at_ rfl
              have hl16 : (x.take 16).length = 16 := by rw [List.length_take]; omega
              go_wp2_with (first
                | (at_builtin; refine wpList_append_src _ rfl (.tmp 40) (.tmp 42) 32 32 rfl N 3 i0 (.int .i64 0) 8 Try.underlying32 hi0 hz0 hz1 hz2 rfl _ [] rfl hF.ha _ _ _ rfl hS (by simp) (by omega) (by simp; omega) ?_
                   intro v1 w1 hown1 hg1 hv1
                   have hG := hF.grow0 hg1 hown1 hv1 (List.nil_append _)
                   clear hg1 hv1 hown1 hF hS
                   have hch0 := hG.cellB (i := 0) (by omega)
                   rw [Nat.add_zero] at hch0)
                | (at_builtin; refine wpList_append_one _ rfl (.tmp 44) (.tmp 49) 32 rfl N 3 i0 (.int .i64 0) 8 Try.underlying32 hi0 hz0 hz1 hz2 rfl _ ((x.take 16).map nv) rfl (hG.ha.alloc _) _ 1 (.int .i64 ((dg hi 0 : Int) % 4)) rfl (hnew _) rfl (by rw [List.length_map]; omega) (by omega) (by have := hG.size; simp; omega) ?_
                   intro v4 w4 hown4 hg4 hv4
                   rw [HE0.out] at hown4
                   have hK := hG.grow _ hg4 hown4 hv4 (map_nv_snoc (x.take 16) (dg hi 0 % 4))
                   clear hg4 hv4 hown4 hnew hG hch0))
              have hC0 : RC hi (x.take 16 ++ [dg hi 0 % 4]) (leI (x.take 16) + 256 ^ 16 * (dg hi 0 % 4)) 0 0 :=
                ⟨(hdx.take 16).snoc (by omega), by omega, by rw [leI_append, hl16]; simp [leI, hsv], by rw [List.length_append, hl16]; rfl, by omega, fun h => rfl⟩
              obtain ⟨x0, hx0⟩ : ∃ x0, x0 = x.take 16 ++ [dg hi 0 % 4] := ⟨_, rfl⟩
              rw [← hx0] at hK hC0
              clear hx0 hl16
              obtain ⟨wo, rfl⟩ : ∃ wo : World, wo = w4 := ⟨_, rfl⟩
              go_loopw [3, 7, 8] (fun v cz jz wr => ∃ (j cc : Nat) (x1 : List Nat), jz = .int .i64 j ∧ cz = .int .i64 cc ∧ D2 N w wr v (.slice (some ⟨gh, offh, none⟩) hi.length ch) x1 hi ∧ RC hi x1 (leI (x.take 16) + 256 ^ 16 * (dg hi 0 % 4)) j cc) (fun _ _ z _ => max hi.length 17 + 2 - (intOf z).toNat)
              case atStart => exact ⟨0, 0, x0, rfl, rfl, hK, hC0⟩
              case round =>
                obtain ⟨j, cc, x1, rfl, rfl, hH, hC⟩ := hrel
                clear hK hC0
                obtain ⟨a1, c1, rfl, hc11, hc12⟩ := hH.form'
                have hj100 : j ≤ 100 := by have := hC.top; omega
                have hxl1 : x1.length ≤ 101 := by have := hC.len; omega
                have hxl2 : j ≤ x1.length := by have := hC.len; omega
                have hxl3 : 17 ≤ x1.length := by have := hC.len; omega
                have hcc5 := hC.le
                have hhd := hd_lt hdh j
                by_cases hA : j < hi.length
                · have gA : (j : Int) < (hi.length : Int) := by omega
                  have gA' : (j : Int) + 1 < 300 := by omega
                  have q1 := hH.cellB hA
                  have d1 := hdh.lt j
                  have hgo : j < hi.length ∨ 0 < cc := .inl hA
                  by_cases hB : j + 1 < hi.length
                  · have gB : (j : Int) + 1 < (hi.length : Int) := by omega
                    have q2 := hH.cellB hB
                    have d2 := hdh.lt (j + 1)
                    have hhx : ((dg hi j : Int) / 4 + (dg hi (j + 1) : Int) % 4 * 64 : Int) = (hd hi j : Int) := by unfold hd; omega
                    have HHX := keep hhx
                    clear hhx
                    go_wp2_with fail
                    rw [HHX.out]
                    obtain ⟨wo, rfl⟩ : ∃ wo : World, wo = wr := ⟨_, rfl⟩
                    go_loopw [3] (fun v wr => ∃ x2, D2 N w wr v (.slice (some ⟨gh, offh, none⟩) hi.length ch) x2 hi ∧ Pad x1 x2 j) (fun v _ => j + 1 - slen v)
                    case atStart => exact ⟨x1, hH, .inl rfl⟩
                    case round =>
                      obtain ⟨x2, hJ, hP⟩ := hrel
                      clear hH
                      obtain ⟨a2, c2, rfl, hc21, hc22⟩ := hJ.form'
                      have hsz := hJ.size
                      have hl2 : x2.length ≤ 200 := by
                        rcases hP with rfl | ⟨_, rfl⟩
                        · omega
                        · rw [List.length_append]; simp; omega
                      by_cases hx2 : x2.length ≤ j
                      · have gx2 : (x2.length : Int) ≤ (j : Int) := by omega
                        have hnew : ∀ wz : World, (wz.alloc (.cells #[.int .i64 (0)] 3)).cell? ⟨wz.heap.size, 0, none⟩ = some (.int .i64 (0)) := fun wz => (Blk.made wz 3 #[.int .i64 (0)]).at_ rfl
                        have hOo := hJ.ha
                        have HXL : (x2.map nv).length < 1099511627776 := by rw [List.length_map]; omega
                        go_wp2_with (at_builtin; refine wpList_append_one _ rfl (.tmp 88) (.tmp 89) 32 rfl N 3 i0 (.int .i64 0) 8 Try.underlying32 hi0 hz0 hz1 hz2 rfl (.slice a2 x2.length c2) (x2.map nv) rfl (hOo.alloc _) _ 1 (.int .i64 (0)) rfl (hnew _) rfl HXL (by omega) (by simp; omega) ?_
                                     intro v4 w4 hown4 hg4 hv4
                                     have hJ2 := hJ.grow _ hg4 hown4 hv4 (map_nv_snoc x2 0)
                                     clear hg4 hv4 hown4 hOo hnew HXL)
                        go_roundw
                        case rel => exact ⟨x2 ++ [0], hJ2, by
                          rcases hP with rfl | ⟨h1, rfl⟩
                          · exact .inr ⟨hx2, rfl⟩
                          · rw [List.length_append] at hx2; simp at hx2; omega⟩
                        case measure =>
                          obtain ⟨a4, c4, e4, -, -⟩ := hJ2.form'
                          simp [e4, slen]; omega
                      · have gx2 : ¬ (x2.length : Int) ≤ (j : Int) := by omega
                        have hj2 : j < x2.length := by omega
                        obtain ⟨g2, off2, rfl, hg2⟩ := hJ.addr (by omega)
                        have hcl := hJ.cellA hj2
                        have hfr := hJ.freeA hj2
                        have hset := hJ.setA hj2 ((cc + dg x2 j + 5 * hd hi j) % 256)
                        have hstep := hC.step hdh hP hj2 hgo
                        have hd2 := hstep.dig
                        have hdd : dg x2 j < 256 := by
                          rcases hP with rfl | ⟨_, rfl⟩
                          · exact hC.dig.lt j
                          · exact (hC.dig.snoc (by omega)).lt j
                        have hval : (.int .i64 (((cc : Int) + (dg x2 j : Int) + 5 * (hd hi j : Int)) % 256) : Value) = nv ((cc + dg x2 j + 5 * hd hi j) % 256) := congrArg (Value.int .i64) (by omega)
                        have hqv : (((cc : Int) + (dg x2 j : Int) + 5 * (hd hi j : Int)) / 256 : Int) = ((cc + dg x2 j + 5 * hd hi j) / 256 : Nat) := by omega
                        have HVAL := keep hval
                        have HQ := keep hqv
                        have HSTEP := keep hstep
                        have HTOP := keep hC.top
                        clear hval hqv hJ hP hstep hd2 hC
                        go_wp2_with fail
                        rw [HVAL.out, HQ.out]
                        go_roundw
                        case rel => exact ⟨j + 1, _, _, by go_num, rfl, hset, HSTEP.out⟩
                        case measure => have ht := HTOP.out; simp [intOf]; omega
                  · have gB : ¬ (j : Int) + 1 < (hi.length : Int) := by omega
                    have e2 : dg hi (j + 1) = 0 := dg_none (by omega)
                    have hhx : ((dg hi j : Int) / 4 : Int) = (hd hi j : Int) := by unfold hd; rw [e2]; omega
                    have HHX := keep hhx
                    clear hhx e2
                    go_wp2_with fail
                    rw [HHX.out]
                    obtain ⟨wo, rfl⟩ : ∃ wo : World, wo = wr := ⟨_, rfl⟩
                    go_loopw [3] (fun v wr => ∃ x2, D2 N w wr v (.slice (some ⟨gh, offh, none⟩) hi.length ch) x2 hi ∧ Pad x1 x2 j) (fun v _ => j + 1 - slen v)
                    case atStart => exact ⟨x1, hH, .inl rfl⟩
                    case round =>
                      obtain ⟨x2, hJ, hP⟩ := hrel
                      clear hH
                      obtain ⟨a2, c2, rfl, hc21, hc22⟩ := hJ.form'
                      have hsz := hJ.size
                      have hl2 : x2.length ≤ 200 := by
                        rcases hP with rfl | ⟨_, rfl⟩
                        · omega
                        · rw [List.length_append]; simp; omega
                      by_cases hx2 : x2.length ≤ j
                      · have gx2 : (x2.length : Int) ≤ (j : Int) := by omega
                        have hnew : ∀ wz : World, (wz.alloc (.cells #[.int .i64 (0)] 3)).cell? ⟨wz.heap.size, 0, none⟩ = some (.int .i64 (0)) := fun wz => (Blk.made wz 3 #[.int .i64 (0)]).at_ rfl
                        have hOo := hJ.ha
                        have HXL : (x2.map nv).length < 1099511627776 := by rw [List.length_map]; omega
                        go_wp2_with (at_builtin; refine wpList_append_one _ rfl (.tmp 88) (.tmp 89) 32 rfl N 3 i0 (.int .i64 0) 8 Try.underlying32 hi0 hz0 hz1 hz2 rfl (.slice a2 x2.length c2) (x2.map nv) rfl (hOo.alloc _) _ 1 (.int .i64 (0)) rfl (hnew _) rfl HXL (by omega) (by simp; omega) ?_
                                     intro v4 w4 hown4 hg4 hv4
                                     have hJ2 := hJ.grow _ hg4 hown4 hv4 (map_nv_snoc x2 0)
                                     clear hg4 hv4 hown4 hOo hnew HXL)
                        go_roundw
                        case rel => exact ⟨x2 ++ [0], hJ2, by
                          rcases hP with rfl | ⟨h1, rfl⟩
                          · exact .inr ⟨hx2, rfl⟩
                          · rw [List.length_append] at hx2; simp at hx2; omega⟩
                        case measure =>
                          obtain ⟨a4, c4, e4, -, -⟩ := hJ2.form'
                          simp [e4, slen]; omega
                      · have gx2 : ¬ (x2.length : Int) ≤ (j : Int) := by omega
                        have hj2 : j < x2.length := by omega
                        obtain ⟨g2, off2, rfl, hg2⟩ := hJ.addr (by omega)
                        have hcl := hJ.cellA hj2
                        have hfr := hJ.freeA hj2
                        have hset := hJ.setA hj2 ((cc + dg x2 j + 5 * hd hi j) % 256)
                        have hstep := hC.step hdh hP hj2 hgo
                        have hd2 := hstep.dig
                        have hdd : dg x2 j < 256 := by
                          rcases hP with rfl | ⟨_, rfl⟩
                          · exact hC.dig.lt j
                          · exact (hC.dig.snoc (by omega)).lt j
                        have hval : (.int .i64 (((cc : Int) + (dg x2 j : Int) + 5 * (hd hi j : Int)) % 256) : Value) = nv ((cc + dg x2 j + 5 * hd hi j) % 256) := congrArg (Value.int .i64) (by omega)
                        have hqv : (((cc : Int) + (dg x2 j : Int) + 5 * (hd hi j : Int)) / 256 : Int) = ((cc + dg x2 j + 5 * hd hi j) / 256 : Nat) := by omega
                        have HVAL := keep hval
                        have HQ := keep hqv
                        have HSTEP := keep hstep
                        have HTOP := keep hC.top
                        clear hval hqv hJ hP hstep hd2 hC
                        go_wp2_with fail
                        rw [HVAL.out, HQ.out]
                        go_roundw
                        case rel => exact ⟨j + 1, _, _, by go_num, rfl, hset, HSTEP.out⟩
                        case measure => have ht := HTOP.out; simp [intOf]; omega
                · have gA : ¬ (j : Int) < (hi.length : Int) := by omega
                  by_cases hB : 0 < cc
                  · have gB : (0 : Int) < (cc : Int) := by omega
                    have gC : ¬ (j : Int) + 1 < (hi.length : Int) := by omega
                    have hgo : j < hi.length ∨ 0 < cc := .inr hB
                    have e1 : dg hi j = 0 := dg_none (by omega)
                    have e2 : dg hi (j + 1) = 0 := dg_none (by omega)
                    have hhx : hd hi j = 0 := by unfold hd; rw [e1, e2]
                    clear e1 e2
                    go_wp2_with fail
                    have HHX := keep hhx
                    clear hhx
                    obtain ⟨wo, rfl⟩ : ∃ wo : World, wo = wr := ⟨_, rfl⟩
                    go_loopw [3] (fun v wr => ∃ x2, D2 N w wr v (.slice (some ⟨gh, offh, none⟩) hi.length ch) x2 hi ∧ Pad x1 x2 j) (fun v _ => j + 1 - slen v)
                    case atStart => exact ⟨x1, hH, .inl rfl⟩
                    case round =>
                      obtain ⟨x2, hJ, hP⟩ := hrel
                      clear hH
                      obtain ⟨a2, c2, rfl, hc21, hc22⟩ := hJ.form'
                      have hsz := hJ.size
                      have hl2 : x2.length ≤ 200 := by
                        rcases hP with rfl | ⟨_, rfl⟩
                        · omega
                        · rw [List.length_append]; simp; omega
                      by_cases hx2 : x2.length ≤ j
                      · have gx2 : (x2.length : Int) ≤ (j : Int) := by omega
                        have hnew : ∀ wz : World, (wz.alloc (.cells #[.int .i64 (0)] 3)).cell? ⟨wz.heap.size, 0, none⟩ = some (.int .i64 (0)) := fun wz => (Blk.made wz 3 #[.int .i64 (0)]).at_ rfl
                        have hOo := hJ.ha
                        have HXL : (x2.map nv).length < 1099511627776 := by rw [List.length_map]; omega
                        go_wp2_with (at_builtin; refine wpList_append_one _ rfl (.tmp 88) (.tmp 89) 32 rfl N 3 i0 (.int .i64 0) 8 Try.underlying32 hi0 hz0 hz1 hz2 rfl (.slice a2 x2.length c2) (x2.map nv) rfl (hOo.alloc _) _ 1 (.int .i64 (0)) rfl (hnew _) rfl HXL (by omega) (by simp; omega) ?_
                                     intro v4 w4 hown4 hg4 hv4
                                     have hJ2 := hJ.grow _ hg4 hown4 hv4 (map_nv_snoc x2 0)
                                     clear hg4 hv4 hown4 hOo hnew HXL)
                        go_roundw
                        case rel => exact ⟨x2 ++ [0], hJ2, by
                          rcases hP with rfl | ⟨h1, rfl⟩
                          · exact .inr ⟨hx2, rfl⟩
                          · rw [List.length_append] at hx2; simp at hx2; omega⟩
                        case measure =>
                          obtain ⟨a4, c4, e4, -, -⟩ := hJ2.form'
                          simp [e4, slen]; omega
                      · have gx2 : ¬ (x2.length : Int) ≤ (j : Int) := by omega
                        have hj2 : j < x2.length := by omega
                        obtain ⟨g2, off2, rfl, hg2⟩ := hJ.addr (by omega)
                        have hcl := hJ.cellA hj2
                        have hfr := hJ.freeA hj2
                        have hset := hJ.setA hj2 ((cc + dg x2 j + 5 * hd hi j) % 256)
                        have hstep := hC.step hdh hP hj2 hgo
                        have hd2 := hstep.dig
                        have hdd : dg x2 j < 256 := by
                          rcases hP with rfl | ⟨_, rfl⟩
                          · exact hC.dig.lt j
                          · exact (hC.dig.snoc (by omega)).lt j
                        have hhx2 := HHX.out
                        have hval : (.int .i64 (((cc : Int) + (dg x2 j : Int)) % 256) : Value) = nv ((cc + dg x2 j + 5 * hd hi j) % 256) := congrArg (Value.int .i64) (by omega)
                        have hqv : (((cc : Int) + (dg x2 j : Int)) / 256 : Int) = ((cc + dg x2 j + 5 * hd hi j) / 256 : Nat) := by omega
                        clear hhx2
                        have HVAL := keep hval
                        have HQ := keep hqv
                        have HSTEP := keep hstep
                        have HTOP := keep hC.top
                        clear hval hqv hJ hP hstep hd2 hC
                        go_wp2_with fail
                        rw [HVAL.out, HQ.out]
                        go_roundw
                        case rel => exact ⟨j + 1, _, _, by go_num, rfl, hset, HSTEP.out⟩
                        case measure => have ht := HTOP.out; simp [intOf]; omega
                  · have gB : ¬ (0 : Int) < (cc : Int) := by omega
                    obtain rfl : cc = 0 := by omega
                    have hR := hC.done hdx HHI.out hl18 (by omega) rfl
                    rw [hvx] at hR
                    have hQ := hH.nilB
                    have hdig := hC.dig
                    clear hH hC
                    go_wp2_with fail
                    obtain ⟨wo, rfl⟩ : ∃ wo : World, wo = wr := ⟨_, rfl⟩
                    go_loopw [3] (fun v wr => ∃ x, D2 N w wr v (.slice none 0 0) x [] ∧ Dig x ∧ leI x = fo (leI l) (i + 1) ∧ x.length ≤ 40) (fun v _ => 18 - slen v)
                    case atStart => exact ⟨_, hQ, hdig, hR.1, by omega⟩
                    case round =>
                      obtain ⟨x, hD, hdx, hvx, hlx⟩ := hrel
                      obtain ⟨a, c, rfl, hc1, hc2⟩ := hD.form'
                      have hsz := hD.size
                      by_cases h18 : x.length < 18
                      · have g18 : (x.length : Int) < 18 := by omega
                        have hnew : ∀ wz : World, (wz.alloc (.cells #[.int .i64 (0)] 3)).cell? ⟨wz.heap.size, 0, none⟩ = some (.int .i64 (0)) := fun wz => (Blk.made wz 3 #[.int .i64 (0)]).at_ rfl
                        have hOo := hD.ha
                        have HXL : (x.map nv).length < 1099511627776 := by rw [List.length_map]; omega
                        go_wp2_with (at_builtin; refine wpList_append_one _ rfl (.tmp 110) (.tmp 111) 32 rfl N 3 i0 (.int .i64 0) 8 Try.underlying32 hi0 hz0 hz1 hz2 rfl (.slice a x.length c) (x.map nv) rfl (hOo.alloc _) _ 1 (.int .i64 (0)) rfl (hnew _) rfl HXL (by omega) (by simp; omega) ?_
                                     intro v4 w4 hown4 hg4 hv4
                                     have hD2 := hD.grow _ hg4 hown4 hv4 (map_nv_snoc x 0)
                                     clear hg4 hv4 hown4 hOo hnew HXL)
    
                        go_roundw
                        case rel => exact ⟨x ++ [0], hD2, hdx.snoc (by omega), by rw [leI_snoc0]; exact hvx, by rw [List.length_append]; simp; omega⟩
                        case measure =>
                          obtain ⟨a4, c4, e4, -, -⟩ := hD2.form'
                          simp [e4, slen]; omega
                      · have g18 : ¬ (x.length : Int) < 18 := by omega
                        go_wp2_with fail
                        go_roundw
                        case rel => exact ⟨i + 1, x, by omega, by go_num, hD, hdx, hvx, by omega, hlx⟩
                        case measure => simp [intOf]; omega
        · have g3 : ¬ (i : Int) < 3 := by omega
          obtain rfl : i = 3 := by omega
          have h3v := fo_three (leI l) HV.out
          rw [← hvx] at h3v
          obtain ⟨hv1, hv2⟩ := h3v
          obtain ⟨g, off, rfl, hg⟩ := hD.addr (by omega)
          have hS := (hD.ha.alloc (.cells #[] 3)).src (P := Try.prog) Try.underlying32 (map_nv_one _)
          rw [List.length_map] at hS
          have hF := hD.symm.fresh 3
          have hF := (D2.symm (D2.symm hF))
          have hN : N ≤ wr.heap.size := hD.size
          have hFx : D2 N w (wr.alloc (.cells #[] 3)) (.slice (some ⟨wr.heap.size, 0, none⟩) 0 0) (.slice (some ⟨g, off, none⟩) x.length c) [] x := ⟨Own.made wr N 3 hN, hD.ha.alloc _, (fun k h1 h2 => by
            simp [Value.ownBlock] at h1 h2
            omega), hD.bel.alloc hN _, hD.le⟩
          have HV1 := keep hv1
          have HV2 := keep hv2
          clear hvx hD hF hv1 hv2
          go_wp2_with (at_builtin; refine wpList_append_src _ rfl (.tmp 113) (.tmp 114) 32 32 rfl N 3 i0 (.int .i64 0) 8 Try.underlying32 hi0 hz0 hz1 hz2 rfl _ [] rfl hFx.ha _ _ _ rfl hS (by simp; omega) (by omega) (by simp; omega) ?_
                       intro v1 w1 hown1 hg1 hv1
                       have hG := hFx.grow0 hg1 hown1 hv1 (List.nil_append _)
                       clear hg1 hv1 hown1 hFx hS)
          obtain ⟨wo, rfl⟩ : ∃ wo : World, wo = w1 := ⟨_, rfl⟩
          obtain ⟨a1, c1, rfl, hc11, hc12⟩ := hG.formN rfl
          obtain ⟨g2, off2, rfl, hg2⟩ := hG.addr (by omega)
          go_loopw [11, 12] (fun cz jz wr => ∃ (j cc : Nat) (y : List Nat), j ≤ x.length ∧ jz = .int .i64 j ∧ cz = .int .i64 cc ∧ D2 N w wr (.slice (some ⟨g2, off2, none⟩) x.length c1) (.slice (some ⟨g, off, none⟩) x.length c) y x ∧ RF x y j cc) (fun _ z _ => x.length - (intOf z).toNat)
          case atStart => exact ⟨0, 5, x, Nat.zero_le _, rfl, rfl, hG, ⟨hdx, by omega, by simp, rfl⟩⟩
          case round =>
            obtain ⟨j, cc, y, hjx, rfl, rfl, hH, hR⟩ := hrel
            clear hG
            have hcc5 := hR.le
            have hyl := hR.len
            by_cases hj : j < x.length
            · have gj : (j : Int) < (x.length : Int) := by omega
              have hj2 : j < y.length := by omega
              have hcl := hH.cellA hj2
              have hfr := hH.freeA hj2
              have hdd := hR.dig.lt j
              have hset := hH.setA hj2 ((cc + dg y j) % 256)
              have hstep := hR.step hj2
              have hval : (.int .i64 (((cc : Int) + (dg y j : Int)) % 256) : Value) = nv ((cc + dg y j) % 256) := congrArg (Value.int .i64) (by omega)
              have hqv : (((cc : Int) + (dg y j : Int)) / 256 : Int) = ((cc + dg y j) / 256 : Nat) := by omega
              have HVAL := keep hval
              have HQ := keep hqv
              have HSTEP := keep hstep
              clear hval hqv hstep hH hR hyl
              go_wp2_with fail
              rw [HVAL.out, HQ.out]
              go_roundw
              case rel => exact ⟨j + 1, _, _, by omega, by go_num, rfl, hset, HSTEP.out⟩
              case measure => simp [intOf]; omega
            · have gj : ¬ (j : Int) < (x.length : Int) := by omega
              obtain ⟨hv3, hv4⟩ := hR.done hdx hl18 (by omega) HV1.out
              have h16 : 16 < y.length := by omega
              have hcl := hH.cellA h16
              have hfr := hH.freeA h16
              have hpr : pr = 1361129467683753853853498429727072845819 := rfl
              have gl16 : (16 : Int) < (x.length : Int) := by omega
              have gl17 : (17 : Int) ≤ (c : Int) := by omega
              have gl17' : (17 : Int) ≤ (c1 : Int) := by omega
              have hdd := hR.dig.lt 16
              have hv1 := HV1.out
              have hv2 := HV2.out
              by_cases hy : 4 ≤ dg y 16
              · have gy : (4 : Int) ≤ (dg y 16 : Int) := by omega
                have hset := hH.setA h16 (dg y 16 - 4)
                have hs1 := leI_set y 16 (dg y 16 - 4) h16
                have h1616 : (256 : Nat) ^ 16 = 340282366920938463463374607431768211456 := by decide
                rw [h1616] at hs1
                have hdig := hR.dig.set 16 (x := dg y 16 - 4) (by omega)
                have hlow := low17 hdig (by rw [List.length_set]; omega) (by omega)
                have htk := hset.take (k := 17) (by rw [List.length_set]; omega)
                have hres : leI ((y.set 16 (dg y 16 - 4)).take 17) = leI l % pr := by
                  rw [hlow.1, ← hv2, hpr]
                  have hmod : leI x % 1361129467683753853853498429727072845819 = leI x - 1361129467683753853853498429727072845819 := by omega
                  rw [hmod]; omega
                have hval : (.int .i64 ((dg y 16 : Int) - 4) : Value) = nv (dg y 16 - 4) := congrArg (Value.int .i64) (by omega)
                have HVAL := keep hval
                have HRES := keep hres
                have HLOW := keep hlow
                clear hval hset hs1 hv3 hv4 hv1 hv2 hpr h1616 hres hlow hH hR hyl
                go_wp2_with fail
                rw [HVAL.out]
                go_ret
                exact ⟨_, rfl, (y.set 16 (dg y 16 - 4)).take 17, htk.ha, hdig.take 17, HRES.out, HLOW.out.2, htk.bel⟩
              · have gy : ¬ (4 : Int) ≤ (dg y 16 : Int) := by omega
                have hlow := low17 hdx (by omega) hv1
                have htk := hH.symm.take (k := 17) (by omega)
                have hres : leI (x.take 17) = leI l % pr := by
                  rw [hlow.1, ← hv2, hpr]
                  have hmod : leI x < 1361129467683753853853498429727072845819 := by omega
                  exact (Nat.mod_eq_of_lt hmod).symm
                have HRES := keep hres
                have HLOW := keep hlow
                have HH := keep htk
                clear hv3 hv4 hv1 hv2 hpr hres hlow hH hR hyl htk
                go_wp2_with fail
                go_ret
                exact ⟨_, rfl, x.take 17, HH.out.ha, hdx.take 17, HRES.out, HLOW.out.2, HH.out.bel⟩
end Go.Proofs.Ytpjgdocgenpbbaa

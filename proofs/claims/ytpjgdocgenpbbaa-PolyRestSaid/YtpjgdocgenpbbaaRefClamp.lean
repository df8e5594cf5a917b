/-
  poly: the document's clamped key, and a number's bytes, as lists of digits (written by wip/tools/rclamp04.py).
-/
import Derived.Test.YtpjgdocgenpbbaaRefMem
namespace Go.Proofs.Ytpjgdocgenpbbaa
open Go.RowKit
set_option linter.unusedVariables false
set_option linter.unusedSimpArgs false
/-- Bytes as digits. -/
def bd (l : List UInt8) : List Nat := l.map UInt8.toNat
theorem bd_length (l : List UInt8) : (bd l).length = l.length := by simp [bd]
theorem bd_tl_length (n : Nat) (f : Nat → UInt8) : (bd (tl n f)).length = n := by rw [bd_length, tl_length]
theorem bd_dig (l : List UInt8) : Dig (bd l) := fun x hx => by
  obtain ⟨b, _, rfl⟩ := List.mem_map.1 hx
  exact b.toNat_lt
theorem bd_leI : ∀ l : List UInt8, leI (bd l) = leN l
  | [] => rfl
  | b :: l => by
    have := bd_leI l
    simp only [bd, List.map_cons, leI, leN] at this ⊢
    rw [this]
theorem dg_bd (l : List UInt8) (i : Nat) : dg (bd l) i = (bt l i).toNat := by
  unfold dg bd bt
  by_cases h : i < l.length
  · simp [h]
  · simp [h]
theorem bd_next (n : Nat) (f : Nat → UInt8) : (bd (tl n f)).map nv ++ [nv (f n).toNat] = (bd (tl (n + 1) f)).map nv := by
  rw [tl_succ]; simp [bd]
theorem and15 (x : UInt8) : (x &&& 15).toNat = x.toNat % 16 := by
  rw [UInt8.toNat_and]
  exact Nat.and_two_pow_sub_one_eq_mod _ 4
theorem and252 (x : UInt8) : (x &&& 252).toNat = x.toNat / 4 * 4 := by
  rw [UInt8.toNat_and]
  have h : ∀ n : Fin 256, n.val &&& 252 = n.val / 4 * 4 := by decide +kernel
  exact h ⟨x.toNat, x.toNat_lt⟩
set_option maxHeartbeats 2000000 in
theorem rclamp_any (k : Nat → UInt8) (w : World) : Calls Try.prog 22 #[.agg (karr k)] w fun e w' => ∃ v, e = .returned v ∧ Own w' w.heap.size v ((bd (tl 16 (clampf k))).map nv) ∧ Below w.heap.size w w' := by
  obtain ⟨i0, hi0, hz0, hz1, hz2⟩ := info_parts info3i
  have hk0 : Blk (w.alloc (.cells (karr k) 22)) w.heap.size 22 (karr k) := Blk.made w 22 _
  have hb0 := belowA w (.cells (karr k) 22)
  have hs0 : (w.alloc (.cells (karr k) 22)).heap.size = w.heap.size + 1 := by simp
  have hD0 := D2.start (w.alloc (.cells (karr k) 22))
  rw [hs0] at hD0
  go_enter Try.func22, Try.ntmps22
  go_wp2_with fail
  generalize w.alloc (.cells (karr k) 22) = w1 at *
  have HS0 := keep hs0
  clear hs0
  generalize hN : w.heap.size + 1 = N at *
  have hkN : w.heap.size < N := by omega
  have HN := keep hN
  clear hN
  go_loopw [3, 4] (fun v z wr => ∃ j : Nat, j ≤ 16 ∧ z = .int .i64 j ∧ D2 N w1 wr v (.slice none 0 0) (bd (tl j (clampf k))) []) (fun _ z _ => 16 - (intOf z).toNat)
  case atStart => exact ⟨0, Nat.zero_le _, rfl, hD0⟩
  case round =>
    obtain ⟨j, hj, rfl, hD⟩ := hrel
    clear hD0
    obtain ⟨a, c, rfl, hc1, hc2⟩ := hD.formN (bd_tl_length j _)
    have hsz := hD.size
    by_cases hj16 : j < 16
    · have hcell := (hk0.below hD.bel hkN).at_ (arr_get (fun i => v8 (k i)) (show j < 32 by omega))
      have hlt := lt8 (k j)
      rcases (show j = 0 ∨ j = 1 ∨ j = 2 ∨ j = 3 ∨ j = 4 ∨ j = 5 ∨ j = 6 ∨ j = 7 ∨ j = 8 ∨ j = 9 ∨ j = 10 ∨ j = 11 ∨ j = 12 ∨ j = 13 ∨ j = 14 ∨ j = 15 by omega) with rfl | rfl | rfl | rfl | rfl | rfl | rfl | rfl | rfl | rfl | rfl | rfl | rfl | rfl | rfl | rfl
      · have hval : (.int .i64 (((k 0).toNat : Int)) : Value) = nv (clampf k 0).toNat := by
          rfl
        have HVAL := keep hval
        clear hval
        have hnew : ∀ wz : World, (wz.alloc (.cells #[.int .i64 (((k 0).toNat : Int))] 3)).cell? ⟨wz.heap.size, 0, none⟩ = some (.int .i64 (((k 0).toNat : Int))) := fun wz => (Blk.made wz 3 #[.int .i64 (((k 0).toNat : Int))]).at_ rfl
        have hOo := hD.ha
        have HXL : ((bd (tl 0 (clampf k))).map nv).length < 1099511627776 := by rw [List.length_map, bd_tl_length]; omega
        go_wp2_with (at_builtin; refine wpList_append_one _ rfl (.tmp 43) (.tmp 45) 32 rfl N 3 i0 (.int .i64 0) 8 Try.underlying32 hi0 hz0 hz1 hz2 rfl (.slice a 0 c) ((bd (tl 0 (clampf k))).map nv) rfl (hOo.alloc _) _ 1 (.int .i64 (((k 0).toNat : Int))) rfl (hnew _) rfl HXL (by omega) (by simp; omega) ?_
                     intro v4 w4 hown4 hg4 hv4
                     have hD2 := hD.grow _ hg4 hown4 hv4 (by rw [HVAL.out]; exact bd_next 0 (clampf k))
                     clear hg4 hv4 hown4 hOo hnew HXL)
        go_roundw
        case rel => exact ⟨1, by omega, by go_num, hD2⟩
        case measure => simp [intOf]
      · have hval : (.int .i64 (((k 1).toNat : Int)) : Value) = nv (clampf k 1).toNat := by
          rfl
        have HVAL := keep hval
        clear hval
        have hnew : ∀ wz : World, (wz.alloc (.cells #[.int .i64 (((k 1).toNat : Int))] 3)).cell? ⟨wz.heap.size, 0, none⟩ = some (.int .i64 (((k 1).toNat : Int))) := fun wz => (Blk.made wz 3 #[.int .i64 (((k 1).toNat : Int))]).at_ rfl
        have hOo := hD.ha
        have HXL : ((bd (tl 1 (clampf k))).map nv).length < 1099511627776 := by rw [List.length_map, bd_tl_length]; omega
        go_wp2_with (at_builtin; refine wpList_append_one _ rfl (.tmp 43) (.tmp 45) 32 rfl N 3 i0 (.int .i64 0) 8 Try.underlying32 hi0 hz0 hz1 hz2 rfl (.slice a 1 c) ((bd (tl 1 (clampf k))).map nv) rfl (hOo.alloc _) _ 1 (.int .i64 (((k 1).toNat : Int))) rfl (hnew _) rfl HXL (by omega) (by simp; omega) ?_
                     intro v4 w4 hown4 hg4 hv4
                     have hD2 := hD.grow _ hg4 hown4 hv4 (by rw [HVAL.out]; exact bd_next 1 (clampf k))
                     clear hg4 hv4 hown4 hOo hnew HXL)
        go_roundw
        case rel => exact ⟨2, by omega, by go_num, hD2⟩
        case measure => simp [intOf]
      · have hval : (.int .i64 (((k 2).toNat : Int)) : Value) = nv (clampf k 2).toNat := by
          rfl
        have HVAL := keep hval
        clear hval
        have hnew : ∀ wz : World, (wz.alloc (.cells #[.int .i64 (((k 2).toNat : Int))] 3)).cell? ⟨wz.heap.size, 0, none⟩ = some (.int .i64 (((k 2).toNat : Int))) := fun wz => (Blk.made wz 3 #[.int .i64 (((k 2).toNat : Int))]).at_ rfl
        have hOo := hD.ha
        have HXL : ((bd (tl 2 (clampf k))).map nv).length < 1099511627776 := by rw [List.length_map, bd_tl_length]; omega
        go_wp2_with (at_builtin; refine wpList_append_one _ rfl (.tmp 43) (.tmp 45) 32 rfl N 3 i0 (.int .i64 0) 8 Try.underlying32 hi0 hz0 hz1 hz2 rfl (.slice a 2 c) ((bd (tl 2 (clampf k))).map nv) rfl (hOo.alloc _) _ 1 (.int .i64 (((k 2).toNat : Int))) rfl (hnew _) rfl HXL (by omega) (by simp; omega) ?_
                     intro v4 w4 hown4 hg4 hv4
                     have hD2 := hD.grow _ hg4 hown4 hv4 (by rw [HVAL.out]; exact bd_next 2 (clampf k))
                     clear hg4 hv4 hown4 hOo hnew HXL)
        go_roundw
        case rel => exact ⟨3, by omega, by go_num, hD2⟩
        case measure => simp [intOf]
      · have hval : (.int .i64 (((k 3).toNat : Int) % 16) : Value) = nv (clampf k 3).toNat := by
          show _ = nv (k 3 &&& 15).toNat; rw [and15]; exact congrArg (Value.int .i64) (by omega)
        have HVAL := keep hval
        clear hval
        have hnew : ∀ wz : World, (wz.alloc (.cells #[.int .i64 (((k 3).toNat : Int) % 16)] 3)).cell? ⟨wz.heap.size, 0, none⟩ = some (.int .i64 (((k 3).toNat : Int) % 16)) := fun wz => (Blk.made wz 3 #[.int .i64 (((k 3).toNat : Int) % 16)]).at_ rfl
        have hOo := hD.ha
        have HXL : ((bd (tl 3 (clampf k))).map nv).length < 1099511627776 := by rw [List.length_map, bd_tl_length]; omega
        go_wp2_with (at_builtin; refine wpList_append_one _ rfl (.tmp 43) (.tmp 45) 32 rfl N 3 i0 (.int .i64 0) 8 Try.underlying32 hi0 hz0 hz1 hz2 rfl (.slice a 3 c) ((bd (tl 3 (clampf k))).map nv) rfl (hOo.alloc _) _ 1 (.int .i64 (((k 3).toNat : Int) % 16)) rfl (hnew _) rfl HXL (by omega) (by simp; omega) ?_
                     intro v4 w4 hown4 hg4 hv4
                     have hD2 := hD.grow _ hg4 hown4 hv4 (by rw [HVAL.out]; exact bd_next 3 (clampf k))
                     clear hg4 hv4 hown4 hOo hnew HXL)
        go_roundw
        case rel => exact ⟨4, by omega, by go_num, hD2⟩
        case measure => simp [intOf]
      · have hval : (.int .i64 (((k 4).toNat : Int) / 4 * 4) : Value) = nv (clampf k 4).toNat := by
          show _ = nv (k 4 &&& 252).toNat; rw [and252]; exact congrArg (Value.int .i64) (by omega)
        have HVAL := keep hval
        clear hval
        have hnew : ∀ wz : World, (wz.alloc (.cells #[.int .i64 (((k 4).toNat : Int) / 4 * 4)] 3)).cell? ⟨wz.heap.size, 0, none⟩ = some (.int .i64 (((k 4).toNat : Int) / 4 * 4)) := fun wz => (Blk.made wz 3 #[.int .i64 (((k 4).toNat : Int) / 4 * 4)]).at_ rfl
        have hOo := hD.ha
        have HXL : ((bd (tl 4 (clampf k))).map nv).length < 1099511627776 := by rw [List.length_map, bd_tl_length]; omega
        go_wp2_with (at_builtin; refine wpList_append_one _ rfl (.tmp 43) (.tmp 45) 32 rfl N 3 i0 (.int .i64 0) 8 Try.underlying32 hi0 hz0 hz1 hz2 rfl (.slice a 4 c) ((bd (tl 4 (clampf k))).map nv) rfl (hOo.alloc _) _ 1 (.int .i64 (((k 4).toNat : Int) / 4 * 4)) rfl (hnew _) rfl HXL (by omega) (by simp; omega) ?_
                     intro v4 w4 hown4 hg4 hv4
                     have hD2 := hD.grow _ hg4 hown4 hv4 (by rw [HVAL.out]; exact bd_next 4 (clampf k))
                     clear hg4 hv4 hown4 hOo hnew HXL)
        go_roundw
        case rel => exact ⟨5, by omega, by go_num, hD2⟩
        case measure => simp [intOf]
      · have hval : (.int .i64 (((k 5).toNat : Int)) : Value) = nv (clampf k 5).toNat := by
          rfl
        have HVAL := keep hval
        clear hval
        have hnew : ∀ wz : World, (wz.alloc (.cells #[.int .i64 (((k 5).toNat : Int))] 3)).cell? ⟨wz.heap.size, 0, none⟩ = some (.int .i64 (((k 5).toNat : Int))) := fun wz => (Blk.made wz 3 #[.int .i64 (((k 5).toNat : Int))]).at_ rfl
        have hOo := hD.ha
        have HXL : ((bd (tl 5 (clampf k))).map nv).length < 1099511627776 := by rw [List.length_map, bd_tl_length]; omega
        go_wp2_with (at_builtin; refine wpList_append_one _ rfl (.tmp 43) (.tmp 45) 32 rfl N 3 i0 (.int .i64 0) 8 Try.underlying32 hi0 hz0 hz1 hz2 rfl (.slice a 5 c) ((bd (tl 5 (clampf k))).map nv) rfl (hOo.alloc _) _ 1 (.int .i64 (((k 5).toNat : Int))) rfl (hnew _) rfl HXL (by omega) (by simp; omega) ?_
                     intro v4 w4 hown4 hg4 hv4
                     have hD2 := hD.grow _ hg4 hown4 hv4 (by rw [HVAL.out]; exact bd_next 5 (clampf k))
                     clear hg4 hv4 hown4 hOo hnew HXL)
        go_roundw
        case rel => exact ⟨6, by omega, by go_num, hD2⟩
        case measure => simp [intOf]
      · have hval : (.int .i64 (((k 6).toNat : Int)) : Value) = nv (clampf k 6).toNat := by
          rfl
        have HVAL := keep hval
        clear hval
        have hnew : ∀ wz : World, (wz.alloc (.cells #[.int .i64 (((k 6).toNat : Int))] 3)).cell? ⟨wz.heap.size, 0, none⟩ = some (.int .i64 (((k 6).toNat : Int))) := fun wz => (Blk.made wz 3 #[.int .i64 (((k 6).toNat : Int))]).at_ rfl
        have hOo := hD.ha
        have HXL : ((bd (tl 6 (clampf k))).map nv).length < 1099511627776 := by rw [List.length_map, bd_tl_length]; omega
        go_wp2_with (at_builtin; refine wpList_append_one _ rfl (.tmp 43) (.tmp 45) 32 rfl N 3 i0 (.int .i64 0) 8 Try.underlying32 hi0 hz0 hz1 hz2 rfl (.slice a 6 c) ((bd (tl 6 (clampf k))).map nv) rfl (hOo.alloc _) _ 1 (.int .i64 (((k 6).toNat : Int))) rfl (hnew _) rfl HXL (by omega) (by simp; omega) ?_
                     intro v4 w4 hown4 hg4 hv4
                     have hD2 := hD.grow _ hg4 hown4 hv4 (by rw [HVAL.out]; exact bd_next 6 (clampf k))
                     clear hg4 hv4 hown4 hOo hnew HXL)
        go_roundw
        case rel => exact ⟨7, by omega, by go_num, hD2⟩
        case measure => simp [intOf]
      · have hval : (.int .i64 (((k 7).toNat : Int) % 16) : Value) = nv (clampf k 7).toNat := by
          show _ = nv (k 7 &&& 15).toNat; rw [and15]; exact congrArg (Value.int .i64) (by omega)
        have HVAL := keep hval
        clear hval
        have hnew : ∀ wz : World, (wz.alloc (.cells #[.int .i64 (((k 7).toNat : Int) % 16)] 3)).cell? ⟨wz.heap.size, 0, none⟩ = some (.int .i64 (((k 7).toNat : Int) % 16)) := fun wz => (Blk.made wz 3 #[.int .i64 (((k 7).toNat : Int) % 16)]).at_ rfl
        have hOo := hD.ha
        have HXL : ((bd (tl 7 (clampf k))).map nv).length < 1099511627776 := by rw [List.length_map, bd_tl_length]; omega
        go_wp2_with (at_builtin; refine wpList_append_one _ rfl (.tmp 43) (.tmp 45) 32 rfl N 3 i0 (.int .i64 0) 8 Try.underlying32 hi0 hz0 hz1 hz2 rfl (.slice a 7 c) ((bd (tl 7 (clampf k))).map nv) rfl (hOo.alloc _) _ 1 (.int .i64 (((k 7).toNat : Int) % 16)) rfl (hnew _) rfl HXL (by omega) (by simp; omega) ?_
                     intro v4 w4 hown4 hg4 hv4
                     have hD2 := hD.grow _ hg4 hown4 hv4 (by rw [HVAL.out]; exact bd_next 7 (clampf k))
                     clear hg4 hv4 hown4 hOo hnew HXL)
        go_roundw
        case rel => exact ⟨8, by omega, by go_num, hD2⟩
        case measure => simp [intOf]
      · have hval : (.int .i64 (((k 8).toNat : Int) / 4 * 4) : Value) = nv (clampf k 8).toNat := by
          show _ = nv (k 8 &&& 252).toNat; rw [and252]; exact congrArg (Value.int .i64) (by omega)
        have HVAL := keep hval
        clear hval
        have hnew : ∀ wz : World, (wz.alloc (.cells #[.int .i64 (((k 8).toNat : Int) / 4 * 4)] 3)).cell? ⟨wz.heap.size, 0, none⟩ = some (.int .i64 (((k 8).toNat : Int) / 4 * 4)) := fun wz => (Blk.made wz 3 #[.int .i64 (((k 8).toNat : Int) / 4 * 4)]).at_ rfl
        have hOo := hD.ha
        have HXL : ((bd (tl 8 (clampf k))).map nv).length < 1099511627776 := by rw [List.length_map, bd_tl_length]; omega
        go_wp2_with (at_builtin; refine wpList_append_one _ rfl (.tmp 43) (.tmp 45) 32 rfl N 3 i0 (.int .i64 0) 8 Try.underlying32 hi0 hz0 hz1 hz2 rfl (.slice a 8 c) ((bd (tl 8 (clampf k))).map nv) rfl (hOo.alloc _) _ 1 (.int .i64 (((k 8).toNat : Int) / 4 * 4)) rfl (hnew _) rfl HXL (by omega) (by simp; omega) ?_
                     intro v4 w4 hown4 hg4 hv4
                     have hD2 := hD.grow _ hg4 hown4 hv4 (by rw [HVAL.out]; exact bd_next 8 (clampf k))
                     clear hg4 hv4 hown4 hOo hnew HXL)
        go_roundw
        case rel => exact ⟨9, by omega, by go_num, hD2⟩
        case measure => simp [intOf]
      · have hval : (.int .i64 (((k 9).toNat : Int)) : Value) = nv (clampf k 9).toNat := by
          rfl
        have HVAL := keep hval
        clear hval
        have hnew : ∀ wz : World, (wz.alloc (.cells #[.int .i64 (((k 9).toNat : Int))] 3)).cell? ⟨wz.heap.size, 0, none⟩ = some (.int .i64 (((k 9).toNat : Int))) := fun wz => (Blk.made wz 3 #[.int .i64 (((k 9).toNat : Int))]).at_ rfl
        have hOo := hD.ha
        have HXL : ((bd (tl 9 (clampf k))).map nv).length < 1099511627776 := by rw [List.length_map, bd_tl_length]; omega
        go_wp2_with (at_builtin; refine wpList_append_one _ rfl (.tmp 43) (.tmp 45) 32 rfl N 3 i0 (.int .i64 0) 8 Try.underlying32 hi0 hz0 hz1 hz2 rfl (.slice a 9 c) ((bd (tl 9 (clampf k))).map nv) rfl (hOo.alloc _) _ 1 (.int .i64 (((k 9).toNat : Int))) rfl (hnew _) rfl HXL (by omega) (by simp; omega) ?_
                     intro v4 w4 hown4 hg4 hv4
                     have hD2 := hD.grow _ hg4 hown4 hv4 (by rw [HVAL.out]; exact bd_next 9 (clampf k))
                     clear hg4 hv4 hown4 hOo hnew HXL)
        go_roundw
        case rel => exact ⟨10, by omega, by go_num, hD2⟩
        case measure => simp [intOf]
      · have hval : (.int .i64 (((k 10).toNat : Int)) : Value) = nv (clampf k 10).toNat := by
          rfl
        have HVAL := keep hval
        clear hval
        have hnew : ∀ wz : World, (wz.alloc (.cells #[.int .i64 (((k 10).toNat : Int))] 3)).cell? ⟨wz.heap.size, 0, none⟩ = some (.int .i64 (((k 10).toNat : Int))) := fun wz => (Blk.made wz 3 #[.int .i64 (((k 10).toNat : Int))]).at_ rfl
        have hOo := hD.ha
        have HXL : ((bd (tl 10 (clampf k))).map nv).length < 1099511627776 := by rw [List.length_map, bd_tl_length]; omega
        go_wp2_with (at_builtin; refine wpList_append_one _ rfl (.tmp 43) (.tmp 45) 32 rfl N 3 i0 (.int .i64 0) 8 Try.underlying32 hi0 hz0 hz1 hz2 rfl (.slice a 10 c) ((bd (tl 10 (clampf k))).map nv) rfl (hOo.alloc _) _ 1 (.int .i64 (((k 10).toNat : Int))) rfl (hnew _) rfl HXL (by omega) (by simp; omega) ?_
                     intro v4 w4 hown4 hg4 hv4
                     have hD2 := hD.grow _ hg4 hown4 hv4 (by rw [HVAL.out]; exact bd_next 10 (clampf k))
                     clear hg4 hv4 hown4 hOo hnew HXL)
        go_roundw
        case rel => exact ⟨11, by omega, by go_num, hD2⟩
        case measure => simp [intOf]
      · have hval : (.int .i64 (((k 11).toNat : Int) % 16) : Value) = nv (clampf k 11).toNat := by
          show _ = nv (k 11 &&& 15).toNat; rw [and15]; exact congrArg (Value.int .i64) (by omega)
        have HVAL := keep hval
        clear hval
        have hnew : ∀ wz : World, (wz.alloc (.cells #[.int .i64 (((k 11).toNat : Int) % 16)] 3)).cell? ⟨wz.heap.size, 0, none⟩ = some (.int .i64 (((k 11).toNat : Int) % 16)) := fun wz => (Blk.made wz 3 #[.int .i64 (((k 11).toNat : Int) % 16)]).at_ rfl
        have hOo := hD.ha
        have HXL : ((bd (tl 11 (clampf k))).map nv).length < 1099511627776 := by rw [List.length_map, bd_tl_length]; omega
        go_wp2_with (at_builtin; refine wpList_append_one _ rfl (.tmp 43) (.tmp 45) 32 rfl N 3 i0 (.int .i64 0) 8 Try.underlying32 hi0 hz0 hz1 hz2 rfl (.slice a 11 c) ((bd (tl 11 (clampf k))).map nv) rfl (hOo.alloc _) _ 1 (.int .i64 (((k 11).toNat : Int) % 16)) rfl (hnew _) rfl HXL (by omega) (by simp; omega) ?_
                     intro v4 w4 hown4 hg4 hv4
                     have hD2 := hD.grow _ hg4 hown4 hv4 (by rw [HVAL.out]; exact bd_next 11 (clampf k))
                     clear hg4 hv4 hown4 hOo hnew HXL)
        go_roundw
        case rel => exact ⟨12, by omega, by go_num, hD2⟩
        case measure => simp [intOf]
      · have hval : (.int .i64 (((k 12).toNat : Int) / 4 * 4) : Value) = nv (clampf k 12).toNat := by
          show _ = nv (k 12 &&& 252).toNat; rw [and252]; exact congrArg (Value.int .i64) (by omega)
        have HVAL := keep hval
        clear hval
        have hnew : ∀ wz : World, (wz.alloc (.cells #[.int .i64 (((k 12).toNat : Int) / 4 * 4)] 3)).cell? ⟨wz.heap.size, 0, none⟩ = some (.int .i64 (((k 12).toNat : Int) / 4 * 4)) := fun wz => (Blk.made wz 3 #[.int .i64 (((k 12).toNat : Int) / 4 * 4)]).at_ rfl
        have hOo := hD.ha
        have HXL : ((bd (tl 12 (clampf k))).map nv).length < 1099511627776 := by rw [List.length_map, bd_tl_length]; omega
        go_wp2_with (at_builtin; refine wpList_append_one _ rfl (.tmp 43) (.tmp 45) 32 rfl N 3 i0 (.int .i64 0) 8 Try.underlying32 hi0 hz0 hz1 hz2 rfl (.slice a 12 c) ((bd (tl 12 (clampf k))).map nv) rfl (hOo.alloc _) _ 1 (.int .i64 (((k 12).toNat : Int) / 4 * 4)) rfl (hnew _) rfl HXL (by omega) (by simp; omega) ?_
                     intro v4 w4 hown4 hg4 hv4
                     have hD2 := hD.grow _ hg4 hown4 hv4 (by rw [HVAL.out]; exact bd_next 12 (clampf k))
                     clear hg4 hv4 hown4 hOo hnew HXL)
        go_roundw
        case rel => exact ⟨13, by omega, by go_num, hD2⟩
        case measure => simp [intOf]
      · have hval : (.int .i64 (((k 13).toNat : Int)) : Value) = nv (clampf k 13).toNat := by
          rfl
        have HVAL := keep hval
        clear hval
        have hnew : ∀ wz : World, (wz.alloc (.cells #[.int .i64 (((k 13).toNat : Int))] 3)).cell? ⟨wz.heap.size, 0, none⟩ = some (.int .i64 (((k 13).toNat : Int))) := fun wz => (Blk.made wz 3 #[.int .i64 (((k 13).toNat : Int))]).at_ rfl
        have hOo := hD.ha
        have HXL : ((bd (tl 13 (clampf k))).map nv).length < 1099511627776 := by rw [List.length_map, bd_tl_length]; omega
        go_wp2_with (at_builtin; refine wpList_append_one _ rfl (.tmp 43) (.tmp 45) 32 rfl N 3 i0 (.int .i64 0) 8 Try.underlying32 hi0 hz0 hz1 hz2 rfl (.slice a 13 c) ((bd (tl 13 (clampf k))).map nv) rfl (hOo.alloc _) _ 1 (.int .i64 (((k 13).toNat : Int))) rfl (hnew _) rfl HXL (by omega) (by simp; omega) ?_
                     intro v4 w4 hown4 hg4 hv4
                     have hD2 := hD.grow _ hg4 hown4 hv4 (by rw [HVAL.out]; exact bd_next 13 (clampf k))
                     clear hg4 hv4 hown4 hOo hnew HXL)
        go_roundw
        case rel => exact ⟨14, by omega, by go_num, hD2⟩
        case measure => simp [intOf]
      · have hval : (.int .i64 (((k 14).toNat : Int)) : Value) = nv (clampf k 14).toNat := by
          rfl
        have HVAL := keep hval
        clear hval
        have hnew : ∀ wz : World, (wz.alloc (.cells #[.int .i64 (((k 14).toNat : Int))] 3)).cell? ⟨wz.heap.size, 0, none⟩ = some (.int .i64 (((k 14).toNat : Int))) := fun wz => (Blk.made wz 3 #[.int .i64 (((k 14).toNat : Int))]).at_ rfl
        have hOo := hD.ha
        have HXL : ((bd (tl 14 (clampf k))).map nv).length < 1099511627776 := by rw [List.length_map, bd_tl_length]; omega
        go_wp2_with (at_builtin; refine wpList_append_one _ rfl (.tmp 43) (.tmp 45) 32 rfl N 3 i0 (.int .i64 0) 8 Try.underlying32 hi0 hz0 hz1 hz2 rfl (.slice a 14 c) ((bd (tl 14 (clampf k))).map nv) rfl (hOo.alloc _) _ 1 (.int .i64 (((k 14).toNat : Int))) rfl (hnew _) rfl HXL (by omega) (by simp; omega) ?_
                     intro v4 w4 hown4 hg4 hv4
                     have hD2 := hD.grow _ hg4 hown4 hv4 (by rw [HVAL.out]; exact bd_next 14 (clampf k))
                     clear hg4 hv4 hown4 hOo hnew HXL)
        go_roundw
        case rel => exact ⟨15, by omega, by go_num, hD2⟩
        case measure => simp [intOf]
      · have hval : (.int .i64 (((k 15).toNat : Int) % 16) : Value) = nv (clampf k 15).toNat := by
          show _ = nv (k 15 &&& 15).toNat; rw [and15]; exact congrArg (Value.int .i64) (by omega)
        have HVAL := keep hval
        clear hval
        have hnew : ∀ wz : World, (wz.alloc (.cells #[.int .i64 (((k 15).toNat : Int) % 16)] 3)).cell? ⟨wz.heap.size, 0, none⟩ = some (.int .i64 (((k 15).toNat : Int) % 16)) := fun wz => (Blk.made wz 3 #[.int .i64 (((k 15).toNat : Int) % 16)]).at_ rfl
        have hOo := hD.ha
        have HXL : ((bd (tl 15 (clampf k))).map nv).length < 1099511627776 := by rw [List.length_map, bd_tl_length]; omega
        go_wp2_with (at_builtin; refine wpList_append_one _ rfl (.tmp 43) (.tmp 45) 32 rfl N 3 i0 (.int .i64 0) 8 Try.underlying32 hi0 hz0 hz1 hz2 rfl (.slice a 15 c) ((bd (tl 15 (clampf k))).map nv) rfl (hOo.alloc _) _ 1 (.int .i64 (((k 15).toNat : Int) % 16)) rfl (hnew _) rfl HXL (by omega) (by simp; omega) ?_
                     intro v4 w4 hown4 hg4 hv4
                     have hD2 := hD.grow _ hg4 hown4 hv4 (by rw [HVAL.out]; exact bd_next 15 (clampf k))
                     clear hg4 hv4 hown4 hOo hnew HXL)
        go_roundw
        case rel => exact ⟨16, by omega, by go_num, hD2⟩
        case measure => simp [intOf]
    · have gj : ¬ (j : Int) < 16 := by omega
      obtain rfl : j = 16 := by omega
      have hF : Own wr w.heap.size (.slice a 16 c) ((bd (tl 16 (clampf k))).map nv) ∧ Below w.heap.size w wr := ⟨hD.ha.mono (by omega), hb0.trans (hD.bel.mono (by omega))⟩
      clear hD
      go_wp2_with fail
      go_ret
      exact ⟨_, rfl, hF⟩
/-! ### A number's bytes -/
def byf (x y z : UInt64) : Nat → UInt8 := fun i => (w3 x y z (i / 8) >>> UInt64.ofNat (8 * (i % 8))).toUInt8
theorem byf_eq (x y z : UInt64) (i : Nat) (hi : i < 24) : byf x y z i = UInt8.ofNat (V3 x y z / 256 ^ i) := by
  apply UInt8.toNat_inj.1
  have hx := x.toNat_lt; have hy := y.toNat_lt; have hz := z.toNat_lt
  unfold byf
  rw [UInt64.toNat_toUInt8, UInt64.toNat_shiftRight, UInt64.toNat_ofNat', UInt8.toNat_ofNat', Nat.shiftRight_eq_div_pow, Nat.mod_eq_of_lt (show 8 * (i % 8) < 2 ^ 64 by omega), Nat.mod_eq_of_lt (show 8 * (i % 8) < 64 by omega)]
  have h : i = 0 ∨ i = 1 ∨ i = 2 ∨ i = 3 ∨ i = 4 ∨ i = 5 ∨ i = 6 ∨ i = 7 ∨ i = 8 ∨ i = 9 ∨ i = 10 ∨ i = 11 ∨ i = 12 ∨ i = 13 ∨ i = 14 ∨ i = 15 ∨ i = 16 ∨ i = 17 ∨ i = 18 ∨ i = 19 ∨ i = 20 ∨ i = 21 ∨ i = 22 ∨ i = 23 := by omega
  rcases h with rfl | rfl | rfl | rfl | rfl | rfl | rfl | rfl | rfl | rfl | rfl | rfl | rfl | rfl | rfl | rfl | rfl | rfl | rfl | rfl | rfl | rfl | rfl | rfl <;> simp [w3, V3] <;> omega
theorem leN_digits (V : Nat) : ∀ n, leN (tl n fun i => UInt8.ofNat (V / 256 ^ i)) = V % 256 ^ n
  | 0 => by simp [tl, leN, Nat.mod_one]
  | n + 1 => by
    rw [tl_succ, leN_append, leN_digits V n, tl_length]
    simp only [leN, Nat.mul_zero, Nat.add_zero]
    rw [UInt8.toNat_ofNat', show (2 : Nat) ^ 8 = 256 from rfl]
    exact (Nat.mod_mul (a := 256 ^ n) (b := 256) (x := V)).symm
theorem leI_byf (x y z : UInt64) : leI (bd (tl 24 (byf x y z))) = V3 x y z := by
  rw [bd_leI, tl_congr fun i hi => byf_eq x y z i hi, leN_digits]
  exact Nat.mod_eq_of_lt (Nat.lt_of_lt_of_le (V3_lt x y z) (by decide))
set_option maxHeartbeats 2000000 in
theorem bytes_any (x y z : UInt64) (w : World) : Calls Try.prog 14 #[.agg (n3 x y z)] w fun e w' => ∃ v, e = .returned v ∧ Own w' w.heap.size v ((bd (tl 24 (byf x y z))).map nv) ∧ Below w.heap.size w w' := by
  obtain ⟨i0, hi0, hz0, hz1, hz2⟩ := info_parts info3i
  have hk0 : Blk (w.alloc (.cells (n3 x y z) 30)) w.heap.size 30 (uarr 3 (w3 x y z)) := Blk.made w 30 _
  have hb0 := belowA w (.cells (n3 x y z) 30)
  have hs0 : (w.alloc (.cells (n3 x y z) 30)).heap.size = w.heap.size + 1 := by simp
  have hD0 := D2.start (w.alloc (.cells (n3 x y z) 30))
  rw [hs0] at hD0
  go_enter Try.func14, Try.ntmps14
  go_wp2_with fail
  generalize w.alloc (.cells (n3 x y z) 30) = w1 at *
  have HS0 := keep hs0
  clear hs0
  generalize hN : w.heap.size + 1 = N at *
  have hkN : w.heap.size < N := by omega
  have HN := keep hN
  clear hN
  go_loopw [3, 4] (fun v t wr => ∃ j : Nat, j ≤ 24 ∧ t = .int .i64 j ∧ D2 N w1 wr v (.slice none 0 0) (bd (tl j (byf x y z))) []) (fun _ t _ => 24 - (intOf t).toNat)
  case atStart => exact ⟨0, Nat.zero_le _, rfl, hD0⟩
  case round =>
    obtain ⟨j, hj, rfl, hD⟩ := hrel
    clear hD0
    obtain ⟨a, c, rfl, hc1, hc2⟩ := hD.formN (bd_tl_length j _)
    have hsz := hD.size
    by_cases hj24 : j < 24
    · have gj : (j : Int) < 24 := by omega
      have g6 : (j : Int) / 8 < 3 := by omega
      have hcell := (hk0.below hD.bel hkN).at_ (uarr_get (w3 x y z) (show j / 8 < 3 by omega))
      have hsh : ∀ t, binOp .shr t (v64 (w3 x y z (j / 8))) (.int .i64 (8 * ((j : Int) % 8))) = pure (v64 (w3 x y z (j / 8) >>> UInt64.ofNat (8 * (j % 8)))) := fun t => by
        have := v64_shr t .i64 (w3 x y z (j / 8)) (8 * ((j : Int) % 8)) (by omega) (by omega)
        rw [this, show (8 * ((j : Int) % 8)).toNat = 8 * (j % 8) by omega]
      have hby : (w3 x y z (j / 8) >>> (8 * UInt64.ofNat (j % 8))).toUInt8 = byf x y z j := by
        unfold byf
        rw [UInt64.ofNat_mul]
        rfl
      obtain ⟨b, hb⟩ : ∃ b, byf x y z j = b := ⟨_, rfl⟩
      rw [hb] at hby
      have hnx := bd_next j (byf x y z)
      rw [hb] at hnx
      have HNX := keep hnx
      clear hnx hb
      have hnew : ∀ wz : World, (wz.alloc (.cells #[.int .i64 ((b.toNat : Int))] 3)).cell? ⟨wz.heap.size, 0, none⟩ = some (.int .i64 ((b.toNat : Int))) := fun wz => (Blk.made wz 3 #[.int .i64 ((b.toNat : Int))]).at_ rfl
      have hOo := hD.ha
      have HXL : ((bd (tl j (byf x y z))).map nv).length < 1099511627776 := by rw [List.length_map, bd_tl_length]; omega
      go_wp2_with (at_builtin; refine wpList_append_one _ rfl (.tmp 9) (.tmp 20) 32 rfl N 3 i0 (.int .i64 0) 8 Try.underlying32 hi0 hz0 hz1 hz2 rfl (.slice a j c) ((bd (tl j (byf x y z))).map nv) rfl (hOo.alloc _) _ 1 (.int .i64 ((b.toNat : Int))) rfl (hnew _) rfl HXL (by omega) (by simp; omega) ?_
                   intro v4 w4 hown4 hg4 hv4
                   have hD2 := hD.grow _ hg4 hown4 hv4 (by rw [(rfl : (.int .i64 (b.toNat : Int) : Value) = nv b.toNat)]; exact HNX.out)
                   clear hg4 hv4 hown4 hOo hnew HXL)
      go_roundw
      case rel => exact ⟨j + 1, by omega, by go_num, hD2⟩
      case measure => simp [intOf]; omega
    · have gj : ¬ (j : Int) < 24 := by omega
      obtain rfl : j = 24 := by omega
      have hF : Own wr w.heap.size (.slice a 24 c) ((bd (tl 24 (byf x y z))).map nv) ∧ Below w.heap.size w wr := ⟨hD.ha.mono (by omega), hb0.trans (hD.bel.mono (by omega))⟩
      clear hD
      go_wp2_with fail
      go_ret
      exact ⟨_, rfl, hF⟩
end Go.Proofs.Ytpjgdocgenpbbaa

/-
  mac: the keys of a root: the program's walk (written by wip/tools/mac_keys.py).
-/
import Derived.Test.YtbfgnlckmpnchaaMacNext
import Derived.Test.YtbfgnlckmpnchaaMacRow
namespace Go.Proofs.Ytbfgnlckmpnchaa
open Go.RowKit
set_option linter.unusedVariables false
set_option linter.unusedSimpArgs false
structure KS (N : Nat) (w wr : World) (root : Nat → UInt8) (info : List UInt8) (v : Value) (i : Nat) : Prop where
  r : Blk wr N 34 (b8 32 root)
  f : Blk wr (N + 1) 9 #[.string (tx info)]
  a : Blk wr (N + 1 + 1) 9 #[.string (tx (kprev root info i))]
  k : Keyed 34 wr (N + 1 + 1 + 1) v (kkey root info) i
  bel : Below N w wr
theorem keys_none (root : Nat → UInt8) (info : List UInt8) (n : Int) (h : n < 0 ∨ 255 < n) (w : World) : Calls Try.prog 30 #[.agg (b8 32 root), .string (tx info), .int .i64 n] w fun e w' => e = .returned (.slice none 0 0) ∧ Below w.heap.size w w' := by
  have hb := belowB w (.cells (b8 32 root) 34) (.cells #[.string (tx info)] 9)
  rcases h with h | h
  · go_enter Try.func30, Try.ntmps30
    go_wp2_with fail
    go_ret
    exact ⟨rfl, hb⟩
  · have h0 : ¬ n < 0 := by omega
    go_enter Try.func30, Try.ntmps30
    go_wp2_with fail
    go_ret
    exact ⟨rfl, hb⟩
set_option maxRecDepth 100000 in
set_option maxHeartbeats 8000000 in
theorem keys_any (root : Nat → UInt8) (info : List UInt8) (n : Nat) (hn : n ≤ 255) (hl : info.length ≤ 900) (w : World) : Calls Try.prog 30 #[.agg (b8 32 root), .string (tx info), .int .i64 (n : Int)] w fun e w' => ∃ v, e = .returned v ∧ Keyed 34 w' w.heap.size v (kkey root info) n ∧ Below w.heap.size w w' := by
  obtain ⟨i0, hi0, hz0, hz1, hz2⟩ := info_parts info34k
  have g0 : Blk (w.alloc (.cells (b8 32 root) 34)) w.heap.size 34 (b8 32 root) := Blk.made w 34 _
  have g1 := madeA w (.cells (b8 32 root) 34) 9 #[.string (tx info)]
  have g2 := madeB w (.cells (b8 32 root) 34) (.cells #[.string (tx info)] 9) 9 #[.string ⟨#[]⟩]
  have gb := belowC w (.cells (b8 32 root) 34) (.cells #[.string (tx info)] 9) (.cells #[.string ⟨#[]⟩] 9)
  have gs : (((w.alloc (.cells (b8 32 root) 34)).alloc (.cells #[.string (tx info)] 9)).alloc (.cells #[.string ⟨#[]⟩] 9)).heap.size = w.heap.size + 1 + 1 + 1 := by simp
  have hS : KS w.heap.size w (((w.alloc (.cells (b8 32 root) 34)).alloc (.cells #[.string (tx info)] 9)).alloc (.cells #[.string ⟨#[]⟩] 9)) root info (.slice none 0 0) 0 := ⟨(g0.alloc _).alloc _, g1.alloc _, g2, World.ownsRow_nil _ _ _ _, gb⟩
  clear g0 g1 g2 gb gs
  have n0 : ¬ (n : Int) < 0 := by omega
  have n1 : ¬ (255 : Int) < (n : Int) := by omega
  go_enter Try.func30, Try.ntmps30
  go_wp2_with fail
  generalize (((w.alloc (.cells (b8 32 root) 34)).alloc (.cells #[.string (tx info)] 9)).alloc (.cells #[.string ⟨#[]⟩] 9)) = w0 at *
  go_loopw [9, 19] (fun v z wr => ∃ i : Nat, i ≤ n ∧ z = .int .i64 i ∧ KS w.heap.size w wr root info v i) (fun _ z _ => n - (intOf z).toNat)
  case atStart => exact ⟨0, Nat.zero_le _, rfl, hS⟩
  case round =>
    clear hS
    obtain ⟨i, hi, rfl, hS⟩ := hrel
    obtain ⟨a, c, rfl, hc1, hc2⟩ := hS.k.form
    by_cases hin : i < n
    · have gin : (i : Int) < (n : Int) := by omega
      have hkl := kprev_length root info i
      have hlt2 := hS.a.lt
      go_wp2_with fail
      refine Calls.mono (show Calls Try.prog 46 #[.int .i64 ((i : Int) + 1), .pointer (some ⟨w.heap.size, 0, none⟩), .pointer (some ⟨w.heap.size + 1 + 1, 0, none⟩), .pointer (some ⟨w.heap.size + 1, 0, none⟩)] _ _ from next_any w.heap.size (w.heap.size + 1 + 1) (w.heap.size + 1) root (kprev root info i) info (i + 1) _ hS.r hS.a hS.f (by omega) (by omega) (by omega) (by omega) (by omega) (kkey root info i) rfl) ?_
      rintro e w2 ⟨rfl, hK, hA⟩
      have hr2 := hK.blk hS.r (by simp; omega)
      have hf2 := hK.blk hS.f (by simp)
      have hk2 := hS.k.keeps hK (by simp)
      have hb2 := hS.bel.trans (hK.toBelow (by omega) (by simp; omega))
      have hsz2 := hK.size
      clear hS hK
      have hbs := b8_one (kkey root info i)
      have hfin : ∀ w3 v3, w3.ownsRow (w.heap.size + 1 + 1 + 1) 34 32 v3 (i + 1) (krow (kkey root info) i ++ (b8 32 (kkey root info i)).toList) → (w2.alloc (.cells (b8 32 (kkey root info i)) 34)).grownBy w3 (.slice a i c : Value).ownBlock → KS w.heap.size w w3 root info v3 (i + 1) := fun w3 v3 ho hg =>
        ⟨(hr2.alloc _).grown hg (hk2.ne (by omega)), (hf2.alloc _).grown hg (hk2.ne (by omega)), (hA.alloc _).grown hg (hk2.ne (by omega)), ho, (hb2.alloc hb2.size _).grown hg (by have := hb2.size; simp; omega) (fun k hk => by have := (World.ownsRow.lt hk2 k hk).1; omega)⟩
      have HFIN := keep hfin
      have hkA := hk2.alloc (.cells (b8 32 (kkey root info i)) 34)
      have hnc := one_cells w2 34 (b8 32 (kkey root info i))
      clear hfin hr2 hf2 hb2 hA hk2
      go_wp2_with (first
        | (refine wpList_one_arr rfl 45 34 (.tmp 26) rfl (b8 32 (kkey root info i)) rfl (arr_size _ _) i0 _ Try.underlying45 hi0 hz0 hz1 ?_)
        | (at_builtin; refine wpList_append_own _ rfl (.tmp 22) (.tmp 27) 45 rfl (w.heap.size + 1 + 1 + 1) 34 i0 (.agg (arr 32 fun _ => .int .u8 0)) 32 32 Try.underlying45 hi0 hz0 hz1 hz2 (arr_size _ _) (by omega) (.slice a i c) i (krow (kkey root info) i) rfl hkA ⟨w2.heap.size, 0, none⟩ 1 1 (b8 32 (kkey root info i)).toList rfl (b8_list_length _) hnc hbs (by simp only [maxLen]; omega) (by omega) (by simp; omega) ?_
           intro v3 w3 ho hg _
           have hS3 := HFIN.out w3 v3 ho hg
           clear ho hg hkA hnc hbs HFIN))
      go_roundw
      case rel => exact ⟨i + 1, by omega, by go_num, hS3⟩
      case measure => simp [intOf]; omega
    · have gin : ¬ (i : Int) < (n : Int) := by omega
      obtain rfl : i = n := by omega
      have HF : Hid (Keyed 34 wr w.heap.size (.slice a i c) (kkey root info) i ∧ Below w.heap.size w wr) := ⟨hS.k.mono (by omega), hS.bel⟩
      clear hS
      go_wp2_with fail
      go_ret
      exact ⟨_, rfl, HF.out⟩
end Go.Proofs.Ytbfgnlckmpnchaa

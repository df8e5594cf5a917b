/-
  ChaPlays: any block, any mask is the document's; a nonce of other bytes than 12 is refused: the walk of the law.
-/
import Derived.Test.YtghojlkogeoejaaRefMask
import Derived.Test.YtghojlkogeoejaaBlock
import Derived.Test.YtghojlkogeoejaaMixedRow
namespace Go.Proofs.Ytghojlkogeoejaa
open Go.RowKit
theorem plays_walk (k : Nat → UInt8) (c : UInt32) (sn s : ByteArray) (w : World) :
    Calls Try.prog 6 #[.agg (karr k), v32 c, .string sn, .string s] w fun e w' => e = .returned (.bool true) ∧ Below w.heap.size w w' := by
  rw [tx_of s, tx_of sn]
  generalize s.toList = l
  generalize sn.toList = n
  have hK : Blk (w.alloc (.cells (karr k) 29)) w.heap.size 29 (karr k) := Blk.made w 29 _
  have hB : Below w.heap.size w (w.alloc (.cells (karr k) 29)) := (Below.refl _ _).alloc (Nat.le_refl _) _
  have hsz : w.heap.size ≤ (w.alloc (.cells (karr k) 29)).heap.size := hB.size
  by_cases h600 : 600 < l.length
  · have g : (600 : Int) < (l.length : Int) := by omega
    go_enter Try.func6, Try.ntmps6
    go_wp2_with fail
    refine (awake_any _).mono ?_; rintro e w1 ⟨rfl, rfl⟩
    go_wp2_with fail
    refine (awake_any _).mono ?_; rintro e w1 ⟨rfl, rfl⟩
    go_wp2_with fail
    go_ret
    exact ⟨rfl, hB⟩
  · have g : ¬ (600 : Int) < (l.length : Int) := by omega
    by_cases hn : n.length = 12
    · have hn2 : ((n.length : Int) != 12) = false := by simp; omega
      have heq : (maskl k c n l == maskl k c n l) = true := by simp
      have heq2 : (tl 64 (ks k c n) == tl 64 (ks k c n)) = true := by simp
      have HN := keep hn
      clear hn
      go_enter Try.func6, Try.ntmps6
      go_wp2_with fail
      refine (awake_any _).mono ?_; rintro e w1 ⟨rfl, rfl⟩
      go_wp2_with (refine wpList_load_row rfl 29 (.tmp 4) rfl w.heap.size rfl 29 (karr k) (0, 0) _ hK Try.underlying29 rfl (by kernel_rfl) ?_)
      refine (block_any k c n _ HN.out).mono ?_
      rintro e w1 ⟨rfl, hb⟩
      have hK1 := hK.kept hb
      have hB1 := hB.trans (hb.mono hsz)
      have hsz1 := hB1.size
      clear hK hB hsz hb
      go_wp2_with (refine wpList_load_row rfl 29 (.tmp 4) rfl w.heap.size rfl 29 (karr k) (0, 0) _ hK1 Try.underlying29 rfl (by kernel_rfl) ?_)
      refine (mask_any k c n l _ HN.out (by omega)).mono ?_
      rintro e w2 ⟨rfl, hb⟩
      have hK2 := hK1.kept hb
      have hB2 := hB1.trans (hb.mono hsz1)
      have hsz2 := hB2.size
      clear hK1 hB1 hsz1 hb
      go_wp2_with (refine wpList_load_row_g (by rfl) 29 (.tmp 4) rfl w.heap.size rfl 29 (karr k) _ hK2 Try.underlying29 rfl (by kernel_rfl) ?_)
      refine (rblock_any k c n _ HN.out).mono ?_
      rintro e w3 ⟨rfl, hb⟩
      have hK3 := hK2.kept hb
      have hB3 := hB2.trans (hb.mono hsz2)
      have hsz3 := hB3.size
      clear hK2 hB2 hsz2 hb
      go_wp2_with (refine wpList_load_row_g (by rfl) 29 (.tmp 4) rfl w.heap.size rfl 29 (karr k) _ hK3 Try.underlying29 rfl (by kernel_rfl) ?_)
      refine (rmask_any k c n l _ HN.out (by omega)).mono ?_
      rintro e w4 ⟨rfl, hb⟩
      have hB4 := hB3.trans (hb.mono hsz3)
      clear hK3 hB3 hsz3 hb
      go_wp2_with fail
      go_ret
      exact ⟨rfl, hB4⟩
    · have hn2 : ((n.length : Int) != 12) = true := by simp; omega
      go_enter Try.func6, Try.ntmps6
      go_wp2_with fail
      refine (awake_any _).mono ?_; rintro e w1 ⟨rfl, rfl⟩
      go_wp2_with (refine wpList_load_row rfl 29 (.tmp 4) rfl w.heap.size rfl 29 (karr k) (0, 0) _ hK Try.underlying29 rfl (by kernel_rfl) ?_)
      refine (block_bad k c n _ hn).mono ?_
      rintro e w1 ⟨rfl, hb⟩
      have hK1 := hK.kept hb
      have hB1 := hB.trans (hb.mono hsz)
      have hsz1 := hB1.size
      clear hK hB hsz hb
      go_wp2_with (refine wpList_load_row rfl 29 (.tmp 4) rfl w.heap.size rfl 29 (karr k) (0, 0) _ hK1 Try.underlying29 rfl (by kernel_rfl) ?_)
      refine (mask_bad k c n l _ hn).mono ?_
      rintro e w2 ⟨rfl, hb⟩
      have hB2 := hB1.trans (hb.mono hsz1)
      go_wp2_with fail
      go_ret
      exact ⟨rfl, hB2⟩
end Go.Proofs.Ytghojlkogeoejaa

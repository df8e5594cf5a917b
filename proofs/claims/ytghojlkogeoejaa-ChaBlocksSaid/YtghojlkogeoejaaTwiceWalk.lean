/-
  ChaTwice: what is masked twice is as it was: the walk of the law.
-/
import Derived.Test.YtghojlkogeoejaaMask
namespace Go.Proofs.Ytghojlkogeoejaa
open Go.RowKit
theorem maskl_length (k : Nat → UInt8) (c : UInt32) (n l : List UInt8) : (maskl k c n l).length = l.length := tl_length _ _
theorem mask_twice (k : Nat → UInt8) (c : UInt32) (n l : List UInt8) : maskl k c n (maskl k c n l) = l := by
  refine ext_bt (by rw [maskl_length, maskl_length]) fun i hi => ?_
  rw [maskl_length, maskl_length] at hi
  have h1 : bt (maskl k c n (maskl k c n l)) i = mby k c n (maskl k c n l) i := bt_tl _ (by rw [maskl_length]; exact hi)
  have h2 : bt (maskl k c n l) i = mby k c n l i := bt_tl _ hi
  rw [h1]
  unfold mby
  rw [h2]
  unfold mby
  rw [UInt8.xor_assoc, UInt8.xor_self, UInt8.xor_zero]
def narr (n : Nat → UInt8) : Array Value := arr 12 fun i => v8 (n i)
theorem narr_back {w : World} {b : Nat} {n : Nat → UInt8} (h : Blk w b 30 (narr n)) : (convert 31 9 (.slice (some ⟨b, 0, none⟩) 12 12)).run Try.prog w = .ok (.string (tx (tl 12 n))) w :=
  (Row8.ofBlk h).back 31 9 5 Try.underlying31 Try.underlying5 Try.underlying9 12

theorem twice_walk (k : Nat → UInt8) (c : UInt32) (n : Nat → UInt8) (s : ByteArray) (w : World) :
    Calls Try.prog 4 #[.agg (karr k), v32 c, .agg (narr n), .string s] w fun e w' => e = .returned (.bool true) ∧ Below w.heap.size w w' := by
  rw [tx_of s]
  generalize s.toList = l
  by_cases h600 : 600 < l.length
  · have g : (600 : Int) < (l.length : Int) := by omega
    go_enter Try.func4, Try.ntmps4
    go_wp2_with fail
    refine (awake_any _).mono ?_; rintro e w1 ⟨rfl, rfl⟩
    go_wp2_with fail
    refine (awake_any _).mono ?_; rintro e w1 ⟨rfl, rfl⟩
    go_wp2_with fail
    go_ret
    exact ⟨rfl, ((Below.refl _ _).alloc (Nat.le_refl _) _).alloc (by simp) _⟩
  · have g : ¬ (600 : Int) < (l.length : Int) := by omega
    have hm := mask_twice k c (tl 12 n) l
    have hml := maskl_length k c (tl 12 n) l
    have HM := keep hm
    clear hm
    have hN : Blk ((w.alloc (.cells (karr k) 29)).alloc (.cells (narr n) 30)) (w.heap.size + 1) 30 (narr n) := by have := Blk.made (w.alloc (.cells (karr k) 29)) 30 (narr n); simpa using this
    have hK : Blk ((w.alloc (.cells (karr k) 29)).alloc (.cells (narr n) 30)) w.heap.size 29 (karr k) := (Blk.made w 29 _).alloc _
    have hcv := narr_back hN
    have hB : Below w.heap.size w ((w.alloc (.cells (karr k) 29)).alloc (.cells (narr n) 30)) := ((Below.refl _ _).alloc (Nat.le_refl _) _).alloc (by simp) _
    have hsz : w.heap.size ≤ ((w.alloc (.cells (karr k) 29)).alloc (.cells (narr n) 30)).heap.size := hB.size
    go_enter Try.func4, Try.ntmps4
    go_wp2_with fail
    refine (awake_any _).mono ?_; rintro e w1 ⟨rfl, rfl⟩
    go_wp2_with (refine wpList_load_row rfl 29 (.tmp 4) rfl w.heap.size rfl 29 (karr k) (0,0) _ hK Try.underlying29 rfl (by kernel_rfl) ?_)
    refine (mask_any k c (tl 12 n) l _ (tl_length _ _) (by omega)).mono ?_
    rintro e w2 ⟨rfl, hb2⟩
    have hK2 := hK.kept hb2
    have hB2 := hB.trans (hb2.mono hsz)
    have hsz2 := hB2.size
    clear hK hB hb2 hcv hN hsz
    generalize hml' : maskl k c (tl 12 n) l = l' at *
    go_wp2_with (refine wpList_load_row rfl 29 (.tmp 4) rfl w.heap.size rfl 29 (karr k) (0,0) _ hK2 Try.underlying29 rfl (by kernel_rfl) ?_)
    refine (mask_any k c (tl 12 n) l' _ (tl_length _ _) (by omega)).mono ?_
    rintro e w3 ⟨rfl, hb3⟩
    rw [HM.out]
    go_wp2_with fail
    go_ret
    exact ⟨rfl, hB2.trans (hb3.mono hsz2)⟩
end Go.Proofs.Ytghojlkogeoejaa

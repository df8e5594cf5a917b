/-
  cha: the quarter, its turns to the left (math/bits) and, of the law, the turn to the right: what each computes.
-/
import Derived.Test.YtghojlkogeoejaaRows
import Derived.Test.YtghojlkogeoejaaVals
namespace Go.Proofs.Ytghojlkogeoejaa
open Go.RowKit
def rot (x n : UInt32) : UInt32 := x <<< n ||| x >>> (32 - n)
def quarter (a b c d : UInt32) : UInt32 × UInt32 × UInt32 × UInt32 :=
  let a := a + b
  let d := rot (d ^^^ a) 16
  let c := c + d
  let b := rot (b ^^^ c) 12
  let a := a + b
  let d := rot (d ^^^ a) 8
  let c := c + d
  let b := rot (b ^^^ c) 7
  (a, b, c, d)
def q4 (p : UInt32 × UInt32 × UInt32 × UInt32) : Value := .tuple #[v32 p.1, v32 p.2.1, v32 p.2.2.1, v32 p.2.2.2]

theorem rot_any (k : Nat) (hk : k = 16 ∨ k = 12 ∨ k = 8 ∨ k = 7) (x : UInt32) (w : World) : Calls Try.prog 15 #[v32 x, .int .i64 (k : Int)] w fun e w' => e = .returned (v32 (rot x (UInt32.ofNat k))) ∧ w = w' := by
  rcases hk with rfl | rfl | rfl | rfl
  all_goals
    go_enter Try.func15, Try.ntmps15
    go_wp2
    go_ret
    exact ⟨rfl, rfl⟩
theorem results_of4 {fn : Func} {t u v x : Tmp} (h : fn.results = #[.tmp t, .tmp u, .tmp v, .tmp x]) (tmps : Array Value) (P : Program) (w : World) :
    (results fn tmps).run P w = .ok (.tuple #[tmps.getD t undef, tmps.getD u undef, tmps.getD v undef, tmps.getD x undef]) w := by simp [results, h]
theorem quarter_any (a b c d : UInt32) (w : World) : Calls Try.prog 8 #[v32 a, v32 b, v32 c, v32 d] w fun e w' => e = .returned (q4 (quarter a b c d)) ∧ w = w' := by
  go_enter Try.func8, Try.ntmps8
  go_wp2_with fail
  refine (rot_any 16 (by simp) _ _).mono ?_; rintro e w' ⟨rfl, rfl⟩
  go_wp2_with fail
  refine (rot_any 12 (by simp) _ _).mono ?_; rintro e w' ⟨rfl, rfl⟩
  go_wp2_with fail
  refine (rot_any 8 (by simp) _ _).mono ?_; rintro e w' ⟨rfl, rfl⟩
  go_wp2_with fail
  refine (rot_any 7 (by simp) _ _).mono ?_; rintro e w' ⟨rfl, rfl⟩
  go_wp2_with fail
  refine bodyPost_ret (results_of4 rfl _ _ _) rfl ?_
  exact ⟨rfl, rfl⟩
theorem quarter_example : quarter 286331153 16909060 2609737539 19088743 = (3928658676, 3407673550, 1166100270, 1484899515) := by decide
theorem awake_any (w : World) : Calls Try.prog 10 #[] w fun e w' => e = .returned (.bool true) ∧ w = w' := by
  go_enter Try.func10, Try.ntmps10
  go_wp2_with fail
  refine Calls.mono (show Calls Try.prog 8 #[v32 286331153, v32 16909060, v32 2609737539, v32 19088743] _ _ from quarter_any _ _ _ _ _) ?_
  rintro e w' ⟨rfl, rfl⟩
  rw [quarter_example]
  unfold q4
  go_wp2
  go_ret
  exact ⟨rfl, rfl⟩
def rotr (x n : UInt32) : UInt32 := x >>> n ||| x <<< (32 - n)
theorem turn_any (k : Nat) (hk : k = 16 ∨ k = 12 ∨ k = 8 ∨ k = 7) (x : UInt32) (w : World) : Calls Try.prog 9 #[v32 x, .int .i64 (k : Int)] w fun e w' => e = .returned (v32 (rotr x (UInt32.ofNat k))) ∧ w.drew = w' := by
  rcases hk with rfl | rfl | rfl | rfl
  all_goals
    go_enter Try.func9, Try.ntmps9
    go_wp2
    go_region
    go_wp2
    go_ret
    exact ⟨rfl, rfl⟩
/-! ### The plain law: a turn to the right undoes the turn to the left -/
theorem bv_back (x : BitVec 32) (n m : Nat) (h : n + m = 32) (_hn : 0 < n) (_hm : 0 < m) : ((x <<< n ||| x >>> m) >>> n) ||| ((x <<< n ||| x >>> m) <<< m) = x := by
  ext i hi
  simp only [BitVec.getElem_or, BitVec.getElem_ushiftRight, BitVec.getElem_shiftLeft, BitVec.getLsbD_or, BitVec.getLsbD_shiftLeft, BitVec.getLsbD_ushiftRight]
  by_cases h1 : n + i < 32
  · have h2 : i < m := by omega
    simp [h1, h2, BitVec.getLsbD_of_ge x (m + (n + i)) (by omega), show ¬ n + i < n by omega, BitVec.getLsbD_eq_getElem hi]
  · have h2 : ¬ i < m := by omega
    have h3 : i - m < n := by omega
    simp [h1, h2, h3, BitVec.getLsbD_of_ge x (m + (n + i)) (by omega), show m + (i - m) = i by omega, BitVec.getLsbD_eq_getElem hi]
theorem rotr_rot (x n : UInt32) (h : n = 16 ∨ n = 12 ∨ n = 8 ∨ n = 7) : rotr (rot x n) n = x := by
  apply UInt32.eq_of_toBitVec_eq
  rcases h with rfl | rfl | rfl | rfl
  · exact bv_back x.toBitVec 16 16 rfl (by omega) (by omega)
  · exact bv_back x.toBitVec 12 20 rfl (by omega) (by omega)
  · exact bv_back x.toBitVec 8 24 rfl (by omega) (by omega)
  · exact bv_back x.toBitVec 7 25 rfl (by omega) (by omega)
end Go.Proofs.Ytghojlkogeoejaa

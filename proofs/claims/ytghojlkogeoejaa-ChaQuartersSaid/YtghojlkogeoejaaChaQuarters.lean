/-
  ChaQuarters: whatever four words are given, the quarter undone gives them back, and the example of the document holds: the law returns true. No condition.
  The frame of the row step was written by proof-skeleton.mjs.
-/
import Derived.Test.YtghojlkogeoejaaRows
import Derived.WalkKit
import Derived.ProofKit
import Derived.OpenShut
import Derived.Test.YtghojlkogeoejaaQuarter
namespace Go.Proofs.Ytghojlkogeoejaa.chaQuarters
open Go.ChangeShapes Go.WideShapes Go.ChangeAt Go.RowKit
set_option linter.unusedVariables false      -- a walk need not use every 'w<i>' (that an integer argument fits its kind)

theorem own : ownKnob Try.prog.godebug = none := by kernel_rfl

/-! ### The plain law: what the law computes of what the quarter gives -/
theorem undo (a b c d : UInt32) :
    let p := quarter a b c d
    let w := p.1
    let x := p.2.1
    let y := p.2.2.1
    let z := p.2.2.2
    let x1 := rotr x 7 ^^^ y
    let y1 := y - z
    let z1 := rotr z 8 ^^^ w
    let w1 := w - x1
    let x2 := rotr x1 12 ^^^ y1
    let y2 := y1 - z1
    let z2 := rotr z1 16 ^^^ w1
    let w2 := w1 - x2
    w2 = a ∧ x2 = b ∧ y2 = c ∧ z2 = d := by
  have h7 := fun x => rotr_rot x 7 (by simp)
  have h8 := fun x => rotr_rot x 8 (by simp)
  have h12 := fun x => rotr_rot x 12 (by simp)
  have h16 := fun x => rotr_rot x 16 (by simp)
  simp only [quarter, h7, h8, h12, h16, UInt32.xor_assoc, UInt32.xor_self, UInt32.xor_zero, UInt32.add_sub_cancel, and_self]

/-! ### The walk -/
theorem walk (a b c d : UInt32) (w : World) : Calls Try.prog 3 #[v32 a, v32 b, v32 c, v32 d] w fun e w' => e = .returned (.bool true) ∧ Grown w w' := by
  have H := keep (undo a b c d)
  go_enter Try.func3, Try.ntmps3
  go_wp2_with fail
  refine (quarter_any a b c d _).mono ?_; rintro e w1 ⟨rfl, rfl⟩
  unfold q4
  obtain ⟨p, q, r, s, e⟩ : ∃ p q r s, quarter a b c d = (p, q, r, s) := ⟨_, _, _, _, rfl⟩
  rw [e] at H ⊢
  clear e
  go_wp2_with fail
  refine (turn_any 7 (by simp) _ _).mono ?_; rintro e w1 ⟨rfl, rfl⟩
  go_wp2_with fail
  refine (turn_any 8 (by simp) _ _).mono ?_; rintro e w1 ⟨rfl, rfl⟩
  go_wp2_with fail
  refine (turn_any 12 (by simp) _ _).mono ?_; rintro e w1 ⟨rfl, rfl⟩
  go_wp2_with fail
  refine (turn_any 16 (by simp) _ _).mono ?_; rintro e w1 ⟨rfl, rfl⟩
  go_wp2_with fail
  refine (awake_any _).mono ?_; rintro e w1 ⟨rfl, rfl⟩
  have b1 := beq_iff_eq.2 H.out.1
  have b2 := beq_iff_eq.2 H.out.2.1
  have b3 := beq_iff_eq.2 H.out.2.2.1
  have b4 := beq_iff_eq.2 H.out.2.2.2
  go_wp2_with fail
  go_ret
  exact ⟨rfl, by repeat (first | exact Grown.refl _ | apply Grown.drew | apply Grown.alloc)⟩

theorem walk32 (a0 a1 a2 a3 : Int) (w0 : (Lit.int .u32 a0).wf = true) (w1 : (Lit.int .u32 a1).wf = true) (w2 : (Lit.int .u32 a2).wf = true) (w3 : (Lit.int .u32 a3).wf = true) (w : World) :
    Calls Try.prog 3 #[.int .u32 a0, .int .u32 a1, .int .u32 a2, .int .u32 a3] w fun e w' => e = .returned (.bool true) ∧ Grown w w' := by
  obtain ⟨x0, rfl⟩ := of_wf32 w0
  obtain ⟨x1, rfl⟩ := of_wf32 w1
  obtain ⟨x2, rfl⟩ := of_wf32 w2
  obtain ⟨x3, rfl⟩ := of_wf32 w3
  exact walk x0 x1 x2 x3 w

/-! ### THE ROW's STEP: WRITTEN OUT: LEAVE IT -/
set_option maxRecDepth 100000 in
theorem lifted (os : Os) (started : os.Started) (H : Type) (enc : TypeId × Value → H) :
    ReturnsInHanded {} Try.checked os 3 .any (Rows.chaQuartersSpec.pre6 enc Try.prog Try.f3 Rows.chaQuartersRow.domain false) (Rows.chaQuartersSpec.post enc Try.prog Try.f3 false true false false) := by
  refine returnsInHanded_of_change (C := Try.checked) own started (by kernel_rfl) Try.func3
    (ChangeSpec.witness6 (enc := enc) (C := Try.checked) false ⟨#[], #[.int .u32 0, .int .u32 0, .int .u32 0, .int .u32 0], []⟩ 8 (by kernel_rfl) (by kernel_rfl) (by kernel_rfl) (by kernel_rfl)) ?_
  intro W base args ds gs before hval0 hW hcnd _
  have hval : ∀ (j : Nat) t v, Try.f3.params[j]? = some t → args[j]? = some v → Value.okWide Try.prog W .any base t v := hval0
  have hW' := hW
  obtain ⟨p, q, hA0, hV, rfl, hfz, hnd⟩ := hW
  have hA : DataW.TrodAll enc Try.prog W 0 (fun _ => true) true Try.f3.params.toList args.toList ds p := hA0
  rw [Try.params3] at hA hval
  obtain ⟨v0, vs0, d0, ds0, p0, q0, hargs, rfl, rfl, h0, r0⟩ := trodAll_cons hA
  obtain ⟨v1, vs1, d1, ds1, p1, q1, rfl, rfl, rfl, h1, r1⟩ := trodAll_cons r0
  obtain ⟨v2, vs2, d2, ds2, p2, q2, rfl, rfl, rfl, h2, r2⟩ := trodAll_cons r1
  obtain ⟨v3, vs3, d3, ds3, p3, q3, rfl, rfl, rfl, h3, r3⟩ := trodAll_cons r2
  obtain ⟨rfl, rfl, rfl⟩ := trodAll_nil r3
  obtain rfl : args = #[v0, v1, v2, v3] := by cases args; simp_all
  obtain ⟨rfl, rfl⟩ := trodVars_none hV
  obtain ⟨a0, rfl, rfl, rfl, w0⟩ := open_int Try.underlying22 (hval 0 22 v0 rfl rfl) h0
  obtain ⟨a1, rfl, rfl, rfl, w1⟩ := open_int Try.underlying22 (hval 1 22 v1 rfl rfl) h1
  obtain ⟨a2, rfl, rfl, rfl, w2⟩ := open_int Try.underlying22 (hval 2 22 v2 rfl rfl) h2
  obtain ⟨a3, rfl, rfl, rfl, w3⟩ := open_int Try.underlying22 (hval 3 22 v3 rfl rfl) h3
  clear hA0 hval0
  simp only [List.append_nil] at hW'
  refine (walk32 a0 a1 a2 a3 w0 w1 w2 w3 W).mono fun e W' ⟨he, hg⟩ => ?_
  subst he
  exact ⟨_, rfl, post_of_same (pa := []) (pv := []) hW' (fun _ _ _ => (trodAll_cons_mk (shut_bool Try.underlying4 _) trodAll_mk0)) (fun sp _ => (trodAll_cons_mk (shut_int Try.underlying22 w0) (trodAll_cons_mk (shut_int Try.underlying22 w1) (trodAll_cons_mk (shut_int Try.underlying22 w2) (trodAll_cons_mk (shut_int Try.underlying22 w3) trodAll_mk0))))) (fun _ _ => rfl) rfl
    (hg.frame _) hg.2.1 (ok_one (by kernel_rfl) rfl (okWide_bool_mk Try.underlying4 _))⟩

theorem over : Rows.chaQuartersRow.holds Try.pinned (OpenSpec.ofChange Rows.chaQuartersSpec) :=
  OpenClaim.holds_of_wide 3 Try.f3 rfl rfl rfl rfl rfl rfl rfl ⟨rfl, rfl, rfl, rfl, rfl⟩ rfl rfl rfl rfl rfl (by kernel_rfl) Try.func3 (by kernel_rfl)
    (of_decide_eq_true (by kernel_rfl)) (by unfold Func.isWrapper; first | (rw [if_pos (by decide +kernel)]; kernel_rfl) | (rw [if_neg (by decide +kernel)]; exact ⟨rfl, rfl⟩))
    (fun os started H enc _ => lifted os started H enc)

/-- ████ THE STATEMENT ████ -/
theorem proved : Rows.ChaQuartersSaid :=
  over
#print axioms proved
end Go.Proofs.Ytghojlkogeoejaa.chaQuarters

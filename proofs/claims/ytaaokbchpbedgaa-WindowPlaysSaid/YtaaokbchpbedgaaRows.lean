/-
  No cell of these rows narrows 'for every input' (looked for: loops, veiled, ifaces, maps, wideKeys, modest, calm, conditions, laid).
  DERIVED. THE GIVEN ROWS OF THIS SEAT. 5 by the template 'for every input the law returns true; each argument reads behind the call as it read before'; 0 by the template 'total and deterministic' (their statements: YtaaokbchpbedgaaTotals.lean).
  GIVEN WITH THE SEED: the statements are not yours to turn. If you find one false, say at which input.
  Laid BY PROGRAM, IN A SANDBOX (cutbox-rows.mjs): the forced cells as the released guide's own fill.sh prints them over the translation ccb802cb43a8eba0… (all of the seat's roots in one cut). By AI agents, Wed Nov 11 2026. No macro, syntax, notation, axiom, sorry.
-/
import Derived.Test.YtaaokbchpbedgaaChecked
import GoSem.Claim
import GoSem.ClaimJoined
import GoSem.ClaimMapViews
import Derived.JoinedTies
import Derived.KernelRfl
namespace Go.Proofs.Ytaaokbchpbedgaa
/- THE CELL 'sum', in the pinned program and in every row, IS THE sha256 OF THE DUMP (.gsa) THAT YtaaokbchpbedgaaProg.lean LOADS. Nothing in Lean hashes anything: it is a label: what it is worth is what the hold of that sum in a sandbox is worth. -/
noncomputable def Try.pinned : Pinned := { name := "ytaaokbchpbedgaa", sum := "ccb802cb43a8eba06e9c513e6318443e4f82641df7ef8e7524e1edd17aa974f3", checked := Try.checked }
namespace Rows
def none {H : Type} : Left H := { results := [], args := [] }

/-- 'causeylaw14.WindowShifts': WHATEVER THE INPUT: true; the input reads as it did. -/
def windowShiftsSpec : ChangeSpec := { name := "windowShifts", fn := fun _ => fun
  | [d1, d2] => { results := [.lit (.bool true)], args := [d1, d2] }
  | _ => none }
def windowShiftsRow : OpenClaim := { program := "ytaaokbchpbedgaa", sum := "ccb802cb43a8eba06e9c513e6318443e4f82641df7ef8e7524e1edd17aa974f3", func := "causey/causeylaw14.WindowShifts", spec := "windowShifts", apart := false }
def WindowShiftsSaid : Prop := windowShiftsRow.holds Try.pinned (OpenSpec.ofChange windowShiftsSpec)

/-- ITS FALSE NEIGHBOUR: 'it returns false'. Refute it at one input. -/
def windowShiftsWrong : ChangeSpec := { name := "windowShifts", fn := fun _ => fun
  | [d1, d2] => { results := [.lit (.bool false)], args := [d1, d2] }
  | _ => none }
def WindowShiftsWrongFalsely : Prop := windowShiftsRow.holds Try.pinned (OpenSpec.ofChange windowShiftsWrong)

/-- 'causeylaw14.WindowNear': WHATEVER THE INPUT: true; the input reads as it did. -/
def windowNearSpec : ChangeSpec := { name := "windowNear", fn := fun _ => fun
  | [d1, d2] => { results := [.lit (.bool true)], args := [d1, d2] }
  | _ => none }
def windowNearRow : OpenClaim := { program := "ytaaokbchpbedgaa", sum := "ccb802cb43a8eba06e9c513e6318443e4f82641df7ef8e7524e1edd17aa974f3", func := "causey/causeylaw14.WindowNear", spec := "windowNear", apart := false }
def WindowNearSaid : Prop := windowNearRow.holds Try.pinned (OpenSpec.ofChange windowNearSpec)

/-- ITS FALSE NEIGHBOUR: 'it returns false'. Refute it at one input. -/
def windowNearWrong : ChangeSpec := { name := "windowNear", fn := fun _ => fun
  | [d1, d2] => { results := [.lit (.bool false)], args := [d1, d2] }
  | _ => none }
def WindowNearWrongFalsely : Prop := windowNearRow.holds Try.pinned (OpenSpec.ofChange windowNearWrong)

/-- 'causeylaw14.WindowRises': WHATEVER THE INPUT: true; the input reads as it did. -/
def windowRisesSpec : ChangeSpec := { name := "windowRises", fn := fun _ => fun
  | [d] => { results := [.lit (.bool true)], args := [d] }
  | _ => none }
def windowRisesRow : OpenClaim := { program := "ytaaokbchpbedgaa", sum := "ccb802cb43a8eba06e9c513e6318443e4f82641df7ef8e7524e1edd17aa974f3", func := "causey/causeylaw14.WindowRises", spec := "windowRises", apart := false }
def WindowRisesSaid : Prop := windowRisesRow.holds Try.pinned (OpenSpec.ofChange windowRisesSpec)

/-- ITS FALSE NEIGHBOUR: 'it returns false'. Refute it at one input. -/
def windowRisesWrong : ChangeSpec := { name := "windowRises", fn := fun _ => fun
  | [d] => { results := [.lit (.bool false)], args := [d] }
  | _ => none }
def WindowRisesWrongFalsely : Prop := windowRisesRow.holds Try.pinned (OpenSpec.ofChange windowRisesWrong)

/-- 'causeylaw14.WindowOnce': WHATEVER THE INPUT: true; the input reads as it did. -/
def windowOnceSpec : ChangeSpec := { name := "windowOnce", fn := fun _ => fun
  | [d] => { results := [.lit (.bool true)], args := [d] }
  | _ => none }
def windowOnceRow : OpenClaim := { program := "ytaaokbchpbedgaa", sum := "ccb802cb43a8eba06e9c513e6318443e4f82641df7ef8e7524e1edd17aa974f3", func := "causey/causeylaw14.WindowOnce", spec := "windowOnce", apart := false }
def WindowOnceSaid : Prop := windowOnceRow.holds Try.pinned (OpenSpec.ofChange windowOnceSpec)

/-- ITS FALSE NEIGHBOUR: 'it returns false'. Refute it at one input. -/
def windowOnceWrong : ChangeSpec := { name := "windowOnce", fn := fun _ => fun
  | [d] => { results := [.lit (.bool false)], args := [d] }
  | _ => none }
def WindowOnceWrongFalsely : Prop := windowOnceRow.holds Try.pinned (OpenSpec.ofChange windowOnceWrong)

/-- 'causeylaw14.WindowPlays': WHATEVER THE INPUT: true; the input reads as it did. -/
def windowPlaysSpec : ChangeSpec := { name := "windowPlays", fn := fun _ => fun
  | [d] => { results := [.lit (.bool true)], args := [d] }
  | _ => none }
def windowPlaysRow : OpenClaim := { program := "ytaaokbchpbedgaa", sum := "ccb802cb43a8eba06e9c513e6318443e4f82641df7ef8e7524e1edd17aa974f3", func := "causey/causeylaw14.WindowPlays", spec := "windowPlays", apart := false }
def WindowPlaysSaid : Prop := windowPlaysRow.holds Try.pinned (OpenSpec.ofChange windowPlaysSpec)

/-- ITS FALSE NEIGHBOUR: 'it returns false'. Refute it at one input. -/
def windowPlaysWrong : ChangeSpec := { name := "windowPlays", fn := fun _ => fun
  | [d] => { results := [.lit (.bool false)], args := [d] }
  | _ => none }
def WindowPlaysWrongFalsely : Prop := windowPlaysRow.holds Try.pinned (OpenSpec.ofChange windowPlaysWrong)

/- THE SECOND FORM. 'bulk': how many values and letters a reading holds, each counted each time it is reached (what is shared counts as often as it is met; a slice's spare places count too). A statement '..UptoSaid' is the law's where the arguments, and the package variables that the reading takes, are together of bulk at most 1048576: NARROWER than '..Said'. Prove '..Said' where nothing that the law and all that it calls make is longer than what came in: it says more and counts as full. Else prove '..UptoSaid'. A law counts once. -/
mutual
def uptoBulk {H : Type} : DataW H → Nat
  | .lit (.string bytes) => bytes.length + 1
  | .lit _ => 1
  | .nil => 1
  | .ptr d => uptoBulk d + 1
  | .slice elems spare => uptoBulkAll elems + uptoBulkAll spare + 1
  | .agg parts => uptoBulkAll parts + 1
  | .iface _ d => uptoBulk d + 1
  | .map entries => uptoBulkEntries entries + 1
  | .held _ => 1
def uptoBulkAll {H : Type} : List (DataW H) → Nat
  | [] => 0
  | d :: r => uptoBulk d + uptoBulkAll r
def uptoBulkEntries {H : Type} : List (Lit × DataW H) → Nat
  | [] => 0
  | x :: r => uptoBulkEntry x + uptoBulkEntries r
def uptoBulkEntry {H : Type} : Lit × DataW H → Nat
  | (.string bytes, d) => bytes.length + uptoBulk d + 1
  | (_, d) => uptoBulk d + 1
 end
def uptoSmall : (H : Type) → List (DataW H) → Bool := fun _ ds => decide (uptoBulkAll ds ≤ 1048576)
def OpenSpec.upto (s : _root_.Go.ChangeSpec) : _root_.Go.OpenSpec := { _root_.Go.OpenSpec.ofChange s with cond := some uptoSmall }

/-- 'causeylaw14.WindowShifts', WHERE WHAT IT READS IS OF BULK AT MOST 1048576: true; the input reads as it did. -/
def windowShiftsUptoRow : OpenClaim := { program := "ytaaokbchpbedgaa", sum := "ccb802cb43a8eba06e9c513e6318443e4f82641df7ef8e7524e1edd17aa974f3", func := "causey/causeylaw14.WindowShifts", spec := "windowShifts", apart := false, narrowed := true }
def WindowShiftsUptoSaid : Prop := windowShiftsUptoRow.holds Try.pinned (OpenSpec.upto windowShiftsSpec)

/-- 'causeylaw14.WindowNear', WHERE WHAT IT READS IS OF BULK AT MOST 1048576: true; the input reads as it did. -/
def windowNearUptoRow : OpenClaim := { program := "ytaaokbchpbedgaa", sum := "ccb802cb43a8eba06e9c513e6318443e4f82641df7ef8e7524e1edd17aa974f3", func := "causey/causeylaw14.WindowNear", spec := "windowNear", apart := false, narrowed := true }
def WindowNearUptoSaid : Prop := windowNearUptoRow.holds Try.pinned (OpenSpec.upto windowNearSpec)

/-- 'causeylaw14.WindowRises', WHERE WHAT IT READS IS OF BULK AT MOST 1048576: true; the input reads as it did. -/
def windowRisesUptoRow : OpenClaim := { program := "ytaaokbchpbedgaa", sum := "ccb802cb43a8eba06e9c513e6318443e4f82641df7ef8e7524e1edd17aa974f3", func := "causey/causeylaw14.WindowRises", spec := "windowRises", apart := false, narrowed := true }
def WindowRisesUptoSaid : Prop := windowRisesUptoRow.holds Try.pinned (OpenSpec.upto windowRisesSpec)

/-- 'causeylaw14.WindowOnce', WHERE WHAT IT READS IS OF BULK AT MOST 1048576: true; the input reads as it did. -/
def windowOnceUptoRow : OpenClaim := { program := "ytaaokbchpbedgaa", sum := "ccb802cb43a8eba06e9c513e6318443e4f82641df7ef8e7524e1edd17aa974f3", func := "causey/causeylaw14.WindowOnce", spec := "windowOnce", apart := false, narrowed := true }
def WindowOnceUptoSaid : Prop := windowOnceUptoRow.holds Try.pinned (OpenSpec.upto windowOnceSpec)

/-- 'causeylaw14.WindowPlays', WHERE WHAT IT READS IS OF BULK AT MOST 1048576: true; the input reads as it did. -/
def windowPlaysUptoRow : OpenClaim := { program := "ytaaokbchpbedgaa", sum := "ccb802cb43a8eba06e9c513e6318443e4f82641df7ef8e7524e1edd17aa974f3", func := "causey/causeylaw14.WindowPlays", spec := "windowPlays", apart := false, narrowed := true }
def WindowPlaysUptoSaid : Prop := windowPlaysUptoRow.holds Try.pinned (OpenSpec.upto windowPlaysSpec)

end Rows
end Go.Proofs.Ytaaokbchpbedgaa

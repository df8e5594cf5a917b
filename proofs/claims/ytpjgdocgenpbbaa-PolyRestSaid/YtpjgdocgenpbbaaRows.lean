/-
  No cell of these rows narrows 'for every input' (looked for: loops, veiled, ifaces, maps, wideKeys, modest, calm, conditions, laid).
  DERIVED. THE GIVEN ROWS OF THIS SEAT. 6 by the template 'for every input the law returns true; each argument reads behind the call as it read before'; 0 by the template 'total and deterministic' (their statements: YtpjgdocgenpbbaaTotals.lean).
  GIVEN WITH THE SEED: the statements are not yours to turn. If you find one false, say at which input.
  Laid BY PROGRAM, IN A SANDBOX (cutbox-rows.mjs): the forced cells as the released guide's own fill.sh prints them over the translation ae9c06df212e6500… (all of the seat's roots in one cut). By AI agents, Wed Nov 11 2026. No macro, syntax, notation, axiom, sorry.
-/
import Derived.Test.YtpjgdocgenpbbaaChecked
import GoSem.Claim
import GoSem.ClaimJoined
import GoSem.ClaimMapViews
import Derived.JoinedTies
import Derived.KernelRfl
namespace Go.Proofs.Ytpjgdocgenpbbaa
/- THE CELL 'sum', in the pinned program and in every row, IS THE sha256 OF THE DUMP (.gsa) THAT YtpjgdocgenpbbaaProg.lean LOADS. Nothing in Lean hashes anything: it is a label: what it is worth is what the hold of that sum in a sandbox is worth. -/
noncomputable def Try.pinned : Pinned := { name := "ytpjgdocgenpbbaa", sum := "ae9c06df212e6500ae420f5f504130226f04e750b5574a7ece3b8c557bf4302c", checked := Try.checked }
namespace Rows
def none {H : Type} : Left H := { results := [], args := [] }

/-- 'causeylaw04.PolyBits': WHATEVER THE INPUT: true; the input reads as it did. -/
def polyBitsSpec : ChangeSpec := { name := "polyBits", fn := fun _ => fun
  | [d1, d2] => { results := [.lit (.bool true)], args := [d1, d2] }
  | _ => none }
def polyBitsRow : OpenClaim := { program := "ytpjgdocgenpbbaa", sum := "ae9c06df212e6500ae420f5f504130226f04e750b5574a7ece3b8c557bf4302c", func := "causey/causeylaw04.PolyBits", spec := "polyBits", inPlace := ["math/bits.Add64"], apart := false }
def PolyBitsSaid : Prop := polyBitsRow.holds Try.pinned (OpenSpec.ofChange polyBitsSpec)

/-- ITS FALSE NEIGHBOUR: 'it returns false'. Refute it at one input. -/
def polyBitsWrong : ChangeSpec := { name := "polyBits", fn := fun _ => fun
  | [d1, d2] => { results := [.lit (.bool false)], args := [d1, d2] }
  | _ => none }
def PolyBitsWrongFalsely : Prop := polyBitsRow.holds Try.pinned (OpenSpec.ofChange polyBitsWrong)

/-- 'causeylaw04.PolyRest': WHATEVER THE INPUT: true; the input reads as it did. -/
def polyRestSpec : ChangeSpec := { name := "polyRest", fn := fun _ => fun
  | [d] => { results := [.lit (.bool true)], args := [d] }
  | _ => none }
def polyRestRow : OpenClaim := { program := "ytpjgdocgenpbbaa", sum := "ae9c06df212e6500ae420f5f504130226f04e750b5574a7ece3b8c557bf4302c", func := "causey/causeylaw04.PolyRest", spec := "polyRest", inPlace := ["math/bits.Add64"], apart := false }
def PolyRestSaid : Prop := polyRestRow.holds Try.pinned (OpenSpec.ofChange polyRestSpec)

/-- ITS FALSE NEIGHBOUR: 'it returns false'. Refute it at one input. -/
def polyRestWrong : ChangeSpec := { name := "polyRest", fn := fun _ => fun
  | [d] => { results := [.lit (.bool false)], args := [d] }
  | _ => none }
def PolyRestWrongFalsely : Prop := polyRestRow.holds Try.pinned (OpenSpec.ofChange polyRestWrong)

/-- 'causeylaw04.PolyPlays': WHATEVER THE INPUT: true; the input reads as it did. -/
def polyPlaysSpec : ChangeSpec := { name := "polyPlays", fn := fun _ => fun
  | [d1, d2] => { results := [.lit (.bool true)], args := [d1, d2] }
  | _ => none }
def polyPlaysRow : OpenClaim := { program := "ytpjgdocgenpbbaa", sum := "ae9c06df212e6500ae420f5f504130226f04e750b5574a7ece3b8c557bf4302c", func := "causey/causeylaw04.PolyPlays", spec := "polyPlays", inPlace := ["math/bits.Add64"], apart := false }
def PolyPlaysSaid : Prop := polyPlaysRow.holds Try.pinned (OpenSpec.ofChange polyPlaysSpec)

/-- ITS FALSE NEIGHBOUR: 'it returns false'. Refute it at one input. -/
def polyPlaysWrong : ChangeSpec := { name := "polyPlays", fn := fun _ => fun
  | [d1, d2] => { results := [.lit (.bool false)], args := [d1, d2] }
  | _ => none }
def PolyPlaysWrongFalsely : Prop := polyPlaysRow.holds Try.pinned (OpenSpec.ofChange polyPlaysWrong)

/-- 'causeylaw04.PolyZeros': WHATEVER THE INPUT: true; the input reads as it did. -/
def polyZerosSpec : ChangeSpec := { name := "polyZeros", fn := fun _ => fun
  | [d1, d2, d3] => { results := [.lit (.bool true)], args := [d1, d2, d3] }
  | _ => none }
def polyZerosRow : OpenClaim := { program := "ytpjgdocgenpbbaa", sum := "ae9c06df212e6500ae420f5f504130226f04e750b5574a7ece3b8c557bf4302c", func := "causey/causeylaw04.PolyZeros", spec := "polyZeros", inPlace := ["math/bits.Add64"], apart := false }
def PolyZerosSaid : Prop := polyZerosRow.holds Try.pinned (OpenSpec.ofChange polyZerosSpec)

/-- ITS FALSE NEIGHBOUR: 'it returns false'. Refute it at one input. -/
def polyZerosWrong : ChangeSpec := { name := "polyZeros", fn := fun _ => fun
  | [d1, d2, d3] => { results := [.lit (.bool false)], args := [d1, d2, d3] }
  | _ => none }
def PolyZerosWrongFalsely : Prop := polyZerosRow.holds Try.pinned (OpenSpec.ofChange polyZerosWrong)

/-- 'causeylaw04.PolyAdds': WHATEVER THE INPUT: true; the input reads as it did. -/
def polyAddsSpec : ChangeSpec := { name := "polyAdds", fn := fun _ => fun
  | [d1, d2] => { results := [.lit (.bool true)], args := [d1, d2] }
  | _ => none }
def polyAddsRow : OpenClaim := { program := "ytpjgdocgenpbbaa", sum := "ae9c06df212e6500ae420f5f504130226f04e750b5574a7ece3b8c557bf4302c", func := "causey/causeylaw04.PolyAdds", spec := "polyAdds", inPlace := ["math/bits.Add64"], apart := false }
def PolyAddsSaid : Prop := polyAddsRow.holds Try.pinned (OpenSpec.ofChange polyAddsSpec)

/-- ITS FALSE NEIGHBOUR: 'it returns false'. Refute it at one input. -/
def polyAddsWrong : ChangeSpec := { name := "polyAdds", fn := fun _ => fun
  | [d1, d2] => { results := [.lit (.bool false)], args := [d1, d2] }
  | _ => none }
def PolyAddsWrongFalsely : Prop := polyAddsRow.holds Try.pinned (OpenSpec.ofChange polyAddsWrong)

/-- 'causeylaw04.PolyLess': WHATEVER THE INPUT: true; the input reads as it did. -/
def polyLessSpec : ChangeSpec := { name := "polyLess", fn := fun _ => fun
  | [d] => { results := [.lit (.bool true)], args := [d] }
  | _ => none }
def polyLessRow : OpenClaim := { program := "ytpjgdocgenpbbaa", sum := "ae9c06df212e6500ae420f5f504130226f04e750b5574a7ece3b8c557bf4302c", func := "causey/causeylaw04.PolyLess", spec := "polyLess", inPlace := ["math/bits.Add64"], apart := false }
def PolyLessSaid : Prop := polyLessRow.holds Try.pinned (OpenSpec.ofChange polyLessSpec)

/-- ITS FALSE NEIGHBOUR: 'it returns false'. Refute it at one input. -/
def polyLessWrong : ChangeSpec := { name := "polyLess", fn := fun _ => fun
  | [d] => { results := [.lit (.bool false)], args := [d] }
  | _ => none }
def PolyLessWrongFalsely : Prop := polyLessRow.holds Try.pinned (OpenSpec.ofChange polyLessWrong)

/- THE SECOND FORM. 'bulk': how many values and letters a reading holds, each counted each time it is reached (what is shared counts as often as it is met; a slice's spare places count too). A statement '..UptoSaid' is the law's where the arguments, and the package variables that the reading takes, are together of bulk at most 1048576: NARROWER than '..Said'. Prove '..Said' where nothing that the law and all that it calls make is longer than what came in: it says more and counts as full. Else prove '..UptoSaid'. A law counts once. -/
mutual
def uptoBulk {H : Type} : DataW H → Nat
  | .lit (.string bytes) => bytes.length + 1
  | .lit _ => 1
  | .nil => 1
  | .ptr d => uptoBulk d + 1
  | .slice elems spare => uptoBulkAll elems + uptoBulkAll spare + 1
  | .agg parts => uptoBulkAll parts + 1
  | .iface _ d => uptoBulk d + 1
  | .map entries => uptoBulkEntries entries + 1
  | .held _ => 1
def uptoBulkAll {H : Type} : List (DataW H) → Nat
  | [] => 0
  | d :: r => uptoBulk d + uptoBulkAll r
def uptoBulkEntries {H : Type} : List (Lit × DataW H) → Nat
  | [] => 0
  | x :: r => uptoBulkEntry x + uptoBulkEntries r
def uptoBulkEntry {H : Type} : Lit × DataW H → Nat
  | (.string bytes, d) => bytes.length + uptoBulk d + 1
  | (_, d) => uptoBulk d + 1
 end
def uptoSmall : (H : Type) → List (DataW H) → Bool := fun _ ds => decide (uptoBulkAll ds ≤ 1048576)
def OpenSpec.upto (s : _root_.Go.ChangeSpec) : _root_.Go.OpenSpec := { _root_.Go.OpenSpec.ofChange s with cond := some uptoSmall }

/-- 'causeylaw04.PolyBits', WHERE WHAT IT READS IS OF BULK AT MOST 1048576: true; the input reads as it did. -/
def polyBitsUptoRow : OpenClaim := { program := "ytpjgdocgenpbbaa", sum := "ae9c06df212e6500ae420f5f504130226f04e750b5574a7ece3b8c557bf4302c", func := "causey/causeylaw04.PolyBits", spec := "polyBits", inPlace := ["math/bits.Add64"], apart := false, narrowed := true }
def PolyBitsUptoSaid : Prop := polyBitsUptoRow.holds Try.pinned (OpenSpec.upto polyBitsSpec)

/-- 'causeylaw04.PolyRest', WHERE WHAT IT READS IS OF BULK AT MOST 1048576: true; the input reads as it did. -/
def polyRestUptoRow : OpenClaim := { program := "ytpjgdocgenpbbaa", sum := "ae9c06df212e6500ae420f5f504130226f04e750b5574a7ece3b8c557bf4302c", func := "causey/causeylaw04.PolyRest", spec := "polyRest", inPlace := ["math/bits.Add64"], apart := false, narrowed := true }
def PolyRestUptoSaid : Prop := polyRestUptoRow.holds Try.pinned (OpenSpec.upto polyRestSpec)

/-- 'causeylaw04.PolyPlays', WHERE WHAT IT READS IS OF BULK AT MOST 1048576: true; the input reads as it did. -/
def polyPlaysUptoRow : OpenClaim := { program := "ytpjgdocgenpbbaa", sum := "ae9c06df212e6500ae420f5f504130226f04e750b5574a7ece3b8c557bf4302c", func := "causey/causeylaw04.PolyPlays", spec := "polyPlays", inPlace := ["math/bits.Add64"], apart := false, narrowed := true }
def PolyPlaysUptoSaid : Prop := polyPlaysUptoRow.holds Try.pinned (OpenSpec.upto polyPlaysSpec)

/-- 'causeylaw04.PolyZeros', WHERE WHAT IT READS IS OF BULK AT MOST 1048576: true; the input reads as it did. -/
def polyZerosUptoRow : OpenClaim := { program := "ytpjgdocgenpbbaa", sum := "ae9c06df212e6500ae420f5f504130226f04e750b5574a7ece3b8c557bf4302c", func := "causey/causeylaw04.PolyZeros", spec := "polyZeros", inPlace := ["math/bits.Add64"], apart := false, narrowed := true }
def PolyZerosUptoSaid : Prop := polyZerosUptoRow.holds Try.pinned (OpenSpec.upto polyZerosSpec)

/-- 'causeylaw04.PolyAdds', WHERE WHAT IT READS IS OF BULK AT MOST 1048576: true; the input reads as it did. -/
def polyAddsUptoRow : OpenClaim := { program := "ytpjgdocgenpbbaa", sum := "ae9c06df212e6500ae420f5f504130226f04e750b5574a7ece3b8c557bf4302c", func := "causey/causeylaw04.PolyAdds", spec := "polyAdds", inPlace := ["math/bits.Add64"], apart := false, narrowed := true }
def PolyAddsUptoSaid : Prop := polyAddsUptoRow.holds Try.pinned (OpenSpec.upto polyAddsSpec)

/-- 'causeylaw04.PolyLess', WHERE WHAT IT READS IS OF BULK AT MOST 1048576: true; the input reads as it did. -/
def polyLessUptoRow : OpenClaim := { program := "ytpjgdocgenpbbaa", sum := "ae9c06df212e6500ae420f5f504130226f04e750b5574a7ece3b8c557bf4302c", func := "causey/causeylaw04.PolyLess", spec := "polyLess", inPlace := ["math/bits.Add64"], apart := false, narrowed := true }
def PolyLessUptoSaid : Prop := polyLessUptoRow.holds Try.pinned (OpenSpec.upto polyLessSpec)

end Rows
end Go.Proofs.Ytpjgdocgenpbbaa

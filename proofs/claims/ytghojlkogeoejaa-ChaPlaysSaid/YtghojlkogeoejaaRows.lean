/-
  No cell of these rows narrows 'for every input' (looked for: loops, veiled, ifaces, maps, wideKeys, modest, calm, conditions, laid).
  DERIVED. THE GIVEN ROWS OF THIS SEAT. 5 by the template 'for every input the law returns true; each argument reads behind the call as it read before'; 0 by the template 'total and deterministic' (their statements: YtghojlkogeoejaaTotals.lean).
  GIVEN WITH THE SEED: the statements are not yours to turn. If you find one false, say at which input.
  Laid BY PROGRAM, IN A SANDBOX (cutbox-rows.mjs): the forced cells as the released guide's own fill.sh prints them over the translation ef4e11ad7ee1aee7… (all of the seat's roots in one cut). By AI agents, Wed Nov 11 2026. No macro, syntax, notation, axiom, sorry.
-/
import Derived.Test.YtghojlkogeoejaaChecked
import GoSem.Claim
import GoSem.ClaimJoined
import GoSem.ClaimMapViews
import Derived.JoinedTies
import Derived.KernelRfl
namespace Go.Proofs.Ytghojlkogeoejaa
/- THE CELL 'sum', in the pinned program and in every row, IS THE sha256 OF THE DUMP (.gsa) THAT YtghojlkogeoejaaProg.lean LOADS. Nothing in Lean hashes anything: it is a label: what it is worth is what the hold of that sum in a sandbox is worth. -/
noncomputable def Try.pinned : Pinned := { name := "ytghojlkogeoejaa", sum := "ef4e11ad7ee1aee776a9c9b15142566541ba76ab4b9c2aee70781ce0bf82b285", checked := Try.checked }
namespace Rows
def none {H : Type} : Left H := { results := [], args := [] }

/-- 'causeylaw03.ChaQuarters': WHATEVER THE INPUT: true; the input reads as it did. -/
def chaQuartersSpec : ChangeSpec := { name := "chaQuarters", fn := fun _ => fun
  | [d1, d2, d3, d4] => { results := [.lit (.bool true)], args := [d1, d2, d3, d4] }
  | _ => none }
def chaQuartersRow : OpenClaim := { program := "ytghojlkogeoejaa", sum := "ef4e11ad7ee1aee776a9c9b15142566541ba76ab4b9c2aee70781ce0bf82b285", func := "causey/causeylaw03.ChaQuarters", spec := "chaQuarters", apart := false }
def ChaQuartersSaid : Prop := chaQuartersRow.holds Try.pinned (OpenSpec.ofChange chaQuartersSpec)

/-- ITS FALSE NEIGHBOUR: 'it returns false'. Refute it at one input. -/
def chaQuartersWrong : ChangeSpec := { name := "chaQuarters", fn := fun _ => fun
  | [d1, d2, d3, d4] => { results := [.lit (.bool false)], args := [d1, d2, d3, d4] }
  | _ => none }
def ChaQuartersWrongFalsely : Prop := chaQuartersRow.holds Try.pinned (OpenSpec.ofChange chaQuartersWrong)

/-- 'causeylaw03.ChaTwice': WHATEVER THE INPUT: true; the input reads as it did. -/
def chaTwiceSpec : ChangeSpec := { name := "chaTwice", fn := fun _ => fun
  | [d1, d2, d3, d4] => { results := [.lit (.bool true)], args := [d1, d2, d3, d4] }
  | _ => none }
def chaTwiceRow : OpenClaim := { program := "ytghojlkogeoejaa", sum := "ef4e11ad7ee1aee776a9c9b15142566541ba76ab4b9c2aee70781ce0bf82b285", func := "causey/causeylaw03.ChaTwice", spec := "chaTwice", unfollowed := true, recurses := true, apart := false }
def ChaTwiceSaid : Prop := chaTwiceRow.holds Try.pinned (OpenSpec.ofChange chaTwiceSpec)

/-- ITS FALSE NEIGHBOUR: 'it returns false'. Refute it at one input. -/
def chaTwiceWrong : ChangeSpec := { name := "chaTwice", fn := fun _ => fun
  | [d1, d2, d3, d4] => { results := [.lit (.bool false)], args := [d1, d2, d3, d4] }
  | _ => none }
def ChaTwiceWrongFalsely : Prop := chaTwiceRow.holds Try.pinned (OpenSpec.ofChange chaTwiceWrong)

/-- 'causeylaw03.ChaParts': WHATEVER THE INPUT: true; the input reads as it did. -/
def chaPartsSpec : ChangeSpec := { name := "chaParts", fn := fun _ => fun
  | [d1, d2, d3, d4, d5] => { results := [.lit (.bool true)], args := [d1, d2, d3, d4, d5] }
  | _ => none }
def chaPartsRow : OpenClaim := { program := "ytghojlkogeoejaa", sum := "ef4e11ad7ee1aee776a9c9b15142566541ba76ab4b9c2aee70781ce0bf82b285", func := "causey/causeylaw03.ChaParts", spec := "chaParts", unfollowed := true, recurses := true, apart := false }
def ChaPartsSaid : Prop := chaPartsRow.holds Try.pinned (OpenSpec.ofChange chaPartsSpec)

/-- ITS FALSE NEIGHBOUR: 'it returns false'. Refute it at one input. -/
def chaPartsWrong : ChangeSpec := { name := "chaParts", fn := fun _ => fun
  | [d1, d2, d3, d4, d5] => { results := [.lit (.bool false)], args := [d1, d2, d3, d4, d5] }
  | _ => none }
def ChaPartsWrongFalsely : Prop := chaPartsRow.holds Try.pinned (OpenSpec.ofChange chaPartsWrong)

/-- 'causeylaw03.ChaPlays': WHATEVER THE INPUT: true; the input reads as it did. -/
def chaPlaysSpec : ChangeSpec := { name := "chaPlays", fn := fun _ => fun
  | [d1, d2, d3, d4] => { results := [.lit (.bool true)], args := [d1, d2, d3, d4] }
  | _ => none }
def chaPlaysRow : OpenClaim := { program := "ytghojlkogeoejaa", sum := "ef4e11ad7ee1aee776a9c9b15142566541ba76ab4b9c2aee70781ce0bf82b285", func := "causey/causeylaw03.ChaPlays", spec := "chaPlays", unfollowed := true, recurses := true, apart := false }
def ChaPlaysSaid : Prop := chaPlaysRow.holds Try.pinned (OpenSpec.ofChange chaPlaysSpec)

/-- ITS FALSE NEIGHBOUR: 'it returns false'. Refute it at one input. -/
def chaPlaysWrong : ChangeSpec := { name := "chaPlays", fn := fun _ => fun
  | [d1, d2, d3, d4] => { results := [.lit (.bool false)], args := [d1, d2, d3, d4] }
  | _ => none }
def ChaPlaysWrongFalsely : Prop := chaPlaysRow.holds Try.pinned (OpenSpec.ofChange chaPlaysWrong)

/-- 'causeylaw03.ChaBlocks': WHATEVER THE INPUT: true; the input reads as it did. -/
def chaBlocksSpec : ChangeSpec := { name := "chaBlocks", fn := fun _ => fun
  | [d1, d2, d3, d4] => { results := [.lit (.bool true)], args := [d1, d2, d3, d4] }
  | _ => none }
def chaBlocksRow : OpenClaim := { program := "ytghojlkogeoejaa", sum := "ef4e11ad7ee1aee776a9c9b15142566541ba76ab4b9c2aee70781ce0bf82b285", func := "causey/causeylaw03.ChaBlocks", spec := "chaBlocks", unfollowed := true, recurses := true, apart := false }
def ChaBlocksSaid : Prop := chaBlocksRow.holds Try.pinned (OpenSpec.ofChange chaBlocksSpec)

/-- ITS FALSE NEIGHBOUR: 'it returns false'. Refute it at one input. -/
def chaBlocksWrong : ChangeSpec := { name := "chaBlocks", fn := fun _ => fun
  | [d1, d2, d3, d4] => { results := [.lit (.bool false)], args := [d1, d2, d3, d4] }
  | _ => none }
def ChaBlocksWrongFalsely : Prop := chaBlocksRow.holds Try.pinned (OpenSpec.ofChange chaBlocksWrong)

/- THE SECOND FORM. 'bulk': how many values and letters a reading holds, each counted each time it is reached (what is shared counts as often as it is met; a slice's spare places count too). A statement '..UptoSaid' is the law's where the arguments, and the package variables that the reading takes, are together of bulk at most 1048576: NARROWER than '..Said'. Prove '..Said' where nothing that the law and all that it calls make is longer than what came in: it says more and counts as full. Else prove '..UptoSaid'. A law counts once. -/
mutual
def uptoBulk {H : Type} : DataW H → Nat
  | .lit (.string bytes) => bytes.length + 1
  | .lit _ => 1
  | .nil => 1
  | .ptr d => uptoBulk d + 1
  | .slice elems spare => uptoBulkAll elems + uptoBulkAll spare + 1
  | .agg parts => uptoBulkAll parts + 1
  | .iface _ d => uptoBulk d + 1
  | .map entries => uptoBulkEntries entries + 1
  | .held _ => 1
def uptoBulkAll {H : Type} : List (DataW H) → Nat
  | [] => 0
  | d :: r => uptoBulk d + uptoBulkAll r
def uptoBulkEntries {H : Type} : List (Lit × DataW H) → Nat
  | [] => 0
  | x :: r => uptoBulkEntry x + uptoBulkEntries r
def uptoBulkEntry {H : Type} : Lit × DataW H → Nat
  | (.string bytes, d) => bytes.length + uptoBulk d + 1
  | (_, d) => uptoBulk d + 1
 end
def uptoSmall : (H : Type) → List (DataW H) → Bool := fun _ ds => decide (uptoBulkAll ds ≤ 1048576)
def OpenSpec.upto (s : _root_.Go.ChangeSpec) : _root_.Go.OpenSpec := { _root_.Go.OpenSpec.ofChange s with cond := some uptoSmall }

/-- 'causeylaw03.ChaQuarters', WHERE WHAT IT READS IS OF BULK AT MOST 1048576: true; the input reads as it did. -/
def chaQuartersUptoRow : OpenClaim := { program := "ytghojlkogeoejaa", sum := "ef4e11ad7ee1aee776a9c9b15142566541ba76ab4b9c2aee70781ce0bf82b285", func := "causey/causeylaw03.ChaQuarters", spec := "chaQuarters", apart := false, narrowed := true }
def ChaQuartersUptoSaid : Prop := chaQuartersUptoRow.holds Try.pinned (OpenSpec.upto chaQuartersSpec)

/-- 'causeylaw03.ChaTwice', WHERE WHAT IT READS IS OF BULK AT MOST 1048576: true; the input reads as it did. -/
def chaTwiceUptoRow : OpenClaim := { program := "ytghojlkogeoejaa", sum := "ef4e11ad7ee1aee776a9c9b15142566541ba76ab4b9c2aee70781ce0bf82b285", func := "causey/causeylaw03.ChaTwice", spec := "chaTwice", unfollowed := true, recurses := true, apart := false, narrowed := true }
def ChaTwiceUptoSaid : Prop := chaTwiceUptoRow.holds Try.pinned (OpenSpec.upto chaTwiceSpec)

/-- 'causeylaw03.ChaParts', WHERE WHAT IT READS IS OF BULK AT MOST 1048576: true; the input reads as it did. -/
def chaPartsUptoRow : OpenClaim := { program := "ytghojlkogeoejaa", sum := "ef4e11ad7ee1aee776a9c9b15142566541ba76ab4b9c2aee70781ce0bf82b285", func := "causey/causeylaw03.ChaParts", spec := "chaParts", unfollowed := true, recurses := true, apart := false, narrowed := true }
def ChaPartsUptoSaid : Prop := chaPartsUptoRow.holds Try.pinned (OpenSpec.upto chaPartsSpec)

/-- 'causeylaw03.ChaPlays', WHERE WHAT IT READS IS OF BULK AT MOST 1048576: true; the input reads as it did. -/
def chaPlaysUptoRow : OpenClaim := { program := "ytghojlkogeoejaa", sum := "ef4e11ad7ee1aee776a9c9b15142566541ba76ab4b9c2aee70781ce0bf82b285", func := "causey/causeylaw03.ChaPlays", spec := "chaPlays", unfollowed := true, recurses := true, apart := false, narrowed := true }
def ChaPlaysUptoSaid : Prop := chaPlaysUptoRow.holds Try.pinned (OpenSpec.upto chaPlaysSpec)

/-- 'causeylaw03.ChaBlocks', WHERE WHAT IT READS IS OF BULK AT MOST 1048576: true; the input reads as it did. -/
def chaBlocksUptoRow : OpenClaim := { program := "ytghojlkogeoejaa", sum := "ef4e11ad7ee1aee776a9c9b15142566541ba76ab4b9c2aee70781ce0bf82b285", func := "causey/causeylaw03.ChaBlocks", spec := "chaBlocks", unfollowed := true, recurses := true, apart := false, narrowed := true }
def ChaBlocksUptoSaid : Prop := chaBlocksUptoRow.holds Try.pinned (OpenSpec.upto chaBlocksSpec)

end Rows
end Go.Proofs.Ytghojlkogeoejaa

/-
  No cell of these rows narrows 'for every input' (looked for: loops, veiled, ifaces, maps, wideKeys, modest, calm, conditions, laid).
  DERIVED. THE GIVEN ROWS OF THIS SEAT. 12 by the template 'for every input the law returns true; each argument reads behind the call as it read before'; 0 by the template 'total and deterministic' (their statements: YtbfgnlckmpnchaaTotals.lean).
  GIVEN WITH THE SEED: the statements are not yours to turn. If you find one false, say at which input.
  Laid BY PROGRAM, IN A SANDBOX (cutbox-rows.mjs): the forced cells as the released guide's own fill.sh prints them over the translation f50bc2a67ee01e56… (all of the seat's roots in one cut). By AI agents, Wed Nov 11 2026. No macro, syntax, notation, axiom, sorry.
-/
import Derived.Test.YtbfgnlckmpnchaaChecked
import GoSem.Claim
import GoSem.ClaimJoined
import GoSem.ClaimMapViews
import Derived.JoinedTies
import Derived.KernelRfl
namespace Go.Proofs.Ytbfgnlckmpnchaa
/- THE CELL 'sum', in the pinned program and in every row, IS THE sha256 OF THE DUMP (.gsa) THAT YtbfgnlckmpnchaaProg.lean LOADS. Nothing in Lean hashes anything: it is a label: what it is worth is what the hold of that sum in a sandbox is worth. -/
noncomputable def Try.pinned : Pinned := { name := "ytbfgnlckmpnchaa", sum := "f50bc2a67ee01e5640aee4d444b0b5c9ba630e3ae540778c2c466ae4e955709c", checked := Try.checked }
namespace Rows
def none {H : Type} : Left H := { results := [], args := [] }

/-- 'causeylaw01.ShaFills': WHATEVER THE INPUT: true; the input reads as it did. -/
def shaFillsSpec : ChangeSpec := { name := "shaFills", fn := fun _ => fun
  | [d1, d2] => { results := [.lit (.bool true)], args := [d1, d2] }
  | _ => none }
def shaFillsRow : OpenClaim := { program := "ytbfgnlckmpnchaa", sum := "f50bc2a67ee01e5640aee4d444b0b5c9ba630e3ae540778c2c466ae4e955709c", func := "causey/causeylaw01.ShaFills", spec := "shaFills", inPlace := ["math/bits.Add64", "internal/abi.NoEscape", "internal/bytealg.MakeNoZero"], unfollowed := true, recurses := true, apart := false }
def ShaFillsSaid : Prop := shaFillsRow.holds Try.pinned (OpenSpec.ofChange shaFillsSpec)

/-- ITS FALSE NEIGHBOUR: 'it returns false'. Refute it at one input. -/
def shaFillsWrong : ChangeSpec := { name := "shaFills", fn := fun _ => fun
  | [d1, d2] => { results := [.lit (.bool false)], args := [d1, d2] }
  | _ => none }
def ShaFillsWrongFalsely : Prop := shaFillsRow.holds Try.pinned (OpenSpec.ofChange shaFillsWrong)

/-- 'causeylaw01.ShaRoots': WHATEVER THE INPUT: true; the input reads as it did. -/
def shaRootsSpec : ChangeSpec := { name := "shaRoots", fn := fun _ => fun
  | [d1, d2] => { results := [.lit (.bool true)], args := [d1, d2] }
  | _ => none }
def shaRootsRow : OpenClaim := { program := "ytbfgnlckmpnchaa", sum := "f50bc2a67ee01e5640aee4d444b0b5c9ba630e3ae540778c2c466ae4e955709c", func := "causey/causeylaw01.ShaRoots", spec := "shaRoots", inPlace := ["math/bits.Add64", "internal/abi.NoEscape", "internal/bytealg.MakeNoZero"], unfollowed := true, recurses := true, apart := false }
def ShaRootsSaid : Prop := shaRootsRow.holds Try.pinned (OpenSpec.ofChange shaRootsSpec)

/-- ITS FALSE NEIGHBOUR: 'it returns false'. Refute it at one input. -/
def shaRootsWrong : ChangeSpec := { name := "shaRoots", fn := fun _ => fun
  | [d1, d2] => { results := [.lit (.bool false)], args := [d1, d2] }
  | _ => none }
def ShaRootsWrongFalsely : Prop := shaRootsRow.holds Try.pinned (OpenSpec.ofChange shaRootsWrong)

/-- 'causeylaw01.ShaPrimes': WHATEVER THE INPUT: true; the input reads as it did. -/
def shaPrimesSpec : ChangeSpec := { name := "shaPrimes", fn := fun _ => fun
  | [d] => { results := [.lit (.bool true)], args := [d] }
  | _ => none }
def shaPrimesRow : OpenClaim := { program := "ytbfgnlckmpnchaa", sum := "f50bc2a67ee01e5640aee4d444b0b5c9ba630e3ae540778c2c466ae4e955709c", func := "causey/causeylaw01.ShaPrimes", spec := "shaPrimes", inPlace := ["math/bits.Add64", "internal/abi.NoEscape", "internal/bytealg.MakeNoZero"], unfollowed := true, recurses := true, apart := false }
def ShaPrimesSaid : Prop := shaPrimesRow.holds Try.pinned (OpenSpec.ofChange shaPrimesSpec)

/-- ITS FALSE NEIGHBOUR: 'it returns false'. Refute it at one input. -/
def shaPrimesWrong : ChangeSpec := { name := "shaPrimes", fn := fun _ => fun
  | [d] => { results := [.lit (.bool false)], args := [d] }
  | _ => none }
def ShaPrimesWrongFalsely : Prop := shaPrimesRow.holds Try.pinned (OpenSpec.ofChange shaPrimesWrong)

/-- 'causeylaw01.ShaWhole': WHATEVER THE INPUT: true; the input reads as it did. -/
def shaWholeSpec : ChangeSpec := { name := "shaWhole", fn := fun _ => fun
  | [d] => { results := [.lit (.bool true)], args := [d] }
  | _ => none }
def shaWholeRow : OpenClaim := { program := "ytbfgnlckmpnchaa", sum := "f50bc2a67ee01e5640aee4d444b0b5c9ba630e3ae540778c2c466ae4e955709c", func := "causey/causeylaw01.ShaWhole", spec := "shaWhole", inPlace := ["math/bits.Add64", "internal/abi.NoEscape", "internal/bytealg.MakeNoZero"], unfollowed := true, recurses := true, apart := false }
def ShaWholeSaid : Prop := shaWholeRow.holds Try.pinned (OpenSpec.ofChange shaWholeSpec)

/-- ITS FALSE NEIGHBOUR: 'it returns false'. Refute it at one input. -/
def shaWholeWrong : ChangeSpec := { name := "shaWhole", fn := fun _ => fun
  | [d] => { results := [.lit (.bool false)], args := [d] }
  | _ => none }
def ShaWholeWrongFalsely : Prop := shaWholeRow.holds Try.pinned (OpenSpec.ofChange shaWholeWrong)

/-- 'causeylaw01.ShaBlocks': WHATEVER THE INPUT: true; the input reads as it did. -/
def shaBlocksSpec : ChangeSpec := { name := "shaBlocks", fn := fun _ => fun
  | [d1, d2] => { results := [.lit (.bool true)], args := [d1, d2] }
  | _ => none }
def shaBlocksRow : OpenClaim := { program := "ytbfgnlckmpnchaa", sum := "f50bc2a67ee01e5640aee4d444b0b5c9ba630e3ae540778c2c466ae4e955709c", func := "causey/causeylaw01.ShaBlocks", spec := "shaBlocks", inPlace := ["math/bits.Add64", "internal/abi.NoEscape", "internal/bytealg.MakeNoZero"], unfollowed := true, recurses := true, apart := false }
def ShaBlocksSaid : Prop := shaBlocksRow.holds Try.pinned (OpenSpec.ofChange shaBlocksSpec)

/-- ITS FALSE NEIGHBOUR: 'it returns false'. Refute it at one input. -/
def shaBlocksWrong : ChangeSpec := { name := "shaBlocks", fn := fun _ => fun
  | [d1, d2] => { results := [.lit (.bool false)], args := [d1, d2] }
  | _ => none }
def ShaBlocksWrongFalsely : Prop := shaBlocksRow.holds Try.pinned (OpenSpec.ofChange shaBlocksWrong)

/-- 'causeylaw01.ShaPlays': WHATEVER THE INPUT: true; the input reads as it did. -/
def shaPlaysSpec : ChangeSpec := { name := "shaPlays", fn := fun _ => fun
  | [d1, d2] => { results := [.lit (.bool true)], args := [d1, d2] }
  | _ => none }
def shaPlaysRow : OpenClaim := { program := "ytbfgnlckmpnchaa", sum := "f50bc2a67ee01e5640aee4d444b0b5c9ba630e3ae540778c2c466ae4e955709c", func := "causey/causeylaw01.ShaPlays", spec := "shaPlays", inPlace := ["math/bits.Add64", "internal/abi.NoEscape", "internal/bytealg.MakeNoZero"], unfollowed := true, recurses := true, apart := false }
def ShaPlaysSaid : Prop := shaPlaysRow.holds Try.pinned (OpenSpec.ofChange shaPlaysSpec)

/-- ITS FALSE NEIGHBOUR: 'it returns false'. Refute it at one input. -/
def shaPlaysWrong : ChangeSpec := { name := "shaPlays", fn := fun _ => fun
  | [d1, d2] => { results := [.lit (.bool false)], args := [d1, d2] }
  | _ => none }
def ShaPlaysWrongFalsely : Prop := shaPlaysRow.holds Try.pinned (OpenSpec.ofChange shaPlaysWrong)

/-- 'causeylaw01.ShaFirst': WHATEVER THE INPUT: true; the input reads as it did. -/
def shaFirstSpec : ChangeSpec := { name := "shaFirst", fn := fun _ => fun
  | [d1, d2, d3] => { results := [.lit (.bool true)], args := [d1, d2, d3] }
  | _ => none }
def shaFirstRow : OpenClaim := { program := "ytbfgnlckmpnchaa", sum := "f50bc2a67ee01e5640aee4d444b0b5c9ba630e3ae540778c2c466ae4e955709c", func := "causey/causeylaw01.ShaFirst", spec := "shaFirst", inPlace := ["math/bits.Add64", "internal/abi.NoEscape", "internal/bytealg.MakeNoZero"], unfollowed := true, recurses := true, apart := false }
def ShaFirstSaid : Prop := shaFirstRow.holds Try.pinned (OpenSpec.ofChange shaFirstSpec)

/-- ITS FALSE NEIGHBOUR: 'it returns false'. Refute it at one input. -/
def shaFirstWrong : ChangeSpec := { name := "shaFirst", fn := fun _ => fun
  | [d1, d2, d3] => { results := [.lit (.bool false)], args := [d1, d2, d3] }
  | _ => none }
def ShaFirstWrongFalsely : Prop := shaFirstRow.holds Try.pinned (OpenSpec.ofChange shaFirstWrong)

/-- 'causeylaw02.MacFills': WHATEVER THE INPUT: true; the input reads as it did. -/
def macFillsSpec : ChangeSpec := { name := "macFills", fn := fun _ => fun
  | [d1, d2, d3] => { results := [.lit (.bool true)], args := [d1, d2, d3] }
  | _ => none }
def macFillsRow : OpenClaim := { program := "ytbfgnlckmpnchaa", sum := "f50bc2a67ee01e5640aee4d444b0b5c9ba630e3ae540778c2c466ae4e955709c", func := "causey/causeylaw02.MacFills", spec := "macFills", inPlace := ["math/bits.Add64", "internal/abi.NoEscape", "internal/bytealg.MakeNoZero"], unfollowed := true, recurses := true, apart := false }
def MacFillsSaid : Prop := macFillsRow.holds Try.pinned (OpenSpec.ofChange macFillsSpec)

/-- ITS FALSE NEIGHBOUR: 'it returns false'. Refute it at one input. -/
def macFillsWrong : ChangeSpec := { name := "macFills", fn := fun _ => fun
  | [d1, d2, d3] => { results := [.lit (.bool false)], args := [d1, d2, d3] }
  | _ => none }
def MacFillsWrongFalsely : Prop := macFillsRow.holds Try.pinned (OpenSpec.ofChange macFillsWrong)

/-- 'causeylaw02.MacSame': WHATEVER THE INPUT: true; the input reads as it did. -/
def macSameSpec : ChangeSpec := { name := "macSame", fn := fun _ => fun
  | [d1, d2] => { results := [.lit (.bool true)], args := [d1, d2] }
  | _ => none }
def macSameRow : OpenClaim := { program := "ytbfgnlckmpnchaa", sum := "f50bc2a67ee01e5640aee4d444b0b5c9ba630e3ae540778c2c466ae4e955709c", func := "causey/causeylaw02.MacSame", spec := "macSame", inPlace := ["math/bits.Add64", "internal/abi.NoEscape", "internal/bytealg.MakeNoZero"], unfollowed := true, recurses := true, apart := false }
def MacSameSaid : Prop := macSameRow.holds Try.pinned (OpenSpec.ofChange macSameSpec)

/-- ITS FALSE NEIGHBOUR: 'it returns false'. Refute it at one input. -/
def macSameWrong : ChangeSpec := { name := "macSame", fn := fun _ => fun
  | [d1, d2] => { results := [.lit (.bool false)], args := [d1, d2] }
  | _ => none }
def MacSameWrongFalsely : Prop := macSameRow.holds Try.pinned (OpenSpec.ofChange macSameWrong)

/-- 'causeylaw02.MacFirst': WHATEVER THE INPUT: true; the input reads as it did. -/
def macFirstSpec : ChangeSpec := { name := "macFirst", fn := fun _ => fun
  | [d1, d2, d3, d4] => { results := [.lit (.bool true)], args := [d1, d2, d3, d4] }
  | _ => none }
def macFirstRow : OpenClaim := { program := "ytbfgnlckmpnchaa", sum := "f50bc2a67ee01e5640aee4d444b0b5c9ba630e3ae540778c2c466ae4e955709c", func := "causey/causeylaw02.MacFirst", spec := "macFirst", inPlace := ["math/bits.Add64", "internal/abi.NoEscape", "internal/bytealg.MakeNoZero"], unfollowed := true, recurses := true, apart := false }
def MacFirstSaid : Prop := macFirstRow.holds Try.pinned (OpenSpec.ofChange macFirstSpec)

/-- ITS FALSE NEIGHBOUR: 'it returns false'. Refute it at one input. -/
def macFirstWrong : ChangeSpec := { name := "macFirst", fn := fun _ => fun
  | [d1, d2, d3, d4] => { results := [.lit (.bool false)], args := [d1, d2, d3, d4] }
  | _ => none }
def MacFirstWrongFalsely : Prop := macFirstRow.holds Try.pinned (OpenSpec.ofChange macFirstWrong)

/-- 'causeylaw02.MacKeys': WHATEVER THE INPUT: true; the input reads as it did. -/
def macKeysSpec : ChangeSpec := { name := "macKeys", fn := fun _ => fun
  | [d1, d2, d3] => { results := [.lit (.bool true)], args := [d1, d2, d3] }
  | _ => none }
def macKeysRow : OpenClaim := { program := "ytbfgnlckmpnchaa", sum := "f50bc2a67ee01e5640aee4d444b0b5c9ba630e3ae540778c2c466ae4e955709c", func := "causey/causeylaw02.MacKeys", spec := "macKeys", inPlace := ["math/bits.Add64", "internal/abi.NoEscape", "internal/bytealg.MakeNoZero"], unfollowed := true, recurses := true, apart := false }
def MacKeysSaid : Prop := macKeysRow.holds Try.pinned (OpenSpec.ofChange macKeysSpec)

/-- ITS FALSE NEIGHBOUR: 'it returns false'. Refute it at one input. -/
def macKeysWrong : ChangeSpec := { name := "macKeys", fn := fun _ => fun
  | [d1, d2, d3] => { results := [.lit (.bool false)], args := [d1, d2, d3] }
  | _ => none }
def MacKeysWrongFalsely : Prop := macKeysRow.holds Try.pinned (OpenSpec.ofChange macKeysWrong)

/-- 'causeylaw02.MacPlays': WHATEVER THE INPUT: true; the input reads as it did. -/
def macPlaysSpec : ChangeSpec := { name := "macPlays", fn := fun _ => fun
  | [d1, d2, d3] => { results := [.lit (.bool true)], args := [d1, d2, d3] }
  | _ => none }
def macPlaysRow : OpenClaim := { program := "ytbfgnlckmpnchaa", sum := "f50bc2a67ee01e5640aee4d444b0b5c9ba630e3ae540778c2c466ae4e955709c", func := "causey/causeylaw02.MacPlays", spec := "macPlays", inPlace := ["math/bits.Add64", "internal/abi.NoEscape", "internal/bytealg.MakeNoZero"], unfollowed := true, recurses := true, apart := false }
def MacPlaysSaid : Prop := macPlaysRow.holds Try.pinned (OpenSpec.ofChange macPlaysSpec)

/-- ITS FALSE NEIGHBOUR: 'it returns false'. Refute it at one input. -/
def macPlaysWrong : ChangeSpec := { name := "macPlays", fn := fun _ => fun
  | [d1, d2, d3] => { results := [.lit (.bool false)], args := [d1, d2, d3] }
  | _ => none }
def MacPlaysWrongFalsely : Prop := macPlaysRow.holds Try.pinned (OpenSpec.ofChange macPlaysWrong)

/- THE SECOND FORM. 'bulk': how many values and letters a reading holds, each counted each time it is reached (what is shared counts as often as it is met; a slice's spare places count too). A statement '..UptoSaid' is the law's where the arguments, and the package variables that the reading takes, are together of bulk at most 1048576: NARROWER than '..Said'. Prove '..Said' where nothing that the law and all that it calls make is longer than what came in: it says more and counts as full. Else prove '..UptoSaid'. A law counts once. -/
mutual
def uptoBulk {H : Type} : DataW H → Nat
  | .lit (.string bytes) => bytes.length + 1
  | .lit _ => 1
  | .nil => 1
  | .ptr d => uptoBulk d + 1
  | .slice elems spare => uptoBulkAll elems + uptoBulkAll spare + 1
  | .agg parts => uptoBulkAll parts + 1
  | .iface _ d => uptoBulk d + 1
  | .map entries => uptoBulkEntries entries + 1
  | .held _ => 1
def uptoBulkAll {H : Type} : List (DataW H) → Nat
  | [] => 0
  | d :: r => uptoBulk d + uptoBulkAll r
def uptoBulkEntries {H : Type} : List (Lit × DataW H) → Nat
  | [] => 0
  | x :: r => uptoBulkEntry x + uptoBulkEntries r
def uptoBulkEntry {H : Type} : Lit × DataW H → Nat
  | (.string bytes, d) => bytes.length + uptoBulk d + 1
  | (_, d) => uptoBulk d + 1
 end
def uptoSmall : (H : Type) → List (DataW H) → Bool := fun _ ds => decide (uptoBulkAll ds ≤ 1048576)
def OpenSpec.upto (s : _root_.Go.ChangeSpec) : _root_.Go.OpenSpec := { _root_.Go.OpenSpec.ofChange s with cond := some uptoSmall }

/-- 'causeylaw01.ShaFills', WHERE WHAT IT READS IS OF BULK AT MOST 1048576: true; the input reads as it did. -/
def shaFillsUptoRow : OpenClaim := { program := "ytbfgnlckmpnchaa", sum := "f50bc2a67ee01e5640aee4d444b0b5c9ba630e3ae540778c2c466ae4e955709c", func := "causey/causeylaw01.ShaFills", spec := "shaFills", inPlace := ["math/bits.Add64", "internal/abi.NoEscape", "internal/bytealg.MakeNoZero"], unfollowed := true, recurses := true, apart := false, narrowed := true }
def ShaFillsUptoSaid : Prop := shaFillsUptoRow.holds Try.pinned (OpenSpec.upto shaFillsSpec)

/-- 'causeylaw01.ShaRoots', WHERE WHAT IT READS IS OF BULK AT MOST 1048576: true; the input reads as it did. -/
def shaRootsUptoRow : OpenClaim := { program := "ytbfgnlckmpnchaa", sum := "f50bc2a67ee01e5640aee4d444b0b5c9ba630e3ae540778c2c466ae4e955709c", func := "causey/causeylaw01.ShaRoots", spec := "shaRoots", inPlace := ["math/bits.Add64", "internal/abi.NoEscape", "internal/bytealg.MakeNoZero"], unfollowed := true, recurses := true, apart := false, narrowed := true }
def ShaRootsUptoSaid : Prop := shaRootsUptoRow.holds Try.pinned (OpenSpec.upto shaRootsSpec)

/-- 'causeylaw01.ShaPrimes', WHERE WHAT IT READS IS OF BULK AT MOST 1048576: true; the input reads as it did. -/
def shaPrimesUptoRow : OpenClaim := { program := "ytbfgnlckmpnchaa", sum := "f50bc2a67ee01e5640aee4d444b0b5c9ba630e3ae540778c2c466ae4e955709c", func := "causey/causeylaw01.ShaPrimes", spec := "shaPrimes", inPlace := ["math/bits.Add64", "internal/abi.NoEscape", "internal/bytealg.MakeNoZero"], unfollowed := true, recurses := true, apart := false, narrowed := true }
def ShaPrimesUptoSaid : Prop := shaPrimesUptoRow.holds Try.pinned (OpenSpec.upto shaPrimesSpec)

/-- 'causeylaw01.ShaWhole', WHERE WHAT IT READS IS OF BULK AT MOST 1048576: true; the input reads as it did. -/
def shaWholeUptoRow : OpenClaim := { program := "ytbfgnlckmpnchaa", sum := "f50bc2a67ee01e5640aee4d444b0b5c9ba630e3ae540778c2c466ae4e955709c", func := "causey/causeylaw01.ShaWhole", spec := "shaWhole", inPlace := ["math/bits.Add64", "internal/abi.NoEscape", "internal/bytealg.MakeNoZero"], unfollowed := true, recurses := true, apart := false, narrowed := true }
def ShaWholeUptoSaid : Prop := shaWholeUptoRow.holds Try.pinned (OpenSpec.upto shaWholeSpec)

/-- 'causeylaw01.ShaBlocks', WHERE WHAT IT READS IS OF BULK AT MOST 1048576: true; the input reads as it did. -/
def shaBlocksUptoRow : OpenClaim := { program := "ytbfgnlckmpnchaa", sum := "f50bc2a67ee01e5640aee4d444b0b5c9ba630e3ae540778c2c466ae4e955709c", func := "causey/causeylaw01.ShaBlocks", spec := "shaBlocks", inPlace := ["math/bits.Add64", "internal/abi.NoEscape", "internal/bytealg.MakeNoZero"], unfollowed := true, recurses := true, apart := false, narrowed := true }
def ShaBlocksUptoSaid : Prop := shaBlocksUptoRow.holds Try.pinned (OpenSpec.upto shaBlocksSpec)

/-- 'causeylaw01.ShaPlays', WHERE WHAT IT READS IS OF BULK AT MOST 1048576: true; the input reads as it did. -/
def shaPlaysUptoRow : OpenClaim := { program := "ytbfgnlckmpnchaa", sum := "f50bc2a67ee01e5640aee4d444b0b5c9ba630e3ae540778c2c466ae4e955709c", func := "causey/causeylaw01.ShaPlays", spec := "shaPlays", inPlace := ["math/bits.Add64", "internal/abi.NoEscape", "internal/bytealg.MakeNoZero"], unfollowed := true, recurses := true, apart := false, narrowed := true }
def ShaPlaysUptoSaid : Prop := shaPlaysUptoRow.holds Try.pinned (OpenSpec.upto shaPlaysSpec)

/-- 'causeylaw01.ShaFirst', WHERE WHAT IT READS IS OF BULK AT MOST 1048576: true; the input reads as it did. -/
def shaFirstUptoRow : OpenClaim := { program := "ytbfgnlckmpnchaa", sum := "f50bc2a67ee01e5640aee4d444b0b5c9ba630e3ae540778c2c466ae4e955709c", func := "causey/causeylaw01.ShaFirst", spec := "shaFirst", inPlace := ["math/bits.Add64", "internal/abi.NoEscape", "internal/bytealg.MakeNoZero"], unfollowed := true, recurses := true, apart := false, narrowed := true }
def ShaFirstUptoSaid : Prop := shaFirstUptoRow.holds Try.pinned (OpenSpec.upto shaFirstSpec)

/-- 'causeylaw02.MacFills', WHERE WHAT IT READS IS OF BULK AT MOST 1048576: true; the input reads as it did. -/
def macFillsUptoRow : OpenClaim := { program := "ytbfgnlckmpnchaa", sum := "f50bc2a67ee01e5640aee4d444b0b5c9ba630e3ae540778c2c466ae4e955709c", func := "causey/causeylaw02.MacFills", spec := "macFills", inPlace := ["math/bits.Add64", "internal/abi.NoEscape", "internal/bytealg.MakeNoZero"], unfollowed := true, recurses := true, apart := false, narrowed := true }
def MacFillsUptoSaid : Prop := macFillsUptoRow.holds Try.pinned (OpenSpec.upto macFillsSpec)

/-- 'causeylaw02.MacSame', WHERE WHAT IT READS IS OF BULK AT MOST 1048576: true; the input reads as it did. -/
def macSameUptoRow : OpenClaim := { program := "ytbfgnlckmpnchaa", sum := "f50bc2a67ee01e5640aee4d444b0b5c9ba630e3ae540778c2c466ae4e955709c", func := "causey/causeylaw02.MacSame", spec := "macSame", inPlace := ["math/bits.Add64", "internal/abi.NoEscape", "internal/bytealg.MakeNoZero"], unfollowed := true, recurses := true, apart := false, narrowed := true }
def MacSameUptoSaid : Prop := macSameUptoRow.holds Try.pinned (OpenSpec.upto macSameSpec)

/-- 'causeylaw02.MacFirst', WHERE WHAT IT READS IS OF BULK AT MOST 1048576: true; the input reads as it did. -/
def macFirstUptoRow : OpenClaim := { program := "ytbfgnlckmpnchaa", sum := "f50bc2a67ee01e5640aee4d444b0b5c9ba630e3ae540778c2c466ae4e955709c", func := "causey/causeylaw02.MacFirst", spec := "macFirst", inPlace := ["math/bits.Add64", "internal/abi.NoEscape", "internal/bytealg.MakeNoZero"], unfollowed := true, recurses := true, apart := false, narrowed := true }
def MacFirstUptoSaid : Prop := macFirstUptoRow.holds Try.pinned (OpenSpec.upto macFirstSpec)

/-- 'causeylaw02.MacKeys', WHERE WHAT IT READS IS OF BULK AT MOST 1048576: true; the input reads as it did. -/
def macKeysUptoRow : OpenClaim := { program := "ytbfgnlckmpnchaa", sum := "f50bc2a67ee01e5640aee4d444b0b5c9ba630e3ae540778c2c466ae4e955709c", func := "causey/causeylaw02.MacKeys", spec := "macKeys", inPlace := ["math/bits.Add64", "internal/abi.NoEscape", "internal/bytealg.MakeNoZero"], unfollowed := true, recurses := true, apart := false, narrowed := true }
def MacKeysUptoSaid : Prop := macKeysUptoRow.holds Try.pinned (OpenSpec.upto macKeysSpec)

/-- 'causeylaw02.MacPlays', WHERE WHAT IT READS IS OF BULK AT MOST 1048576: true; the input reads as it did. -/
def macPlaysUptoRow : OpenClaim := { program := "ytbfgnlckmpnchaa", sum := "f50bc2a67ee01e5640aee4d444b0b5c9ba630e3ae540778c2c466ae4e955709c", func := "causey/causeylaw02.MacPlays", spec := "macPlays", inPlace := ["math/bits.Add64", "internal/abi.NoEscape", "internal/bytealg.MakeNoZero"], unfollowed := true, recurses := true, apart := false, narrowed := true }
def MacPlaysUptoSaid : Prop := macPlaysUptoRow.holds Try.pinned (OpenSpec.upto macPlaysSpec)

end Rows
end Go.Proofs.Ytbfgnlckmpnchaa

/-
  A REGION THAT DRAWS ITS ORDER: a read of a whole array out of the middle of a block (beside MixedC.lean). Nothing of the program is named here.
-/
import Derived.Test.YtbfgnlckmpnchaaMixedC
import Derived.Deep.MidRow
namespace Go.Proofs.Ytbfgnlckmpnchaa
open Go.RowKit
namespace MixedC
section
variable {P : Program} {ops : Array Oper} {C : World → Prop}
theorem read_mid {Qn : Act → World → Prop} {w : World} {a : Act} {rest : List (Nat × Nat)} {i : Nat} {op : Oper} (ho : ops[i]? = some op) (hw : Region.wanted op (yielded ops a.tmps) = true) (ty : TypeId) (x : Operand) (hop : op.op = .load ty x)
    (b o : Nat) (hx : a.eval x = .pointer (some ⟨b, o, none⟩)) (cs : Array Value) (d : TypeDesc) (hc : w.rangeAt b o cs.toList)
    (hu : P.underlying ty = some d) (hd : d.isRow = true) (hi : (P.info? ty).map (·.size) = some cs.toList.length)
    (hn : HL P ops C Qn rest (a.put op.dst (.agg cs)) w) : HL P ops C Qn ((1, i) :: rest) a w := by
  refine ⟨op, .agg cs, ho, .inl ⟨hw, fun w' h => ?_⟩, hn⟩
  subst h
  refine .inl ?_
  unfold execOp
  simp only [hop, hx, Instr.loadAt, Instr.sureAddr, Sem.run_bind, Sem.run_pure, Result.andThen_ok, run_loadVar_mid w' b o ty cs.toList d hc hu hd hi, Array.toArray_toList]
theorem read_mid0 {Qn : Act → World → Prop} {w : World} {a : Act} {rest : List (Nat × Nat)} {i : Nat} {op : Oper} (ho : ops[i]? = some op) (hw : Region.wanted op (yielded ops a.tmps) = true) (ty : TypeId) (x : Operand) (hop : op.op = .load ty x)
    (b o : Nat) (hx : a.eval x = .pointer (some ⟨b, o, none⟩)) (cs : Array Value) (d : TypeDesc) (hc : ∀ w', C w' → w'.rangeAt b o cs.toList)
    (hu : P.underlying ty = some d) (hd : d.isRow = true) (hi : (P.info? ty).map (·.size) = some cs.toList.length)
    (hn : HL P ops C Qn rest (a.put op.dst (.agg cs)) w) : HL P ops C Qn ((0, i) :: rest) a w := by
  refine ⟨op, .agg cs, ho, .inl ⟨hw, fun w' h => ?_⟩, hn⟩
  refine .inl ?_
  unfold execOp
  simp only [hop, hx, Instr.loadAt, Instr.sureAddr, Sem.run_bind, Sem.run_pure, Result.andThen_ok, run_loadVar_mid w' b o ty cs.toList d (hc w' h) hu hd hi, Array.toArray_toList]
end
end MixedC
theorem rangeAt_mix {w u : World} {b o : Nat} {cs : List Value} (h : w.rangeAt b o cs) (hb : b < w.heap.size) : (mix [] w u).rangeAt b o cs := fun j v hv => (mix_cell [] w u (by simpa using hb) (by simp)).trans (h j v hv)
end Go.Proofs.Ytbfgnlckmpnchaa

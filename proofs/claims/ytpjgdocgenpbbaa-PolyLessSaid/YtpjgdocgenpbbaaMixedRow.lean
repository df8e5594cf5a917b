/-
  A REGION THAT DRAWS ITS ORDER: a read of a whole array or struct that is known as a block (beside Mixed.lean). Nothing of the program is named here.
-/
import Derived.Test.YtpjgdocgenpbbaaMixed
import Derived.Test.YtpjgdocgenpbbaaText
namespace Go.Proofs.Ytpjgdocgenpbbaa
open Go.RowKit
namespace Mixed
section
variable {P : Program} {ops : Array Oper} {C : World → Prop}
theorem read_row {Qn : Act → World → Prop} {w : World} {a : Act} {rest : List (Nat × Nat)} {i : Nat} {o : Oper} (ho : ops[i]? = some o) (hgd : o.guard = none) (ty : TypeId) (x : Operand) (hop : o.op = .load ty x)
    (g : Nat) (hx : a.eval x = .pointer (some ⟨g, 0, none⟩)) (t : TypeId) (cs : Array Value) (d : TypeDesc) (hB : Blk w g t cs)
    (hu : P.underlying ty = some d) (hd : (match d with | .struct _ | .array _ _ => true | _ => false) = true) (hi : (P.info? ty).map (·.size) = some cs.size)
    (hn : HL P ops C Qn rest (a.put o.dst (.agg cs)) w) : HL P ops C Qn ((1, i) :: rest) a w := by
  refine ⟨o, .agg cs, ho, .inl ⟨by simp [Region.wanted, hgd], fun w' h => ?_⟩, hn⟩
  subst h
  unfold execOp
  simp only [hop, hx, Instr.loadAt, Instr.sureAddr, Sem.run_bind, Sem.run_pure, Result.andThen_ok, run_loadVar_row w' g t ty cs (0, 0) d hB hu hd hi]
theorem read_row0 {Qn : Act → World → Prop} {w : World} {a : Act} {rest : List (Nat × Nat)} {i : Nat} {o : Oper} (ho : ops[i]? = some o) (hgd : o.guard = none) (ty : TypeId) (x : Operand) (hop : o.op = .load ty x)
    (g : Nat) (hx : a.eval x = .pointer (some ⟨g, 0, none⟩)) (t : TypeId) (cs : Array Value) (d : TypeDesc) (hB : ∀ w', C w' → Blk w' g t cs)
    (hu : P.underlying ty = some d) (hd : (match d with | .struct _ | .array _ _ => true | _ => false) = true) (hi : (P.info? ty).map (·.size) = some cs.size)
    (hn : HL P ops C Qn rest (a.put o.dst (.agg cs)) w) : HL P ops C Qn ((0, i) :: rest) a w := by
  refine ⟨o, .agg cs, ho, .inl ⟨by simp [Region.wanted, hgd], fun w' h => ?_⟩, hn⟩
  unfold execOp
  simp only [hop, hx, Instr.loadAt, Instr.sureAddr, Sem.run_bind, Sem.run_pure, Result.andThen_ok, run_loadVar_row w' g t ty cs (0, 0) d (hB w' h) hu hd hi]
end
end Mixed
/-- The load of a whole array in a guarded operation that is carried out. -/
theorem wpList_load_row_g {P : Program} {ops : Array Oper} {rest : List Oper} {o : Oper} {a : Act} {w : World} {Q : Exit → Act → World → Prop} (hw : Region.wanted o (yielded ops a.tmps) = true) (ty : TypeId) (x : Operand) (ho : o.op = .load ty x)
    (g : Nat) (hx : a.eval x = .pointer (some ⟨g, 0, none⟩)) (t : TypeId) (cs : Array Value) (d : TypeDesc) (hB : Blk w g t cs)
    (hu : P.underlying ty = some d) (hd : (match d with | .struct _ | .array _ _ => true | _ => false) = true) (hi : (P.info? ty).map (·.size) = some cs.size)
    (h : wpList P ops Q rest (a.put o.dst (.agg cs)) w) : wpList P ops Q (o :: rest) a w := by
  unfold wpList
  rw [if_pos hw]
  exact .inl (wp_load_row ty x ho g hx t cs (0, 0) d hB hu hd hi h)
end Go.Proofs.Ytpjgdocgenpbbaa

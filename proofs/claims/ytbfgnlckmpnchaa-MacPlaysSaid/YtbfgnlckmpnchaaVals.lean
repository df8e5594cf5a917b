/-
  WORDS OF MY OWN FOR ALL WALKS OF THIS SEAT: unsigned integers as values of one cell behind plain definitions (v8, v16, v32, v64), and what the operations do to them. Nothing of the program is named here. Written by wip/tools/gen_vals.py.
-/
import Derived.WalkKit
namespace Go.Proofs.Ytbfgnlckmpnchaa
open Go.RowKit

/-- A fact kept from the walk's simp; '.out' gives it back. -/
theorem keep {p : Prop} (h : p) : Hid p := h

def v8 (x : UInt8) : Value := .int .u8 (x.toNat : Int)
def v16 (x : UInt16) : Value := .int .u16 (x.toNat : Int)
def v32 (x : UInt32) : Value := .int .u32 (x.toNat : Int)
def v64 (x : UInt64) : Value := .int .u64 (x.toNat : Int)
/-- Go's shifts by a count of any size. -/
def shl32 (a : UInt32) (n : Nat) : UInt32 := if n < 32 then a <<< UInt32.ofNat n else 0
def shr32 (a : UInt32) (n : Nat) : UInt32 := if n < 32 then a >>> UInt32.ofNat n else 0
def shl64 (a b : UInt64) : UInt64 := if b < 64 then a <<< b else 0
def shr64 (a b : UInt64) : UInt64 := if b < 64 then a >>> b else 0

theorem wrap_u8' (n : Int) : IntKind.u8.wrap n = n % 256 := by simp [IntKind.wrap, IntKind.bits, IntKind.signed]
theorem wrap_u16' (n : Int) : IntKind.u16.wrap n = n % 65536 := by simp [IntKind.wrap, IntKind.bits, IntKind.signed]
theorem wrap_u32' (n : Int) : IntKind.u32.wrap n = n % 4294967296 := by simp [IntKind.wrap, IntKind.bits, IntKind.signed]
theorem wrap_u64' (n : Int) : IntKind.u64.wrap n = n % 18446744073709551616 := by simp [IntKind.wrap, IntKind.bits, IntKind.signed]
theorem wrap_i64' (n : Int) (h0 : -9223372036854775808 ≤ n) (h1 : n ≤ 9223372036854775807) : IntKind.i64.wrap n = n := by
  simp [IntKind.wrap, IntKind.bits, IntKind.signed]; omega

/-! ### u8 -/
theorem lt8 (x : UInt8) : x.toNat < 256 := x.toNat_lt
theorem ofInt8 (x : UInt8) : BitVec.ofInt 8 (x.toNat : Int) = x.toBitVec := by
  apply BitVec.eq_of_toNat_eq; rw [BitVec.ofInt_natCast, BitVec.toNat_ofNat]; exact Nat.mod_eq_of_lt (lt8 x)
theorem v8_of {n : Int} {x : UInt8} (h : n % 256 = (x.toNat : Int)) : Value.int .u8 (IntKind.u8.wrap n) = v8 x := by rw [wrap_u8', h]; rfl
theorem v8_lit (n : Int) (h0 : 0 ≤ n) (h1 : n < 256) : Value.int .u8 n = v8 (UInt8.ofNat n.toNat) := by
  obtain ⟨n, rfl⟩ := Int.eq_ofNat_of_zero_le h0
  have hn : n < 256 := by omega
  unfold v8
  rw [Int.toNat_natCast, UInt8.toNat_ofNat', Nat.mod_eq_of_lt hn]
theorem of_wf8 {n : Int} (h : (Lit.int .u8 n).wf = true) : ∃ x : UInt8, n = (x.toNat : Int) := by
  have hb : 0 ≤ n ∧ n ≤ 255 := by simpa [Lit.wf, IntKind.min, IntKind.max, IntKind.signed, IntKind.bits] using h
  refine ⟨UInt8.ofNat n.toNat, ?_⟩
  rw [UInt8.toNat_ofNat', Nat.mod_eq_of_lt (by omega)]
  omega
theorem v8_wf (x : UInt8) : (Lit.int .u8 (x.toNat : Int)).wf = true := by
  have := lt8 x
  have h : 0 ≤ (x.toNat : Int) ∧ (x.toNat : Int) ≤ 255 := by omega
  simpa [Lit.wf, IntKind.min, IntKind.max, IntKind.signed, IntKind.bits] using h
section
variable (t : TypeId) (yk : IntKind) (op : BinOp) (X Y : Operand) (v : Value) (a b : UInt8)
@[go_sem] theorem eqGuard_v8 : eqGuard op t X Y (v8 a) v = pure () := by cases op <;> rfl
@[go_sem] theorem v8_litR (n : Int) (h0 : 0 ≤ n) (h1 : n < 256) : binOp op t (v8 a) (.int .u8 n) = binOp op t (v8 a) (v8 (UInt8.ofNat n.toNat)) := by rw [v8_lit n h0 h1]
@[go_sem] theorem v8_litL (n : Int) (h0 : 0 ≤ n) (h1 : n < 256) : binOp op t (.int .u8 n) (v8 a) = binOp op t (v8 (UInt8.ofNat n.toNat)) (v8 a) := by rw [v8_lit n h0 h1]
@[go_sem] theorem v8_add : binOp .add t (v8 a) (v8 b) = pure (v8 (a + b)) := by
  simp only [v8, binOp_add, Op.intArith]
  refine congrArg pure (v8_of ?_)
  have h : (a + b).toNat = (a.toNat + b.toNat) % 256 := UInt8.toNat_add a b
  rw [h]; omega
@[go_sem] theorem v8_sub : binOp .sub t (v8 a) (v8 b) = pure (v8 (a - b)) := by
  simp only [v8, binOp_sub, Op.intArith]
  refine congrArg pure (v8_of ?_)
  have h : (a - b).toNat = (256 - b.toNat + a.toNat) % 256 := UInt8.toNat_sub a b
  rw [h]; have := lt8 a; have := lt8 b; omega
@[go_sem] theorem v8_mul : binOp .mul t (v8 a) (v8 b) = pure (v8 (a * b)) := by
  simp only [v8, binOp_mul, Op.intArith]
  refine congrArg pure (v8_of ?_)
  have h : (a * b).toNat = (a.toNat * b.toNat) % 256 := UInt8.toNat_mul a b
  rw [h, Int.natCast_emod, Int.natCast_mul]; rfl
@[go_sem] theorem v8_and : binOp .and t (v8 a) (v8 b) = pure (v8 (a &&& b)) := by
  simp only [v8, binOp_and, Op.intBits]
  refine congrArg pure (v8_of ?_)
  show ((BitVec.ofInt 8 _ &&& BitVec.ofInt 8 _).toNat : Int) % _ = _
  rw [ofInt8, ofInt8]; have := lt8 (a &&& b); show (((a &&& b).toNat : Nat) : Int) % _ = _; omega
@[go_sem] theorem v8_or : binOp .or t (v8 a) (v8 b) = pure (v8 (a ||| b)) := by
  simp only [v8, binOp_or, Op.intBits]
  refine congrArg pure (v8_of ?_)
  show ((BitVec.ofInt 8 _ ||| BitVec.ofInt 8 _).toNat : Int) % _ = _
  rw [ofInt8, ofInt8]; have := lt8 (a ||| b); show (((a ||| b).toNat : Nat) : Int) % _ = _; omega
@[go_sem] theorem v8_xor : binOp .xor t (v8 a) (v8 b) = pure (v8 (a ^^^ b)) := by
  simp only [v8, binOp_xor, Op.intBits]
  refine congrArg pure (v8_of ?_)
  show ((BitVec.ofInt 8 _ ^^^ BitVec.ofInt 8 _).toNat : Int) % _ = _
  rw [ofInt8, ofInt8]; have := lt8 (a ^^^ b); show (((a ^^^ b).toNat : Nat) : Int) % _ = _; omega
theorem v8_beq : ((a.toNat : Int) == (b.toNat : Int)) = (a == b) := by
  rw [Bool.eq_iff_iff, beq_iff_eq, beq_iff_eq, ← UInt8.toNat_inj]; omega
@[go_sem] theorem v8_eql : binOp .eql t (v8 a) (v8 b) = pure (.bool (a == b)) := by simp only [v8, binOp_eql, v8_beq]
@[go_sem] theorem v8_neq : binOp .neq t (v8 a) (v8 b) = pure (.bool (a != b)) := by
  simp only [v8, binOp_neq]; rw [show ((a.toNat : Int) != (b.toNat : Int)) = (a != b) from congrArg (! ·) (v8_beq a b)]
@[go_sem] theorem v8_lss : binOp .lss t (v8 a) (v8 b) = pure (.bool (decide (a < b))) := by
  simp only [v8, binOp_lss]
  rw [show decide ((a.toNat : Int) < (b.toNat : Int)) = decide (a < b) from by rw [decide_eq_decide, UInt8.lt_iff_toNat_lt]; omega]
@[go_sem] theorem v8_leq : binOp .leq t (v8 a) (v8 b) = pure (.bool (decide (a ≤ b))) := by
  simp only [v8, binOp_leq]
  rw [show decide ((a.toNat : Int) ≤ (b.toNat : Int)) = decide (a ≤ b) from by rw [decide_eq_decide, UInt8.le_iff_toNat_le]; omega]
@[go_sem] theorem v8_gtr : binOp .gtr t (v8 a) (v8 b) = pure (.bool (decide (b < a))) := by
  simp only [v8, binOp_gtr]
  rw [show decide ((a.toNat : Int) > (b.toNat : Int)) = decide (b < a) from by rw [decide_eq_decide, UInt8.lt_iff_toNat_lt]; omega]
@[go_sem] theorem v8_geq : binOp .geq t (v8 a) (v8 b) = pure (.bool (decide (b ≤ a))) := by
  simp only [v8, binOp_geq]
  rw [show decide ((a.toNat : Int) ≥ (b.toNat : Int)) = decide (b ≤ a) from by rw [decide_eq_decide, UInt8.le_iff_toNat_le]; omega]
@[go_sem] theorem v8_quo (h : b ≠ 0) : binOp .quo t (v8 a) (v8 b) = pure (v8 (a / b)) := by
  have hb : ¬ ((b.toNat : Int) = 0) := fun e => h (UInt8.toNat_inj.1 (by rw [UInt8.toNat_zero]; omega))
  simp only [v8, binOp_quo, Op.intDiv, if_neg hb]
  refine congrArg pure (v8_of ?_)
  rw [Int.tdiv_eq_ediv_of_nonneg (by omega), UInt8.toNat_div, ← Int.natCast_ediv]
  have h1 : a.toNat / b.toNat ≤ a.toNat := Nat.div_le_self _ _
  have := lt8 a
  generalize a.toNat / b.toNat = q at *
  omega
@[go_sem] theorem v8_rem (h : b ≠ 0) : binOp .rem t (v8 a) (v8 b) = pure (v8 (a % b)) := by
  have hb : ¬ ((b.toNat : Int) = 0) := fun e => h (UInt8.toNat_inj.1 (by rw [UInt8.toNat_zero]; omega))
  simp only [v8, binOp_rem, Op.intDiv, if_neg hb]
  rw [Int.tmod_eq_emod_of_nonneg (by omega), UInt8.toNat_mod, ← Int.natCast_emod]
@[go_sem] theorem v8_shl (n : Int) (h0 : 0 ≤ n) (h1 : n < 8) : binOp .shl t (v8 a) (.int yk n) = pure (v8 (a <<< UInt8.ofNat n.toNat)) := by
  obtain ⟨n, rfl⟩ := Int.eq_ofNat_of_zero_le h0
  have hn : n < 8 := by omega
  simp only [v8, binOp_shl, Op.shift, if_neg (show ¬ (n : Int) < 0 by omega), Int.toNat_natCast]
  rw [show min n IntKind.u8.bits = n from Nat.min_eq_left (by simp [IntKind.bits]; omega)]
  refine congrArg pure (v8_of ?_)
  rw [UInt8.toNat_shiftLeft, UInt8.toNat_ofNat', Nat.shiftLeft_eq, Nat.mod_eq_of_lt (show n < 2 ^ 8 by omega), Nat.mod_eq_of_lt hn]
  show (a.toNat : Int) * 2 ^ n % 256 = ((a.toNat * 2 ^ n % 256 : Nat) : Int)
  rw [Int.natCast_emod, Int.natCast_mul, Int.natCast_pow]; rfl
@[go_sem] theorem v8_shr (n : Int) (h0 : 0 ≤ n) (h1 : n < 8) : binOp .shr t (v8 a) (.int yk n) = pure (v8 (a >>> UInt8.ofNat n.toNat)) := by
  obtain ⟨n, rfl⟩ := Int.eq_ofNat_of_zero_le h0
  have hn : n < 8 := by omega
  simp only [v8, binOp_shr, Op.shift, if_neg (show ¬ (n : Int) < 0 by omega), Int.toNat_natCast]
  rw [show min n IntKind.u8.bits = n from Nat.min_eq_left (by simp [IntKind.bits]; omega)]
  refine congrArg (fun z => pure (Value.int .u8 z)) ?_
  rw [UInt8.toNat_shiftRight, UInt8.toNat_ofNat', Nat.shiftRight_eq_div_pow, Nat.mod_eq_of_lt (show n < 2 ^ 8 by omega), Nat.mod_eq_of_lt hn]
  rw [Int.fdiv_eq_ediv_of_nonneg _ (by exact_mod_cast Nat.zero_le (2 ^ n))]
  norm_cast
end
@[go_sem] theorem agg_v8 (x : UInt8) (cs : Array Value) : (v8 x = .agg cs) = False := by simp [v8]
@[go_sem] theorem tuple_v8 (x : UInt8) (cs : Array Value) : (v8 x = .tuple cs) = False := by simp [v8]
@[go_sem ↓] theorem cells_v8 (x : UInt8) : (v8 x).cells = #[v8 x] := rfl
@[go_sem high] theorem cells_v8' (x : UInt8) : (v8 x).cells = #[v8 x] := rfl
section
variable (P : Program) (w : World) (ad : Addr) (m : Mode)
@[go_sem] theorem run_store_v8 (x : UInt8) : (store ad (v8 x) m).run P w = stored P w ad (v8 x) m := run_store P w ad _ m rfl
@[go_sem high] theorem run_storeVar_v8 (t : TypeId) (x : UInt8) (h : (sizeOf t).run P w = .ok 1 w) : (storeVar t ad (v8 x)).run P w = stored P w ad (v8 x) .plain := by
  simp [storeVar, h, cells_v8, storeCells, run_store_v8, Addr.add]
@[go_sem high] theorem run_storeAt_v8 (t : TypeId) (x : UInt8) (h : (sizeOf t).run P w = .ok 1 w) : (Instr.storeAt t (.pointer (some ad)) (v8 x)).run P w = stored P w ad (v8 x) .plain := by
  simp [Instr.storeAt, Instr.sureAddr, run_storeVar_v8 P w ad t x h]
end

/-! ### u16 -/
theorem lt16 (x : UInt16) : x.toNat < 65536 := x.toNat_lt
theorem ofInt16 (x : UInt16) : BitVec.ofInt 16 (x.toNat : Int) = x.toBitVec := by
  apply BitVec.eq_of_toNat_eq; rw [BitVec.ofInt_natCast, BitVec.toNat_ofNat]; exact Nat.mod_eq_of_lt (lt16 x)
theorem v16_of {n : Int} {x : UInt16} (h : n % 65536 = (x.toNat : Int)) : Value.int .u16 (IntKind.u16.wrap n) = v16 x := by rw [wrap_u16', h]; rfl
theorem v16_lit (n : Int) (h0 : 0 ≤ n) (h1 : n < 65536) : Value.int .u16 n = v16 (UInt16.ofNat n.toNat) := by
  obtain ⟨n, rfl⟩ := Int.eq_ofNat_of_zero_le h0
  have hn : n < 65536 := by omega
  unfold v16
  rw [Int.toNat_natCast, UInt16.toNat_ofNat', Nat.mod_eq_of_lt hn]
theorem of_wf16 {n : Int} (h : (Lit.int .u16 n).wf = true) : ∃ x : UInt16, n = (x.toNat : Int) := by
  have hb : 0 ≤ n ∧ n ≤ 65535 := by simpa [Lit.wf, IntKind.min, IntKind.max, IntKind.signed, IntKind.bits] using h
  refine ⟨UInt16.ofNat n.toNat, ?_⟩
  rw [UInt16.toNat_ofNat', Nat.mod_eq_of_lt (by omega)]
  omega
theorem v16_wf (x : UInt16) : (Lit.int .u16 (x.toNat : Int)).wf = true := by
  have := lt16 x
  have h : 0 ≤ (x.toNat : Int) ∧ (x.toNat : Int) ≤ 65535 := by omega
  simpa [Lit.wf, IntKind.min, IntKind.max, IntKind.signed, IntKind.bits] using h
section
variable (t : TypeId) (yk : IntKind) (op : BinOp) (X Y : Operand) (v : Value) (a b : UInt16)
@[go_sem] theorem eqGuard_v16 : eqGuard op t X Y (v16 a) v = pure () := by cases op <;> rfl
@[go_sem] theorem v16_litR (n : Int) (h0 : 0 ≤ n) (h1 : n < 65536) : binOp op t (v16 a) (.int .u16 n) = binOp op t (v16 a) (v16 (UInt16.ofNat n.toNat)) := by rw [v16_lit n h0 h1]
@[go_sem] theorem v16_litL (n : Int) (h0 : 0 ≤ n) (h1 : n < 65536) : binOp op t (.int .u16 n) (v16 a) = binOp op t (v16 (UInt16.ofNat n.toNat)) (v16 a) := by rw [v16_lit n h0 h1]
@[go_sem] theorem v16_add : binOp .add t (v16 a) (v16 b) = pure (v16 (a + b)) := by
  simp only [v16, binOp_add, Op.intArith]
  refine congrArg pure (v16_of ?_)
  have h : (a + b).toNat = (a.toNat + b.toNat) % 65536 := UInt16.toNat_add a b
  rw [h]; omega
@[go_sem] theorem v16_sub : binOp .sub t (v16 a) (v16 b) = pure (v16 (a - b)) := by
  simp only [v16, binOp_sub, Op.intArith]
  refine congrArg pure (v16_of ?_)
  have h : (a - b).toNat = (65536 - b.toNat + a.toNat) % 65536 := UInt16.toNat_sub a b
  rw [h]; have := lt16 a; have := lt16 b; omega
@[go_sem] theorem v16_mul : binOp .mul t (v16 a) (v16 b) = pure (v16 (a * b)) := by
  simp only [v16, binOp_mul, Op.intArith]
  refine congrArg pure (v16_of ?_)
  have h : (a * b).toNat = (a.toNat * b.toNat) % 65536 := UInt16.toNat_mul a b
  rw [h, Int.natCast_emod, Int.natCast_mul]; rfl
@[go_sem] theorem v16_and : binOp .and t (v16 a) (v16 b) = pure (v16 (a &&& b)) := by
  simp only [v16, binOp_and, Op.intBits]
  refine congrArg pure (v16_of ?_)
  show ((BitVec.ofInt 16 _ &&& BitVec.ofInt 16 _).toNat : Int) % _ = _
  rw [ofInt16, ofInt16]; have := lt16 (a &&& b); show (((a &&& b).toNat : Nat) : Int) % _ = _; omega
@[go_sem] theorem v16_or : binOp .or t (v16 a) (v16 b) = pure (v16 (a ||| b)) := by
  simp only [v16, binOp_or, Op.intBits]
  refine congrArg pure (v16_of ?_)
  show ((BitVec.ofInt 16 _ ||| BitVec.ofInt 16 _).toNat : Int) % _ = _
  rw [ofInt16, ofInt16]; have := lt16 (a ||| b); show (((a ||| b).toNat : Nat) : Int) % _ = _; omega
@[go_sem] theorem v16_xor : binOp .xor t (v16 a) (v16 b) = pure (v16 (a ^^^ b)) := by
  simp only [v16, binOp_xor, Op.intBits]
  refine congrArg pure (v16_of ?_)
  show ((BitVec.ofInt 16 _ ^^^ BitVec.ofInt 16 _).toNat : Int) % _ = _
  rw [ofInt16, ofInt16]; have := lt16 (a ^^^ b); show (((a ^^^ b).toNat : Nat) : Int) % _ = _; omega
theorem v16_beq : ((a.toNat : Int) == (b.toNat : Int)) = (a == b) := by
  rw [Bool.eq_iff_iff, beq_iff_eq, beq_iff_eq, ← UInt16.toNat_inj]; omega
@[go_sem] theorem v16_eql : binOp .eql t (v16 a) (v16 b) = pure (.bool (a == b)) := by simp only [v16, binOp_eql, v16_beq]
@[go_sem] theorem v16_neq : binOp .neq t (v16 a) (v16 b) = pure (.bool (a != b)) := by
  simp only [v16, binOp_neq]; rw [show ((a.toNat : Int) != (b.toNat : Int)) = (a != b) from congrArg (! ·) (v16_beq a b)]
@[go_sem] theorem v16_lss : binOp .lss t (v16 a) (v16 b) = pure (.bool (decide (a < b))) := by
  simp only [v16, binOp_lss]
  rw [show decide ((a.toNat : Int) < (b.toNat : Int)) = decide (a < b) from by rw [decide_eq_decide, UInt16.lt_iff_toNat_lt]; omega]
@[go_sem] theorem v16_leq : binOp .leq t (v16 a) (v16 b) = pure (.bool (decide (a ≤ b))) := by
  simp only [v16, binOp_leq]
  rw [show decide ((a.toNat : Int) ≤ (b.toNat : Int)) = decide (a ≤ b) from by rw [decide_eq_decide, UInt16.le_iff_toNat_le]; omega]
@[go_sem] theorem v16_gtr : binOp .gtr t (v16 a) (v16 b) = pure (.bool (decide (b < a))) := by
  simp only [v16, binOp_gtr]
  rw [show decide ((a.toNat : Int) > (b.toNat : Int)) = decide (b < a) from by rw [decide_eq_decide, UInt16.lt_iff_toNat_lt]; omega]
@[go_sem] theorem v16_geq : binOp .geq t (v16 a) (v16 b) = pure (.bool (decide (b ≤ a))) := by
  simp only [v16, binOp_geq]
  rw [show decide ((a.toNat : Int) ≥ (b.toNat : Int)) = decide (b ≤ a) from by rw [decide_eq_decide, UInt16.le_iff_toNat_le]; omega]
@[go_sem] theorem v16_quo (h : b ≠ 0) : binOp .quo t (v16 a) (v16 b) = pure (v16 (a / b)) := by
  have hb : ¬ ((b.toNat : Int) = 0) := fun e => h (UInt16.toNat_inj.1 (by rw [UInt16.toNat_zero]; omega))
  simp only [v16, binOp_quo, Op.intDiv, if_neg hb]
  refine congrArg pure (v16_of ?_)
  rw [Int.tdiv_eq_ediv_of_nonneg (by omega), UInt16.toNat_div, ← Int.natCast_ediv]
  have h1 : a.toNat / b.toNat ≤ a.toNat := Nat.div_le_self _ _
  have := lt16 a
  generalize a.toNat / b.toNat = q at *
  omega
@[go_sem] theorem v16_rem (h : b ≠ 0) : binOp .rem t (v16 a) (v16 b) = pure (v16 (a % b)) := by
  have hb : ¬ ((b.toNat : Int) = 0) := fun e => h (UInt16.toNat_inj.1 (by rw [UInt16.toNat_zero]; omega))
  simp only [v16, binOp_rem, Op.intDiv, if_neg hb]
  rw [Int.tmod_eq_emod_of_nonneg (by omega), UInt16.toNat_mod, ← Int.natCast_emod]
@[go_sem] theorem v16_shl (n : Int) (h0 : 0 ≤ n) (h1 : n < 16) : binOp .shl t (v16 a) (.int yk n) = pure (v16 (a <<< UInt16.ofNat n.toNat)) := by
  obtain ⟨n, rfl⟩ := Int.eq_ofNat_of_zero_le h0
  have hn : n < 16 := by omega
  simp only [v16, binOp_shl, Op.shift, if_neg (show ¬ (n : Int) < 0 by omega), Int.toNat_natCast]
  rw [show min n IntKind.u16.bits = n from Nat.min_eq_left (by simp [IntKind.bits]; omega)]
  refine congrArg pure (v16_of ?_)
  rw [UInt16.toNat_shiftLeft, UInt16.toNat_ofNat', Nat.shiftLeft_eq, Nat.mod_eq_of_lt (show n < 2 ^ 16 by omega), Nat.mod_eq_of_lt hn]
  show (a.toNat : Int) * 2 ^ n % 65536 = ((a.toNat * 2 ^ n % 65536 : Nat) : Int)
  rw [Int.natCast_emod, Int.natCast_mul, Int.natCast_pow]; rfl
@[go_sem] theorem v16_shr (n : Int) (h0 : 0 ≤ n) (h1 : n < 16) : binOp .shr t (v16 a) (.int yk n) = pure (v16 (a >>> UInt16.ofNat n.toNat)) := by
  obtain ⟨n, rfl⟩ := Int.eq_ofNat_of_zero_le h0
  have hn : n < 16 := by omega
  simp only [v16, binOp_shr, Op.shift, if_neg (show ¬ (n : Int) < 0 by omega), Int.toNat_natCast]
  rw [show min n IntKind.u16.bits = n from Nat.min_eq_left (by simp [IntKind.bits]; omega)]
  refine congrArg (fun z => pure (Value.int .u16 z)) ?_
  rw [UInt16.toNat_shiftRight, UInt16.toNat_ofNat', Nat.shiftRight_eq_div_pow, Nat.mod_eq_of_lt (show n < 2 ^ 16 by omega), Nat.mod_eq_of_lt hn]
  rw [Int.fdiv_eq_ediv_of_nonneg _ (by exact_mod_cast Nat.zero_le (2 ^ n))]
  norm_cast
end
@[go_sem] theorem agg_v16 (x : UInt16) (cs : Array Value) : (v16 x = .agg cs) = False := by simp [v16]
@[go_sem] theorem tuple_v16 (x : UInt16) (cs : Array Value) : (v16 x = .tuple cs) = False := by simp [v16]
@[go_sem ↓] theorem cells_v16 (x : UInt16) : (v16 x).cells = #[v16 x] := rfl
@[go_sem high] theorem cells_v16' (x : UInt16) : (v16 x).cells = #[v16 x] := rfl
section
variable (P : Program) (w : World) (ad : Addr) (m : Mode)
@[go_sem] theorem run_store_v16 (x : UInt16) : (store ad (v16 x) m).run P w = stored P w ad (v16 x) m := run_store P w ad _ m rfl
@[go_sem high] theorem run_storeVar_v16 (t : TypeId) (x : UInt16) (h : (sizeOf t).run P w = .ok 1 w) : (storeVar t ad (v16 x)).run P w = stored P w ad (v16 x) .plain := by
  simp [storeVar, h, cells_v16, storeCells, run_store_v16, Addr.add]
@[go_sem high] theorem run_storeAt_v16 (t : TypeId) (x : UInt16) (h : (sizeOf t).run P w = .ok 1 w) : (Instr.storeAt t (.pointer (some ad)) (v16 x)).run P w = stored P w ad (v16 x) .plain := by
  simp [Instr.storeAt, Instr.sureAddr, run_storeVar_v16 P w ad t x h]
end

/-! ### u32 -/
theorem lt32 (x : UInt32) : x.toNat < 4294967296 := x.toNat_lt
theorem ofInt32 (x : UInt32) : BitVec.ofInt 32 (x.toNat : Int) = x.toBitVec := by
  apply BitVec.eq_of_toNat_eq; rw [BitVec.ofInt_natCast, BitVec.toNat_ofNat]; exact Nat.mod_eq_of_lt (lt32 x)
theorem v32_of {n : Int} {x : UInt32} (h : n % 4294967296 = (x.toNat : Int)) : Value.int .u32 (IntKind.u32.wrap n) = v32 x := by rw [wrap_u32', h]; rfl
theorem v32_lit (n : Int) (h0 : 0 ≤ n) (h1 : n < 4294967296) : Value.int .u32 n = v32 (UInt32.ofNat n.toNat) := by
  obtain ⟨n, rfl⟩ := Int.eq_ofNat_of_zero_le h0
  have hn : n < 4294967296 := by omega
  unfold v32
  rw [Int.toNat_natCast, UInt32.toNat_ofNat', Nat.mod_eq_of_lt hn]
theorem of_wf32 {n : Int} (h : (Lit.int .u32 n).wf = true) : ∃ x : UInt32, n = (x.toNat : Int) := by
  have hb : 0 ≤ n ∧ n ≤ 4294967295 := by simpa [Lit.wf, IntKind.min, IntKind.max, IntKind.signed, IntKind.bits] using h
  refine ⟨UInt32.ofNat n.toNat, ?_⟩
  rw [UInt32.toNat_ofNat', Nat.mod_eq_of_lt (by omega)]
  omega
theorem v32_wf (x : UInt32) : (Lit.int .u32 (x.toNat : Int)).wf = true := by
  have := lt32 x
  have h : 0 ≤ (x.toNat : Int) ∧ (x.toNat : Int) ≤ 4294967295 := by omega
  simpa [Lit.wf, IntKind.min, IntKind.max, IntKind.signed, IntKind.bits] using h
section
variable (t : TypeId) (yk : IntKind) (op : BinOp) (X Y : Operand) (v : Value) (a b : UInt32)
@[go_sem] theorem eqGuard_v32 : eqGuard op t X Y (v32 a) v = pure () := by cases op <;> rfl
@[go_sem] theorem v32_litR (n : Int) (h0 : 0 ≤ n) (h1 : n < 4294967296) : binOp op t (v32 a) (.int .u32 n) = binOp op t (v32 a) (v32 (UInt32.ofNat n.toNat)) := by rw [v32_lit n h0 h1]
@[go_sem] theorem v32_litL (n : Int) (h0 : 0 ≤ n) (h1 : n < 4294967296) : binOp op t (.int .u32 n) (v32 a) = binOp op t (v32 (UInt32.ofNat n.toNat)) (v32 a) := by rw [v32_lit n h0 h1]
@[go_sem] theorem v32_add : binOp .add t (v32 a) (v32 b) = pure (v32 (a + b)) := by
  simp only [v32, binOp_add, Op.intArith]
  refine congrArg pure (v32_of ?_)
  have h : (a + b).toNat = (a.toNat + b.toNat) % 4294967296 := UInt32.toNat_add a b
  rw [h]; omega
@[go_sem] theorem v32_sub : binOp .sub t (v32 a) (v32 b) = pure (v32 (a - b)) := by
  simp only [v32, binOp_sub, Op.intArith]
  refine congrArg pure (v32_of ?_)
  have h : (a - b).toNat = (4294967296 - b.toNat + a.toNat) % 4294967296 := UInt32.toNat_sub a b
  rw [h]; have := lt32 a; have := lt32 b; omega
@[go_sem] theorem v32_mul : binOp .mul t (v32 a) (v32 b) = pure (v32 (a * b)) := by
  simp only [v32, binOp_mul, Op.intArith]
  refine congrArg pure (v32_of ?_)
  have h : (a * b).toNat = (a.toNat * b.toNat) % 4294967296 := UInt32.toNat_mul a b
  rw [h, Int.natCast_emod, Int.natCast_mul]; rfl
@[go_sem] theorem v32_and : binOp .and t (v32 a) (v32 b) = pure (v32 (a &&& b)) := by
  simp only [v32, binOp_and, Op.intBits]
  refine congrArg pure (v32_of ?_)
  show ((BitVec.ofInt 32 _ &&& BitVec.ofInt 32 _).toNat : Int) % _ = _
  rw [ofInt32, ofInt32]; have := lt32 (a &&& b); show (((a &&& b).toNat : Nat) : Int) % _ = _; omega
@[go_sem] theorem v32_or : binOp .or t (v32 a) (v32 b) = pure (v32 (a ||| b)) := by
  simp only [v32, binOp_or, Op.intBits]
  refine congrArg pure (v32_of ?_)
  show ((BitVec.ofInt 32 _ ||| BitVec.ofInt 32 _).toNat : Int) % _ = _
  rw [ofInt32, ofInt32]; have := lt32 (a ||| b); show (((a ||| b).toNat : Nat) : Int) % _ = _; omega
@[go_sem] theorem v32_xor : binOp .xor t (v32 a) (v32 b) = pure (v32 (a ^^^ b)) := by
  simp only [v32, binOp_xor, Op.intBits]
  refine congrArg pure (v32_of ?_)
  show ((BitVec.ofInt 32 _ ^^^ BitVec.ofInt 32 _).toNat : Int) % _ = _
  rw [ofInt32, ofInt32]; have := lt32 (a ^^^ b); show (((a ^^^ b).toNat : Nat) : Int) % _ = _; omega
theorem v32_beq : ((a.toNat : Int) == (b.toNat : Int)) = (a == b) := by
  rw [Bool.eq_iff_iff, beq_iff_eq, beq_iff_eq, ← UInt32.toNat_inj]; omega
@[go_sem] theorem v32_eql : binOp .eql t (v32 a) (v32 b) = pure (.bool (a == b)) := by simp only [v32, binOp_eql, v32_beq]
@[go_sem] theorem v32_neq : binOp .neq t (v32 a) (v32 b) = pure (.bool (a != b)) := by
  simp only [v32, binOp_neq]; rw [show ((a.toNat : Int) != (b.toNat : Int)) = (a != b) from congrArg (! ·) (v32_beq a b)]
@[go_sem] theorem v32_lss : binOp .lss t (v32 a) (v32 b) = pure (.bool (decide (a < b))) := by
  simp only [v32, binOp_lss]
  rw [show decide ((a.toNat : Int) < (b.toNat : Int)) = decide (a < b) from by rw [decide_eq_decide, UInt32.lt_iff_toNat_lt]; omega]
@[go_sem] theorem v32_leq : binOp .leq t (v32 a) (v32 b) = pure (.bool (decide (a ≤ b))) := by
  simp only [v32, binOp_leq]
  rw [show decide ((a.toNat : Int) ≤ (b.toNat : Int)) = decide (a ≤ b) from by rw [decide_eq_decide, UInt32.le_iff_toNat_le]; omega]
@[go_sem] theorem v32_gtr : binOp .gtr t (v32 a) (v32 b) = pure (.bool (decide (b < a))) := by
  simp only [v32, binOp_gtr]
  rw [show decide ((a.toNat : Int) > (b.toNat : Int)) = decide (b < a) from by rw [decide_eq_decide, UInt32.lt_iff_toNat_lt]; omega]
@[go_sem] theorem v32_geq : binOp .geq t (v32 a) (v32 b) = pure (.bool (decide (b ≤ a))) := by
  simp only [v32, binOp_geq]
  rw [show decide ((a.toNat : Int) ≥ (b.toNat : Int)) = decide (b ≤ a) from by rw [decide_eq_decide, UInt32.le_iff_toNat_le]; omega]
@[go_sem] theorem v32_quo (h : b ≠ 0) : binOp .quo t (v32 a) (v32 b) = pure (v32 (a / b)) := by
  have hb : ¬ ((b.toNat : Int) = 0) := fun e => h (UInt32.toNat_inj.1 (by rw [UInt32.toNat_zero]; omega))
  simp only [v32, binOp_quo, Op.intDiv, if_neg hb]
  refine congrArg pure (v32_of ?_)
  rw [Int.tdiv_eq_ediv_of_nonneg (by omega), UInt32.toNat_div, ← Int.natCast_ediv]
  have h1 : a.toNat / b.toNat ≤ a.toNat := Nat.div_le_self _ _
  have := lt32 a
  generalize a.toNat / b.toNat = q at *
  omega
@[go_sem] theorem v32_rem (h : b ≠ 0) : binOp .rem t (v32 a) (v32 b) = pure (v32 (a % b)) := by
  have hb : ¬ ((b.toNat : Int) = 0) := fun e => h (UInt32.toNat_inj.1 (by rw [UInt32.toNat_zero]; omega))
  simp only [v32, binOp_rem, Op.intDiv, if_neg hb]
  rw [Int.tmod_eq_emod_of_nonneg (by omega), UInt32.toNat_mod, ← Int.natCast_emod]
@[go_sem] theorem v32_shl (n : Int) (h0 : 0 ≤ n) (h1 : n < 32) : binOp .shl t (v32 a) (.int yk n) = pure (v32 (a <<< UInt32.ofNat n.toNat)) := by
  obtain ⟨n, rfl⟩ := Int.eq_ofNat_of_zero_le h0
  have hn : n < 32 := by omega
  simp only [v32, binOp_shl, Op.shift, if_neg (show ¬ (n : Int) < 0 by omega), Int.toNat_natCast]
  rw [show min n IntKind.u32.bits = n from Nat.min_eq_left (by simp [IntKind.bits]; omega)]
  refine congrArg pure (v32_of ?_)
  rw [UInt32.toNat_shiftLeft, UInt32.toNat_ofNat', Nat.shiftLeft_eq, Nat.mod_eq_of_lt (show n < 2 ^ 32 by omega), Nat.mod_eq_of_lt hn]
  show (a.toNat : Int) * 2 ^ n % 4294967296 = ((a.toNat * 2 ^ n % 4294967296 : Nat) : Int)
  rw [Int.natCast_emod, Int.natCast_mul, Int.natCast_pow]; rfl
@[go_sem] theorem v32_shr (n : Int) (h0 : 0 ≤ n) (h1 : n < 32) : binOp .shr t (v32 a) (.int yk n) = pure (v32 (a >>> UInt32.ofNat n.toNat)) := by
  obtain ⟨n, rfl⟩ := Int.eq_ofNat_of_zero_le h0
  have hn : n < 32 := by omega
  simp only [v32, binOp_shr, Op.shift, if_neg (show ¬ (n : Int) < 0 by omega), Int.toNat_natCast]
  rw [show min n IntKind.u32.bits = n from Nat.min_eq_left (by simp [IntKind.bits]; omega)]
  refine congrArg (fun z => pure (Value.int .u32 z)) ?_
  rw [UInt32.toNat_shiftRight, UInt32.toNat_ofNat', Nat.shiftRight_eq_div_pow, Nat.mod_eq_of_lt (show n < 2 ^ 32 by omega), Nat.mod_eq_of_lt hn]
  rw [Int.fdiv_eq_ediv_of_nonneg _ (by exact_mod_cast Nat.zero_le (2 ^ n))]
  norm_cast
end
@[go_sem] theorem agg_v32 (x : UInt32) (cs : Array Value) : (v32 x = .agg cs) = False := by simp [v32]
@[go_sem] theorem tuple_v32 (x : UInt32) (cs : Array Value) : (v32 x = .tuple cs) = False := by simp [v32]
@[go_sem ↓] theorem cells_v32 (x : UInt32) : (v32 x).cells = #[v32 x] := rfl
@[go_sem high] theorem cells_v32' (x : UInt32) : (v32 x).cells = #[v32 x] := rfl
section
variable (P : Program) (w : World) (ad : Addr) (m : Mode)
@[go_sem] theorem run_store_v32 (x : UInt32) : (store ad (v32 x) m).run P w = stored P w ad (v32 x) m := run_store P w ad _ m rfl
@[go_sem high] theorem run_storeVar_v32 (t : TypeId) (x : UInt32) (h : (sizeOf t).run P w = .ok 1 w) : (storeVar t ad (v32 x)).run P w = stored P w ad (v32 x) .plain := by
  simp [storeVar, h, cells_v32, storeCells, run_store_v32, Addr.add]
@[go_sem high] theorem run_storeAt_v32 (t : TypeId) (x : UInt32) (h : (sizeOf t).run P w = .ok 1 w) : (Instr.storeAt t (.pointer (some ad)) (v32 x)).run P w = stored P w ad (v32 x) .plain := by
  simp [Instr.storeAt, Instr.sureAddr, run_storeVar_v32 P w ad t x h]
end

/-! ### u64 -/
theorem lt64 (x : UInt64) : x.toNat < 18446744073709551616 := x.toNat_lt
theorem ofInt64 (x : UInt64) : BitVec.ofInt 64 (x.toNat : Int) = x.toBitVec := by
  apply BitVec.eq_of_toNat_eq; rw [BitVec.ofInt_natCast, BitVec.toNat_ofNat]; exact Nat.mod_eq_of_lt (lt64 x)
theorem v64_of {n : Int} {x : UInt64} (h : n % 18446744073709551616 = (x.toNat : Int)) : Value.int .u64 (IntKind.u64.wrap n) = v64 x := by rw [wrap_u64', h]; rfl
theorem v64_lit (n : Int) (h0 : 0 ≤ n) (h1 : n < 18446744073709551616) : Value.int .u64 n = v64 (UInt64.ofNat n.toNat) := by
  obtain ⟨n, rfl⟩ := Int.eq_ofNat_of_zero_le h0
  have hn : n < 18446744073709551616 := by omega
  unfold v64
  rw [Int.toNat_natCast, UInt64.toNat_ofNat', Nat.mod_eq_of_lt hn]
theorem of_wf64 {n : Int} (h : (Lit.int .u64 n).wf = true) : ∃ x : UInt64, n = (x.toNat : Int) := by
  have hb : 0 ≤ n ∧ n ≤ 18446744073709551615 := by simpa [Lit.wf, IntKind.min, IntKind.max, IntKind.signed, IntKind.bits] using h
  refine ⟨UInt64.ofNat n.toNat, ?_⟩
  rw [UInt64.toNat_ofNat', Nat.mod_eq_of_lt (by omega)]
  omega
theorem v64_wf (x : UInt64) : (Lit.int .u64 (x.toNat : Int)).wf = true := by
  have := lt64 x
  have h : 0 ≤ (x.toNat : Int) ∧ (x.toNat : Int) ≤ 18446744073709551615 := by omega
  simpa [Lit.wf, IntKind.min, IntKind.max, IntKind.signed, IntKind.bits] using h
section
variable (t : TypeId) (yk : IntKind) (op : BinOp) (X Y : Operand) (v : Value) (a b : UInt64)
@[go_sem] theorem eqGuard_v64 : eqGuard op t X Y (v64 a) v = pure () := by cases op <;> rfl
@[go_sem] theorem v64_litR (n : Int) (h0 : 0 ≤ n) (h1 : n < 18446744073709551616) : binOp op t (v64 a) (.int .u64 n) = binOp op t (v64 a) (v64 (UInt64.ofNat n.toNat)) := by rw [v64_lit n h0 h1]
@[go_sem] theorem v64_litL (n : Int) (h0 : 0 ≤ n) (h1 : n < 18446744073709551616) : binOp op t (.int .u64 n) (v64 a) = binOp op t (v64 (UInt64.ofNat n.toNat)) (v64 a) := by rw [v64_lit n h0 h1]
@[go_sem] theorem v64_add : binOp .add t (v64 a) (v64 b) = pure (v64 (a + b)) := by
  simp only [v64, binOp_add, Op.intArith]
  refine congrArg pure (v64_of ?_)
  have h : (a + b).toNat = (a.toNat + b.toNat) % 18446744073709551616 := UInt64.toNat_add a b
  rw [h]; omega
@[go_sem] theorem v64_sub : binOp .sub t (v64 a) (v64 b) = pure (v64 (a - b)) := by
  simp only [v64, binOp_sub, Op.intArith]
  refine congrArg pure (v64_of ?_)
  have h : (a - b).toNat = (18446744073709551616 - b.toNat + a.toNat) % 18446744073709551616 := UInt64.toNat_sub a b
  rw [h]; have := lt64 a; have := lt64 b; omega
@[go_sem] theorem v64_mul : binOp .mul t (v64 a) (v64 b) = pure (v64 (a * b)) := by
  simp only [v64, binOp_mul, Op.intArith]
  refine congrArg pure (v64_of ?_)
  have h : (a * b).toNat = (a.toNat * b.toNat) % 18446744073709551616 := UInt64.toNat_mul a b
  rw [h, Int.natCast_emod, Int.natCast_mul]; rfl
@[go_sem] theorem v64_and : binOp .and t (v64 a) (v64 b) = pure (v64 (a &&& b)) := by
  simp only [v64, binOp_and, Op.intBits]
  refine congrArg pure (v64_of ?_)
  show ((BitVec.ofInt 64 _ &&& BitVec.ofInt 64 _).toNat : Int) % _ = _
  rw [ofInt64, ofInt64]; have := lt64 (a &&& b); show (((a &&& b).toNat : Nat) : Int) % _ = _; omega
@[go_sem] theorem v64_or : binOp .or t (v64 a) (v64 b) = pure (v64 (a ||| b)) := by
  simp only [v64, binOp_or, Op.intBits]
  refine congrArg pure (v64_of ?_)
  show ((BitVec.ofInt 64 _ ||| BitVec.ofInt 64 _).toNat : Int) % _ = _
  rw [ofInt64, ofInt64]; have := lt64 (a ||| b); show (((a ||| b).toNat : Nat) : Int) % _ = _; omega
@[go_sem] theorem v64_xor : binOp .xor t (v64 a) (v64 b) = pure (v64 (a ^^^ b)) := by
  simp only [v64, binOp_xor, Op.intBits]
  refine congrArg pure (v64_of ?_)
  show ((BitVec.ofInt 64 _ ^^^ BitVec.ofInt 64 _).toNat : Int) % _ = _
  rw [ofInt64, ofInt64]; have := lt64 (a ^^^ b); show (((a ^^^ b).toNat : Nat) : Int) % _ = _; omega
theorem v64_beq : ((a.toNat : Int) == (b.toNat : Int)) = (a == b) := by
  rw [Bool.eq_iff_iff, beq_iff_eq, beq_iff_eq, ← UInt64.toNat_inj]; omega
@[go_sem] theorem v64_eql : binOp .eql t (v64 a) (v64 b) = pure (.bool (a == b)) := by simp only [v64, binOp_eql, v64_beq]
@[go_sem] theorem v64_neq : binOp .neq t (v64 a) (v64 b) = pure (.bool (a != b)) := by
  simp only [v64, binOp_neq]; rw [show ((a.toNat : Int) != (b.toNat : Int)) = (a != b) from congrArg (! ·) (v64_beq a b)]
@[go_sem] theorem v64_lss : binOp .lss t (v64 a) (v64 b) = pure (.bool (decide (a < b))) := by
  simp only [v64, binOp_lss]
  rw [show decide ((a.toNat : Int) < (b.toNat : Int)) = decide (a < b) from by rw [decide_eq_decide, UInt64.lt_iff_toNat_lt]; omega]
@[go_sem] theorem v64_leq : binOp .leq t (v64 a) (v64 b) = pure (.bool (decide (a ≤ b))) := by
  simp only [v64, binOp_leq]
  rw [show decide ((a.toNat : Int) ≤ (b.toNat : Int)) = decide (a ≤ b) from by rw [decide_eq_decide, UInt64.le_iff_toNat_le]; omega]
@[go_sem] theorem v64_gtr : binOp .gtr t (v64 a) (v64 b) = pure (.bool (decide (b < a))) := by
  simp only [v64, binOp_gtr]
  rw [show decide ((a.toNat : Int) > (b.toNat : Int)) = decide (b < a) from by rw [decide_eq_decide, UInt64.lt_iff_toNat_lt]; omega]
@[go_sem] theorem v64_geq : binOp .geq t (v64 a) (v64 b) = pure (.bool (decide (b ≤ a))) := by
  simp only [v64, binOp_geq]
  rw [show decide ((a.toNat : Int) ≥ (b.toNat : Int)) = decide (b ≤ a) from by rw [decide_eq_decide, UInt64.le_iff_toNat_le]; omega]
@[go_sem] theorem v64_quo (h : b ≠ 0) : binOp .quo t (v64 a) (v64 b) = pure (v64 (a / b)) := by
  have hb : ¬ ((b.toNat : Int) = 0) := fun e => h (UInt64.toNat_inj.1 (by rw [UInt64.toNat_zero]; omega))
  simp only [v64, binOp_quo, Op.intDiv, if_neg hb]
  refine congrArg pure (v64_of ?_)
  rw [Int.tdiv_eq_ediv_of_nonneg (by omega), UInt64.toNat_div, ← Int.natCast_ediv]
  have h1 : a.toNat / b.toNat ≤ a.toNat := Nat.div_le_self _ _
  have := lt64 a
  generalize a.toNat / b.toNat = q at *
  omega
@[go_sem] theorem v64_rem (h : b ≠ 0) : binOp .rem t (v64 a) (v64 b) = pure (v64 (a % b)) := by
  have hb : ¬ ((b.toNat : Int) = 0) := fun e => h (UInt64.toNat_inj.1 (by rw [UInt64.toNat_zero]; omega))
  simp only [v64, binOp_rem, Op.intDiv, if_neg hb]
  rw [Int.tmod_eq_emod_of_nonneg (by omega), UInt64.toNat_mod, ← Int.natCast_emod]
@[go_sem] theorem v64_shl (n : Int) (h0 : 0 ≤ n) (h1 : n < 64) : binOp .shl t (v64 a) (.int yk n) = pure (v64 (a <<< UInt64.ofNat n.toNat)) := by
  obtain ⟨n, rfl⟩ := Int.eq_ofNat_of_zero_le h0
  have hn : n < 64 := by omega
  simp only [v64, binOp_shl, Op.shift, if_neg (show ¬ (n : Int) < 0 by omega), Int.toNat_natCast]
  rw [show min n IntKind.u64.bits = n from Nat.min_eq_left (by simp [IntKind.bits]; omega)]
  refine congrArg pure (v64_of ?_)
  rw [UInt64.toNat_shiftLeft, UInt64.toNat_ofNat', Nat.shiftLeft_eq, Nat.mod_eq_of_lt (show n < 2 ^ 64 by omega), Nat.mod_eq_of_lt hn]
  show (a.toNat : Int) * 2 ^ n % 18446744073709551616 = ((a.toNat * 2 ^ n % 18446744073709551616 : Nat) : Int)
  rw [Int.natCast_emod, Int.natCast_mul, Int.natCast_pow]; rfl
@[go_sem] theorem v64_shr (n : Int) (h0 : 0 ≤ n) (h1 : n < 64) : binOp .shr t (v64 a) (.int yk n) = pure (v64 (a >>> UInt64.ofNat n.toNat)) := by
  obtain ⟨n, rfl⟩ := Int.eq_ofNat_of_zero_le h0
  have hn : n < 64 := by omega
  simp only [v64, binOp_shr, Op.shift, if_neg (show ¬ (n : Int) < 0 by omega), Int.toNat_natCast]
  rw [show min n IntKind.u64.bits = n from Nat.min_eq_left (by simp [IntKind.bits]; omega)]
  refine congrArg (fun z => pure (Value.int .u64 z)) ?_
  rw [UInt64.toNat_shiftRight, UInt64.toNat_ofNat', Nat.shiftRight_eq_div_pow, Nat.mod_eq_of_lt (show n < 2 ^ 64 by omega), Nat.mod_eq_of_lt hn]
  rw [Int.fdiv_eq_ediv_of_nonneg _ (by exact_mod_cast Nat.zero_le (2 ^ n))]
  norm_cast
end
@[go_sem] theorem agg_v64 (x : UInt64) (cs : Array Value) : (v64 x = .agg cs) = False := by simp [v64]
@[go_sem] theorem tuple_v64 (x : UInt64) (cs : Array Value) : (v64 x = .tuple cs) = False := by simp [v64]
@[go_sem ↓] theorem cells_v64 (x : UInt64) : (v64 x).cells = #[v64 x] := rfl
@[go_sem high] theorem cells_v64' (x : UInt64) : (v64 x).cells = #[v64 x] := rfl
section
variable (P : Program) (w : World) (ad : Addr) (m : Mode)
@[go_sem] theorem run_store_v64 (x : UInt64) : (store ad (v64 x) m).run P w = stored P w ad (v64 x) m := run_store P w ad _ m rfl
@[go_sem high] theorem run_storeVar_v64 (t : TypeId) (x : UInt64) (h : (sizeOf t).run P w = .ok 1 w) : (storeVar t ad (v64 x)).run P w = stored P w ad (v64 x) .plain := by
  simp [storeVar, h, cells_v64, storeCells, run_store_v64, Addr.add]
@[go_sem high] theorem run_storeAt_v64 (t : TypeId) (x : UInt64) (h : (sizeOf t).run P w = .ok 1 w) : (Instr.storeAt t (.pointer (some ad)) (v64 x)).run P w = stored P w ad (v64 x) .plain := by
  simp [Instr.storeAt, Instr.sureAddr, run_storeVar_v64 P w ad t x h]
end

/-! ### shifts of u64 by a u64; of u8, u32 by whatever -/
section
variable (t : TypeId) (a b : UInt64)
@[go_sem] theorem v64_shl_v64 : binOp .shl t (v64 a) (v64 b) = pure (v64 (shl64 a b)) := by
  simp only [v64, binOp_shl, Op.shift, if_neg (show ¬ (b.toNat : Int) < 0 by omega), Int.toNat_natCast]
  refine congrArg pure (v64_of ?_)
  by_cases h : b < 64
  · have hn : b.toNat < 64 := by rw [UInt64.lt_iff_toNat_lt] at h; exact h
    rw [show min b.toNat IntKind.u64.bits = b.toNat from Nat.min_eq_left (by simp [IntKind.bits]; omega)]
    simp only [shl64, if_pos h]
    rw [UInt64.toNat_shiftLeft, Nat.shiftLeft_eq, Nat.mod_eq_of_lt hn]
    show (a.toNat : Int) * 2 ^ b.toNat % 18446744073709551616 = ((a.toNat * 2 ^ b.toNat % 18446744073709551616 : Nat) : Int)
    rw [Int.natCast_emod, Int.natCast_mul, Int.natCast_pow]; rfl
  · have hn : 64 ≤ b.toNat := by rw [UInt64.lt_iff_toNat_lt] at h; exact Nat.le_of_not_lt h
    rw [show min b.toNat IntKind.u64.bits = 64 from Nat.min_eq_right (by simp [IntKind.bits]; omega)]
    simp only [shl64, if_neg h]
    have : (a.toNat : Int) * 2 ^ 64 % 18446744073709551616 = 0 := Int.mul_emod_left _ _
    exact this
@[go_sem] theorem v64_shr_v64 : binOp .shr t (v64 a) (v64 b) = pure (v64 (shr64 a b)) := by
  simp only [v64, binOp_shr, Op.shift, if_neg (show ¬ (b.toNat : Int) < 0 by omega), Int.toNat_natCast]
  refine congrArg (fun z => pure (Value.int .u64 z)) ?_
  by_cases h : b < 64
  · have hn : b.toNat < 64 := by rw [UInt64.lt_iff_toNat_lt] at h; exact h
    rw [show min b.toNat IntKind.u64.bits = b.toNat from Nat.min_eq_left (by simp [IntKind.bits]; omega)]
    simp only [shr64, if_pos h]
    rw [UInt64.toNat_shiftRight, Nat.shiftRight_eq_div_pow, Nat.mod_eq_of_lt hn]
    rw [Int.fdiv_eq_ediv_of_nonneg _ (by exact_mod_cast Nat.zero_le (2 ^ _))]
    norm_cast
  · have hn : 64 ≤ b.toNat := by rw [UInt64.lt_iff_toNat_lt] at h; exact Nat.le_of_not_lt h
    rw [show min b.toNat IntKind.u64.bits = 64 from Nat.min_eq_right (by simp [IntKind.bits]; omega)]
    simp only [shr64, if_neg h]
    have h2 : (a.toNat : Int) < 2 ^ 64 := by have := lt64 a; omega
    rw [Int.fdiv_eq_ediv_of_nonneg _ (by decide)]
    exact Int.ediv_eq_zero_of_lt (by omega) h2
end

/-! ### an index that is unsigned -/
section
variable {P : Program} (w : World) (t : TypeId) (a : Addr) (ln : Nat)
@[go_sem] theorem indexAt_arr_v8 (x : UInt8) (h : P.underlying t = some (.array (P.arrayLen t) (P.elem t))) (hx : x.toNat < P.arrayLen t) :
    (Instr.indexAt t (.pointer (some a)) (v8 x)).run P w = ((sizeOf (P.elem t)).run P w).andThen fun s w => .ok (.pointer (some (a.add (x.toNat * s)))) w := by
  unfold v8
  rw [run_indexAt_array w t a _ _ h, if_pos ⟨by omega, by omega⟩]
  simp
@[go_sem] theorem indexAt_arr_v32 (x : UInt32) (h : P.underlying t = some (.array (P.arrayLen t) (P.elem t))) (hx : x.toNat < P.arrayLen t) :
    (Instr.indexAt t (.pointer (some a)) (v32 x)).run P w = ((sizeOf (P.elem t)).run P w).andThen fun s w => .ok (.pointer (some (a.add (x.toNat * s)))) w := by
  unfold v32
  rw [run_indexAt_array w t a _ _ h, if_pos ⟨by omega, by omega⟩]
  simp
@[go_sem] theorem indexAt_arr_v64 (x : UInt64) (h : P.underlying t = some (.array (P.arrayLen t) (P.elem t))) (hx : x.toNat < P.arrayLen t) :
    (Instr.indexAt t (.pointer (some a)) (v64 x)).run P w = ((sizeOf (P.elem t)).run P w).andThen fun s w => .ok (.pointer (some (a.add (x.toNat * s)))) w := by
  unfold v64
  rw [run_indexAt_array w t a _ _ h, if_pos ⟨by omega, by omega⟩]
  simp
end

/-! ### conversions -/
section
variable (P : Program) (w : World) (src dst : TypeId)
theorem run_conv (k k' : IntKind) (n : Int) (hs : (P.underlying src).isSome = true) (hd : P.underlying dst = some (.int k')) : (convert src dst (.int k n)).run P w = .ok (.int k' (k'.wrap n)) w := by
  have hk : P.intKind dst = k' := by simp [Program.intKind, hd]
  have := run_convert_int (P := P) w src dst k n hs (by rw [hk]; exact hd)
  rw [hk] at this
  exact this
@[go_sem] theorem conv_8_8 (x : UInt8) (hs : (P.underlying src).isSome = true) (hd : P.underlying dst = some (.int .u8)) : (convert src dst (v8 x)).run P w = .ok (v8 (x)) w := by
  rw [show v8 x = .int .u8 (x.toNat : Int) from rfl, run_conv P w src dst .u8 .u8 _ hs hd, v8_of (x := x) (by rw [Int.emod_eq_of_lt (by omega) (by have := lt8 x; omega)])]
  rfl
@[go_sem] theorem conv_8_16 (x : UInt8) (hs : (P.underlying src).isSome = true) (hd : P.underlying dst = some (.int .u16)) : (convert src dst (v8 x)).run P w = .ok (v16 (x.toUInt16)) w := by
  rw [show v8 x = .int .u8 (x.toNat : Int) from rfl, run_conv P w src dst .u8 .u16 _ hs hd, v16_of (x := x.toUInt16) (by rw [UInt8.toNat_toUInt16]; have := lt8 x; omega)]
@[go_sem] theorem conv_8_32 (x : UInt8) (hs : (P.underlying src).isSome = true) (hd : P.underlying dst = some (.int .u32)) : (convert src dst (v8 x)).run P w = .ok (v32 (x.toUInt32)) w := by
  rw [show v8 x = .int .u8 (x.toNat : Int) from rfl, run_conv P w src dst .u8 .u32 _ hs hd, v32_of (x := x.toUInt32) (by rw [UInt8.toNat_toUInt32]; have := lt8 x; omega)]
@[go_sem] theorem conv_8_64 (x : UInt8) (hs : (P.underlying src).isSome = true) (hd : P.underlying dst = some (.int .u64)) : (convert src dst (v8 x)).run P w = .ok (v64 (x.toUInt64)) w := by
  rw [show v8 x = .int .u8 (x.toNat : Int) from rfl, run_conv P w src dst .u8 .u64 _ hs hd, v64_of (x := x.toUInt64) (by rw [UInt8.toNat_toUInt64]; have := lt8 x; omega)]
@[go_sem] theorem conv_8_int (x : UInt8) (hs : (P.underlying src).isSome = true) (hd : P.underlying dst = some (.int .i64)) : (convert src dst (v8 x)).run P w = .ok (.int .i64 (x.toNat : Int)) w := by
  unfold v8
  rw [run_conv P w src dst .u8 .i64 _ hs hd, wrap_i64' _ (by omega) (by have := lt8 x; omega)]
theorem conv_int_8 (n : Nat) (hs : (P.underlying src).isSome = true) (hd : P.underlying dst = some (.int .u8)) : (convert src dst (.int .i64 (n : Int))).run P w = .ok (v8 (UInt8.ofNat n)) w := by
  rw [run_conv P w src dst .i64 .u8 _ hs hd, v8_of (x := UInt8.ofNat n) (by rw [UInt8.toNat_ofNat']; omega)]
@[go_sem] theorem conv_16_8 (x : UInt16) (hs : (P.underlying src).isSome = true) (hd : P.underlying dst = some (.int .u8)) : (convert src dst (v16 x)).run P w = .ok (v8 (x.toUInt8)) w := by
  rw [show v16 x = .int .u16 (x.toNat : Int) from rfl, run_conv P w src dst .u16 .u8 _ hs hd, v8_of (x := x.toUInt8) (by rw [UInt16.toNat_toUInt8]; omega)]
@[go_sem] theorem conv_16_16 (x : UInt16) (hs : (P.underlying src).isSome = true) (hd : P.underlying dst = some (.int .u16)) : (convert src dst (v16 x)).run P w = .ok (v16 (x)) w := by
  rw [show v16 x = .int .u16 (x.toNat : Int) from rfl, run_conv P w src dst .u16 .u16 _ hs hd, v16_of (x := x) (by rw [Int.emod_eq_of_lt (by omega) (by have := lt16 x; omega)])]
  rfl
@[go_sem] theorem conv_16_32 (x : UInt16) (hs : (P.underlying src).isSome = true) (hd : P.underlying dst = some (.int .u32)) : (convert src dst (v16 x)).run P w = .ok (v32 (x.toUInt32)) w := by
  rw [show v16 x = .int .u16 (x.toNat : Int) from rfl, run_conv P w src dst .u16 .u32 _ hs hd, v32_of (x := x.toUInt32) (by rw [UInt16.toNat_toUInt32]; have := lt16 x; omega)]
@[go_sem] theorem conv_16_64 (x : UInt16) (hs : (P.underlying src).isSome = true) (hd : P.underlying dst = some (.int .u64)) : (convert src dst (v16 x)).run P w = .ok (v64 (x.toUInt64)) w := by
  rw [show v16 x = .int .u16 (x.toNat : Int) from rfl, run_conv P w src dst .u16 .u64 _ hs hd, v64_of (x := x.toUInt64) (by rw [UInt16.toNat_toUInt64]; have := lt16 x; omega)]
@[go_sem] theorem conv_16_int (x : UInt16) (hs : (P.underlying src).isSome = true) (hd : P.underlying dst = some (.int .i64)) : (convert src dst (v16 x)).run P w = .ok (.int .i64 (x.toNat : Int)) w := by
  unfold v16
  rw [run_conv P w src dst .u16 .i64 _ hs hd, wrap_i64' _ (by omega) (by have := lt16 x; omega)]
theorem conv_int_16 (n : Nat) (hs : (P.underlying src).isSome = true) (hd : P.underlying dst = some (.int .u16)) : (convert src dst (.int .i64 (n : Int))).run P w = .ok (v16 (UInt16.ofNat n)) w := by
  rw [run_conv P w src dst .i64 .u16 _ hs hd, v16_of (x := UInt16.ofNat n) (by rw [UInt16.toNat_ofNat']; omega)]
@[go_sem] theorem conv_32_8 (x : UInt32) (hs : (P.underlying src).isSome = true) (hd : P.underlying dst = some (.int .u8)) : (convert src dst (v32 x)).run P w = .ok (v8 (x.toUInt8)) w := by
  rw [show v32 x = .int .u32 (x.toNat : Int) from rfl, run_conv P w src dst .u32 .u8 _ hs hd, v8_of (x := x.toUInt8) (by rw [UInt32.toNat_toUInt8]; omega)]
@[go_sem] theorem conv_32_16 (x : UInt32) (hs : (P.underlying src).isSome = true) (hd : P.underlying dst = some (.int .u16)) : (convert src dst (v32 x)).run P w = .ok (v16 (x.toUInt16)) w := by
  rw [show v32 x = .int .u32 (x.toNat : Int) from rfl, run_conv P w src dst .u32 .u16 _ hs hd, v16_of (x := x.toUInt16) (by rw [UInt32.toNat_toUInt16]; omega)]
@[go_sem] theorem conv_32_32 (x : UInt32) (hs : (P.underlying src).isSome = true) (hd : P.underlying dst = some (.int .u32)) : (convert src dst (v32 x)).run P w = .ok (v32 (x)) w := by
  rw [show v32 x = .int .u32 (x.toNat : Int) from rfl, run_conv P w src dst .u32 .u32 _ hs hd, v32_of (x := x) (by rw [Int.emod_eq_of_lt (by omega) (by have := lt32 x; omega)])]
  rfl
@[go_sem] theorem conv_32_64 (x : UInt32) (hs : (P.underlying src).isSome = true) (hd : P.underlying dst = some (.int .u64)) : (convert src dst (v32 x)).run P w = .ok (v64 (x.toUInt64)) w := by
  rw [show v32 x = .int .u32 (x.toNat : Int) from rfl, run_conv P w src dst .u32 .u64 _ hs hd, v64_of (x := x.toUInt64) (by rw [UInt32.toNat_toUInt64]; have := lt32 x; omega)]
@[go_sem] theorem conv_32_int (x : UInt32) (hs : (P.underlying src).isSome = true) (hd : P.underlying dst = some (.int .i64)) : (convert src dst (v32 x)).run P w = .ok (.int .i64 (x.toNat : Int)) w := by
  unfold v32
  rw [run_conv P w src dst .u32 .i64 _ hs hd, wrap_i64' _ (by omega) (by have := lt32 x; omega)]
theorem conv_int_32 (n : Nat) (hs : (P.underlying src).isSome = true) (hd : P.underlying dst = some (.int .u32)) : (convert src dst (.int .i64 (n : Int))).run P w = .ok (v32 (UInt32.ofNat n)) w := by
  rw [run_conv P w src dst .i64 .u32 _ hs hd, v32_of (x := UInt32.ofNat n) (by rw [UInt32.toNat_ofNat']; omega)]
@[go_sem] theorem conv_64_8 (x : UInt64) (hs : (P.underlying src).isSome = true) (hd : P.underlying dst = some (.int .u8)) : (convert src dst (v64 x)).run P w = .ok (v8 (x.toUInt8)) w := by
  rw [show v64 x = .int .u64 (x.toNat : Int) from rfl, run_conv P w src dst .u64 .u8 _ hs hd, v8_of (x := x.toUInt8) (by rw [UInt64.toNat_toUInt8]; omega)]
@[go_sem] theorem conv_64_16 (x : UInt64) (hs : (P.underlying src).isSome = true) (hd : P.underlying dst = some (.int .u16)) : (convert src dst (v64 x)).run P w = .ok (v16 (x.toUInt16)) w := by
  rw [show v64 x = .int .u64 (x.toNat : Int) from rfl, run_conv P w src dst .u64 .u16 _ hs hd, v16_of (x := x.toUInt16) (by rw [UInt64.toNat_toUInt16]; omega)]
@[go_sem] theorem conv_64_32 (x : UInt64) (hs : (P.underlying src).isSome = true) (hd : P.underlying dst = some (.int .u32)) : (convert src dst (v64 x)).run P w = .ok (v32 (x.toUInt32)) w := by
  rw [show v64 x = .int .u64 (x.toNat : Int) from rfl, run_conv P w src dst .u64 .u32 _ hs hd, v32_of (x := x.toUInt32) (by rw [UInt64.toNat_toUInt32]; omega)]
@[go_sem] theorem conv_64_64 (x : UInt64) (hs : (P.underlying src).isSome = true) (hd : P.underlying dst = some (.int .u64)) : (convert src dst (v64 x)).run P w = .ok (v64 (x)) w := by
  rw [show v64 x = .int .u64 (x.toNat : Int) from rfl, run_conv P w src dst .u64 .u64 _ hs hd, v64_of (x := x) (by rw [Int.emod_eq_of_lt (by omega) (by have := lt64 x; omega)])]
  rfl
theorem conv_int_64 (n : Nat) (hs : (P.underlying src).isSome = true) (hd : P.underlying dst = some (.int .u64)) : (convert src dst (.int .i64 (n : Int))).run P w = .ok (v64 (UInt64.ofNat n)) w := by
  rw [run_conv P w src dst .i64 .u64 _ hs hd, v64_of (x := UInt64.ofNat n) (by rw [UInt64.toNat_ofNat']; omega)]
end

/-- 'uint(k) & 31' on a count that is written out. -/
@[go_sem] theorem and31 (n : Int) (h0 : 0 ≤ n) (h1 : n < 18446744073709551616) : bits .and .u64 n 31 = n % 32 := by
  obtain ⟨n, rfl⟩ := Int.eq_ofNat_of_zero_le h0
  show IntKind.u64.wrap ((BitVec.ofInt 64 (n : Int) &&& BitVec.ofInt 64 31).toNat : Int) = _
  have h2 : (BitVec.ofInt 64 (n : Int)).toNat = n := by
    rw [BitVec.ofInt_natCast, BitVec.toNat_ofNat]; exact Nat.mod_eq_of_lt (by omega)
  rw [BitVec.toNat_and, h2, show (BitVec.ofInt 64 31).toNat = 2 ^ 5 - 1 by decide, Nat.and_two_pow_sub_one_eq_mod, wrap_u64']
  omega
end Go.Proofs.Ytbfgnlckmpnchaa

/-
  WORDS OF MY OWN FOR ALL WALKS OF THIS SEAT: unsigned integers as values of one cell behind plain definitions (v8, v32, v64), and what the operations do to them. Nothing of the program is named here.
-/
import Derived.WalkKit
namespace Go.Proofs.Ytghojlkogeoejaa
open Go.RowKit

/-- A fact kept from the walk's simp; '.out' gives it back. -/
theorem keep {p : Prop} (h : p) : Hid p := h

def v8 (x : UInt8) : Value := .int .u8 (x.toNat : Int)
def v32 (x : UInt32) : Value := .int .u32 (x.toNat : Int)
def v64 (x : UInt64) : Value := .int .u64 (x.toNat : Int)

theorem wrap_u8' (n : Int) : IntKind.u8.wrap n = n % 256 := by simp [IntKind.wrap, IntKind.bits, IntKind.signed]
theorem wrap_u32' (n : Int) : IntKind.u32.wrap n = n % 4294967296 := by simp [IntKind.wrap, IntKind.bits, IntKind.signed]
theorem wrap_u64' (n : Int) : IntKind.u64.wrap n = n % 18446744073709551616 := by simp [IntKind.wrap, IntKind.bits, IntKind.signed]
theorem wrap_i64' (n : Int) (h0 : -9223372036854775808 ≤ n) (h1 : n ≤ 9223372036854775807) : IntKind.i64.wrap n = n := by
  simp [IntKind.wrap, IntKind.bits, IntKind.signed]; omega
theorem lt8 (x : UInt8) : x.toNat < 256 := x.toNat_lt
theorem lt32 (x : UInt32) : x.toNat < 4294967296 := x.toNat_lt
theorem lt64 (x : UInt64) : x.toNat < 18446744073709551616 := x.toNat_lt
theorem ofInt8 (x : UInt8) : BitVec.ofInt 8 (x.toNat : Int) = x.toBitVec := by
  apply BitVec.eq_of_toNat_eq; rw [BitVec.ofInt_natCast, BitVec.toNat_ofNat]; exact Nat.mod_eq_of_lt (lt8 x)
theorem ofInt32 (x : UInt32) : BitVec.ofInt 32 (x.toNat : Int) = x.toBitVec := by
  apply BitVec.eq_of_toNat_eq; rw [BitVec.ofInt_natCast, BitVec.toNat_ofNat]; exact Nat.mod_eq_of_lt (lt32 x)
theorem ofInt64 (x : UInt64) : BitVec.ofInt 64 (x.toNat : Int) = x.toBitVec := by
  apply BitVec.eq_of_toNat_eq; rw [BitVec.ofInt_natCast, BitVec.toNat_ofNat]; exact Nat.mod_eq_of_lt (lt64 x)

section
variable (t : TypeId) (yk : IntKind) (op : BinOp) (X Y : Operand) (v : Value)
@[go_sem] theorem eqGuard_v8 (a : UInt8) : eqGuard op t X Y (v8 a) v = pure () := by cases op <;> rfl
@[go_sem] theorem eqGuard_v32 (a : UInt32) : eqGuard op t X Y (v32 a) v = pure () := by cases op <;> rfl
@[go_sem] theorem eqGuard_v64 (a : UInt64) : eqGuard op t X Y (v64 a) v = pure () := by cases op <;> rfl
end

/-! ### uint32 -/
section
variable (t : TypeId) (yk : IntKind) (a b : UInt32)
theorem v32_of {n : Int} {x : UInt32} (h : n % 4294967296 = (x.toNat : Int)) : Value.int .u32 (IntKind.u32.wrap n) = v32 x := by rw [wrap_u32', h]; rfl
@[go_sem] theorem v32_add : binOp .add t (v32 a) (v32 b) = pure (v32 (a + b)) := by
  simp only [v32, binOp_add, Op.intArith]; exact congrArg pure (v32_of (by rw [UInt32.toNat_add]; omega))
@[go_sem] theorem v32_sub : binOp .sub t (v32 a) (v32 b) = pure (v32 (a - b)) := by
  simp only [v32, binOp_sub, Op.intArith]
  refine congrArg pure (v32_of ?_)
  have h : (a - b).toNat = (4294967296 - b.toNat + a.toNat) % 4294967296 := UInt32.toNat_sub a b
  rw [h]; have := lt32 a; have := lt32 b; omega
@[go_sem] theorem v32_mul : binOp .mul t (v32 a) (v32 b) = pure (v32 (a * b)) := by
  simp only [v32, binOp_mul, Op.intArith]
  refine congrArg pure (v32_of ?_)
  have h : (a * b).toNat = (a.toNat * b.toNat) % 4294967296 := UInt32.toNat_mul a b
  rw [h, Int.natCast_emod, Int.natCast_mul]; rfl
@[go_sem] theorem v32_and : binOp .and t (v32 a) (v32 b) = pure (v32 (a &&& b)) := by
  simp only [v32, binOp_and, Op.intBits]
  refine congrArg pure (v32_of ?_)
  show ((BitVec.ofInt 32 _ &&& BitVec.ofInt 32 _).toNat : Int) % _ = _
  rw [ofInt32, ofInt32]; have := lt32 (a &&& b); show (((a &&& b).toNat : Nat) : Int) % _ = _; omega
@[go_sem] theorem v32_or : binOp .or t (v32 a) (v32 b) = pure (v32 (a ||| b)) := by
  simp only [v32, binOp_or, Op.intBits]
  refine congrArg pure (v32_of ?_)
  show ((BitVec.ofInt 32 _ ||| BitVec.ofInt 32 _).toNat : Int) % _ = _
  rw [ofInt32, ofInt32]; have := lt32 (a ||| b); show (((a ||| b).toNat : Nat) : Int) % _ = _; omega
@[go_sem] theorem v32_xor : binOp .xor t (v32 a) (v32 b) = pure (v32 (a ^^^ b)) := by
  simp only [v32, binOp_xor, Op.intBits]
  refine congrArg pure (v32_of ?_)
  show ((BitVec.ofInt 32 _ ^^^ BitVec.ofInt 32 _).toNat : Int) % _ = _
  rw [ofInt32, ofInt32]; have := lt32 (a ^^^ b); show (((a ^^^ b).toNat : Nat) : Int) % _ = _; omega
theorem v32_beq : ((a.toNat : Int) == (b.toNat : Int)) = (a == b) := by
  rw [Bool.eq_iff_iff, beq_iff_eq, beq_iff_eq, ← UInt32.toNat_inj]; omega
@[go_sem] theorem v32_eql : binOp .eql t (v32 a) (v32 b) = pure (.bool (a == b)) := by simp only [v32, binOp_eql, v32_beq]
@[go_sem] theorem v32_neq : binOp .neq t (v32 a) (v32 b) = pure (.bool (a != b)) := by
  simp only [v32, binOp_neq]; rw [show ((a.toNat : Int) != (b.toNat : Int)) = (a != b) from congrArg (! ·) (v32_beq a b)]
@[go_sem] theorem v32_shl (n : Int) (h0 : 0 ≤ n) (h1 : n < 32) : binOp .shl t (v32 a) (.int yk n) = pure (v32 (a <<< UInt32.ofNat n.toNat)) := by
  obtain ⟨n, rfl⟩ := Int.eq_ofNat_of_zero_le h0
  have hn : n < 32 := by omega
  simp only [v32, binOp_shl, Op.shift, if_neg (show ¬ (n : Int) < 0 by omega), Int.toNat_natCast]
  rw [show min n IntKind.u32.bits = n from Nat.min_eq_left (by simp [IntKind.bits]; omega)]
  refine congrArg pure (v32_of ?_)
  rw [UInt32.toNat_shiftLeft, UInt32.toNat_ofNat', Nat.shiftLeft_eq, Nat.mod_eq_of_lt (show n < 2 ^ 32 by omega), Nat.mod_eq_of_lt hn]
  show (a.toNat : Int) * 2 ^ n % 4294967296 = ((a.toNat * 2 ^ n % 4294967296 : Nat) : Int)
  rw [Int.natCast_emod, Int.natCast_mul, Int.natCast_pow]; rfl
@[go_sem] theorem v32_shr (n : Int) (h0 : 0 ≤ n) (h1 : n < 32) : binOp .shr t (v32 a) (.int yk n) = pure (v32 (a >>> UInt32.ofNat n.toNat)) := by
  obtain ⟨n, rfl⟩ := Int.eq_ofNat_of_zero_le h0
  have hn : n < 32 := by omega
  simp only [v32, binOp_shr, Op.shift, if_neg (show ¬ (n : Int) < 0 by omega), Int.toNat_natCast]
  rw [show min n IntKind.u32.bits = n from Nat.min_eq_left (by simp [IntKind.bits]; omega)]
  refine congrArg (fun z => pure (Value.int .u32 z)) ?_
  rw [UInt32.toNat_shiftRight, UInt32.toNat_ofNat', Nat.shiftRight_eq_div_pow, Nat.mod_eq_of_lt (show n < 2 ^ 32 by omega), Nat.mod_eq_of_lt hn]
  rw [Int.fdiv_eq_ediv_of_nonneg _ (by exact_mod_cast Nat.zero_le (2 ^ n))]
  norm_cast
end

theorem v32_lit (n : Int) (h0 : 0 ≤ n) (h1 : n < 4294967296) : Value.int .u32 n = v32 (UInt32.ofNat n.toNat) := by
  obtain ⟨n, rfl⟩ := Int.eq_ofNat_of_zero_le h0
  have hn : n < 4294967296 := by omega
  unfold v32
  rw [Int.toNat_natCast, UInt32.toNat_ofNat', Nat.mod_eq_of_lt hn]
@[go_sem] theorem v32_litR (op : BinOp) (t : TypeId) (a : UInt32) (n : Int) (h0 : 0 ≤ n) (h1 : n < 4294967296) : binOp op t (v32 a) (.int .u32 n) = binOp op t (v32 a) (v32 (UInt32.ofNat n.toNat)) := by rw [v32_lit n h0 h1]
@[go_sem] theorem v32_litL (op : BinOp) (t : TypeId) (a : UInt32) (n : Int) (h0 : 0 ≤ n) (h1 : n < 4294967296) : binOp op t (.int .u32 n) (v32 a) = binOp op t (v32 (UInt32.ofNat n.toNat)) (v32 a) := by rw [v32_lit n h0 h1]
theorem of_wf32 {n : Int} (h : (Lit.int .u32 n).wf = true) : ∃ x : UInt32, n = (x.toNat : Int) := by
  have hb : 0 ≤ n ∧ n ≤ 4294967295 := by simpa [Lit.wf, IntKind.min, IntKind.max, IntKind.signed, IntKind.bits] using h
  refine ⟨UInt32.ofNat n.toNat, ?_⟩
  rw [UInt32.toNat_ofNat', Nat.mod_eq_of_lt (by omega)]
  omega
/-- 'uint(k) & 31' on a count that is written out. -/
@[go_sem] theorem and31 (n : Int) (h0 : 0 ≤ n) (h1 : n < 18446744073709551616) : bits .and .u64 n 31 = n % 32 := by
  obtain ⟨n, rfl⟩ := Int.eq_ofNat_of_zero_le h0
  show IntKind.u64.wrap ((BitVec.ofInt 64 (n : Int) &&& BitVec.ofInt 64 31).toNat : Int) = _
  have h2 : (BitVec.ofInt 64 (n : Int)).toNat = n := by
    rw [BitVec.ofInt_natCast, BitVec.toNat_ofNat]; exact Nat.mod_eq_of_lt (by omega)
  rw [BitVec.toNat_and, h2, show (BitVec.ofInt 64 31).toNat = 2 ^ 5 - 1 by decide, Nat.and_two_pow_sub_one_eq_mod, wrap_u64']
  omega

section
variable (P : Program) (w : World) (a : Addr) (m : Mode)
@[go_sem] theorem run_store_v8 (x : UInt8) : (store a (v8 x) m).run P w = stored P w a (v8 x) m := run_store P w a _ m rfl
@[go_sem] theorem run_store_v32 (x : UInt32) : (store a (v32 x) m).run P w = stored P w a (v32 x) m := run_store P w a _ m rfl
@[go_sem] theorem run_store_v64 (x : UInt64) : (store a (v64 x) m).run P w = stored P w a (v64 x) m := run_store P w a _ m rfl
end
end Go.Proofs.Ytghojlkogeoejaa

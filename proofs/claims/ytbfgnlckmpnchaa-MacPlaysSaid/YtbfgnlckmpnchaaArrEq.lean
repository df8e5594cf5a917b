/-
  '==' OF TWO ARRAYS OF INTEGERS, told by functions. Nothing of the program is named here.
-/
import Derived.Test.YtbfgnlckmpnchaaText
import Derived.Laws.StructEq
namespace Go.Proofs.Ytbfgnlckmpnchaa
open Go.RowKit
section
variable {P : Program} {α : Type}
theorem run_part_int (w : World) (e : TypeId) (k : IntKind) (he : P.underlying e = some (.int k)) (cs : Array Value) (i : Nat) (v : Value) (h : cs[i]? = some v) : (part e cs i).run P w = .ok v w := by
  unfold part isAgg
  simp [run_underlying he, h]
theorem run_eqLoop (d : Nat) (e : TypeId) (k : IntKind) (he : P.underlying e = some (.int k)) (toI : α → Int) (xs ys : Array Value) (f g : Nat → α) : ∀ (l : List Nat) (w : World),
    (∀ i ∈ l, xs[i]? = some (.int k (toI (f i)))) → (∀ i ∈ l, ys[i]? = some (.int k (toI (g i)))) →
    Sem.run P (forIn l ((none, ()) : Option Bool × Unit) fun i __s => do
      let a ← part e xs i
      let b ← part e ys i
      let r ← Op.equalIn (d + 1) e a b
      if r = false then pure (ForInStep.done (some false, ())) else pure (ForInStep.yield (none, ()))) w = .ok (if (∀ i ∈ l, toI (f i) = toI (g i)) then (none, ()) else (some false, ())) w := by
  intro l
  induction l with
  | nil => intro w _ _; simp
  | cons i l ih =>
    intro w hx hy
    simp only [List.forIn_cons, Sem.run_bind, run_part_int w e k he xs i _ (hx i (by simp)), run_part_int w e k he ys i _ (hy i (by simp)), Result.andThen_ok, run_equalIn_int w d e k k (toI (f i)) (toI (g i)) he]
    by_cases h : toI (f i) = toI (g i)
    · simp only [h, beq_self_eq_true, Bool.true_eq_false, if_false, Sem.run_pure, Result.andThen_ok]
      rw [ih w (fun j hj => hx j (List.mem_cons_of_mem _ hj)) (fun j hj => hy j (List.mem_cons_of_mem _ hj))]
      simp [h]
    · simp [h]
theorem run_equalIn_ints (w : World) (d : Nat) (t e : TypeId) (n : Nat) (k : IntKind) (hu : P.underlying t = some (.array n e)) (he : P.underlying e = some (.int k)) (hs : (P.info? e).map (·.size) = some 1) (toI : α → Int) (hinj : ∀ a b, toI a = toI b → a = b)
    (xs ys : Array Value) (f g : Nat → α) (hx : ∀ i, i < n → xs[i]? = some (.int k (toI (f i)))) (hy : ∀ i, i < n → ys[i]? = some (.int k (toI (g i)))) (b : Bool) (hb : b = true ↔ ∀ i, i < n → f i = g i) :
    (Op.equalIn (d + 2) t (.agg xs) (.agg ys)).run P w = .ok b w := by
  cases hq : P.info? e with
  | none => rw [hq] at hs; cases hs
  | some i =>
    have hz : i.size = 1 := by simpa [hq] using hs
    have hloop := run_eqLoop (P := P) d e k he toI xs ys f g (List.range' 0 n) w (fun i hi => hx i (by simpa using hi)) (fun i hi => hy i (by simpa using hi))
    obtain ⟨D, hD⟩ : ∃ D, D = d + 1 := ⟨_, rfl⟩
    rw [← hD] at hloop
    rw [show d + 2 = D + 1 by omega]
    simp only [Op.equalIn, Sem.run_bind, run_underlying hu, Result.andThen_ok, sizeOf, typeInfo]
    simp [hq, hz, Std.Legacy.Range.forIn_eq_forIn_range']
    rw [hloop]
    have hiff : (∀ i ∈ List.range' 0 n, toI (f i) = toI (g i)) ↔ ∀ i, i < n → f i = g i := ⟨fun h i hi => hinj _ _ (h i (by simpa using hi)), fun h i hi => congrArg toI (h i (by simpa using hi))⟩
    by_cases h : ∀ i, i < n → f i = g i
    · have hb' : b = true := hb.2 h
      rw [if_pos (hiff.2 h), hb']
      simp
    · have hb' : b = false := by cases b with
        | false => rfl
        | true => exact absurd (hb.1 rfl) h
      rw [if_neg (fun h' => h (hiff.1 h')), hb']
      simp
/-- Arrays of bytes. -/
theorem eql_bytes (w : World) (t e : TypeId) (n : Nat) (hu : P.underlying t = some (.array n e)) (he : P.underlying e = some (.int .u8)) (hs : (P.info? e).map (·.size) = some 1) (f g : Nat → UInt8) (b : Bool) (hb : b = true ↔ ∀ i, i < n → f i = g i) :
    (Op.equalIn 10000 t (.agg (arr n fun i => v8 (f i))) (.agg (arr n fun i => v8 (g i)))).run P w = .ok b w :=
  run_equalIn_ints w 9998 t e n .u8 hu he hs (fun x : UInt8 => (x.toNat : Int)) (fun a b h => UInt8.toNat_inj.1 (by omega)) _ _ f g (fun i hi => arr_get _ hi) (fun i hi => arr_get _ hi) b hb
theorem eql_words (w : World) (t e : TypeId) (n : Nat) (hu : P.underlying t = some (.array n e)) (he : P.underlying e = some (.int .u64)) (hs : (P.info? e).map (·.size) = some 1) (f g : Nat → UInt64) (b : Bool) (hb : b = true ↔ ∀ i, i < n → f i = g i) :
    (Op.equalIn 10000 t (.agg (arr n fun i => v64 (f i))) (.agg (arr n fun i => v64 (g i)))).run P w = .ok b w :=
  run_equalIn_ints w 9998 t e n .u64 hu he hs (fun x : UInt64 => (x.toNat : Int)) (fun a b h => UInt64.toNat_inj.1 (by omega)) _ _ f g (fun i hi => arr_get _ hi) (fun i hi => arr_get _ hi) b hb
end
end Go.Proofs.Ytbfgnlckmpnchaa

/-
  mac: slices of keys: rows of 32 cells each; the keys of a root, told by a function.
-/
import Derived.Test.YtbfgnlckmpnchaaMacAwake
import Derived.Deep.MidRow
import Derived.Great.BuildSlice
namespace Go.Proofs.Ytbfgnlckmpnchaa
open Go.RowKit
set_option linter.unusedVariables false
set_option linter.unusedSimpArgs false
def kprev (root : Nat → UInt8) (info : List UInt8) : Nat → List UInt8
  | 0 => []
  | i + 1 => tl 32 (msum (tl 32 root) (kprev root info i ++ info ++ [UInt8.ofNat (i + 1)]))
/-- Key i of a root. -/
def kkey (root : Nat → UInt8) (info : List UInt8) (i : Nat) : Nat → UInt8 := msum (tl 32 root) (kprev root info i ++ info ++ [UInt8.ofNat (i + 1)])
theorem kprev_succ (root : Nat → UInt8) (info : List UInt8) (i : Nat) : kprev root info (i + 1) = tl 32 (kkey root info i) := rfl
theorem kprev_length (root : Nat → UInt8) (info : List UInt8) (i : Nat) : (kprev root info i).length ≤ 32 := by
  cases i with
  | zero => simp [kprev]
  | succ i => rw [kprev_succ, tl_length]; exact Nat.le_refl _
/-- The cells of n keys. -/
def krow (F : Nat → Nat → UInt8) : Nat → List Value
  | 0 => []
  | n + 1 => krow F n ++ (b8 32 (F n)).toList
theorem b8_list_length (f : Nat → UInt8) : (b8 32 f).toList.length = 32 := by simp [b8, arr]
theorem krow_length (F : Nat → Nat → UInt8) : ∀ n, (krow F n).length = n * 32
  | 0 => rfl
  | n + 1 => by rw [krow, List.length_append, krow_length F n, b8_list_length]; omega
theorem krow_at (F : Nat → Nat → UInt8) : ∀ (n i : Nat), i < n → ∀ j v, (b8 32 (F i)).toList[j]? = some v → (krow F n)[i * 32 + j]? = some v
  | n + 1, i, hi, j, v, hv => by
    have hj : j < 32 := by have := (List.getElem?_eq_some_iff.1 hv).1; rwa [b8_list_length] at this
    rw [krow]
    by_cases h : i < n
    · rw [List.getElem?_append_left (by rw [krow_length]; omega)]
      exact krow_at F n i h j v hv
    · obtain rfl : i = n := by omega
      rw [List.getElem?_append_right (by rw [krow_length]; omega), krow_length, Nat.add_sub_cancel_left]
      exact hv
/-- The slice v holds the keys F 0 .. F (n - 1). -/
def Keyed (e : TypeId) (w : World) (base : Nat) (v : Value) (F : Nat → Nat → UInt8) (n : Nat) : Prop := w.ownsRow base e 32 v n (krow F n)
section
variable {w w' : World} {base e n : Nat} {v : Value} {F : Nat → Nat → UInt8}
theorem Keyed.form (h : Keyed e w base v F n) : ∃ a c, v = .slice a n c ∧ n ≤ c ∧ c ≤ 9223372036854775807 := by
  obtain ⟨_, h2⟩ := h
  rcases h2 with ⟨rfl, rfl⟩ | ⟨g, cap, cur, rfl, hb, hg, hn, hm, hc, ht⟩
  · exact ⟨none, 0, rfl, Nat.le_refl _, by omega⟩
  · exact ⟨_, cap, rfl, hn, by simp only [maxLen] at hm; omega⟩
theorem Keyed.at_ {a : Option Addr} {m c i : Nat} (h : Keyed e w base (.slice a m c) F n) (hi : i < n) : ∃ g, a = some ⟨g, 0, none⟩ ∧ base ≤ g ∧ g < w.heap.size ∧ w.rangeAt g (i * 32) (b8 32 (F i)).toList := by
  have h2 := h.2
  rcases h2 with ⟨_, rfl⟩ | ⟨g, cap, cur, hv, hb, hg, hn, hm, hc, ht⟩
  · omega
  · injection hv with e1 e2 e3
    subst e1 e2 e3
    refine ⟨g, rfl, hb, (Array.getElem?_eq_some_iff.1 hg).1, fun j v hv => ?_⟩
    have := World.ownsRow.cells h (g := g) rfl (i * 32 + j) v (krow_at F m i hi j v hv)
    rwa [Addr.add_mid, Nat.zero_add] at this
theorem Keyed.below (h : Keyed e w base v F n) (hb : Below w.heap.size w w') : Keyed e w' base v F n := by
  refine ⟨h.1, ?_⟩
  rcases h.2 with hn | ⟨g, cap, cur, rfl, h1, hg, rest⟩
  · exact .inl hn
  · exact .inr ⟨g, cap, cur, rfl, h1, (hb.block g (Array.getElem?_eq_some_iff.1 hg).1).trans hg, rest⟩
theorem Keyed.keeps {rows : List Nat} (h : Keyed e w base v F n) (hk : Keeps rows w w') (hr : ∀ k ∈ rows, k < base) : Keyed e w' base v F n := by
  refine ⟨h.1, ?_⟩
  rcases h.2 with hn | ⟨g, cap, cur, rfl, h1, hg, rest⟩
  · exact .inl hn
  · exact .inr ⟨g, cap, cur, rfl, h1, (hk.block g (Array.getElem?_eq_some_iff.1 hg).1 (fun hm => by have := hr g hm; omega)).trans hg, rest⟩
theorem Keyed.many (h : Keyed e w base v F n) (m : Nat) : Keyed e (w.drewN m) base v F n := h
theorem Keyed.mono {B : Nat} (h : Keyed e w base v F n) (hB : B ≤ base) : Keyed e w B v F n := by
  refine ⟨h.1, ?_⟩
  rcases h.2 with hn | ⟨g, cap, cur, rfl, h1, rest⟩
  · exact .inl hn
  · exact .inr ⟨g, cap, cur, rfl, Nat.le_trans hB h1, rest⟩
theorem Keyed.alloc (h : Keyed e w base v F n) (o : Obj) : Keyed e (w.alloc o) base v F n := h.below (belowA w o)
end
theorem info34k : (Try.prog.info? 34).map (fun i => (i.zero, i.size, i.bytes)) = some (some (.agg (arr 32 fun _ => .int .u8 0)), 32, 32) := by kernel_rfl
theorem info33k : (Try.prog.info? 33).map (fun i => (i.zero, i.size, i.bytes)) = some (some (.agg (arr 32 fun _ => .int .u8 0)), 32, 32) := by kernel_rfl
theorem load34 {w : World} {g i : Nat} {f : Nat → UInt8} (h : w.rangeAt g (i * 32) (b8 32 f).toList) : (Instr.loadAt 34 (.pointer (some ⟨g, i * 32, none⟩))).run Try.prog w = .ok (.agg (b8 32 f)) w := by
  have := run_loadAt_mid (P := Try.prog) w g (i * 32) 34 (b8 32 f).toList _ h Try.underlying34 rfl (by rw [b8_list_length]; kernel_rfl)
  rwa [Array.toArray_toList] at this
theorem load33 {w : World} {g i : Nat} {f : Nat → UInt8} (h : w.rangeAt g (i * 32) (b8 32 f).toList) : (Instr.loadAt 33 (.pointer (some ⟨g, i * 32, none⟩))).run Try.prog w = .ok (.agg (b8 32 f)) w := by
  have := run_loadAt_mid (P := Try.prog) w g (i * 32) 33 (b8 32 f).toList _ h Try.underlying33 rfl (by rw [b8_list_length]; kernel_rfl)
  rwa [Array.toArray_toList] at this
/-- A slice of one array of 32 cells, laid in a block of its own. -/
theorem wpList_one_arr {P : Program} {ops : Array Oper} {rest : List Oper} {o : Oper} {a : Act} {w : World} {Q : Exit → Act → World → Prop} (hg : o.guard = none) (t e : TypeId) (x : Operand) (ho : o.op = .buildSlice t 1 #[(0, x)])
    (cs : Array Value) (hx : a.eval x = .agg cs) (hs : cs.size = 32) (ie : TypeInfo) (z : Value) (hu : P.underlying t = some (.slice e)) (hie : P.info? e = some ie) (hz : ie.zero = some z) (hsz : ie.size = 32)
    (h : wpList P ops Q rest (a.put o.dst (.slice (some ⟨w.heap.size, 0, none⟩) 1 1)) (w.alloc (.cells cs e))) : wpList P ops Q (o :: rest) a w := by
  refine wpList_buildSlice hg t e 1 _ ho cs ie z hu hie hz (by rw [hsz]; omega) (by rw [hsz]; omega) ?_ h
  have h1 := Great.fill_whole (s := 32) (by omega) [.agg cs] ((Array.range (1 * 32)).map (z.cells[· % z.cells.size]!)) (fun v hv => by simp at hv; subst hv; exact hs) (by simp)
  rw [hsz]
  have h2 : ((#[(0, x)] : Array (Nat × Operand)).map fun (i, x) => (i, a.eval x)).toList = ([Value.agg cs].zipIdx 0).map fun x => (x.2, x.1) := by simp [hx]
  rw [h2, h1]
  simp [Value.cells]
theorem one_cells (w : World) (t : TypeId) (cs : Array Value) : ∀ j u, cs.toList[j]? = some u → (w.alloc (.cells cs t)).cell? ((⟨w.heap.size, 0, none⟩ : Addr).add j) = some u := fun j u hu => by
  rw [Addr.add_mid, Nat.zero_add]
  exact (Blk.made w t cs).at_ (by simpa using hu)
theorem b8_one (f : Nat → UInt8) : ∀ u ∈ (b8 32 f).toList, u.oneCell' = true := fun u hu => by
  simp only [b8, arr, List.mem_map] at hu
  obtain ⟨i, -, rfl⟩ := hu
  rfl
theorem Keyed.ne {w : World} {base e n : Nat} {v : Value} {F : Nat → Nat → UInt8} (h : Keyed e w base v F n) {k : Nat} (hk : k < base) : some k ≠ v.ownBlock := fun q => by
  have := (World.ownsRow.lt h k q.symm).1
  omega
end Go.Proofs.Ytbfgnlckmpnchaa

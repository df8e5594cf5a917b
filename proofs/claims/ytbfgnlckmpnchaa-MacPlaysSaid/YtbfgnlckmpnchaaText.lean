/-
  TEXTS AS LISTS OF BYTES: 'tx l' is the text of the bytes l; what the operations on texts do to it; rows of bytes in memory told by a function. Nothing of the program is named here.
-/
import Derived.Test.YtbfgnlckmpnchaaVals
import Derived.Test.YtbfgnlckmpnchaaMem
import Derived.Laws.IdiomStrings
import Derived.Laws.Tables
import Derived.Laws.MakeOwn
namespace Go.Proofs.Ytbfgnlckmpnchaa
open Go.RowKit

def tx (l : List UInt8) : ByteArray := ⟨l.toArray⟩
theorem tx_of (s : ByteArray) : s = tx s.toList := by
  obtain ⟨⟨l⟩⟩ := s
  simp [tx]
@[go_sem] theorem tx_size (l : List UInt8) : (tx l).size = l.length := by simp [tx, ByteArray.size]
@[go_sem] theorem tx_toList (l : List UInt8) : (tx l).toList = l := by simp [tx]
@[go_sem] theorem tx_append (a b : List UInt8) : tx a ++ tx b = tx (a ++ b) := ByteArray.mk_append_mk a b
@[go_sem] theorem mk_tx (a : Array UInt8) (l : List UInt8) : (⟨a⟩ : ByteArray) ++ tx l = tx (a.toList ++ l) := by
  obtain ⟨a⟩ := a
  exact ByteArray.mk_append_mk a l
@[go_sem] theorem tx_mk (a : Array UInt8) (l : List UInt8) : tx l ++ (⟨a⟩ : ByteArray) = tx (l ++ a.toList) := by
  obtain ⟨a⟩ := a
  exact ByteArray.mk_append_mk l a
@[go_sem] theorem tx_from (l : List UInt8) (i : Nat) : (tx l).extract i l.length = tx (l.drop i) := by
  unfold tx
  rw [ByteArray.extract_mk]
  congr 2
  exact List.take_of_length_le (by simp)
@[go_sem] theorem tx_extract (l : List UInt8) (i j : Nat) : (tx l).extract i j = tx ((l.drop i).take (j - i)) := ByteArray.extract_mk l i j
theorem tx_inj {a b : List UInt8} (h : tx a = tx b) : a = b := by
  have := congrArg ByteArray.toList h
  rwa [tx_toList, tx_toList] at this
/-- A byte of a list. -/
def bt (l : List UInt8) (i : Nat) : UInt8 := l.getD i 0
theorem bt_eq {l : List UInt8} {i : Nat} (h : i < l.length) : l[i] = bt l i := by simp [bt, h]
theorem bt_app_left {a b : List UInt8} {i : Nat} (h : i < a.length) : bt (a ++ b) i = bt a i := by simp [bt, List.getElem?_append_left h]
theorem bt_app_right {a b : List UInt8} {i : Nat} (h : a.length ≤ i) : bt (a ++ b) i = bt b (i - a.length) := by simp [bt, List.getElem?_append_right h]
theorem bt_drop (l : List UInt8) (n i : Nat) : bt (l.drop n) i = bt l (n + i) := by simp [bt]
theorem ext_bt {a b : List UInt8} (hl : a.length = b.length) (h : ∀ i, i < a.length → bt a i = bt b i) : a = b := by
  apply List.ext_getElem hl
  intro i h1 h2
  rw [bt_eq h1, bt_eq h2, h i h1]
/-- The fact of an index, handed to the walk as it spells the index. -/
theorem idx_tx {P : Program} (t : TypeId) (ht : P.underlying t = some .string) (l : List UInt8) (k : IntKind) (z : Int) (i : Nat) (hz : z = (i : Int)) (hi : i < l.length) (w : World) :
    (Instr.index t (.string (tx l)) (.int k z)).run P w = .ok (v8 (bt l i)) w := by
  subst hz
  have hi' : i < (tx l).size := by rw [tx_size]; exact hi
  rw [run_index_string w t (tx l) k _ ht, dif_pos ⟨by omega, by omega⟩]
  have e : ((i : Int)).toNat = i := by omega
  have e2 : (tx l)[i]'hi' = bt l i := by rw [← bt_eq hi]; simp [tx, ByteArray.getElem_eq_getElem_data]
  simp only [e, e2]
  rfl

/-- The fact of a slice of a text, handed to the walk as it spells the bounds. -/
theorem slice_tx {P : Program} (t : TypeId) (ht : P.underlying t = some .string) (l : List UInt8) (k k' : IntKind) (zi zj : Int) (i j : Nat) (hzi : zi = (i : Int)) (hzj : zj = (j : Int)) (h1 : i ≤ j) (h2 : j ≤ l.length) (w : World) :
    (Instr.slice t (.string (tx l)) (some (.int k zi)) (some (.int k' zj)) none).run P w = .ok (.string (tx ((l.drop i).take (j - i)))) w := by
  subst hzi hzj
  rw [run_slice_string w t (tx l) k k' _ _ ht (by omega) (by omega) (by rw [tx_size]; omega)]
  rw [Int.toNat_natCast, Int.toNat_natCast, tx_extract]

/-- The list of a function's first n values. -/
def tl (n : Nat) (f : Nat → UInt8) : List UInt8 := (List.range n).map f
@[go_sem] theorem tl_length (n : Nat) (f : Nat → UInt8) : (tl n f).length = n := by simp [tl]
theorem bt_tl {n i : Nat} (f : Nat → UInt8) (h : i < n) : bt (tl n f) i = f i := by simp [bt, tl, h]
theorem tl_congr {n : Nat} {f g : Nat → UInt8} (h : ∀ i, i < n → f i = g i) : tl n f = tl n g := by
  unfold tl
  exact List.map_congr_left fun i hi => h i (List.mem_range.1 hi)
theorem tl_of (l : List UInt8) : tl l.length (bt l) = l := ext_bt (by simp [tl]) fun i hi => by rw [bt_tl _ (by simpa [tl] using hi)]
theorem tl_zero (f : Nat → UInt8) : tl 0 f = [] := rfl
theorem tl_succ (n : Nat) (f : Nat → UInt8) : tl (n + 1) f = tl n f ++ [f n] := by simp [tl, List.range_succ]
theorem tl_add (n m : Nat) (f : Nat → UInt8) : tl (n + m) f = tl n f ++ tl m (fun i => f (n + i)) := by
  refine ext_bt (by simp [tl]) fun i hi => ?_
  have hi' : i < n + m := by simpa [tl] using hi
  rw [bt_tl _ hi']
  by_cases h : i < n
  · rw [bt_app_left (by simpa [tl] using h), bt_tl _ h]
  · rw [bt_app_right (by simp [tl]; omega), tl_length, bt_tl _ (by omega)]
    congr 1; omega

/-- At block b, from off on, lie the bytes f 0 .. f (n - 1), and may be written. -/
structure Row8 (w : World) (b off n : Nat) (f : Nat → UInt8) : Prop where
  lt : b < w.heap.size
  at_ : ∀ j, j < n → w.cell? ⟨b, off + j, none⟩ = some (v8 (f j))
  free : ∀ j, j < n → w.frozen? ⟨b, off + j, none⟩ = false
section
variable {w w' : World} {b off n : Nat} {f : Nat → UInt8}
theorem Row8.keep (h : Row8 w b off n f) (hs : w.heap.size ≤ w'.heap.size) (hb : w'.heap[b]? = w.heap[b]?) : Row8 w' b off n f where
  lt := by have := h.lt; omega
  at_ := fun j hj => (World.cell?_of_block hb).trans (h.at_ j hj)
  free := fun j hj => (World.frozen?_of_block hb).trans (h.free j hj)
theorem Row8.kept (h : Row8 w b off n f) (hb : Below w.heap.size w w') : Row8 w' b off n f := h.keep hb.size (hb.block b h.lt)
theorem Row8.keeps {rows : List Nat} (h : Row8 w b off n f) (hk : Keeps rows w w') (hr : b ∉ rows) : Row8 w' b off n f := h.keep hk.size (hk.block b h.lt hr)
theorem Row8.drew (h : Row8 w b off n f) : Row8 w.drew b off n f := ⟨h.lt, h.at_, h.free⟩
theorem Row8.many (h : Row8 w b off n f) (m : Nat) : Row8 (w.drewN m) b off n f := ⟨h.lt, h.at_, h.free⟩
theorem Row8.alloc (h : Row8 w b off n f) (o : Obj) : Row8 (w.alloc o) b off n f := h.keep (by simp) (Below.heap_alloc w o b h.lt)
theorem Row8.other (h : Row8 w b off n f) {p : Addr} (hp : b ≠ p.block) (u : Value) : Row8 (w.setCell p u) b off n f := h.keep (by simp [World.setCell]) (Below.heap_setCell w p u b hp)
theorem Row8.set (h : Row8 w b off n f) (j : Nat) (x : UInt8) (o : Nat) (ho : o = off + j) : Row8 (w.setCell ⟨b, o, none⟩ (v8 x)) b off n (fun i => if i = j then x else f i) where
  lt := by simpa [World.setCell] using h.lt
  at_ := fun i hi => by
    subst ho
    by_cases e : i = j
    · subst e
      rw [World.cell?_setCell_same _ _ _ (h.at_ i hi)]
      simp
    · rw [World.cell?_setCell_other _ _ _ _ (fun e' => e (by injection e' with _ e'; omega)), h.at_ i hi]
      simp [e]
  free := fun i hi => by rw [World.frozen?_setCell]; exact h.free i hi
theorem Row8.congr (h : Row8 w b off n f) {g : Nat → UInt8} (hg : ∀ i, i < n → f i = g i) : Row8 w b off n g := ⟨h.lt, fun j hj => by rw [h.at_ j hj, hg j hj], h.free⟩
theorem Row8.ofBlk {t : TypeId} (h : Blk w b t (arr n fun i => v8 (f i))) : Row8 w b 0 n f :=
  ⟨h.lt, fun j hj => by rw [Nat.zero_add]; exact h.at_ (arr_get _ hj), fun j _ => by rw [Nat.zero_add]; exact h.free j⟩
/-- 'string(b)' of such a row. -/
theorem Row8.back {P : Program} (h : Row8 w b off n f) (src dst e : TypeId) (hs : P.underlying src = some (.slice e)) (he : P.underlying e = some (.int .u8)) (hd : P.underlying dst = some .string) (cap : Nat) :
    (convert src dst (.slice (some ⟨b, off, none⟩) n cap)).run P w = .ok (.string (tx (tl n f))) w := by
  have hc : ∀ (j : Nat) (hj : j < (tl n f).length), w.cell? (Addr.add ⟨b, off, none⟩ j) = some (.int .u8 ((tl n f)[j].toNat : Int)) := fun j hj => by
    have hj' : j < n := by simpa [tl] using hj
    rw [bt_eq hj, bt_tl _ hj', show Addr.add ⟨b, off, none⟩ j = ⟨b, off + j, none⟩ by simp [Addr.add]]
    exact h.at_ j hj'
  have := run_convert_bytes_back (P := P) w src dst e ⟨b, off, none⟩ cap (tl n f) hs he hd hc
  rw [tl_length] at this
  exact this
end
/-- 'string(b)' of a nil slice. -/
theorem back_nil {P : Program} (w : World) (src dst e : TypeId) (hs : P.underlying src = some (.slice e)) (he : P.underlying e = some (.int .u8)) (hd : P.underlying dst = some .string) (c : Nat) :
    (convert src dst (.slice none 0 c)).run P w = .ok (.string (tx [])) w := by
  rw [run_convert_bytes_string w src dst e none 0 c hs he hd]
  simp [Conv.bytesToString, tx]
  rfl
/-- '[]byte(s)'. -/
theorem bytes_tx {P : Program} (w : World) (l : List UInt8) (src dst e : TypeId) (hs : P.underlying src = some .string) (hd : P.underlying dst = some (.slice e)) (he : P.underlying e = some (.int .u8)) :
    ∃ cap w', (convert src dst (.string (tx l))).run P w = .ok (.slice (some ⟨w.heap.size, 0, none⟩) l.length cap) w' ∧ Row8 w' w.heap.size 0 l.length (bt l) ∧ Below w.heap.size w w' := by
  have h := run_bytes_of_string (P := P) w src dst e (tx l) hs hd he
  rw [tx_size] at h
  refine ⟨_, _, h, ⟨by simp, fun j hj => ?_, fun j hj => ?_⟩, (Below.refl _ _).drew.alloc (Nat.le_refl _) _⟩
  · rw [Nat.zero_add]
    have hh : w.heap.size = w.drew.heap.size := rfl
    rw [hh, World.cell?_alloc_mark, bytesRow_at _ _ _ (by simpa [tx] using hj)]
    have : (tx l).data[j]'(by simpa [tx] using hj) = bt l j := by rw [← bt_eq hj]; simp [tx]
    rw [this]
    rfl
  · rw [Nat.zero_add]
    have hh : w.heap.size = w.drew.heap.size := rfl
    rw [hh, World.frozen?_alloc_mark]
    have : l.length ≤ (bytesRow (tx l) (grownCap w l.length 0 e)).size := by simp [bytesRow, tx]
    have : ¬ (bytesRow (tx l) (grownCap w l.length 0 e)).size ≤ j := by omega
    simp [this]

/-! ### Whole arrays -/
section
variable {w w' : World} {b g : Nat} {t : TypeId} {cs ds : Array Value}
theorem Blk.setRow (h : Blk w g t cs) (ds : Array Value) : Blk (w.setRow g ds) g t ds := setRow_heap w g cs ds t (0, 0) h
theorem Blk.otherRow (h : Blk w b t cs) (hn : b ≠ g) (ds : Array Value) : Blk (w.setRow g ds) b t cs := (setRow_other w g b ds hn).trans h
theorem Keeps.setRow {rows : List Nat} (h : Keeps rows w w') (hg : g < w.heap.size → g ∈ rows) (ds : Array Value) : Keeps rows w (w'.setRow g ds) :=
  ⟨h.os, h.tape, h.output, by rw [size_setRow]; exact h.size, fun k hk hn => (setRow_other w' g k ds (fun e => hn (by subst e; exact hg hk))).trans (h.block k hk hn)⟩
theorem below_row {B : Nat} (h : Below B w w') (hg : B ≤ g) (ds : Array Value) : Below B w (w'.setRow g ds) :=
  ⟨h.os, h.tape, h.output, by rw [size_setRow]; exact h.size, fun k hk => (setRow_other w' g k ds (by omega)).trans (h.block k hk)⟩
theorem Row8.otherRow {off n : Nat} {f : Nat → UInt8} (h : Row8 w b off n f) (hn : b ≠ g) (ds : Array Value) : Row8 (w.setRow g ds) b off n f := h.keep (by rw [size_setRow]; exact Nat.le_refl _) (setRow_other w g b ds hn)
theorem arr_one (n : Nat) (f : Nat → Value) (h : ∀ i, (f i).oneCell' = true) : (arr n f).all (·.oneCell') = true := by
  rw [Array.all_eq_true_iff_forall_mem]
  intro x hx
  simp only [arr, List.mem_toArray, List.mem_map] at hx
  obtain ⟨i, _, rfl⟩ := hx
  exact h i
end

/-- 'make([]byte, n)': n zero bytes. -/
theorem make_bytes {P : Program} (w : World) (t e : TypeId) (n : Nat) (ht : P.underlying t = some (.slice e)) (hi : (P.info? e).map (fun i => (i.zero, i.size, i.bytes)) = some (some (.int .u8 0), 1, 1)) (hn : n ≤ 281474976710656) (z : Int) (hz : z = n) :
    ∃ w', (Instr.makeSlice t (.int .i64 z) (.int .i64 z)).run P w = .ok (.slice (some ⟨w.heap.size, 0, none⟩) n n) w' ∧ Row8 w' w.heap.size 0 n (fun _ => 0) ∧ Below w.heap.size w w' := by
  subst hz
  cases hq : P.info? e with
  | none => rw [hq] at hi; cases hi
  | some i =>
    rw [hq] at hi
    simp only [Option.map_some, Option.some.injEq, Prod.mk.injEq] at hi
    obtain ⟨h1, h2, h3⟩ := hi
    have h := run_make (P := P) w t e i (.int .u8 0) ht hq h1 .i64 .i64 (n : Int) (n : Int) (by omega) (Int.le_refl _) (by rw [h3]; omega) (by omega)
    rw [h2, Int.toNat_natCast, Nat.mul_one] at h
    have hs : (madeCells (Value.int .u8 0).cells n).size = n := size_madeCells _ _
    have hc : ∀ j, j < n → (madeCells (Value.int .u8 0).cells n)[j]? = some (v8 0) := fun j hj => by
      simp [madeCells, Value.cells, hj]
      rw [Nat.mod_one]
      rfl
    refine ⟨_, h, ⟨by simp, fun j hj => ?_, fun j _ => ?_⟩, (Below.refl _ _).alloc (Nat.le_refl _) _⟩
    · rw [Nat.zero_add]
      exact (Blk.made w e _).at_ (hc j hj)
    · exact (Blk.made w e _).free _

/-! ### Blocks made one after the other -/
theorem madeA (w : World) (o : Obj) (t : TypeId) (cs : Array Value) : Blk ((w.alloc o).alloc (.cells cs t)) (w.heap.size + 1) t cs := by
  have := Blk.made (w.alloc o) t cs
  rwa [show (w.alloc o).heap.size = w.heap.size + 1 by simp] at this
theorem madeB (w : World) (o o' : Obj) (t : TypeId) (cs : Array Value) : Blk (((w.alloc o).alloc o').alloc (.cells cs t)) (w.heap.size + 1 + 1) t cs := by
  have := Blk.made ((w.alloc o).alloc o') t cs
  rwa [show ((w.alloc o).alloc o').heap.size = w.heap.size + 1 + 1 by simp] at this
theorem belowA (w : World) (o : Obj) : Below w.heap.size w (w.alloc o) := (Below.refl _ _).alloc (Nat.le_refl _) _
theorem belowB (w : World) (o o' : Obj) : Below w.heap.size w ((w.alloc o).alloc o') := (belowA w o).alloc (by simp) _
theorem belowC (w : World) (o o' o'' : Obj) : Below w.heap.size w (((w.alloc o).alloc o').alloc o'') := (belowB w o o').alloc (by simp; omega) _
end Go.Proofs.Ytbfgnlckmpnchaa

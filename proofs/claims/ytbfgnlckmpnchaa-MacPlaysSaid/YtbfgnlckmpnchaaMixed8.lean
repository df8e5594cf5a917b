/-
  sha: eight words behind a block's words: the program's walk (written by wip/tools/sha_mixed.py).
-/
import Derived.Test.YtbfgnlckmpnchaaWords
import Derived.Laws.CopyOwn
namespace Go.Proofs.Ytbfgnlckmpnchaa
open Go.RowKit
set_option linter.unusedVariables false
set_option linter.unusedSimpArgs false
@[go_sem] theorem v32_not (x : UInt32) : Op.unary .xor (v32 x) = pure (v32 (~~~x)) := by
  have h : (4294967295 : UInt32) ^^^ x = ~~~x := by
    apply UInt32.toBitVec_inj.1
    rw [UInt32.toBitVec_xor, UInt32.toBitVec_not]
    exact BitVec.allOnes_xor
  rw [← h]
  exact v32_xor (t := 27) 4294967295 x
/-- One round. -/
def vn (p : List UInt32) (wk kk : UInt32) : List UInt32 :=
  let t := gw p 7 + three (gw p 4) 6 11 25 + ((gw p 4 &&& gw p 5) ^^^ (~~~(gw p 4) &&& gw p 6)) + kk + wk
  let u := three (gw p 0) 2 13 22 + ((gw p 0 &&& gw p 1) ^^^ (gw p 0 &&& gw p 2) ^^^ (gw p 1 &&& gw p 2))
  [t + u, gw p 0, gw p 1, gw p 2, gw p 3 + t, gw p 4, gw p 5, gw p 6]
def lst8 (h : Nat → UInt32) : List UInt32 := [h 0, h 1, h 2, h 3, h 4, h 5, h 6, h 7]
def vs (h w k : Nat → UInt32) : Nat → List UInt32
  | 0 => lst8 h
  | j + 1 => vn (vs h w k j) (w j) (k j)
def mixf (h w k : Nat → UInt32) (i : Nat) : UInt32 := gw (vs h w k 64) i + h i
def r8 (p : List UInt32) : Array Value := (p.map v32).toArray
theorem vs_form (h w k : Nat → UInt32) : ∀ j, ∃ a b c d e f g i, vs h w k j = [a, b, c, d, e, f, g, i]
  | 0 => ⟨_, _, _, _, _, _, _, _, rfl⟩
  | j + 1 => ⟨_, _, _, _, _, _, _, _, rfl⟩
theorem r8_w32 (p : List UInt32) (h : p.length = 8) : r8 p = w32 8 (gw p) := by
  match p, h with
  | [a, b, c, d, e, f, g, i], _ => rfl
theorem w32_lst8 (h : Nat → UInt32) : w32 8 h = r8 (lst8 h) := rfl
structure MX (N : Nat) (w wr : World) (h wv kv : Nat → UInt32) (p : List UInt32) : Prop where
  hh : Blk wr N 31 (w32 8 h)
  hw : Blk wr (N + 1) 39 (w32 64 wv)
  hk : Blk wr (N + 1 + 1) 39 (w32 64 kv)
  hr : ∃ cs, Blk wr (N + 1 + 1 + 1) 31 cs ∧ cs.size = 8
  hv : Blk wr (N + 1 + 1 + 1 + 1) 31 (r8 p)
  bel : Below N w wr
section
variable {N : Nat} {w wr w' : World} {h wv kv : Nat → UInt32} {p q : List UInt32}
theorem MX.drew (x : MX N w wr h wv kv p) : MX N w wr.drew h wv kv p := by
  obtain ⟨a, b, c, ⟨ds, d, e⟩, f, g⟩ := x
  exact ⟨a.drew, b.drew, c.drew, ⟨ds, d.drew, e⟩, f.drew, g.drew⟩
theorem MX.row (x : MX N w wr h wv kv p) (q : List UInt32) : MX N w (wr.setRow (N + 1 + 1 + 1 + 1) (r8 q)) h wv kv q := by
  obtain ⟨a, b, c, ⟨ds, d, e⟩, f, g⟩ := x
  exact ⟨a.otherRow (by omega) _, b.otherRow (by omega) _, c.otherRow (by omega) _, ⟨ds, d.otherRow (by omega) _, e⟩, f.setRow _, below_row g (by omega) _⟩
theorem r8_set (p : List UInt32) (i : Nat) (y : UInt32) : (r8 p).setIfInBounds i (v32 y) = r8 (p.set i y) := by
  unfold r8
  rw [List.setIfInBounds_toArray, List.map_set]
theorem MX.cell (x : MX N w wr h wv kv p) (i : Nat) (y : UInt32) : MX N w (wr.setCell ⟨N + 1 + 1 + 1 + 1, i, none⟩ (v32 y)) h wv kv (p.set i y) := by
  obtain ⟨a, b, c, ⟨ds, d, e⟩, f, g⟩ := x
  exact ⟨a.other (by simp; omega) _, b.other (by simp) _, c.other (by simp) _, ⟨ds, d.other (by simp) _, e⟩, by have := f.set i (v32 y); rwa [r8_set] at this, g.setCell (by simp; omega) _⟩
end
theorem r8_get (p : List UInt32) {i : Nat} (hi : i < p.length) : (r8 p)[i]? = some (v32 (gw p i)) := by
  unfold r8 gw
  simp [hi]
theorem r8_src {w : World} {g : Nat} {p : List UInt32} (h : Blk w g 31 (r8 p)) (n : Nat) : ∀ (j : Nat) (v : Value), ((p.take n).map v32)[j]? = some v → w.cell? (Addr.add ⟨g, 0, none⟩ j) = some v := by
  intro j v hv
  rw [Addr.add_lit, Nat.zero_add, h.cell]
  unfold r8
  rw [List.getElem?_toArray]
  by_cases hj : j < n
  · rw [List.map_take, List.getElem?_take_of_lt hj] at hv
    exact hv
  · rw [List.map_take, List.getElem?_take_eq_none (by omega)] at hv
    cases hv
def addup (p : List UInt32) (h : Nat → UInt32) (i : Nat) : List UInt32 := (List.range 8).map fun q => if q < i then gw p q + h q else gw p q
theorem addup_zero (p : List UInt32) (h : Nat → UInt32) (hl : p.length = 8) : addup p h 0 = p := by
  match p, hl with
  | [a, b, c, d, e, f, g, i], _ => rfl
theorem addup_set (p : List UInt32) (h : Nat → UInt32) (i : Nat) (hi : i < 8) : (addup p h i).set i (gw p i + h i) = addup p h (i + 1) := by
  unfold addup
  apply List.ext_getElem
  · simp
  · intro j h1 h2
    have hj : j < 8 := by simpa using h2
    by_cases e : i = j
    · subst e; simp
    · rw [List.getElem_set_ne e]
      simp only [List.getElem_map, List.getElem_range]
      by_cases hlt : j < i
      · rw [if_pos hlt, if_pos (by omega)]
      · rw [if_neg hlt, if_neg (by omega)]
theorem addup_gw (p : List UInt32) (h : Nat → UInt32) (i : Nat) (hi : i < 8) : gw (addup p h i) i = gw p i := by
  unfold addup
  show ((List.range 8).map fun q => if q < i then gw p q + h q else gw p q).getD i 0 = gw p i
  simp only [List.getD_eq_getElem?_getD, List.getElem?_map, List.getElem?_range hi, Option.map_some, Option.getD_some, if_neg (Nat.lt_irrefl i)]
theorem addup_done (p : List UInt32) (h : Nat → UInt32) : r8 (addup p h 8) = w32 8 fun i => gw p i + h i := rfl
set_option maxRecDepth 100000 in
set_option maxHeartbeats 8000000 in
theorem mixed_any (h wv kv : Nat → UInt32) (w : World) : Calls Try.prog 37 #[.agg (w32 8 h), .agg (w32 64 wv), .agg (w32 64 kv)] w fun e w' => e = .returned (.agg (w32 8 (mixf h wv kv))) ∧ Below w.heap.size w w' := by
  have g0 : Blk (w.alloc (.cells (w32 8 h) 31)) w.heap.size 31 (w32 8 h) := Blk.made w 31 _
  have g1 := madeA w (.cells (w32 8 h) 31) 39 (w32 64 wv)
  have g2 := madeB w (.cells (w32 8 h) 31) (.cells (w32 64 wv) 39) 39 (w32 64 kv)
  have gb := belowC w (.cells (w32 8 h) 31) (.cells (w32 64 wv) 39) (.cells (w32 64 kv) 39)
  have gs : (((w.alloc (.cells (w32 8 h) 31)).alloc (.cells (w32 64 wv) 39)).alloc (.cells (w32 64 kv) 39)).heap.size = w.heap.size + 1 + 1 + 1 := by simp
  have G0 := (g0.alloc (.cells (w32 64 wv) 39)).alloc (.cells (w32 64 kv) 39)
  have G1 := g1.alloc (.cells (w32 64 kv) 39)
  have q3 := (Blk.made (((w.alloc (.cells (w32 8 h) 31)).alloc (.cells (w32 64 wv) 39)).alloc (.cells (w32 64 kv) 39)) 31 #[.int .u32 0, .int .u32 0, .int .u32 0, .int .u32 0, .int .u32 0, .int .u32 0, .int .u32 0, .int .u32 0]).alloc (.cells #[.int .u32 0, .int .u32 0, .int .u32 0, .int .u32 0, .int .u32 0, .int .u32 0, .int .u32 0, .int .u32 0] 31)
  have q4 := madeA (((w.alloc (.cells (w32 8 h) 31)).alloc (.cells (w32 64 wv) 39)).alloc (.cells (w32 64 kv) 39)) (.cells #[.int .u32 0, .int .u32 0, .int .u32 0, .int .u32 0, .int .u32 0, .int .u32 0, .int .u32 0, .int .u32 0] 31) 31 #[.int .u32 0, .int .u32 0, .int .u32 0, .int .u32 0, .int .u32 0, .int .u32 0, .int .u32 0, .int .u32 0]
  rw [gs] at q3 q4
  have hM : MX w.heap.size w ((((((w.alloc (.cells (w32 8 h) 31)).alloc (.cells (w32 64 wv) 39)).alloc (.cells (w32 64 kv) 39)).alloc (.cells #[.int .u32 0, .int .u32 0, .int .u32 0, .int .u32 0, .int .u32 0, .int .u32 0, .int .u32 0, .int .u32 0] 31)).alloc (.cells #[.int .u32 0, .int .u32 0, .int .u32 0, .int .u32 0, .int .u32 0, .int .u32 0, .int .u32 0, .int .u32 0] 31)).setRow (w.heap.size + 1 + 1 + 1 + 1) (w32 8 h)) h wv kv (vs h wv kv 0) :=
    ⟨((G0.alloc _).alloc _).otherRow (by omega) _, ((G1.alloc _).alloc _).otherRow (by omega) _, ((g2.alloc _).alloc _).otherRow (by omega) _, ⟨_, q3.otherRow (by omega) _, rfl⟩, (show Blk _ _ 31 (w32 8 h) from q4.setRow _),
      below_row (gb.trans ((belowB _ (.cells #[.int .u32 0, .int .u32 0, .int .u32 0, .int .u32 0, .int .u32 0, .int .u32 0, .int .u32 0, .int .u32 0] 31) (.cells #[.int .u32 0, .int .u32 0, .int .u32 0, .int .u32 0, .int .u32 0, .int .u32 0, .int .u32 0, .int .u32 0] 31)).mono (by simp; omega))) (by omega) _⟩
  clear g0 g1 g2 gb gs G1 q3
  go_enter Try.func37, Try.ntmps37
  go_wp2_with (first
    | (refine wpList_load_row rfl 31 (.tmp 3) rfl w.heap.size rfl 31 (w32 8 h) (0, 0) _ ((G0.alloc _).alloc _) Try.underlying31 rfl (by kernel_rfl) ?_)
    | (refine wpList_load_row rfl 31 (.tmp 3) rfl w.heap.size rfl 31 (w32 8 h) (0, 0) _ (G0.alloc _) Try.underlying31 rfl (by kernel_rfl) ?_)
    | (refine wpList_store_row rfl 31 (.tmp 7) (.tmp 12) rfl (w.heap.size + 1 + 1 + 1 + 1) (w32 8 h) rfl rfl 31 _ q4 (by kernel_rfl) (by unfold w32; rw [arr_size]; rfl) (arr_one _ _ fun i => rfl) ?_))
  clear G0 q4
  generalize (((((w.alloc (.cells (w32 8 h) 31)).alloc (.cells (w32 64 wv) 39)).alloc (.cells (w32 64 kv) 39)).alloc (.cells #[.int .u32 0, .int .u32 0, .int .u32 0, .int .u32 0, .int .u32 0, .int .u32 0, .int .u32 0, .int .u32 0] 31)).alloc (.cells #[.int .u32 0, .int .u32 0, .int .u32 0, .int .u32 0, .int .u32 0, .int .u32 0, .int .u32 0, .int .u32 0] 31)).setRow (w.heap.size + 1 + 1 + 1 + 1) (w32 8 h) = wA at *
  generalize hN : w.heap.size = N at *
  have HN := keep hN
  clear hN
  go_loopw [13] (fun z wr => ∃ j : Nat, j ≤ 64 ∧ z = .int .i64 j ∧ MX N w wr h wv kv (vs h wv kv j)) (fun z _ => 64 - (intOf z).toNat)
  case atStart => exact ⟨0, Nat.zero_le _, rfl, hM⟩
  case round =>
    clear hM
    obtain ⟨j, hj, rfl, hM⟩ := hrel
    by_cases hlt : j < 64
    · have glt : (j : Int) < 64 := by omega
      have hstep : vs h wv kv (j + 1) = vn (vs h wv kv j) (wv j) (kv j) := rfl
      obtain ⟨a, b, c, d, e, f, g, i, hp⟩ := vs_form h wv kv j
      rw [hp] at hM hstep
      have HST := keep hstep
      clear hstep hp
      have cw := hM.hw.at_ (arr_get (fun q => v32 (wv q)) hlt)
      have ck := hM.hk.at_ (arr_get (fun q => v32 (kv q)) hlt)
      have c0 := hM.hv.at_ (i := 0) (v := v32 a) rfl
      have c1 := hM.hv.at_ (i := 1) (v := v32 b) rfl
      have c2 := hM.hv.at_ (i := 2) (v := v32 c) rfl
      have c3 := hM.hv.at_ (i := 3) (v := v32 d) rfl
      have c4 := hM.hv.at_ (i := 4) (v := v32 e) rfl
      have c5 := hM.hv.at_ (i := 5) (v := v32 f) rfl
      have c6 := hM.hv.at_ (i := 6) (v := v32 g) rfl
      have c7 := hM.hv.at_ (i := 7) (v := v32 i) rfl
      obtain ⟨x, hx⟩ : ∃ x, wv j = x := ⟨_, rfl⟩
      obtain ⟨y, hy⟩ : ∃ y, kv j = y := ⟨_, rfl⟩
      rw [hx] at cw HST
      rw [hy] at ck HST
      clear hx hy
      go_wp2_with fail
      refine MixedC.wp_region (fun _ => True) [(1, 0), (1, 1), (1, 2), (1, 3), (1, 4), (1, 5), (1, 6), (1, 7), (1, 8), (1, 9), (1, 10), (1, 11), (1, 12), (1, 13), (1, 14), (1, 15), (1, 16), (1, 17), (1, 18), (1, 19), (1, 20), (1, 21), (1, 22), (1, 23), (1, 24), (1, 25), (1, 26), (1, 27)] (by kernel_rfl) (by kernel_rfl) trivial ?_
      refine MixedC.reads (k := 1) (.inr ⟨rfl, rfl⟩) _ [0, 1, 2, 3] _ (by kernel_rfl) ?_
      simp only [List.filterMap_cons, List.filterMap_nil, List.getElem?_toArray, List.getElem?_cons_zero, List.getElem?_cons_succ]
      show wpQuiet _ _ _ _ [_, _, _, _] _
      iterate 4 go_big_quiet_step (fail)
      refine wpQuiet_nil ?_
      refine MixedC.read_call (.inr ⟨rfl, rfl⟩) (i := 4) rfl rfl 59 Try.func59 (by kernel_rfl) rfl #[.tmp 19, .const (.int .i64 6), .const (.int .i64 11), .const (.int .i64 25)] #[27, 3, 3, 3] rfl #[v32 e, .int .i64 6, .int .i64 11, .int .i64 25] (by simp [Act.eval]) (v32 (three e 6 11 25)) (fun w' _ => three_any 6 11 25 (by simp) e _) ?_
      simp only [List.getElem_toArray, List.getElem_cons_zero, List.getElem_cons_succ, Act.put, List.setIfInBounds_toArray, List.set_cons_succ, List.set_cons_zero]
      refine MixedC.reads (k := 1) (.inr ⟨rfl, rfl⟩) _ [5, 6, 7, 8, 9, 10, 11, 12, 13, 14, 15, 16, 17, 18, 19, 20, 21, 22, 23, 24, 25, 26, 27] _ (by kernel_rfl) ?_
      simp only [List.filterMap_cons, List.filterMap_nil, List.getElem?_toArray, List.getElem?_cons_zero, List.getElem?_cons_succ]
      show wpQuiet _ _ _ _ [_, _, _, _, _, _, _, _, _, _, _, _, _, _, _, _, _, _, _, _, _, _, _] _
      iterate 23 go_big_quiet_step (fail)
      refine wpQuiet_nil ?_
      unfold MixedC.HL
      go_wp2_with fail
      refine MixedC.wp_region (fun _ => True) [(1, 0), (1, 1), (1, 2), (1, 3), (1, 4), (1, 5), (1, 6), (1, 7), (1, 8), (1, 9), (1, 10), (1, 11), (1, 12), (1, 13), (1, 14), (1, 15), (1, 16), (1, 17), (1, 18), (1, 19), (1, 20), (1, 21)] (by kernel_rfl) (by kernel_rfl) trivial ?_
      refine MixedC.reads (k := 1) (.inr ⟨rfl, rfl⟩) _ [0, 1] _ (by kernel_rfl) ?_
      simp only [List.filterMap_cons, List.filterMap_nil, List.getElem?_toArray, List.getElem?_cons_zero, List.getElem?_cons_succ]
      show wpQuiet _ _ _ _ [_, _] _
      iterate 2 go_big_quiet_step (fail)
      refine wpQuiet_nil ?_
      refine MixedC.read_call (.inr ⟨rfl, rfl⟩) (i := 2) rfl rfl 59 Try.func59 (by kernel_rfl) rfl #[.tmp 44, .const (.int .i64 2), .const (.int .i64 13), .const (.int .i64 22)] #[27, 3, 3, 3] rfl #[v32 a, .int .i64 2, .int .i64 13, .int .i64 22] (by simp [Act.eval]) (v32 (three a 2 13 22)) (fun w' _ => three_any 2 13 22 (by simp) a _) ?_
      simp only [List.getElem_toArray, List.getElem_cons_zero, List.getElem_cons_succ, Act.put, List.setIfInBounds_toArray, List.set_cons_succ, List.set_cons_zero]
      refine MixedC.reads (k := 1) (.inr ⟨rfl, rfl⟩) _ [3, 4, 5, 6, 7, 8, 9, 10, 11, 12, 13, 14, 15, 16, 17, 18, 19, 20, 21] _ (by kernel_rfl) ?_
      simp only [List.filterMap_cons, List.filterMap_nil, List.getElem?_toArray, List.getElem?_cons_zero, List.getElem?_cons_succ]
      show wpQuiet _ _ _ _ [_, _, _, _, _, _, _, _, _, _, _, _, _, _, _, _, _, _, _] _
      iterate 19 go_big_quiet_step (fail)
      refine wpQuiet_nil ?_
      unfold MixedC.HL
      go_wp2_with fail
      have hT : ∃ T, i + three e 6 11 25 + (e &&& f ^^^ ~~~e &&& g) + y + x = T := ⟨_, rfl⟩
      obtain ⟨T, hT⟩ := hT
      obtain ⟨U, hU⟩ : ∃ U, three a 2 13 22 + (a &&& b ^^^ a &&& c ^^^ b &&& c) = U := ⟨_, rfl⟩
      rw [hT, hU]
      have hvn : vs h wv kv (j + 1) = [T + U, a, b, c, d + T, e, f, g] := by
        rw [HST.out, ← hT, ← hU]; rfl
      have HVN := keep hvn
      clear hvn hT hU HST cw ck c0 c1 c2 c3 c4 c5 c6 c7
      have hM2 := hM.drew.drew.drew
      have hM3 := hM2.row [a, a, b, c, d, e, f, g]
      have hsrc := r8_src hM2.hv 7
      refine MixedC.wp_region (fun _ => True) [(1, 0), (1, 1), (3, 2)] (by kernel_rfl) (by kernel_rfl) trivial ?_
      refine MixedC.reads (k := 1) (.inr ⟨rfl, rfl⟩) _ [0, 1] _ (by kernel_rfl) ?_
      simp only [List.filterMap_cons, List.filterMap_nil, List.getElem?_toArray, List.getElem?_cons_zero, List.getElem?_cons_succ]
      show wpQuiet _ _ _ _ [_, _] _
      iterate 2 go_big_quiet_step (fail)
      refine wpQuiet_nil ?_
      refine MixedC.effect_last (i := 2) rfl rfl ?_
      intro Q hQ
      have HQ := keep hQ
      clear hQ
      simp only [List.getElem_toArray, List.getElem_cons_zero, List.getElem_cons_succ]
      refine wpList_copy_own rfl (.tmp 64) (.tmp 65) 83 83 rfl 27 Try.underlying83 (by kernel_rfl) (N + 1 + 1 + 1 + 1) 1 7 7 ⟨N + 1 + 1 + 1 + 1, 0, none⟩ 7 8 rfl rfl (r8 [a, b, c, d, e, f, g, i]) 31 hM2.hv [v32 a, v32 b, v32 c, v32 d, v32 e, v32 f, v32 g] rfl hsrc (Nat.le_refl 8) (by intro v hv; simp only [List.mem_cons, List.not_mem_nil, or_false] at hv; rcases hv with rfl | rfl | rfl | rfl | rfl | rfl | rfl <;> rfl) ?_
      show wpList _ _ _ _ _ (World.setRow _ _ (r8 [a, a, b, c, d, e, f, g]))
      generalize wr.drew.drew.drew.setRow (N + 1 + 1 + 1 + 1) (r8 [a, a, b, c, d, e, f, g]) = w3 at *
      refine HQ.out _ _ ?_
      unfold MixedC.HL
      simp only [Act.put, List.setIfInBounds_toArray, List.set_cons_succ, List.set_cons_zero]
      clear HQ hM2 hM hsrc
      have e0 := hM3.hv.at_ (i := 0) (v := v32 a) rfl
      have e4 := hM3.hv.at_ (i := 4) (v := v32 d) rfl
      have f0 := hM3.hv.free 0
      have f4 := hM3.hv.free 4
      have hM5 : MX N w ((w3.setCell ⟨N + 1 + 1 + 1 + 1, 4, none⟩ (v32 (d + T))).setCell ⟨N + 1 + 1 + 1 + 1, 0, none⟩ (v32 (T + U))) h wv kv (vs h wv kv (j + 1)) := by
        rw [HVN.out]
        exact (hM3.cell 4 (d + T)).cell 0 (T + U)
      clear hM3
      go_wp2_with fail
      go_roundw
      case rel => exact ⟨j + 1, by omega, by go_num, hM5⟩
      case measure => simp [intOf]; omega
    · have glt : ¬ (j : Int) < 64 := by omega
      obtain rfl : j = 64 := by omega
      have hl8 : (vs h wv kv 64).length = 8 := by
        obtain ⟨a, b, c, d, e, f, g, i, hp⟩ := vs_form h wv kv 64
        rw [hp]; rfl
      have hmx : (fun q => gw (vs h wv kv 64) q + h q) = mixf h wv kv := rfl
      have HMX := keep hmx
      clear hmx
      obtain ⟨P, hP⟩ : ∃ P, vs h wv kv 64 = P := ⟨_, rfl⟩
      rw [hP] at hM hl8 HMX
      rw [← addup_zero P h hl8] at hM
      clear hP
      go_wp2_with fail
      go_loopw [77] (fun z wr => ∃ i : Nat, i ≤ 8 ∧ z = .int .i64 i ∧ MX N w wr h wv kv (addup P h i)) (fun z _ => 8 - (intOf z).toNat)
      case atStart => exact ⟨0, Nat.zero_le _, rfl, hM⟩
      case round =>
        clear hM
        obtain ⟨i, hi, rfl, hM⟩ := hrel
        by_cases h8 : i < 8
        · have g8 : (i : Int) < 8 := by omega
          have cv := hM.hv.at_ (r8_get (addup P h i) (i := i) (by simp [addup]; exact h8))
          rw [addup_gw P h i h8] at cv
          have ch := hM.hh.at_ (arr_get (fun q => v32 (h q)) h8)
          have fv := hM.hv.free i
          have hM2 := hM.drew.cell i (gw P i + h i)
          rw [addup_set P h i h8] at hM2
          clear hM
          go_wp2_with fail
          refine MixedC.wp_region (fun _ => True) [(1, 0), (1, 1), (1, 2), (1, 3), (1, 4), (1, 5), (1, 6), (1, 7), (3, 8)] (by kernel_rfl) (by kernel_rfl) trivial ?_
          refine MixedC.reads (k := 1) (.inr ⟨rfl, rfl⟩) _ [0, 1, 2, 3, 4, 5, 6, 7] _ (by kernel_rfl) ?_
          simp only [List.filterMap_cons, List.filterMap_nil, List.getElem?_toArray, List.getElem?_cons_zero, List.getElem?_cons_succ]
          show wpQuiet _ _ _ _ [_, _, _, _, _, _, _, _] _
          iterate 8 go_big_quiet_step (fail)
          refine wpQuiet_nil ?_
          refine MixedC.effect_last (i := 8) rfl rfl ?_
          intro Q hQ
          have HQ := keep hQ
          clear hQ
          go_wp2_with fail
          refine HQ.out _ _ ?_
          unfold MixedC.HL
          clear HQ cv ch fv
          go_wp2_with fail
          go_roundw
          case rel => exact ⟨i + 1, by omega, by go_num, hM2⟩
          case measure => simp [intOf]; omega
        · have g8 : ¬ (i : Int) < 8 := by omega
          obtain rfl : i = 8 := by omega
          obtain ⟨-, -, -, ⟨cs, hc1, hc2⟩, hv, hbel⟩ := hM
          rw [addup_done, HMX.out] at hv
          go_wp2_with (first
            | (refine wpList_load_row rfl 31 (.tmp 7) rfl (N + 1 + 1 + 1 + 1) rfl 31 (w32 8 (mixf h wv kv)) (0, 0) _ hv Try.underlying31 rfl (by kernel_rfl) ?_)
            | (refine wpList_store_row rfl 31 (.tmp 6) (.tmp 89) rfl (N + 1 + 1 + 1) (w32 8 (mixf h wv kv)) rfl rfl 31 cs hc1 (by kernel_rfl) (by rw [hc2]; exact (arr_size _ _).symm) (arr_one _ _ fun i => rfl) ?_))
          refine bodyPost_ret (results_c rfl _ _ (N + 1 + 1 + 1) 31 _ _ _ rfl (hc1.setRow (w32 8 (mixf h wv kv))) Try.underlying31 (by kernel_rfl)) rfl ?_
          exact ⟨rfl, by rw [HN.out]; exact below_row hbel (by omega) _⟩
end Go.Proofs.Ytbfgnlckmpnchaa

/-
  cha: the double round on a state of sixteen words in memory: its closure turn (four words behind a quarter), and double itself.
-/
import Derived.Test.YtghojlkogeoejaaQuarter
import Derived.Test.YtghojlkogeoejaaMem
import Derived.Test.YtghojlkogeoejaaMixed
import Derived.BigQuiet
namespace Go.Proofs.Ytghojlkogeoejaa
open Go.RowKit

/-- A state: a word at each place; one of them set. -/
def setw (s : Nat → UInt32) (j : Nat) (x : UInt32) : Nat → UInt32 := fun i => if i = j then x else s i
def warr (s : Nat → UInt32) : Array Value := arr 16 fun i => v32 (s i)
theorem warr_set (s : Nat → UInt32) (j : Nat) (x : UInt32) : (warr s).setIfInBounds j (v32 x) = warr (setw s j x) := by
  unfold warr
  rw [arr_set]
  refine arr_congr fun i _ => ?_
  unfold setw
  by_cases h : i = j <;> simp [h]
theorem warr_get (s : Nat → UInt32) {i : Nat} (h : i < 16) : (warr s)[i]? = some (v32 (s i)) := arr_get _ h
/-- Four words behind a quarter. -/
def qst (s : Nat → UInt32) (a b c d : Nat) : Nat → UInt32 :=
  let q := quarter (s a) (s b) (s c) (s d)
  setw (setw (setw (setw s a q.1) b q.2.1) c q.2.2.1) d q.2.2.2

theorem turn_cl (a b c d : Nat) (ha : a < 16) (hb : b < 16) (hc : c < 16) (hd : d < 16) (s : Nat → UInt32) (bx p : Nat) (w : World) (hx : Blk w bx 51 #[.pointer (some ⟨p, 0, none⟩)]) (hp : Blk w p 47 (warr s)) (hn : bx ≠ p) :
    Calls Try.prog 23 #[.int .i64 a, .int .i64 b, .int .i64 c, .int .i64 d, .pointer (some ⟨bx, 0, none⟩)] w fun e w' => e = .returned (.tuple #[]) ∧ Blk w' p 47 (warr (qst s a b c d)) ∧ Keeps [p] w w' := by
  have cx : ∀ u, (mix [p] w u).cell? ⟨bx, 0, none⟩ = some (.pointer (some ⟨p, 0, none⟩)) := fun u => (mix_cell _ w u (p := ⟨bx, 0, none⟩) hx.lt (by simp [hn])).trans (hx.at_ rfl)
  have ax := hx.at_ (i := 0) rfl
  have ca := hp.at_ (warr_get s ha)
  have cb := hp.at_ (warr_get s hb)
  have cc := hp.at_ (warr_get s hc)
  have cd := hp.at_ (warr_get s hd)
  have ia : (a : Int) < 16 := by omega
  have ib : (b : Int) < 16 := by omega
  have ic : (c : Int) < 16 := by omega
  have id : (d : Int) < 16 := by omega
  obtain ⟨⟨qa, qb, qc, qd⟩, hq⟩ : ∃ q, quarter (s a) (s b) (s c) (s d) = q := ⟨_, rfl⟩
  simp only [qst, hq]
  have HQ := keep hq
  clear hq
  go_enter Try.func23, Try.ntmps23
  go_wp2_with fail
  refine Mixed.wp_region (fun w' => ∃ u, w' = mix [p] w u) [(0, 0), (0, 1), (0, 2), (0, 3), (0, 4), (0, 5), (0, 6), (0, 7), (1, 8), (1, 9), (1, 10), (1, 11), (1, 12), (1, 13), (1, 14), (1, 15), (1, 16), (1, 17), (1, 18), (1, 19), (1, 20), (1, 21), (1, 22), (1, 23), (1, 24), (1, 25), (1, 26), (1, 27), (0, 34), (0, 37), (0, 40), (0, 43), (2, 28), (1, 29), (1, 30), (0, 31), (0, 32), (0, 33), (1, 35), (2, 36), (1, 38), (2, 39), (1, 41), (2, 42), (1, 44), (2, 45)] (by kernel_rfl) (by kernel_rfl) (Mx.drew0 _ _) ?_
  refine Mixed.reads (k := 0) (.inl ⟨rfl, rfl⟩) _ [0, 1, 2, 3, 4, 5, 6, 7] _ (by kernel_rfl) ?_
  simp only [List.filterMap_cons, List.filterMap_nil, List.getElem?_toArray, List.getElem?_cons_zero, List.getElem?_cons_succ]
  show wpQuiet _ _ _ _ [_, _, _, _, _, _, _, _] _
  iterate 8 go_big_quiet_step (fail)
  refine wpQuiet_nil ?_
  refine Mixed.reads (k := 1) (.inr ⟨rfl, rfl⟩) _ [8, 9, 10, 11, 12, 13, 14, 15, 16, 17, 18, 19, 20, 21, 22, 23, 24, 25, 26, 27] _ (by kernel_rfl) ?_
  simp only [List.filterMap_cons, List.filterMap_nil, List.getElem?_toArray, List.getElem?_cons_zero, List.getElem?_cons_succ]
  show wpQuiet _ _ _ _ [_, _, _, _, _, _, _, _, _, _, _, _, _, _, _, _, _, _, _, _] _
  iterate 20 go_big_quiet_step (fail)
  refine wpQuiet_nil ?_
  refine Mixed.reads (k := 0) (.inl ⟨rfl, rfl⟩) _ [34, 37, 40, 43] _ (by kernel_rfl) ?_
  simp only [List.filterMap_cons, List.filterMap_nil, List.getElem?_toArray, List.getElem?_cons_zero, List.getElem?_cons_succ]
  show wpQuiet _ _ _ _ [_, _, _, _] _
  iterate 4 go_big_quiet_step (fail)
  refine wpQuiet_nil ?_
  clear cx ax ca cb cc cd
  refine Mixed.effect (i := 28) rfl rfl ?_
  intro Q hQ
  go_wp2_with fail
  refine (quarter_any (s a) (s b) (s c) (s d) _).mono ?_
  rintro e w1 ⟨rfl, rfl⟩
  rw [HQ.out]
  unfold q4
  go_wp2_with fail
  have hK0 : Keeps [p] w w.drew := (Keeps.refl _ _).drew
  have hB0 := hp.drew
  refine hQ _ _ (Mx.of hK0) ?_
  clear hQ
  generalize w.drew = w1 at *
  refine Mixed.reads (k := 1) (.inr ⟨rfl, rfl⟩) _ [29, 30] _ (by kernel_rfl) ?_
  simp only [List.filterMap_cons, List.filterMap_nil, List.getElem?_toArray, List.getElem?_cons_zero, List.getElem?_cons_succ]
  show wpQuiet _ _ _ _ [_, _] _
  iterate 2 go_big_quiet_step (fail)
  refine wpQuiet_nil ?_
  refine Mixed.reads (k := 0) (.inl ⟨rfl, rfl⟩) _ [31, 32, 33] _ (by kernel_rfl) ?_
  simp only [List.filterMap_cons, List.filterMap_nil, List.getElem?_toArray, List.getElem?_cons_zero, List.getElem?_cons_succ]
  show wpQuiet _ _ _ _ [_, _, _] _
  iterate 3 go_big_quiet_step (fail)
  refine wpQuiet_nil ?_
  refine Mixed.reads (k := 1) (.inr ⟨rfl, rfl⟩) _ [35] _ (by kernel_rfl) ?_
  simp only [List.filterMap_cons, List.filterMap_nil, List.getElem?_toArray, List.getElem?_cons_zero, List.getElem?_cons_succ]
  show wpQuiet _ _ _ _ [_] _
  iterate 1 go_big_quiet_step (fail)
  refine wpQuiet_nil ?_
  have sa := hB0.at_ (warr_get _ ha)
  have fa := hB0.free a
  refine Mixed.effect (i := 36) rfl rfl ?_
  intro Q hQ
  go_wp2_with fail
  have hB1 := hB0.set a (v32 qa)
  rw [warr_set] at hB1
  have hK1 := hK0.setCell (p := ⟨p, a, none⟩) (by simp) (v32 qa)
  refine hQ _ _ (Mx.of hK1) ?_
  clear hQ hB0 hK0 sa fa
  generalize (w1.setCell ⟨p, a, none⟩ (v32 qa)) = w2 at *
  refine Mixed.reads (k := 1) (.inr ⟨rfl, rfl⟩) _ [38] _ (by kernel_rfl) ?_
  simp only [List.filterMap_cons, List.filterMap_nil, List.getElem?_toArray, List.getElem?_cons_zero, List.getElem?_cons_succ]
  show wpQuiet _ _ _ _ [_] _
  iterate 1 go_big_quiet_step (fail)
  refine wpQuiet_nil ?_
  have sb := hB1.at_ (warr_get _ hb)
  have fb := hB1.free b
  refine Mixed.effect (i := 39) rfl rfl ?_
  intro Q hQ
  go_wp2_with fail
  have hB2 := hB1.set b (v32 qb)
  rw [warr_set] at hB2
  have hK2 := hK1.setCell (p := ⟨p, b, none⟩) (by simp) (v32 qb)
  refine hQ _ _ (Mx.of hK2) ?_
  clear hQ hB1 hK1 sb fb
  generalize (w2.setCell ⟨p, b, none⟩ (v32 qb)) = w3 at *
  refine Mixed.reads (k := 1) (.inr ⟨rfl, rfl⟩) _ [41] _ (by kernel_rfl) ?_
  simp only [List.filterMap_cons, List.filterMap_nil, List.getElem?_toArray, List.getElem?_cons_zero, List.getElem?_cons_succ]
  show wpQuiet _ _ _ _ [_] _
  iterate 1 go_big_quiet_step (fail)
  refine wpQuiet_nil ?_
  have sc := hB2.at_ (warr_get _ hc)
  have fc := hB2.free c
  refine Mixed.effect (i := 42) rfl rfl ?_
  intro Q hQ
  go_wp2_with fail
  have hB3 := hB2.set c (v32 qc)
  rw [warr_set] at hB3
  have hK3 := hK2.setCell (p := ⟨p, c, none⟩) (by simp) (v32 qc)
  refine hQ _ _ (Mx.of hK3) ?_
  clear hQ hB2 hK2 sc fc
  generalize (w3.setCell ⟨p, c, none⟩ (v32 qc)) = w4 at *
  refine Mixed.reads (k := 1) (.inr ⟨rfl, rfl⟩) _ [44] _ (by kernel_rfl) ?_
  simp only [List.filterMap_cons, List.filterMap_nil, List.getElem?_toArray, List.getElem?_cons_zero, List.getElem?_cons_succ]
  show wpQuiet _ _ _ _ [_] _
  iterate 1 go_big_quiet_step (fail)
  refine wpQuiet_nil ?_
  have sd := hB3.at_ (warr_get _ hd)
  have fd := hB3.free d
  refine Mixed.effect (i := 45) rfl rfl ?_
  intro Q hQ
  go_wp2_with fail
  have hB4 := hB3.set d (v32 qd)
  rw [warr_set] at hB4
  have hK4 := hK3.setCell (p := ⟨p, d, none⟩) (by simp) (v32 qd)
  refine hQ _ _ (Mx.of hK4) ?_
  clear hQ hB3 hK3 sd fd
  generalize (w4.setCell ⟨p, d, none⟩ (v32 qd)) = w5 at *
  unfold Mixed.HL
  go_wp2_with fail
  go_end0
  exact ⟨rfl, hB4, hK4⟩
end Go.Proofs.Ytghojlkogeoejaa

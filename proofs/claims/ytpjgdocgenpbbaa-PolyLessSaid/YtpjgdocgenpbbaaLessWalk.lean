/-
  PolyLess: a rest is below 2^130 - 5; a number below 2^130 is its own rest, or that much less: the walk of the law.
-/
import Derived.Test.YtpjgdocgenpbbaaAwake
import Derived.Test.YtpjgdocgenpbbaaMixedRow
namespace Go.Proofs.Ytpjgdocgenpbbaa
open Go.RowKit
theorem less_all (x y z : UInt64) (h : V3 x y z < pr) : z < 4 ∧ ((¬ (18446744073709551611 : UInt64) ≤ x) ∨ (((18446744073709551611 : UInt64) ≤ x) ∧ y ≠ 18446744073709551615) ∨ (((18446744073709551611 : UInt64) ≤ x) ∧ y = 18446744073709551615 ∧ z ≠ 3)) := by
  have hx := x.toNat_lt; have hy := y.toNat_lt; have hz := z.toNat_lt
  have e1 : (18446744073709551611 : UInt64).toNat = 18446744073709551611 := rfl
  have e2 : (18446744073709551615 : UInt64).toNat = 18446744073709551615 := rfl
  have e3 : (3 : UInt64).toNat = 3 := rfl
  have e4 : (4 : UInt64).toNat = 4 := rfl
  unfold V3 pr at h
  refine ⟨UInt64.lt_iff_toNat_lt.2 (by omega), ?_⟩
  by_cases h0 : (18446744073709551611 : UInt64) ≤ x
  · by_cases h1 : y = 18446744073709551615
    · refine .inr (.inr ⟨h0, h1, fun h2 => ?_⟩)
      have h0' := UInt64.le_iff_toNat_le.1 h0
      subst h1 h2
      omega
    · exact .inr (.inl ⟨h0, h1⟩)
  · exact .inl h0
theorem less_same (a b c x y z : UInt64) (hc : c.toNat < 4) (h : V3 x y z = V3 a b c % pr) : (x = a ∧ y = b ∧ z = c) ∨ (¬ (x = a ∧ y = b ∧ z = c) ∧ x = a - 18446744073709551611 ∧ y = 0 ∧ z = 0) := by
  by_cases hs : x = a ∧ y = b ∧ z = c
  · exact .inl hs
  refine .inr ⟨hs, ?_⟩
  have ha := a.toNat_lt; have hb := b.toNat_lt
  have hx := x.toNat_lt; have hy := y.toNat_lt; have hz := z.toNat_lt
  have e1 : (18446744073709551611 : UInt64).toNat = 18446744073709551611 := rfl
  have e0 : (0 : UInt64).toNat = 0 := rfl
  have hge : pr ≤ V3 a b c := by
    apply Nat.le_of_not_lt
    intro hlt
    rw [Nat.mod_eq_of_lt hlt] at h
    exact hs (V3_inj h)
  have hm : V3 a b c % pr = V3 a b c - pr := by unfold pr at hge ⊢; unfold V3 at hge ⊢; omega
  have hsub : (a - 18446744073709551611).toNat = a.toNat - 18446744073709551611 := by
    rw [UInt64.toNat_sub, e1]; unfold V3 pr at hge; omega
  rw [hm] at h
  unfold V3 pr at h hge
  exact ⟨UInt64.toNat_inj.1 (by omega), UInt64.toNat_inj.1 (by omega), UInt64.toNat_inj.1 (by omega)⟩
set_option maxHeartbeats 4000000 in
theorem less_walk (a b c : UInt64) (w : World) : Calls Try.prog 8 #[.agg (n3 a b c)] w fun e w' => e = .returned (.bool true) ∧ Below w.heap.size w w' := by
  have hk0 : Blk (w.alloc (.cells (n3 a b c) 30)) w.heap.size 30 (n3 a b c) := Blk.made w 30 _
  have hb0 := belowA w (.cells (n3 a b c) 30)
  go_enter Try.func8, Try.ntmps8
  unfold n3
  go_wp2_with fail
  refine (awake_any _).mono ?_
  rintro e w1 ⟨rfl, hb1⟩
  have hk1 := hk0.kept hb1
  have hB1 := hb0.trans (hb1.mono (by simp))
  clear hk0 hb0 hb1
  have hs1 := hk1.lt
  go_wp2_with (refine wpList_load_row rfl 30 (.tmp 1) rfl w.heap.size rfl 30 (n3 a b c) (0, 0) _ hk1 Try.underlying30 rfl (by kernel_rfl) ?_)
  refine (rest_any a b c _).mono ?_
  rintro e w2 ⟨x, y, z, rfl, hv, hb2⟩
  have hk2 := hk1.kept hb2
  have hB2 := hB1.trans (hb2.mono hB1.size)
  have hlt : V3 x y z < pr := by rw [hv]; exact Nat.mod_lt _ (by unfold pr; omega)
  obtain ⟨hz4, hall⟩ := less_all x y z hlt
  have dz4 : decide (z < 4) = true := by simp [hz4]
  have hs2 := hk2.lt
  clear hk1 hB1 hb2 hv hlt hz4
  have hkA := hk2.alloc (.cells (n3 x y z) 30)
  have hBA := hB2.alloc hB2.size (.cells (n3 x y z) 30)
  have k0 : (w2.alloc (.cells (n3 x y z) 30)).cell? ⟨w.heap.size, 0, none⟩ = some (v64 a) := hkA.at_ (i := 0) rfl
  have k1 : (w2.alloc (.cells (n3 x y z) 30)).cell? ⟨w.heap.size, 1, none⟩ = some (v64 b) := hkA.at_ (i := 1) rfl
  have k2 : (w2.alloc (.cells (n3 x y z) 30)).cell? ⟨w.heap.size, 2, none⟩ = some (v64 c) := hkA.at_ (i := 2) rfl
  have f2 := hkA.free 2
  have hne : w.heap.size ≠ w2.heap.size := by omega
  unfold n3 at k0 k1 k2 f2
  unfold n3
  have hkS : Blk ((w2.setCell ⟨w.heap.size, 2, none⟩ (v64 (c &&& 3))).alloc (.cells (n3 x y z) 30)) w.heap.size 30 (n3 a b (c &&& 3)) := ((hk2.set 2 (v64 (c &&& 3))).alloc _)
  have hkT : Blk ((w2.setCell ⟨w.heap.size, 2, none⟩ (v64 (c &&& 3))).alloc (.cells (n3 x y z) 30)) w2.heap.size 30 (n3 x y z) := by have := Blk.made (w2.setCell ⟨w.heap.size, 2, none⟩ (v64 (c &&& 3))) 30 (n3 x y z); simpa [World.setCell] using this
  have hBS : Below w.heap.size w ((w2.setCell ⟨w.heap.size, 2, none⟩ (v64 (c &&& 3))).alloc (.cells (n3 x y z) 30)) := (hB2.setCell (Nat.le_refl _) _).alloc (by simpa [World.setCell] using hB2.size) _
  rcases hall with h0 | ⟨h0, h1⟩ | ⟨h0, h1, h2⟩
  · have d0 : decide ((18446744073709551611 : UInt64) ≤ x) = false := by simp [h0]
    go_wp2_with (refine wpList_load_row rfl 30 (.tmp 1) rfl w.heap.size rfl 30 (n3 a b (c &&& 3)) (0, 0) _ hkS Try.underlying30 rfl (by kernel_rfl) ?_)
    refine Calls.mono (show Calls Try.prog 12 #[.agg (n3 a b (c &&& 3))] _ _ from rest_any a b (c &&& 3) _) ?_
    rintro e w3 ⟨x', y', z', rfl, hv, hb3⟩
    have hc4 : (c &&& 3).toNat < 4 := by rw [and_nat c 3 2 rfl]; omega
    have hB3 := (hBS).trans (hb3.mono (by exact hBS.size))
    have hkB := hkS.kept hb3
    have hkX := hkT.kept hb3
    have j0 : w3.cell? ⟨w.heap.size, 0, none⟩ = some (v64 a) := hkB.at_ (i := 0) rfl
    have j1 : w3.cell? ⟨w.heap.size, 1, none⟩ = some (v64 b) := hkB.at_ (i := 1) rfl
    have j2 : w3.cell? ⟨w.heap.size, 2, none⟩ = some (v64 (c &&& 3)) := hkB.at_ (i := 2) rfl
    have x0 : w3.cell? ⟨w2.heap.size, 0, none⟩ = some (v64 x) := hkX.at_ (i := 0) rfl
    have x1 : w3.cell? ⟨w2.heap.size, 1, none⟩ = some (v64 y) := hkX.at_ (i := 1) rfl
    have x2 : w3.cell? ⟨w2.heap.size, 2, none⟩ = some (v64 z) := hkX.at_ (i := 2) rfl
    have hs3 := hkB.lt
    have hs4 := hkX.lt
    unfold n3
    rcases less_same a b (c &&& 3) x' y' z' hc4 hv with hsame | ⟨hsame, hxe, rfl, rfl⟩
    · have q : ∀ w', (Op.equalIn 10000 30 (.agg #[v64 x', v64 y', v64 z']) (.agg #[v64 a, v64 b, v64 (c &&& 3)])).run Try.prog w' = .ok true w' := fun w' => eql30 w' _ _ _ _ _ _ true ⟨fun _ => hsame, fun _ => rfl⟩
      clear hsame hv hkX hkS hkT hc4
      go_wp2_with (refine wpList_load_row rfl 30 (.tmp 1) rfl w.heap.size rfl 30 #[v64 a, v64 b, v64 (c &&& 3)] (0, 0) _ (hkB.alloc _) Try.underlying30 rfl (by kernel_rfl) ?_)
      go_ret
      exact ⟨rfl, hB3.alloc hB3.size _⟩
    · have q : ∀ w', (Op.equalIn 10000 30 (.agg #[v64 x', v64 0, v64 0]) (.agg #[v64 a, v64 b, v64 (c &&& 3)])).run Try.prog w' = .ok false w' := fun w' => eql30 w' _ _ _ _ _ _ false ⟨fun h => (by cases h), fun h => absurd h hsame⟩
      have hxe' := hxe.symm
      have q2 : ∀ w', (Op.equalIn 10000 30 (.agg #[v64 x', v64 0, v64 0]) (.agg #[v64 x', .int .u64 0, .int .u64 0])).run Try.prog w' = .ok true w' := fun w' => eql30 w' x' 0 0 x' 0 0 true ⟨fun _ => ⟨rfl, rfl, rfl⟩, fun _ => rfl⟩
      clear hsame hv hkX hkS hkT hc4 hxe
      go_wp2_with (refine wpList_load_row rfl 30 (.tmp 1) rfl w.heap.size rfl 30 #[v64 a, v64 b, v64 (c &&& 3)] (0, 0) _ (hkB.alloc _) Try.underlying30 rfl (by kernel_rfl) ?_)
      go_ret
      exact ⟨rfl, hB3.alloc hB3.size _⟩
  · have d0 : decide ((18446744073709551611 : UInt64) ≤ x) = true := by simp [h0]
    have d1 : (y == 18446744073709551615) = false := by simp [h1]
    go_wp2_with (refine wpList_load_row rfl 30 (.tmp 1) rfl w.heap.size rfl 30 (n3 a b (c &&& 3)) (0, 0) _ hkS Try.underlying30 rfl (by kernel_rfl) ?_)
    refine Calls.mono (show Calls Try.prog 12 #[.agg (n3 a b (c &&& 3))] _ _ from rest_any a b (c &&& 3) _) ?_
    rintro e w3 ⟨x', y', z', rfl, hv, hb3⟩
    have hc4 : (c &&& 3).toNat < 4 := by rw [and_nat c 3 2 rfl]; omega
    have hB3 := (hBS).trans (hb3.mono (by exact hBS.size))
    have hkB := hkS.kept hb3
    have hkX := hkT.kept hb3
    have j0 : w3.cell? ⟨w.heap.size, 0, none⟩ = some (v64 a) := hkB.at_ (i := 0) rfl
    have j1 : w3.cell? ⟨w.heap.size, 1, none⟩ = some (v64 b) := hkB.at_ (i := 1) rfl
    have j2 : w3.cell? ⟨w.heap.size, 2, none⟩ = some (v64 (c &&& 3)) := hkB.at_ (i := 2) rfl
    have x0 : w3.cell? ⟨w2.heap.size, 0, none⟩ = some (v64 x) := hkX.at_ (i := 0) rfl
    have x1 : w3.cell? ⟨w2.heap.size, 1, none⟩ = some (v64 y) := hkX.at_ (i := 1) rfl
    have x2 : w3.cell? ⟨w2.heap.size, 2, none⟩ = some (v64 z) := hkX.at_ (i := 2) rfl
    have hs3 := hkB.lt
    have hs4 := hkX.lt
    unfold n3
    rcases less_same a b (c &&& 3) x' y' z' hc4 hv with hsame | ⟨hsame, hxe, rfl, rfl⟩
    · have q : ∀ w', (Op.equalIn 10000 30 (.agg #[v64 x', v64 y', v64 z']) (.agg #[v64 a, v64 b, v64 (c &&& 3)])).run Try.prog w' = .ok true w' := fun w' => eql30 w' _ _ _ _ _ _ true ⟨fun _ => hsame, fun _ => rfl⟩
      clear hsame hv hkX hkS hkT hc4
      go_wp2_with (refine wpList_load_row rfl 30 (.tmp 1) rfl w.heap.size rfl 30 #[v64 a, v64 b, v64 (c &&& 3)] (0, 0) _ (hkB.alloc _) Try.underlying30 rfl (by kernel_rfl) ?_)
      go_ret
      exact ⟨rfl, hB3.alloc hB3.size _⟩
    · have q : ∀ w', (Op.equalIn 10000 30 (.agg #[v64 x', v64 0, v64 0]) (.agg #[v64 a, v64 b, v64 (c &&& 3)])).run Try.prog w' = .ok false w' := fun w' => eql30 w' _ _ _ _ _ _ false ⟨fun h => (by cases h), fun h => absurd h hsame⟩
      have hxe' := hxe.symm
      have q2 : ∀ w', (Op.equalIn 10000 30 (.agg #[v64 x', v64 0, v64 0]) (.agg #[v64 x', .int .u64 0, .int .u64 0])).run Try.prog w' = .ok true w' := fun w' => eql30 w' x' 0 0 x' 0 0 true ⟨fun _ => ⟨rfl, rfl, rfl⟩, fun _ => rfl⟩
      clear hsame hv hkX hkS hkT hc4 hxe
      go_wp2_with (refine wpList_load_row rfl 30 (.tmp 1) rfl w.heap.size rfl 30 #[v64 a, v64 b, v64 (c &&& 3)] (0, 0) _ (hkB.alloc _) Try.underlying30 rfl (by kernel_rfl) ?_)
      go_ret
      exact ⟨rfl, hB3.alloc hB3.size _⟩
  · have d0 : decide ((18446744073709551611 : UInt64) ≤ x) = true := by simp [h0]
    have d1 : (y == 18446744073709551615) = true := by simp [h1]
    have d2 : (z == 3) = false := by simp [h2]
    clear h1
    go_wp2_with (refine wpList_load_row rfl 30 (.tmp 1) rfl w.heap.size rfl 30 (n3 a b (c &&& 3)) (0, 0) _ hkS Try.underlying30 rfl (by kernel_rfl) ?_)
    refine Calls.mono (show Calls Try.prog 12 #[.agg (n3 a b (c &&& 3))] _ _ from rest_any a b (c &&& 3) _) ?_
    rintro e w3 ⟨x', y', z', rfl, hv, hb3⟩
    have hc4 : (c &&& 3).toNat < 4 := by rw [and_nat c 3 2 rfl]; omega
    have hB3 := (hBS).trans (hb3.mono (by exact hBS.size))
    have hkB := hkS.kept hb3
    have hkX := hkT.kept hb3
    have j0 : w3.cell? ⟨w.heap.size, 0, none⟩ = some (v64 a) := hkB.at_ (i := 0) rfl
    have j1 : w3.cell? ⟨w.heap.size, 1, none⟩ = some (v64 b) := hkB.at_ (i := 1) rfl
    have j2 : w3.cell? ⟨w.heap.size, 2, none⟩ = some (v64 (c &&& 3)) := hkB.at_ (i := 2) rfl
    have x0 : w3.cell? ⟨w2.heap.size, 0, none⟩ = some (v64 x) := hkX.at_ (i := 0) rfl
    have x1 : w3.cell? ⟨w2.heap.size, 1, none⟩ = some (v64 y) := hkX.at_ (i := 1) rfl
    have x2 : w3.cell? ⟨w2.heap.size, 2, none⟩ = some (v64 z) := hkX.at_ (i := 2) rfl
    have hs3 := hkB.lt
    have hs4 := hkX.lt
    unfold n3
    rcases less_same a b (c &&& 3) x' y' z' hc4 hv with hsame | ⟨hsame, hxe, rfl, rfl⟩
    · have q : ∀ w', (Op.equalIn 10000 30 (.agg #[v64 x', v64 y', v64 z']) (.agg #[v64 a, v64 b, v64 (c &&& 3)])).run Try.prog w' = .ok true w' := fun w' => eql30 w' _ _ _ _ _ _ true ⟨fun _ => hsame, fun _ => rfl⟩
      clear hsame hv hkX hkS hkT hc4
      go_wp2_with (refine wpList_load_row rfl 30 (.tmp 1) rfl w.heap.size rfl 30 #[v64 a, v64 b, v64 (c &&& 3)] (0, 0) _ (hkB.alloc _) Try.underlying30 rfl (by kernel_rfl) ?_)
      go_ret
      exact ⟨rfl, hB3.alloc hB3.size _⟩
    · have q : ∀ w', (Op.equalIn 10000 30 (.agg #[v64 x', v64 0, v64 0]) (.agg #[v64 a, v64 b, v64 (c &&& 3)])).run Try.prog w' = .ok false w' := fun w' => eql30 w' _ _ _ _ _ _ false ⟨fun h => (by cases h), fun h => absurd h hsame⟩
      have hxe' := hxe.symm
      have q2 : ∀ w', (Op.equalIn 10000 30 (.agg #[v64 x', v64 0, v64 0]) (.agg #[v64 x', .int .u64 0, .int .u64 0])).run Try.prog w' = .ok true w' := fun w' => eql30 w' x' 0 0 x' 0 0 true ⟨fun _ => ⟨rfl, rfl, rfl⟩, fun _ => rfl⟩
      clear hsame hv hkX hkS hkT hc4 hxe
      go_wp2_with (refine wpList_load_row rfl 30 (.tmp 1) rfl w.heap.size rfl 30 #[v64 a, v64 b, v64 (c &&& 3)] (0, 0) _ (hkB.alloc _) Try.underlying30 rfl (by kernel_rfl) ?_)
      go_ret
      exact ⟨rfl, hB3.alloc hB3.size _⟩
end Go.Proofs.Ytpjgdocgenpbbaa

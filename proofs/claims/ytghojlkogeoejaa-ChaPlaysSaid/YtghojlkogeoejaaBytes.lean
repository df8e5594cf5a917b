/-
  cha: a state's bytes, and its first state.
-/
import Derived.Test.YtghojlkogeoejaaTurn
import Derived.Test.YtghojlkogeoejaaWord
namespace Go.Proofs.Ytghojlkogeoejaa
open Go.RowKit
theorem results_c {fn : Func} {p : Tmp} {ty : TypeId} (h : fn.results = #[.cell p ty]) {P : Program} (tmps : Array Value) (w : World) (g : Nat) (ct : TypeId) (cs : Array Value) (e : TypeId) (n : Nat)
    (hp : tmps.getD p undef = .pointer (some ⟨g, 0, none⟩)) (hg : Blk w g ct cs) (hu : P.underlying ty = some (.array n e)) (hi : (P.info? ty).map (·.size) = some cs.size) :
    (results fn tmps).run P w = .ok (.agg cs) w := by
  have hp' : tmps[p]?.getD undef = .pointer (some ⟨g, 0, none⟩) := by simpa using hp
  simp [results, h, hp', asAddr, run_loadVar_row w g ct ty cs _ _ hg hu rfl hi]
/-- A byte of a state. -/
def sbyte (s : Nat → UInt32) (j : Nat) : UInt8 := (s (j / 4) >>> UInt32.ofNat (8 * (j % 4))).toUInt8
def barr (f : Nat → UInt8) : Array Value := arr 64 fun i => v8 (f i)

def upto (f : Nat → UInt8) (k : Nat) : Nat → UInt8 := fun j => if j < k then f j else 0
theorem upto_set (f : Nat → UInt8) (k : Nat) : (barr (upto f k)).setIfInBounds k (v8 (f k)) = barr (upto f (k + 1)) := by
  unfold barr
  rw [arr_set]
  refine arr_congr fun i _ => ?_
  unfold upto
  by_cases h : i = k
  · simp [h]
  · by_cases h1 : i < k
    · simp [h, h1, show i < k + 1 by omega]
    · simp [h, h1, show ¬ i < k + 1 by omega]
theorem upto_done (f : Nat → UInt8) : barr (upto f 64) = barr f := arr_congr fun i hi => by simp [upto, hi]
theorem zeros64 : (#[.int .u8 0, .int .u8 0, .int .u8 0, .int .u8 0, .int .u8 0, .int .u8 0, .int .u8 0, .int .u8 0, .int .u8 0, .int .u8 0, .int .u8 0, .int .u8 0, .int .u8 0, .int .u8 0, .int .u8 0, .int .u8 0,
    .int .u8 0, .int .u8 0, .int .u8 0, .int .u8 0, .int .u8 0, .int .u8 0, .int .u8 0, .int .u8 0, .int .u8 0, .int .u8 0, .int .u8 0, .int .u8 0, .int .u8 0, .int .u8 0, .int .u8 0, .int .u8 0,
    .int .u8 0, .int .u8 0, .int .u8 0, .int .u8 0, .int .u8 0, .int .u8 0, .int .u8 0, .int .u8 0, .int .u8 0, .int .u8 0, .int .u8 0, .int .u8 0, .int .u8 0, .int .u8 0, .int .u8 0, .int .u8 0,
    .int .u8 0, .int .u8 0, .int .u8 0, .int .u8 0, .int .u8 0, .int .u8 0, .int .u8 0, .int .u8 0, .int .u8 0, .int .u8 0, .int .u8 0, .int .u8 0, .int .u8 0, .int .u8 0, .int .u8 0, .int .u8 0] : Array Value) = barr (upto (fun _ => 0) 0) := by rfl
theorem upto_zero (f g : Nat → UInt8) : barr (upto f 0) = barr (upto g 0) := arr_congr fun i _ => by simp [upto]
structure BR (p N : Nat) (w wr : World) (s : Nat → UInt32) (k : Nat) : Prop where
  hp : Blk wr p 47 (warr s)
  h0 : ∃ cs, Blk wr N 42 cs ∧ cs.size = 64
  h1 : Blk wr (N + 1) 42 (barr (upto (sbyte s) k))
  bel : Below N w wr

theorem bytes_any (s : Nat → UInt32) (p : Nat) (w : World) (hp : Blk w p 47 (warr s)) :
    Calls Try.prog 20 #[.pointer (some ⟨p, 0, none⟩)] w fun e w' => e = .returned (.agg (barr (sbyte s))) ∧ Below w.heap.size w w' := by
  have hlt := hp.lt
  go_enter Try.func20, Try.ntmps20
  go_wp2_with fail
  rw [zeros64]
  have hA : BR p w.heap.size w ((w.alloc (.cells (barr (upto (fun _ => 0) 0)) 42)).alloc (.cells (barr (upto (fun _ => 0) 0)) 42)) s 0 :=
    ⟨(hp.alloc _).alloc _, ⟨_, (Blk.made w 42 _).alloc _, arr_size _ _⟩, by rw [upto_zero (sbyte s) (fun _ => 0)]; exact (by simpa using Blk.made (w.alloc (.cells (barr (upto (fun _ => 0) 0)) 42)) 42 (barr (upto (fun _ => 0) 0))), ((Below.refl _ _).alloc (Nat.le_refl _) _).alloc (by simp) _⟩
  generalize hN : w.heap.size = N at *
  go_loopw [5] (fun i wr => ∃ k : Nat, k ≤ 64 ∧ i = .int .i64 k ∧ BR p N w wr s k) (fun i _ => 64 - (intOf i).toNat)
  case atStart => exact ⟨0, Nat.zero_le _, rfl, hA⟩
  case round =>
    obtain ⟨k, hk, rfl, hR⟩ := hrel
    clear hA
    by_cases h4 : k < 64
    · have g4 : (k : Int) < 64 := by omega
      have cs := hR.hp.at_ (warr_get s (i := k / 4) (by omega))
      have i4 : (k : Int) / 4 < 16 := by omega
      have hsh : ∀ t, binOp .shr t (v32 (s (k / 4))) (.int .i64 (8 * ((k : Int) % 4))) = pure (v32 (s (k / 4) >>> UInt32.ofNat (8 * (k % 4)))) := fun t => by
        have := v32_shr t .i64 (s (k / 4)) (8 * ((k : Int) % 4)) (by omega) (by omega)
        rw [this, show (8 * ((k : Int) % 4)).toNat = 8 * (k % 4) by omega]
      obtain ⟨c1, hc1⟩ : ∃ v, wr.cell? ⟨N + 1, k, none⟩ = some v := ⟨_, hR.h1.at_ (arr_get _ h4)⟩
      have f1 := hR.h1.free k
      go_wp2_with fail
      have hB := hR.h1.set k (v8 (sbyte s k))
      rw [upto_set] at hB
      obtain ⟨cs0, h0, h00⟩ := hR.h0
      have hsb : (s (k / 4) >>> (8 * UInt32.ofNat (k % 4))).toUInt8 = sbyte s k := by unfold sbyte; rw [UInt32.ofNat_mul]; rfl
      have hf : BR p N w (wr.setCell ⟨N + 1, k, none⟩ (v8 (s (k / 4) >>> (8 * UInt32.ofNat (k % 4))).toUInt8)) s (k + 1) := by
        rw [hsb]
        exact
        ⟨hR.hp.other (by simp; omega) _, ⟨cs0, h0.other (by simp) _, h00⟩, hB, hR.bel.setCell (by simp) _⟩
      clear hB hR hsh cs f1 hc1 h0 hsb
      go_roundw
      case rel => exact ⟨k + 1, by omega, by go_num, hf⟩
      case measure => simp [intOf]; omega
    · obtain rfl : k = 64 := by omega
      obtain ⟨cs0, h0, h00⟩ := hR.h0
      have hB := hR.h1
      rw [upto_done] at hB
      have hbel := hR.bel
      clear hR
      go_wp2_with (first
        | (refine wpList_load_row rfl 42 (.tmp 3) rfl (N + 1) rfl 42 (barr (sbyte s)) (0, 0) _ hB Try.underlying42 rfl (by kernel_rfl) ?_)
        | (refine wpList_store_row rfl 42 (.tmp 2) (.tmp 22) rfl N (barr (sbyte s)) rfl rfl 42 cs0 h0 (by kernel_rfl) (by rw [h00]; rfl) (arr_one _ _ fun i => rfl) ?_))
      refine bodyPost_ret (results_c rfl _ _ N 42 _ _ _ rfl (h0.setRow (barr (sbyte s))) Try.underlying42 (by kernel_rfl)) rfl ?_
      exact ⟨rfl, by rw [hN]; exact below_row hbel (Nat.le_refl _) _⟩
end Go.Proofs.Ytghojlkogeoejaa

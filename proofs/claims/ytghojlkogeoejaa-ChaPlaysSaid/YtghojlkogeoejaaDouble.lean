/-
  cha: the double round on a state of sixteen words in memory.
-/
import Derived.Test.YtghojlkogeoejaaTurn
namespace Go.Proofs.Ytghojlkogeoejaa
open Go.RowKit
def it1 (s : Nat → UInt32) : Nat → Nat → UInt32
  | 0 => s
  | k + 1 => qst (it1 s k) k (4 + k) (8 + k) (12 + k)
def it2 (s : Nat → UInt32) : Nat → Nat → UInt32
  | 0 => s
  | k + 1 => qst (it2 s k) k (4 + (k + 1) % 4) (8 + (k + 2) % 4) (12 + (k + 3) % 4)
/-- A double round. -/
def dbl (s : Nat → UInt32) : Nat → UInt32 := it2 (it1 s 4) 4
structure DR (bx p : Nat) (w wr : World) (s : Nat → UInt32) : Prop where
  hx : Blk wr bx 51 #[.pointer (some ⟨p, 0, none⟩)]
  hp : Blk wr p 47 (warr s)
  hk : Keeps [p] w wr

set_option maxHeartbeats 1000000 in
theorem double_any (s : Nat → UInt32) (p : Nat) (w : World) (hp : Blk w p 47 (warr s)) :
    Calls Try.prog 19 #[.pointer (some ⟨p, 0, none⟩)] w fun e w' => e = .returned (.tuple #[]) ∧ Blk w' p 47 (warr (dbl s)) ∧ Keeps [p] w w' := by
  have hmf : ∀ (fn : Fn) (first cap : Array Value) (w : World), (Instr.makeFunc fn first cap).run Try.prog w = .ok (.func fn first cap) w := fun _ _ _ _ => rfl
  have hA : DR w.heap.size p w (w.alloc (.cells #[.pointer (some ⟨p, 0, none⟩)] 51)) s := ⟨Blk.made _ _ _, hp.alloc _, (Keeps.refl _ _).alloc _⟩
  have hlt := hp.lt
  have hne : w.heap.size ≠ p := by omega
  unfold dbl
  go_enter Try.func19, Try.ntmps19
  go_wp2_with fail
  generalize w.heap.size = bx at *
  go_loopw [6] (fun i wr => ∃ k : Nat, k ≤ 4 ∧ i = .int .i64 k ∧ DR bx p w wr (it1 s k)) (fun i _ => 4 - (intOf i).toNat)
  case atStart => exact ⟨0, Nat.zero_le _, rfl, hA⟩
  case round =>
    obtain ⟨k, hk, rfl, hR⟩ := hrel
    by_cases h4 : k < 4
    · have g4 : (k : Int) < 4 := by omega
      go_wp2_with fail
      have e1 : (4 : Int) + k = ((4 + k : Nat) : Int) := by omega
      have e2 : (8 : Int) + k = ((8 + k : Nat) : Int) := by omega
      have e3 : (12 : Int) + k = ((12 + k : Nat) : Int) := by omega
      rw [e1, e2, e3]
      clear e1 e2 e3
      refine (turn_cl k (4 + k) (8 + k) (12 + k) (by omega) (by omega) (by omega) (by omega) _ bx p wr hR.hx hR.hp hne).mono ?_
      rintro e w2 ⟨rfl, hB2, hK2⟩
      have hf : DR bx p w w2 (it1 s (k + 1)) := ⟨hK2.blk hR.hx (by simp [hne]), hB2, hR.hk.trans hK2⟩
      clear hR hB2 hK2
      go_wp2_with fail
      go_roundw
      case rel => exact ⟨k + 1, by omega, by go_num, hf⟩
      case measure => simp [intOf]; omega
    · have g4 : ¬ (k : Int) < 4 := by omega
      have e4 : k = 4 := by omega
      rw [e4] at hR
      clear e4 hk
      go_wp2_with fail
      clear hA
      obtain ⟨s1, hs1⟩ : ∃ s1, s1 = it1 s 4 := ⟨_, rfl⟩
      rw [← hs1] at hR
      have HS := keep hs1
      clear hs1
      go_loopw [19] (fun i wr => ∃ k : Nat, k ≤ 4 ∧ i = .int .i64 k ∧ DR bx p w wr (it2 s1 k)) (fun i _ => 4 - (intOf i).toNat)
      case atStart => exact ⟨0, Nat.zero_le _, rfl, hR⟩
      case round =>
        obtain ⟨k', hk, rfl, hR2⟩ := hrel
        clear hR
        by_cases h4 : k' < 4
        · have hks : k' = 0 ∨ k' = 1 ∨ k' = 2 ∨ k' = 3 := by omega
          have turns : ∀ b c d : Nat, b = 4 + (k' + 1) % 4 → c = 8 + (k' + 2) % 4 → d = 12 + (k' + 3) % 4 → Calls Try.prog 23 #[.int .i64 k', .int .i64 b, .int .i64 c, .int .i64 d, .pointer (some ⟨bx, 0, none⟩)] wr fun e w' => e = .returned (.tuple #[]) ∧ DR bx p w w' (it2 s1 (k' + 1)) := by
            rintro b c d rfl rfl rfl
            refine (turn_cl k' (4 + (k' + 1) % 4) (8 + (k' + 2) % 4) (12 + (k' + 3) % 4) (by omega) (by omega) (by omega) (by omega) _ bx p wr hR2.hx hR2.hp hne).mono ?_
            rintro e w2 ⟨rfl, hB2, hK2⟩
            exact ⟨rfl, hK2.blk hR2.hx (by simp [hne]), hB2, hR2.hk.trans hK2⟩
          have T := keep turns
          clear turns
          rcases hks with rfl | rfl | rfl | rfl
          · go_wp2_with fail
            refine (T.out 5 10 15 rfl rfl rfl).mono ?_
            rintro e w2 ⟨rfl, hf⟩
            go_wp2_with fail
            go_roundw
            case rel => exact ⟨1, by omega, by go_num, hf⟩
            case measure => simp [intOf]
          · go_wp2_with fail
            refine (T.out 6 11 12 rfl rfl rfl).mono ?_
            rintro e w2 ⟨rfl, hf⟩
            go_wp2_with fail
            go_roundw
            case rel => exact ⟨2, by omega, by go_num, hf⟩
            case measure => simp [intOf]
          · go_wp2_with fail
            refine (T.out 7 8 13 rfl rfl rfl).mono ?_
            rintro e w2 ⟨rfl, hf⟩
            go_wp2_with fail
            go_roundw
            case rel => exact ⟨3, by omega, by go_num, hf⟩
            case measure => simp [intOf]
          · go_wp2_with fail
            refine (T.out 4 9 14 rfl rfl rfl).mono ?_
            rintro e w2 ⟨rfl, hf⟩
            go_wp2_with fail
            go_roundw
            case rel => exact ⟨4, by omega, by go_num, hf⟩
            case measure => simp [intOf]
        · have g5 : ¬ (k' : Int) < 4 := by omega
          have e4 : k' = 4 := by omega
          rw [e4] at hR2
          clear e4 hk
          go_wp2_with fail
          go_end0
          rw [HS.out] at hR2
          exact ⟨rfl, hR2.hp, hR2.hk⟩
end Go.Proofs.Ytghojlkogeoejaa

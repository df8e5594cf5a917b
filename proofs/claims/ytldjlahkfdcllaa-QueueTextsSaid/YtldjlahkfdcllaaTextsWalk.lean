/-
  queue: QueueTexts, the walk.
-/
import Derived.Test.YtldjlahkfdcllaaQAwake
import Derived.Test.YtldjlahkfdcllaaQText
import Derived.Test.YtldjlahkfdcllaaArgs
namespace Go.Proofs.Ytldjlahkfdcllaa
open Go.RowKit

def texts (l : List ByteArray) : Qs := ⟨[], l.map Value.string, 0⟩
theorem texts_put (us : List ByteArray) (i : Nat) (h : i < us.length) (hl : us.length ≤ 200) : (texts (us.take i)).put 300 false (.string us[i]) = (texts (us.take (i + 1)), false) := by
  have : (us.take i).length < 300 := by simp; omega
  simp only [texts, Qs.put, Bool.false_eq_true, if_false, List.length_map, this, if_true, List.take_succ_eq_append_getElem h, List.map_append, List.map_cons, List.map_nil]
theorem texts_take (us : List ByteArray) (i : Nat) (h : i < us.length) (z : Value) : (texts (us.drop i)).take z = (texts (us.drop (i + 1)), .string us[i], false, true) := by
  rw [List.drop_eq_getElem_cons h]
  rfl
theorem texts_texts (l : List ByteArray) : Txt.Texts ((texts l).c ++ (texts l).d) := by
  intro u hu
  simp only [texts, List.nil_append, List.mem_map] at hu
  obtain ⟨s, _, rfl⟩ := hu
  exact ⟨s, rfl⟩
def TextsRel (q base : Nat) (w wr : World) (l : List ByteArray) : Prop := ∃ F, QAt 61 wr q base F 300 (texts l) ∧ Below w.heap.size w wr

set_option maxHeartbeats 1000000 in
theorem texts_walk (a : Option Addr) (len cap : Nat) (us : List ByteArray) (w : World) (hr : InRow Value.string w a len us) :
    Calls Try.prog 5 #[.slice a len cap] w fun e w' => e = .returned (.bool true) ∧ Below w.heap.size w w' := by
  obtain ⟨hl, hmax, hr⟩ := hr
  by_cases h200 : 200 < len
  · have g200 : (200 : Int) < (len : Int) := by omega
    clear hr
    go_enter Try.func5, Try.ntmps5
    go_wp2_with fail
    refine (awake_any _).mono ?_; rintro e w1 ⟨rfl, hb1⟩
    go_wp2_with fail
    refine (awake_any _).mono ?_; rintro e w2 ⟨rfl, hb2⟩
    go_wp2_with fail
    go_ret
    exact ⟨rfl, hb1.trans (hb2.mono hb1.size)⟩
  · have g200 : ¬ (200 : Int) < (len : Int) := by omega
    go_enter Try.func5, Try.ntmps5
    go_wp2_with fail
    refine (awake_any _).mono ?_; rintro e w1 ⟨rfl, hb1⟩
    go_wp2_with fail
    refine Calls.mono (show Calls Try.prog 15 #[.int .i64 300] _ _ from Txt.new_any 300 w.heap.size w1 (by omega) (by omega) hb1.size) ?_
    rintro e w2 ⟨rfl, hQ2, hb2, hs2⟩
    have hR : TextsRel w1.heap.size w.heap.size w w2 (us.take 0) := ⟨_, hQ2, hb1.trans (hb2.mono hb1.size)⟩
    clear hQ2 hb2 hb1
    unfold ptr
    generalize w1.heap.size = q at *
    go_wp2_with fail
    go_loopw [5] (fun i wr => ∃ k : Nat, k ≤ len ∧ i = .int .i64 k ∧ TextsRel q w.heap.size w wr (us.take k)) (fun i _ => len - (intOf i).toNat)
    case atStart => exact ⟨0, Nat.zero_le _, rfl, hR⟩
    case round =>
      obtain ⟨k, hk, rfl, F, hQ, hbel⟩ := hrel
      by_cases hlt : k < len
      · obtain h0 | ⟨b, off, rfl, hb, hc⟩ := hr
        · omega
        have hku : k < us.length := by omega
        have c0 : wr.cell? ⟨b, off + k, none⟩ = some (.string us[k]) := (hbel.cell hb).trans (hc k hku)
        have hp := texts_put us k hku (by omega)
        clear hc
        generalize us[k] = x at *
        go_wp2_with fail
        refine (Txt.put_any _ 300 q _ F false x wr hQ (by simp [texts]) (by omega)).mono ?_
        rintro e w3 ⟨rfl, F3, hQ3, hT3, hF3⟩
        rw [hp] at *
        unfold errOf
        have hf : TextsRel q w.heap.size w w3 (us.take (k + 1)) := ⟨F3, hQ3, hbel.trans (hT3.toBelow hbel.size (fun j hj => (hQ.size j hj).1))⟩
        clear hQ hQ3 hT3 hF3 hp
        go_wp2_with fail
        go_roundw
        case rel => exact ⟨k + 1, by omega, by go_num, hf⟩
        case measure => simp [intOf]; omega
      · have e : us.take k = us.drop 0 := by rw [List.take_of_length_le (by omega)]; rfl
        rw [e] at hQ
        have hR2 : TextsRel q w.heap.size w wr (us.drop 0) := ⟨F, hQ, hbel⟩
        clear hQ hbel hR e
        go_wp2_with fail
        go_loopw [6] (fun i wr => ∃ k : Nat, k ≤ len ∧ i = .int .i64 k ∧ TextsRel q w.heap.size w wr (us.drop k)) (fun i _ => len - (intOf i).toNat)
        case atStart => exact ⟨0, Nat.zero_le _, rfl, hR2⟩
        case round =>
          obtain ⟨j, hj, rfl, F, hQ, hbel⟩ := hrel
          by_cases hlt : j < len
          · obtain h0 | ⟨b, off, rfl, hb, hc⟩ := hr
            · omega
            have hju : j < us.length := by omega
            have hp := texts_take us j hju (.string { data := #[] })
            go_wp2_with fail
            refine (Txt.take_any _ 300 q _ F wr hQ (texts_texts _)).mono ?_
            rintro e w3 ⟨rfl, F3, hQ3, hT3, hF3⟩
            rw [hp] at *
            have hbel3 := hbel.trans (hT3.toBelow hbel.size (fun j hj => (hQ.size j hj).1))
            have hf : TextsRel q w.heap.size w w3 (us.drop (j + 1)) := ⟨F3, hQ3, hbel3⟩
            have c0 : w3.cell? ⟨b, off + j, none⟩ = some (.string us[j]) := (hbel3.cell hb).trans (hc j hju)
            clear hQ hQ3 hT3 hF3 hp hc hbel hbel3
            generalize us[j] = x at *
            go_wp2_with fail
            go_roundw
            case rel => exact ⟨j + 1, by omega, by go_num, hf⟩
            case measure => simp [intOf]; omega
          · clear hR2 hQ hr
            go_wp2_with fail
            refine (Txt.take_nil _).mono ?_
            rintro e w3 ⟨rfl, rfl⟩
            go_wp2_with fail
            refine (Txt.len_nil _).mono ?_
            rintro e w3 ⟨rfl, rfl⟩
            go_wp2_with fail
            refine (Txt.put_nil _ _ _).mono ?_
            rintro e w3 ⟨rfl, rfl⟩
            go_wp2_with fail
            refine (Txt.dropped_nil _).mono ?_
            rintro e w3 ⟨rfl, rfl⟩
            go_wp2_with fail
            go_ret
            exact ⟨rfl, hbel⟩
end Go.Proofs.Ytldjlahkfdcllaa

/-
  A REGION THAT DRAWS ITS ORDER, BY AN INVARIANT: what holds once a set L of operations is done (Inv L); each operation, if its ancestors are in L, leads from Inv L to Inv of L and itself. Whatever order is drawn, Inv of all holds at the end. Nothing of the program is named here.
-/
import Derived.Test.YtbfgnlckmpnchaaMixedC
namespace Go.Proofs.Ytbfgnlckmpnchaa
open Go.RowKit
namespace Inv
open MixedC
section
variable {P : Program} {ops : Array Oper}
def plus (i : Nat) (L : Nat → Bool) : Nat → Bool := fun j => if j = i then true else L j
@[simp] theorem plus_same (i : Nat) (L : Nat → Bool) : plus i L i = true := by simp [plus]
theorem plus_ne {i j : Nat} (L : Nat → Bool) (h : j ≠ i) : plus i L j = L j := by simp [plus, h]
/-- One operation's step. -/
def Step (P : Program) (ops : Array Oper) (I : (Nat → Bool) → Act → World → Prop) (i : Nat) : Prop :=
  ∀ o, ops[i]? = some o → ∀ (L : Nat → Bool) (a : Act) (w : World), (∀ k, k < i → desc (Region.before ops) k i = true → L k = true) → L i = false → I L a w → Ef P ops o a w fun a' w' => I (plus i L) a' w'
def Steps (P : Program) (ops : Array Oper) (I : (Nat → Bool) → Act → World → Prop) : Nat → Prop
  | 0 => True
  | n + 1 => Steps P ops I n ∧ Step P ops I n
theorem Steps.zero {I : (Nat → Bool) → Act → World → Prop} : Steps P ops I 0 := trivial
theorem Steps.more {I : (Nat → Bool) → Act → World → Prop} {n : Nat} (h : Steps P ops I n) (s : Step P ops I n) : Steps P ops I (n + 1) := ⟨h, s⟩
theorem Steps.at_ {I : (Nat → Bool) → Act → World → Prop} : ∀ {n : Nat}, Steps P ops I n → ∀ i, i < n → Step P ops I i
  | 0, _, i, h => absurd h (Nat.not_lt_zero i)
  | n + 1, h, i, hi => by
    rcases Nat.lt_succ_iff_lt_or_eq.1 hi with h1 | rfl
    · exact Steps.at_ h.1 i h1
    · exact h.2
def lookB (ops : Array Oper) : Bool :=
  ancB ops (Region.before ops) && (List.range ops.size).all fun i => match ops[i]? with
      | some o => o.after.all fun e => !Region.binds .any e || (decide (e.on < i))
      | none => true
theorem any_inv {Q : Exit → Act → World → Prop} {I : (Nat → Bool) → Act → World → Prop} (hA : ancB ops (Region.before ops) = true) (hlt : ∀ (i : Nat) (o : Oper), ops[i]? = some o → ∀ e ∈ o.after, Region.binds .any e = true → e.on < i)
    (hst : Steps P ops I ops.size) (hend : ∀ L a w, (∀ i, i < ops.size → L i = true) → I L a w → Q .normal a w) :
    ∀ (n : Nat) (listed : Array Bool) (a : Act) (w : World), listed.size = ops.size → ((List.range ops.size).filter fun j => !listed.getD j false).length = n → Closed ops listed → (∃ L, (∀ j, j < ops.size → L j = listed.getD j false) ∧ I L a w) → wpAny P .any ops Q n listed a w := by
  intro n
  induction n with
  | zero =>
    intro listed a w hsz hn hc ⟨L, hL, hI⟩
    have hall : ∀ j, j < ops.size → listed.getD j false = true := by
      intro j hj
      cases hd : listed.getD j false with
      | true => rfl
      | false =>
        have : j ∈ (List.range ops.size).filter fun j => !listed.getD j false := List.mem_filter.2 ⟨List.mem_range.2 hj, by rw [hd]; rfl⟩
        rw [List.eq_nil_of_length_eq_zero hn] at this
        cases this
    refine ⟨?_, hend L a w (fun i hi => by rw [hL i hi]; exact hall i hi) hI⟩
    apply List.eq_nil_iff_forall_not_mem.2
    intro j hj
    obtain ⟨h0, o, ho, _⟩ := mem_ready.1 hj
    have hjs : j < ops.size := (Array.getElem?_eq_some_iff.1 ho).1
    have h1 := hall j hjs
    simp [hsz, hjs] at h0 h1
    rw [h1] at h0
    cases h0
  | succ n ih =>
    intro listed a w hsz hn hc ⟨L, hL, hI⟩
    refine ⟨fun h0 => ?_, fun i hi => ?_⟩
    · exfalso
      -- the least that is not listed is ready
      have hex : ∃ j, j < ops.size ∧ listed.getD j false = false := by
        rcases hl : (List.range ops.size).filter (fun j => !listed.getD j false) with _ | ⟨j, l⟩
        · rw [hl] at hn; cases hn
        · have : j ∈ (List.range ops.size).filter fun j => !listed.getD j false := by rw [hl]; simp
          obtain ⟨h1, h2⟩ := List.mem_filter.1 this
          exact ⟨j, List.mem_range.1 h1, by simpa using h2⟩
      have hleast : ∀ m, (∃ j, j ≤ m ∧ j < ops.size ∧ listed.getD j false = false) → ∃ j, j < ops.size ∧ listed.getD j false = false ∧ ∀ k, k < j → listed.getD k false = true := by
        intro m
        induction m with
        | zero => rintro ⟨j, h1, h2, h3⟩; exact ⟨j, h2, h3, fun k hk => by omega⟩
        | succ m ihm =>
          rintro ⟨j, h1, h2, h3⟩
          by_cases hlow : ∃ j, j ≤ m ∧ j < ops.size ∧ listed.getD j false = false
          · exact ihm hlow
          · refine ⟨j, h2, h3, fun k hk => ?_⟩
            cases hd : listed.getD k false with
            | true => rfl
            | false => exact absurd ⟨k, by omega, by omega, hd⟩ hlow
      obtain ⟨j0, h1, h2⟩ := hex
      obtain ⟨j, hj, hjf, hlow⟩ := hleast j0 ⟨j0, Nat.le_refl _, h1, h2⟩
      have hr : j ∈ Region.ready .any ops listed := mem_ready.2 ⟨by simp [hsz, hj] at hjf ⊢; exact hjf, ops[j], Array.getElem?_eq_getElem hj, fun e he hb => hlow _ (hlt j _ (Array.getElem?_eq_getElem hj) e he hb)⟩
      rw [h0] at hr
      cases hr
    · obtain ⟨h0, o, ho, hall⟩ := mem_ready.1 hi
      have his : i < ops.size := (Array.getElem?_eq_some_iff.1 ho).1
      have hu : listed.getD i false = false := by simp [hsz, his] at h0 ⊢; exact h0
      have hs := hst.at_ i his o ho L a w (fun k hki hk => by
        rw [hL k (by omega)]
        exact anc_ready hA hc hi (by omega) hk) (by rw [hL i his]; exact hu) hI
      have hcl : Closed ops (listed.setIfInBounds i true) := by
        intro j oj hoj hlj e he hb
        by_cases hjx : i = j
        · subst hjx
          obtain rfl := Option.some.inj (ho.symm.trans hoj)
          exact getD_set_true (hall e he hb)
        · rw [getD_set_ne false hjx] at hlj
          exact getD_set_true (hc j oj hoj hlj e he hb)
      have hcnt : ((List.range ops.size).filter fun j => !(listed.setIfInBounds i true).getD j false).length = n := by
        have h1 : ∀ (l : List Nat), l.Nodup → i ∈ l → (l.filter fun j => !listed.getD j false).length = (l.filter fun j => !(listed.setIfInBounds i true).getD j false).length + 1 := by
          have h2 : ∀ (l : List Nat), i ∉ l → (l.filter fun j => !listed.getD j false) = (l.filter fun j => !(listed.setIfInBounds i true).getD j false) := by
            intro l hl
            refine List.filter_congr fun j hj => ?_
            rw [getD_set_ne false (fun e => hl (by rw [e]; exact hj))]
          intro l
          induction l with
          | nil => intro _ h; cases h
          | cons x l ihl =>
            intro hnd hm
            rw [List.nodup_cons] at hnd
            by_cases hx : x = i
            · subst hx
              have e1 : (listed.setIfInBounds x true).getD x false = true := by simp [hsz, his]
              rw [List.filter_cons, List.filter_cons, hu, e1, h2 l hnd.1]
              simp
            · have hm' : i ∈ l := by
                rcases List.mem_cons.1 hm with h | h
                · exact absurd h.symm hx
                · exact h
              have e1 : (listed.setIfInBounds i true).getD x false = listed.getD x false := getD_set_ne false (fun e => hx e.symm)
              rw [List.filter_cons, List.filter_cons, e1]
              have := ihl hnd.2 hm'
              cases listed.getD x false
              · simp only [Bool.not_false, if_true, List.length_cons]; omega
              · simp only [Bool.not_true, Bool.false_eq_true, if_false]; omega
        have := h1 (List.range ops.size) List.nodup_range (List.mem_range.2 his)
        omega
      have hnext : ∀ a' w', I (plus i L) a' w' → wpAny P .any ops Q n (listed.setIfInBounds i true) a' w' := fun a' w' hI' =>
        ih (listed.setIfInBounds i true) a' w' (by simpa using hsz) hcnt hcl ⟨plus i L, fun j hj => by
          by_cases hjx : j = i
          · subst hjx; simp [hsz, hj]
          · rw [plus_ne _ hjx, getD_set_ne false (fun e => hjx e.symm)]; exact hL j hj, hI'⟩
      unfold wpOp
      simp only [ho]
      unfold Ef at hs
      split
      · rename_i hw
        rw [if_pos hw] at hs
        exact .inl (wp_any_post (Oper.wp_mono hnext hs))
      · rename_i hw
        rw [if_neg hw] at hs
        exact hnext _ _ hs
/-- **A REGION THAT DRAWS ITS ORDER, BY AN INVARIANT.** -/
theorem wp_region {id : Nat} {Q : Exit → Act → World → Prop} {a : Act} {w : World} (I : (Nat → Bool) → Act → World → Prop) (n : Nat) (hm : P.follows .mixedOrders = true) (hB : lookB ops = true) (hn : ops.size = n)
    (h0 : I (fun _ => false) a w.drew) (hst : Steps P ops I n) (hend : ∀ L a w, (∀ i, i < n → L i = true) → I L a w → Q .normal a w) : (Code.region id ops true).wp P Q a w := by
  subst hn
  refine wp_region_any hm ?_
  simp only [lookB, Bool.and_eq_true, List.all_eq_true, List.mem_range] at hB
  obtain ⟨hA, hl⟩ := hB
  have hlt : ∀ (i : Nat) (o : Oper), ops[i]? = some o → ∀ e ∈ o.after, Region.binds .any e = true → e.on < i := fun i o ho e he hb => by
    have h1 := hl i (Array.getElem?_eq_some_iff.1 ho).1
    simp only [ho] at h1
    have h2 := Array.all_eq_true_iff_forall_mem.1 h1 e he
    simpa [hb] using h2
  have hfil : ((List.range ops.size).filter fun j => !(Array.replicate ops.size false).getD j false).length = ops.size := by
    rw [List.filter_eq_self.2 (fun j hj => by simp [List.mem_range.1 hj])]
    simp
  have := any_inv (Q := Q) (I := I) hA hlt hst hend ops.size (Array.replicate ops.size false) a w.drew (by simp) hfil (fun j o _ hj => by
    by_cases hjs : j < ops.size
    · simp [hjs] at hj
    · simp [hjs] at hj) ⟨fun _ => false, fun j hj => by simp [hj], h0⟩
  exact this
/-- A step by the plain walk. -/
theorem step {I : (Nat → Bool) → Act → World → Prop} {i : Nat} {o : Oper} (ho : ops[i]? = some o) (hg : o.guard = none)
    (h : ∀ (L : Nat → Bool) (a : Act) (w : World), (∀ k, k < i → desc (Region.before ops) k i = true → L k = true) → L i = false → I L a w → ∀ Q : Exit → Act → World → Prop, (∀ a' w', I (plus i L) a' w' → Q .normal a' w') → wpList P ops Q [o] a w) : Step P ops I i := by
  intro o' ho' L a w hk hi hI
  obtain rfl := Option.some.inj (ho.symm.trans ho')
  have hh := h L a w hk hi hI (only fun a' w' => I (plus i L) a' w') (fun _ _ h1 => h1)
  have hw : Region.wanted o (yielded ops a.tmps) = true := by simp [Region.wanted, hg]
  unfold Ef
  rw [if_pos hw]
  unfold wpList at hh
  rw [if_pos hw] at hh
  rcases hh with hh | ⟨_, _, _, hf⟩
  · have hq : ∀ (a' : Act) (w' : World), wpList P ops (only fun a' w' => I (plus i L) a' w') [] a' w' → I (plus i L) a' w' := fun a' w' hh => hh
    exact weaken (Oper.wp_mono hq hh)
  · exact False.elim hf
/-- The same, the invariant told of the state in which the region begins. -/
theorem wp_region_at {id : Nat} {Q : Exit → Act → World → Prop} {a : Act} {w : World} (R : Act → (Nat → Bool) → Act → World → Prop) (n : Nat) (hm : P.follows .mixedOrders = true) (hB : lookB ops = true) (hn : ops.size = n)
    (h0 : R a (fun _ => false) a w.drew) (hst : Steps P ops (R a) n) (hend : ∀ L a' w', (∀ i, i < n → L i = true) → R a L a' w' → Q .normal a' w') : (Code.region id ops true).wp P Q a w :=
  wp_region (R a) n hm hB hn h0 hst hend
end
end Inv
end Go.Proofs.Ytbfgnlckmpnchaa

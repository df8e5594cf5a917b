/-
  AS Mixed.lean, BUT THAT A CALL OF A Go FUNCTION THAT LEAVES THE WORLD AS IT WAS IS A READ TOO. A REGION THAT DRAWS ITS ORDER AND HOLDS READS BESIDE EFFECTS (calls that make memory, stores): ONE WALK, IN ONE ORDER OF MY OWN, SERVES EVERY ORDER. Nothing of the program is named here.
  An order is a list of pairs (kind, number): kind 0: a read that yields one value in every world of a class C; kind 1: a read that is forced between the same two effects in every order, and is asked of this very world alone; kind 2: an effect; kind 3: an effect that has every read of kind 0 ahead of it behind it in every order, so that no class is asked of the world it leaves. Effects are forced among themselves (the Bool looks).
-/
import Derived.Deep.Quiet
import Derived.WalkKit
import Derived.Test.YtbfgnlckmpnchaaText
namespace Go.Proofs.Ytbfgnlckmpnchaa
open Go.RowKit
namespace MixedC

/-- A post that lets nothing out but the normal end. -/
def only (K : Act → World → Prop) : Exit → Act → World → Prop
  | .normal, a, w => K a w
  | _, _, _ => False

section
variable {P : Program} {ops : Array Oper} {C : World → Prop}

/-- What came out: a value; or a call that hands back a value; and the world is as it was. -/
def Out (P : Program) (r : Result Next) (v : Value) (w : World) : Prop := r = .ok (.value v) w ∨ ∃ f args, r = .ok (.enter f args) w ∧ Calls P f args w fun e w' => e = .returned v ∧ w' = w
/-- Operation o, a read, in state a: the value v in every world of D, which it leaves as it is. -/
def Yl (P : Program) (ops : Array Oper) (D : World → Prop) (o : Oper) (v : Value) (a : Act) : Prop :=
  (Region.wanted o (yielded ops a.tmps) = true ∧ ∀ w, D w → Out P ((execOp a.eval o).run P w) v w) ∨ (Region.wanted o (yielded ops a.tmps) = false ∧ v = undef)

/-- Operation o, an effect. -/
def Ef (P : Program) (ops : Array Oper) (o : Oper) (a : Act) (w : World) (K : Act → World → Prop) : Prop :=
  if Region.wanted o (yielded ops a.tmps) = true then o.wp P a w K (only fun _ _ => False) else K (a.put o.dst undef) w

/-- Operation number i is carried out as a read, and K goes on. -/
def Rd (P : Program) (ops : Array Oper) (D : World → Prop) (i : Nat) (K : Act → Prop) (a : Act) : Prop := ∃ o v, ops[i]? = some o ∧ Yl P ops D o v a ∧ K (a.put o.dst v)

def HL (P : Program) (ops : Array Oper) (C : World → Prop) (Qn : Act → World → Prop) : List (Nat × Nat) → Act → World → Prop
  | [], a, w => Qn a w
  | (0, i) :: l, a, w => Rd P ops C i (fun a' => HL P ops C Qn l a' w) a
  | (1, i) :: l, a, w => Rd P ops (fun w' => w' = w) i (fun a' => HL P ops C Qn l a' w) a
  | (2, i) :: l, a, w => ∃ o, ops[i]? = some o ∧ Ef P ops o a w fun a' w' => C w' ∧ HL P ops C Qn l a' w'
  | (_ + 3, i) :: l, a, w => ∃ o, ops[i]? = some o ∧ Ef P ops o a w fun a' w' => HL P ops (fun _ => True) Qn l a' w'

/-! ### What the Bool asks -/
def noSel (o : Oper) : Bool := match o.op with | .select .. => false | _ => true
/-- i is an ancestor of j, by the masks. -/
def desc (anc : Array Nat) (i j : Nat) : Bool := (anc.getD j 0).testBit i
/-- The masks are sound: whoever is an ancestor is one by a direct edge, or an ancestor of one. -/
def ancB (ops : Array Oper) (anc : Array Nat) : Bool :=
  (List.range ops.size).all fun j => (List.range ops.size).all fun i => !desc anc i j ||
    match ops[j]? with
    | some o => o.after.any fun e => Region.binds .any e && (decide (e.on < j) && (e.on == i || desc anc i e.on))
    | none => false
/-- x stands ahead of y in the list: what that asks. -/
def pairB (ops : Array Oper) (anc : Array Nat) (x y : Nat × Nat) : Bool :=
  match ops[x.2]?, ops[y.2]? with
  | some ox, some oy => (!ox.after.any fun e => Region.binds .any e && e.on == y.2) && (x.2 != y.2) &&
      (desc anc x.2 y.2 || (decide (x.1 ≤ 1) && ox.apart ops oy && (decide (y.1 ≤ 1) || (decide (x.1 = 0) && decide (y.1 = 2)))))
  | _, _ => false
def pairsB (ops : Array Oper) (anc : Array Nat) : List (Nat × Nat) → Bool
  | [] => true
  | x :: l => l.all (pairB ops anc x) && pairsB ops anc l
def inB (ops : Array Oper) (ord : List (Nat × Nat)) : Bool :=
  ops.all noSel && decide (ord.length = ops.size) && (List.range ops.size).all (fun i => ord.any fun x => x.2 == i) && ord.all (fun x => decide (x.2 < ops.size)) &&
    (List.range ops.size).all fun i => match ops[i]? with
      | some o => o.after.all fun e => !Region.binds .any e || (decide (e.on < ops.size) && e.on != i)
      | none => true
def okB (ops : Array Oper) (ord : List (Nat × Nat)) : Bool :=
  let anc := Region.before ops
  ancB ops anc && pairsB ops anc ord && inB ops ord

/-! ### The swap of two neighbours -/
theorem Yl.of_put {D : World → Prop} {o oy : Oper} {v u : Value} {a : Act} (hs : ∀ cs b, o.op ≠ .select cs b) (h : ∀ d, oy.dst = some d → d ∉ o.looksAt ops)
    (hy : Yl P ops D o v (a.put oy.dst u)) : Yl P ops D o v a := by
  unfold Yl at *
  rwa [execOp_put o hs a oy.dst u h, wanted_put o a oy.dst u h] at hy
theorem Yl.put {D : World → Prop} {o oy : Oper} {v u : Value} {a : Act} (hs : ∀ cs b, o.op ≠ .select cs b) (h : ∀ d, oy.dst = some d → d ∉ o.looksAt ops)
    (hy : Yl P ops D o v a) : Yl P ops D o v (a.put oy.dst u) := by
  unfold Yl at *
  rwa [execOp_put o hs a oy.dst u h, wanted_put o a oy.dst u h]

theorem Ef.swap {D : World → Prop} {oy ox : Oper} {v : Value} {a : Act} {w : World} {K : Act → World → Prop}
    (hsy : ∀ cs b, oy.op ≠ .select cs b) (hsx : ∀ cs b, ox.op ≠ .select cs b) (hap : oy.apart ops ox = true)
    (hy : Yl P ops D oy v a) (h : Ef P ops ox (a.put oy.dst v) w K) : Ef P ops ox a w fun a' w' => Yl P ops D oy v a' ∧ K (a'.put oy.dst v) w' := by
  obtain ⟨h1, h2, h3⟩ := Oper.apart_spec hap
  have keep : ∀ (a : Act), Yl P ops D oy v a → ∀ u, Yl P ops D oy v (a.put ox.dst u) := fun a hy u => hy.put (oy := ox) hsy h3
  have keepD : ∀ d, Yl P ops D oy v { a with defers := d :: a.defers } := fun d => by unfold Yl at hy ⊢; exact hy
  unfold Ef at *
  rw [wanted_put ox a oy.dst v h1] at h
  split
  · rename_i hw
    rw [if_pos hw] at h
    unfold Oper.wp at *
    rw [execOp_put ox hsx a oy.dst v h1] at h
    generalize (execOp a.eval ox).run P w = r at *
    cases r with
    | ok n w' =>
      cases n <;> simp only [Oper.upon] at h ⊢
      case value u => exact ⟨keep a hy u, by rw [← Act.put_comm a v u h2]; exact h⟩
      case skip => exact ⟨keep a hy _, by rw [← Act.put_comm a v undef h2]; exact h⟩
      case defer d =>
        refine ⟨keep _ (keepD d) _, ?_⟩
        rw [← Act.put_comm _ v undef h2, ← Act.put_defers]
        exact h
      case enter f args =>
        refine Calls.mono h fun e w'' he => ?_
        cases e with
        | returned u => exact ⟨keep a hy u, by rw [← Act.put_comm a v u h2]; exact he⟩
        | panicked c => exact he
        | outgrown => exact he
      case row row args => exact Rows.mono h fun u w'' he => ⟨keep a hy u, by rw [← Act.put_comm a v u h2]; exact he⟩
    | halt x w' =>
      cases x <;> simp only [Oper.upon] at h ⊢
      case panic u => exact h
  · rename_i hw
    rw [if_neg hw] at h
    exact ⟨keep a hy _, by rw [← Act.put_comm a v undef h2]; exact h⟩

theorem Ef.mono {o : Oper} {a : Act} {w : World} {K K' : Act → World → Prop} (h : ∀ a w, K a w → K' a w) (hh : Ef P ops o a w K) : Ef P ops o a w K' := by
  unfold Ef at *
  split
  · rename_i hw; rw [if_pos hw] at hh; exact Oper.wp_mono h hh
  · rename_i hw; rw [if_neg hw] at hh; exact h _ _ hh

theorem noSel_spec {o : Oper} (h : noSel o = true) : ∀ cs b, o.op ≠ .select cs b := by
  intro cs b e
  unfold noSel at h
  rw [e] at h
  cases h

theorem HL.mono_head {Qn : Act → World → Prop} {x : Nat × Nat} {l l' : List (Nat × Nat)} (hx : x.1 ≤ 1) (h : ∀ a w, HL P ops C Qn l a w → HL P ops C Qn l' a w) {a : Act} {w : World}
    (hh : HL P ops C Qn (x :: l) a w) : HL P ops C Qn (x :: l') a w := by
  obtain ⟨k, i⟩ := x
  match k, hx, hh with
  | 0, _, ⟨o, v, h1, h2, h3⟩ => exact ⟨o, v, h1, h2, h _ _ h3⟩
  | 1, _, ⟨o, v, h1, h2, h3⟩ => exact ⟨o, v, h1, h2, h _ _ h3⟩
  | _ + 2, hx, _ => exact absurd hx (by simp)

theorem Rd.swap {D1 D2 : World → Prop} {i j : Nat} {oy ox : Oper} (hoy : ops[i]? = some oy) (hox : ops[j]? = some ox)
    (hsy : ∀ cs b, oy.op ≠ .select cs b) (hsx : ∀ cs b, ox.op ≠ .select cs b) (hap : oy.apart ops ox = true) {K : Act → Prop} {a : Act}
    (h : Rd P ops D1 i (fun a' => Rd P ops D2 j K a') a) : Rd P ops D2 j (fun a' => Rd P ops D1 i K a') a := by
  obtain ⟨h1, h2, h3⟩ := Oper.apart_spec hap
  obtain ⟨o, v, e1, e2, o', u, f1, f2, f3⟩ := h
  obtain rfl : oy = o := Option.some.inj (hoy.symm.trans e1)
  obtain rfl : ox = o' := Option.some.inj (hox.symm.trans f1)
  exact ⟨ox, u, hox, f2.of_put hsx h1, oy, v, hoy, e2.put hsy h3, by rw [← Act.put_comm a v u h2]; exact f3⟩

/-- y, a read, stands ahead of x, and may stand behind it. -/
theorem HL.swap {Qn : Act → World → Prop} {oy ox : Oper} {l : List (Nat × Nat)} {a : Act} {w : World} : ∀ (y x : Nat × Nat), ops[y.2]? = some oy → ops[x.2]? = some ox →
    (∀ cs b, oy.op ≠ .select cs b) → (∀ cs b, ox.op ≠ .select cs b) → y.1 ≤ 1 → oy.apart ops ox = true → (x.1 ≤ 1 ∨ (y.1 = 0 ∧ x.1 = 2)) →
    HL P ops C Qn (y :: x :: l) a w → HL P ops C Qn (x :: y :: l) a w
  | (0, _), (0, _), g1, g2, g3, g4, _, g5, _, h => Rd.swap g1 g2 g3 g4 g5 h
  | (0, _), (1, _), g1, g2, g3, g4, _, g5, _, h => Rd.swap g1 g2 g3 g4 g5 h
  | (1, _), (0, _), g1, g2, g3, g4, _, g5, _, h => Rd.swap g1 g2 g3 g4 g5 h
  | (1, _), (1, _), g1, g2, g3, g4, _, g5, _, h => Rd.swap g1 g2 g3 g4 g5 h
  | (0, _), (k + 3, _), _, _, _, _, _, _, g6, _ => by
    rcases g6 with g6 | g6
    · exact absurd g6 (by simp)
    · exact absurd g6.2 (by simp)
  | (0, _), (2, _), g1, g2, g3, g4, _, g5, _, ⟨o, v, e1, e2, o', f1, f2⟩ => by
    obtain rfl := Option.some.inj (g1.symm.trans e1)
    obtain rfl := Option.some.inj (g2.symm.trans f1)
    exact ⟨_, g2, (Ef.swap g3 g4 g5 e2 f2).mono fun a' w' hh => ⟨hh.2.1, _, v, g1, hh.1, hh.2.2⟩⟩
  | (1, _), (k + 2, _), _, _, _, _, _, _, g6, _ => by
    rcases g6 with g6 | g6
    · exact absurd g6 (by simp)
    · cases g6.1
  | (k + 2, _), _, _, _, _, _, g, _, _, _ => absurd g (by simp)

theorem pairB_spec {anc : Array Nat} {x y : Nat × Nat} (h : pairB ops anc x y = true) :
    ∃ ox oy, ops[x.2]? = some ox ∧ ops[y.2]? = some oy ∧ (∀ e ∈ ox.after, Region.binds .any e = true → e.on ≠ y.2) ∧ x.2 ≠ y.2 ∧
      (desc anc x.2 y.2 = true ∨ (x.1 ≤ 1 ∧ ox.apart ops oy = true ∧ (y.1 ≤ 1 ∨ (x.1 = 0 ∧ y.1 = 2)))) := by
  unfold pairB at h
  split at h
  · rename_i ox oy h1 h2
    simp only [Bool.and_eq_true, Bool.or_eq_true, decide_eq_true_eq, bne_iff_ne, Bool.not_eq_true'] at h
    obtain ⟨⟨g1, g2⟩, g3⟩ := h
    refine ⟨ox, oy, h1, h2, fun e he hb heq => ?_, g2, ?_⟩
    · have : (ox.after.any fun e => Region.binds .any e && e.on == y.2) = true := Array.any_eq_true'.2 ⟨e, he, by simp [hb, heq]⟩
      rw [this] at g1
      cases g1
    · rcases g3 with g3 | g3
      · exact .inl g3
      · exact .inr ⟨g3.1.1, g3.1.2, g3.2⟩
  · cases h

theorem pairsB_pw {anc : Array Nat} : ∀ {l : List (Nat × Nat)}, pairsB ops anc l = true → l.Pairwise fun x y => pairB ops anc x y = true
  | [], _ => List.Pairwise.nil
  | x :: l, h => by
    simp only [pairsB, Bool.and_eq_true, List.all_eq_true] at h
    exact List.Pairwise.cons h.1 (pairsB_pw h.2)

/-- x comes to the front, past whatever is no ancestor of it. -/
theorem HL.front {Qn : Act → World → Prop} {anc : Array Nat} (hs : ops.all noSel = true) {x : Nat × Nat} {l2 : List (Nat × Nat)} : ∀ (l1 : List (Nat × Nat)),
    (l1 ++ x :: l2).Pairwise (fun x y => pairB ops anc x y = true) → (∀ y ∈ l1, desc anc y.2 x.2 = false) → ∀ (a : Act) (w : World), HL P ops C Qn (l1 ++ x :: l2) a w → HL P ops C Qn (x :: (l1 ++ l2)) a w
  | [], _, _, _, _, h => h
  | y :: l1, hp, hd, a, w, h => by
    simp only [List.cons_append, List.pairwise_cons] at hp
    obtain ⟨oy, ox, g1, g2, _, _, g3⟩ := pairB_spec (hp.1 x (by simp))
    rw [hd y (by simp)] at g3
    have hy1 : y.1 ≤ 1 := by simp only [Bool.false_eq_true, false_or] at g3; exact g3.1
    have h1 := HL.mono_head hy1 (HL.front hs l1 hp.2 (fun z hz => hd z (List.mem_cons_of_mem _ hz))) h
    have hsel : ∀ {i : Nat} {o : Oper}, ops[i]? = some o → ∀ cs b, o.op ≠ .select cs b := fun {i o} ho => noSel_spec (Array.all_eq_true_iff_forall_mem.1 hs o (Array.mem_of_getElem? ho))
    simp only [Bool.false_eq_true, false_or] at g3
    exact HL.swap y x g1 g2 (hsel g1) (hsel g2) g3.1 g3.2.1 g3.2.2 h1

/-- In a set that is closed under 'after', whatever may come up now has all its ancestors behind it. -/
def Closed (ops : Array Oper) (listed : Array Bool) : Prop := ∀ j o, ops[j]? = some o → listed.getD j false = true → ∀ e ∈ o.after, Region.binds .any e = true → listed.getD e.on false = true
theorem anc_in {anc : Array Nat} (hA : ancB ops anc = true) {listed : Array Bool} (hc : Closed ops listed) : ∀ (j i : Nat), j < ops.size → i < ops.size → desc anc i j = true → listed.getD j false = true → listed.getD i false = true := by
  intro j
  induction j using Nat.strongRecOn with
  | _ j ih =>
    intro i hj hi hd hl
    have h1 := List.all_eq_true.1 (List.all_eq_true.1 hA j (List.mem_range.2 hj)) i (List.mem_range.2 hi)
    rw [hd] at h1
    simp only [Bool.not_true, Bool.false_or] at h1
    split at h1
    · rename_i o ho
      obtain ⟨e, he, h2⟩ := Array.any_eq_true'.1 h1
      simp only [Bool.and_eq_true, decide_eq_true_eq, Bool.or_eq_true, beq_iff_eq] at h2
      have h3 := hc j o ho hl e he h2.1
      rcases h2.2.2 with h4 | h4
      · rw [← h4]; exact h3
      · exact ih e.on h2.2.1 i (by omega) hi h4 h3
    · cases h1
theorem anc_ready {anc : Array Nat} (hA : ancB ops anc = true) {listed : Array Bool} (hc : Closed ops listed) {j i : Nat} (hr : j ∈ Region.ready .any ops listed) (hi : i < ops.size) (hd : desc anc i j = true) : listed.getD i false = true := by
  obtain ⟨_, o, ho, hall⟩ := mem_ready.1 hr
  have hj : j < ops.size := (Array.getElem?_eq_some_iff.1 ho).1
  have h1 := List.all_eq_true.1 (List.all_eq_true.1 hA j (List.mem_range.2 hj)) i (List.mem_range.2 hi)
  rw [hd] at h1
  simp only [Bool.not_true, Bool.false_or, ho] at h1
  obtain ⟨e, he, h2⟩ := Array.any_eq_true'.1 h1
  simp only [Bool.and_eq_true, decide_eq_true_eq, Bool.or_eq_true, beq_iff_eq] at h2
  have h3 := hall e he h2.1
  rcases h2.2.2 with h4 | h4
  · rw [← h4]; exact h3
  · exact anc_in hA hc e.on i (by omega) hi h4 h3

theorem wp_any_post {o : Oper} {a : Act} {w : World} {K : Act → World → Prop} {Q : Exit → Act → World → Prop} (h : o.wp P a w K (only fun _ _ => False)) : o.wp P a w K Q := by
  unfold Oper.wp at *
  generalize (execOp a.eval o).run P w = r at *
  cases r with
  | ok n w' =>
    cases n <;> simp only [Oper.upon] at h ⊢
    case enter f args =>
      refine Calls.mono h fun e w'' he => ?_
      cases e with
      | returned u => exact he
      | panicked c => exact False.elim he
      | outgrown => obtain ⟨_, _, hf⟩ := he; exact False.elim hf
    all_goals exact h
  | halt x w' =>
    cases x <;> simp only [Oper.upon] at h ⊢
    case panic u => exact False.elim h

/-- A post that lets out the normal end alone is as good as none. -/
theorem weaken {o : Oper} {a : Act} {w : World} {K K' : Act → World → Prop} (h : o.wp P a w K (only K')) : o.wp P a w K (only fun _ _ => False) := by
  unfold Oper.wp at *
  generalize (execOp a.eval o).run P w = r at *
  cases r with
  | ok n w' =>
    cases n <;> simp only [Oper.upon] at h ⊢
    case enter f args =>
      refine Calls.mono h fun e w'' he => ?_
      cases e with
      | returned u => exact he
      | panicked c => exact he
      | outgrown => obtain ⟨_, _, hf⟩ := he; exact False.elim hf
    all_goals exact h
  | halt x w' =>
    cases x <;> simp only [Oper.upon] at h ⊢
    case panic u => exact h

theorem head_step {Q : Exit → Act → World → Prop} {Qn : Act → World → Prop} {x : Nat × Nat} {l : List (Nat × Nat)} {K : Act → World → Prop} {a : Act} {w : World} (hC : C w)
    (hK : ∀ (C' : World → Prop) a' w', C' w' → HL P ops C' Qn l a' w' → K a' w') (h : HL P ops C Qn (x :: l) a w) : wpOp P ops Q x.2 K a w := by
  obtain ⟨k, i⟩ := x
  have rd : ∀ (D : World → Prop) (o : Oper) (v : Value), D w → ops[i]? = some o → Yl P ops D o v a → HL P ops C Qn l (a.put o.dst v) w → wpOp P ops Q i K a w := by
    intro D o v hD h1 h2 h3
    unfold wpOp
    simp only [h1]
    rcases h2 with ⟨hw, hv⟩ | ⟨hw, rfl⟩
    · rw [if_pos hw]
      refine .inl ?_
      unfold Oper.wp
      rcases hv w hD with hr | ⟨f, args, hr, hcall⟩
      · rw [hr]
        exact hK C _ _ hC h3
      · rw [hr]
        simp only [Oper.upon]
        refine Calls.mono hcall fun e w'' he => ?_
        obtain ⟨rfl, rfl⟩ := he
        exact hK C _ _ hC h3
    · rw [if_neg (by rw [hw]; exact Bool.false_ne_true)]
      exact hK C _ _ hC h3
  match k, h with
  | 0, ⟨o, v, h1, h2, h3⟩ => exact rd C o v hC h1 h2 h3
  | 1, ⟨o, v, h1, h2, h3⟩ => exact rd (fun w' => w' = w) o v rfl h1 h2 h3
  | 2, ⟨o, h1, h2⟩ =>
    unfold wpOp
    simp only [h1]
    unfold Ef at h2
    split
    · rename_i hw
      rw [if_pos hw] at h2
      exact .inl (wp_any_post (Oper.wp_mono (fun a' w' hh => hK C a' w' hh.1 hh.2) h2))
    · rename_i hw
      rw [if_neg hw] at h2
      exact hK C _ _ h2.1 h2.2
  | _ + 3, ⟨o, h1, h2⟩ =>
    unfold wpOp
    simp only [h1]
    unfold Ef at h2
    split
    · rename_i hw
      rw [if_pos hw] at h2
      exact .inl (wp_any_post (Oper.wp_mono (fun a' w' hh => hK (fun _ => True) a' w' trivial hh) h2))
    · rename_i hw
      rw [if_neg hw] at h2
      exact hK (fun _ => True) _ _ trivial h2

theorem HL_any {Q : Exit → Act → World → Prop} {anc : Array Nat} (hs : ops.all noSel = true) (hA : ancB ops anc = true) (hin : ∀ (i : Nat) (o : Oper), ops[i]? = some o → ∀ e ∈ o.after, Region.binds .any e = true → e.on < ops.size ∧ e.on ≠ i) :
    ∀ (n : Nat) (C : World → Prop) (l : List (Nat × Nat)) (listed : Array Bool) (a : Act) (w : World), l.length = n → listed.size = ops.size → l.Pairwise (fun x y => pairB ops anc x y = true) →
      (∀ j, j < ops.size → (listed.getD j false = false ↔ ∃ x ∈ l, x.2 = j)) → (∀ x ∈ l, x.2 < ops.size) → Closed ops listed → C w → HL P ops C (Q .normal) l a w → wpAny P .any ops Q n listed a w := by
  intro n
  induction n with
  | zero =>
    intro C l listed a w hl hsz _ hun _ _ _ h
    obtain rfl : l = [] := List.eq_nil_of_length_eq_zero hl
    refine ⟨?_, h⟩
    apply List.eq_nil_iff_forall_not_mem.2
    intro j hj
    obtain ⟨h0, o, ho, _⟩ := mem_ready.1 hj
    have hjs : j < ops.size := (Array.getElem?_eq_some_iff.1 ho).1
    have : listed.getD j false = false := by simp [hsz, hjs] at h0 ⊢; exact h0
    obtain ⟨x, hx, _⟩ := (hun j hjs).1 this
    cases hx
  | succ n ih =>
    intro C l listed a w hl hsz hp hun hlt hc hC h
    refine ⟨fun h0 => ?_, fun i hi => ?_⟩
    · exfalso
      match l, hl, hp, hun, hlt with
      | x :: l, _, hp, hun, hlt =>
        have hx : x.2 ∈ Region.ready .any ops listed := by
          have hxs := hlt x (by simp)
          have hu : listed.getD x.2 false = false := (hun _ hxs).2 ⟨x, by simp, rfl⟩
          refine mem_ready.2 ⟨by simp [hsz, hxs] at hu ⊢; exact hu, ops[x.2], Array.getElem?_eq_getElem hxs, fun e he hb => ?_⟩
          have hes := hin _ _ (Array.getElem?_eq_getElem hxs) e he hb
          cases hle : listed.getD e.on false with
          | true => rfl
          | false =>
            obtain ⟨y, hy, hye⟩ := (hun _ hes.1).1 hle
            rcases List.mem_cons.1 hy with rfl | hy
            · exact absurd hye.symm hes.2
            · have hpr := (List.pairwise_cons.1 hp).1 y hy
              obtain ⟨ox, oy, g1, g2, g3, _⟩ := pairB_spec hpr
              have : ox = ops[x.2] := by rw [Array.getElem?_eq_getElem hxs] at g1; exact (Option.some.inj g1).symm
              subst this
              exact absurd hye.symm (g3 e he hb)
        rw [h0] at hx
        cases hx
    · obtain ⟨h0, o, ho, hall⟩ := mem_ready.1 hi
      have his : i < ops.size := (Array.getElem?_eq_some_iff.1 ho).1
      have hu : listed.getD i false = false := by simp [hsz, his] at h0 ⊢; exact h0
      obtain ⟨x, hx, rfl⟩ := (hun i his).1 hu
      obtain ⟨l1, l2, rfl⟩ := List.append_of_mem hx
      have hfr : HL P ops C (Q .normal) (x :: (l1 ++ l2)) a w := by
        refine HL.front hs l1 hp (fun y hy => ?_) a w h
        cases hd : desc anc y.2 x.2 with
        | false => rfl
        | true =>
          have hys := hlt y (by simp [hy])
          have h1 := anc_ready hA hc hi hys hd
          have h2 := (hun y.2 hys).2 ⟨y, by simp [hy], rfl⟩
          rw [h1] at h2
          cases h2
      refine head_step hC (fun C' a' w' hC' hh => ?_) hfr
      have hnd : ∀ y ∈ l1 ++ l2, y.2 ≠ x.2 := by
        intro y hy
        rcases List.mem_append.1 hy with hy | hy
        · have := (List.pairwise_append.1 hp).2.2 y hy x (by simp)
          obtain ⟨_, _, _, _, _, g, _⟩ := pairB_spec this
          exact g
        · have := (List.pairwise_cons.1 (List.pairwise_append.1 hp).2.1).1 y hy
          obtain ⟨_, _, _, _, _, g, _⟩ := pairB_spec this
          exact fun e => g e.symm
      have hsub : (l1 ++ l2).Sublist (l1 ++ x :: l2) := List.Sublist.append (List.Sublist.refl _) (List.sublist_cons_self _ _)
      refine ih C' (l1 ++ l2) (listed.setIfInBounds x.2 true) a' w' (by simp at hl ⊢; omega) (by simpa using hsz) (hp.sublist hsub) (fun j hj => ?_) (fun y hy => hlt y (hsub.subset hy)) ?_ hC' hh
      · by_cases hjx : x.2 = j
        · subst hjx
          constructor
          · intro h1
            simp [hsz, hj] at h1
          · rintro ⟨y, hy, hye⟩
            exact absurd hye (hnd y hy)
        · rw [getD_set_ne false hjx, hun j hj]
          constructor
          · rintro ⟨y, hy, rfl⟩
            refine ⟨y, ?_, rfl⟩
            simp only [List.mem_append, List.mem_cons] at hy ⊢
            rcases hy with hy | rfl | hy
            · exact .inl hy
            · exact absurd rfl hjx
            · exact .inr hy
          · rintro ⟨y, hy, rfl⟩
            exact ⟨y, hsub.subset hy, rfl⟩
      · intro j oj hoj hlj e he hb
        by_cases hjx : x.2 = j
        · subst hjx
          obtain rfl := Option.some.inj (ho.symm.trans hoj)
          exact getD_set_true (hall e he hb)
        · rw [getD_set_ne false hjx] at hlj
          exact getD_set_true (hc j oj hoj hlj e he hb)

/-- **A REGION THAT DRAWS ITS ORDER**: the walk in the order 'ord' serves every order. -/
theorem wp_region {id : Nat} {Q : Exit → Act → World → Prop} {a : Act} {w : World} (C : World → Prop) (ord : List (Nat × Nat)) (hm : P.follows .mixedOrders = true) (hB : okB ops ord = true) (hC : C w.drew)
    (h : HL P ops C (Q .normal) ord a w.drew) : (Code.region id ops true).wp P Q a w := by
  simp only [okB, Bool.and_eq_true] at hB
  obtain ⟨⟨hA, hp⟩, hi⟩ := hB
  simp only [inB, Bool.and_eq_true, decide_eq_true_eq, List.all_eq_true, List.mem_range, List.any_eq_true, beq_iff_eq] at hi
  obtain ⟨⟨⟨⟨hs, hlen⟩, hall⟩, hlt⟩, hon⟩ := hi
  refine wp_region_any hm ?_
  have := HL_any (Q := Q) (anc := Region.before ops) hs hA (fun i o ho e he hb => ?_) ord.length C ord (Array.replicate ops.size false) a w.drew rfl (by simp) (pairsB_pw hp) (fun j hj => ?_) hlt (fun j o _ hl => ?_) hC h
  · rw [hlen] at this
    exact this
  · have h1 := hon i (Array.getElem?_eq_some_iff.1 ho).1
    simp only [ho] at h1
    have h2 := Array.all_eq_true_iff_forall_mem.1 h1 e he
    simp only [hb, Bool.not_true, Bool.false_or, Bool.and_eq_true, decide_eq_true_eq, bne_iff_ne] at h2
    exact h2
  · simp [hj]
    obtain ⟨x, hx, hxj⟩ := hall j hj
    exact ⟨x.1, by rw [← hxj]; exact hx⟩
  · by_cases hj : j < ops.size
    · simp [hj] at hl
    · simp [hj] at hl

/-! ### From the kit's quiet walk, and from the plain walk, to an order's pieces -/
/-- Operations that hand back a value, or stop: never a call of a Go function. -/
def plainOp : Op → Bool
  | .move _ | .assign _ | .pick .. | .load .. | .nilCheck _ | .binOp .. | .unOp .. | .convert .. | .slice .. | .fieldAddr .. | .field .. | .indexAddr .. | .index .. | .makeInterface .. | .extract .. | .build .. => true
  | .call { callee := .builtin .len, .. } | .call { callee := .builtin .min, .. } | .call { callee := .builtin .max, .. } | .call { callee := .builtin .cap, .. } => true
  | _ => false
/-- Whatever comes out is a value. -/
def Gives (P : Program) (s : Sem Next) : Prop := ∀ (w w' : World) (n : Next), s.run P w = .ok n w' → ∃ v, n = .value v
theorem Gives.pure (v : Value) : Gives P (Pure.pure (.value v)) := fun w w' n h => ⟨v, by simp at h; exact h.1.symm⟩
theorem Gives.bind {α : Type} {x : Sem α} {f : α → Sem Next} (h : ∀ a, Gives P (f a)) : Gives P (x >>= f) := fun w w' n hr => by
  rw [Sem.run_bind] at hr
  cases hs : x.run P w with
  | ok v u => rw [hs] at hr; exact h v u w' n hr
  | halt y u => rw [hs] at hr; simp [Result.andThen] at hr
theorem Gives.nilDeref : Gives P (runtimePanic .nilDeref) := fun w w' n h => by simp [runtimePanic, goPanic] at h
theorem execOp_call_builtin (ρ : Operand → Value) (dst : Option Tmp) (b : Builtin) (xs : Array Operand) (ats : Array TypeId) (ty : TypeId) (pos : String) (after : Array Edge) (guard : Option (Nat × Bool)) :
    builtin b ats ty (xs.map fun | .const _ => true | _ => false) (xs.map ρ) = (do let d ← resolve ρ { callee := .builtin b, args := xs, argTypes := ats } ty; invoke d.target d.args) :=
  (BigFrame.execOp_builtin ρ dst b xs ats ty pos after guard).symm
theorem plain_gives {ρ : Operand → Value} {o : Oper} (hp : plainOp o.op = true) : Gives P (execOp ρ o) := by
  obtain ⟨dst, op, type, pos, after, guard⟩ := o
  cases op <;> simp only [plainOp, Bool.false_eq_true] at hp <;> simp only [execOp]
  case move => exact Gives.pure _
  case assign => exact Gives.pure _
  case nilCheck x =>
    split
    · exact Gives.nilDeref
    · exact Gives.nilDeref
    · exact Gives.nilDeref
    · split
      · exact Gives.nilDeref
      · refine Gives.bind fun a => Gives.bind fun b => ?_
        split
        · exact Gives.bind fun _ => Gives.pure _
        · exact Gives.pure _
      · exact Gives.pure _
    · exact Gives.pure _
  case call c =>
    obtain ⟨callee, args, ats⟩ := c
    cases callee <;> (try (simp only [Bool.false_eq_true] at hp; done))
    case builtin b =>
      cases b <;> (try (simp only [Bool.false_eq_true] at hp; done))
      all_goals
        rw [← execOp_call_builtin ρ dst _ args ats type pos after guard]
        exact Gives.bind fun _ => Gives.pure _
  all_goals exact Gives.bind fun _ => Gives.pure _

/-- A block of reads, by the kit's quiet walk. -/
theorem reads {Qn : Act → World → Prop} {D : World → Prop} {k : Nat} {w : World} (hk : (k = 0 ∧ D = C) ∨ (k = 1 ∧ D = fun w' => w' = w)) (rest : List (Nat × Nat)) : ∀ (is : List Nat) (a : Act),
    (is.all fun i => match ops[i]? with | some o => plainOp o.op | none => false) = true → wpQuiet P ops D (fun a' => HL P ops C Qn rest a' w) (is.filterMap fun i => ops[i]?) a → HL P ops C Qn (is.map (fun i => (k, i)) ++ rest) a w
  | [], _, _, h => h
  | i :: is, a, hp, h => by
    simp only [List.all_cons, Bool.and_eq_true] at hp
    obtain ⟨h1, h2⟩ := hp
    split at h1
    · rename_i o ho
      simp only [List.filterMap_cons, ho] at h
      have hg : Rd P ops D i (fun a' => HL P ops C Qn (is.map (fun i => (k, i)) ++ rest) a' w) a := by
        unfold wpQuiet at h
        split at h
        · rename_i hw
          obtain ⟨v, hv, hn⟩ := h
          refine ⟨o, v, ho, .inl ⟨hw, fun w0 hD => ?_⟩, reads hk rest is _ h2 hn⟩
          have h3 := hv w0 hD
          unfold Oper.quietAt at h3
          cases hr : (execOp a.eval o).run P w0 with
          | ok n w1 =>
            obtain ⟨u, rfl⟩ := plain_gives (P := P) h1 _ _ _ hr
            rw [hr] at h3
            simp only [Oper.quietUpon] at h3
            rw [h3.1, h3.2]
            exact .inl rfl
          | halt x w1 => rw [hr] at h3; simp only [Oper.quietUpon] at h3
        · rename_i hw
          exact ⟨o, undef, ho, .inr ⟨by simpa using hw, rfl⟩, reads hk rest is _ h2 h⟩
      rcases hk with ⟨rfl, rfl⟩ | ⟨rfl, rfl⟩
      · exact hg
      · exact hg
    · cases h1

/-- A call of a Go function that leaves every world of the class as it was: a read. -/
theorem read_call {Qn : Act → World → Prop} {D : World → Prop} {k : Nat} {w : World} {a : Act} (hk : (k = 0 ∧ D = C) ∨ (k = 1 ∧ D = fun w' => w' = w)) {rest : List (Nat × Nat)} {i : Nat} {o : Oper} (ho : ops[i]? = some o) (hgd : o.guard = none)
    (f : FuncId) {fn : Func} {c : Code} (hf : P.funcs[f]? = some fn) (hname : (fn.name == "runtime.NumGoroutine") = false) (hb : fn.body = some c) (xs : Array Operand) (ats : Array TypeId)
    (hop : o.op = .call { callee := .value (.func f), args := xs, argTypes := ats }) (args : Array Value) (hargs : xs.map a.eval = args) (v : Value)
    (hc : ∀ w', D w' → Calls P f args w' fun e w'' => e = .returned v ∧ w'' = w') (hn : HL P ops C Qn rest (a.put o.dst v) w) : HL P ops C Qn ((k, i) :: rest) a w := by
  have h1 : fn.name ≠ "runtime.NumGoroutine" := by simpa using hname
  have hr : ∀ w', (execOp a.eval o).run P w' = .ok (.enter f args) w' := fun w' => by
    subst hargs
    simp [execOp, hop, resolve, Act.eval, Deferred.ofValue, invoke, callFunc, hf, h1, hb, mark]
  have hg : Rd P ops D i (fun a' => HL P ops C Qn rest a' w) a := ⟨o, v, ho, .inl ⟨by simp [Region.wanted, hgd], fun w0 hD => .inr ⟨f, args, hr w0, hc w0 hD⟩⟩, hn⟩
  rcases hk with ⟨rfl, rfl⟩ | ⟨rfl, rfl⟩
  · exact hg
  · exact hg

/-- The same at one argument. -/
theorem read_call1 {Qn : Act → World → Prop} {D : World → Prop} {k : Nat} {w : World} {a : Act} (hk : (k = 0 ∧ D = C) ∨ (k = 1 ∧ D = fun w' => w' = w)) {rest : List (Nat × Nat)} {i : Nat} {o : Oper} (ho : ops[i]? = some o) (hgd : o.guard = none)
    (f : FuncId) {fn : Func} {c : Code} (hf : P.funcs[f]? = some fn) (hname : (fn.name == "runtime.NumGoroutine") = false) (hb : fn.body = some c) (x : Operand) (ats : Array TypeId)
    (hop : o.op = .call { callee := .value (.func f), args := #[x], argTypes := ats }) (u : Value) (hx : a.eval x = u) (v : Value)
    (hc : ∀ w', D w' → Calls P f #[u] w' fun e w'' => e = .returned v ∧ w'' = w') (hn : HL P ops C Qn rest (a.put o.dst v) w) : HL P ops C Qn ((k, i) :: rest) a w :=
  read_call hk ho hgd f hf hname hb #[x] ats hop #[u] (by simp [hx]) v hc hn

/-- An effect, by the plain walk. -/
theorem effect {Qn : Act → World → Prop} {w : World} {a : Act} {rest : List (Nat × Nat)} {i : Nat} {o : Oper} (ho : ops[i]? = some o) (hg : o.guard = none)
    (h0 : ∀ Q : Exit → Act → World → Prop, (∀ a' w', C w' → HL P ops C Qn rest a' w' → Q .normal a' w') → wpList P ops Q [o] a w) : HL P ops C Qn ((2, i) :: rest) a w := by
  have h := h0 (only fun a' w' => C w' ∧ HL P ops C Qn rest a' w') (fun _ _ h1 h2 => ⟨h1, h2⟩)
  refine ⟨o, ho, ?_⟩
  have hw : Region.wanted o (yielded ops a.tmps) = true := by simp [Region.wanted, hg]
  unfold Ef
  rw [if_pos hw]
  unfold wpList at h
  rw [if_pos hw] at h
  rcases h with h | ⟨_, _, _, hf⟩
  · have hq : ∀ (a' : Act) (w' : World), wpList P ops (only fun a' w' => C w' ∧ HL P ops C Qn rest a' w') [] a' w' → C w' ∧ HL P ops C Qn rest a' w' := fun a' w' hh => hh
    have := Oper.wp_mono hq h
    exact weaken this
  · exact False.elim hf
/-- The same for an effect that has every read of kind 0 behind it. -/
theorem effect_last {Qn : Act → World → Prop} {w : World} {a : Act} {rest : List (Nat × Nat)} {i : Nat} {o : Oper} (ho : ops[i]? = some o) (hg : o.guard = none)
    (h0 : ∀ Q : Exit → Act → World → Prop, (∀ a' w', HL P ops (fun _ => True) Qn rest a' w' → Q .normal a' w') → wpList P ops Q [o] a w) : HL P ops C Qn ((3, i) :: rest) a w := by
  obtain ⟨o', h1, h2⟩ := effect (P := P) (C := fun _ => True) (Qn := Qn) (rest := rest) ho hg (fun Q hQ => h0 Q fun a' w' h => hQ a' w' trivial h)
  exact ⟨o', h1, h2.mono fun _ _ hk => hk.2⟩
theorem read_row {Qn : Act → World → Prop} {w : World} {a : Act} {rest : List (Nat × Nat)} {i : Nat} {o : Oper} (ho : ops[i]? = some o) (hgd : o.guard = none) (ty : TypeId) (x : Operand) (hop : o.op = .load ty x)
    (g : Nat) (hx : a.eval x = .pointer (some ⟨g, 0, none⟩)) (t : TypeId) (cs : Array Value) (d : TypeDesc) (hB : Blk w g t cs)
    (hu : P.underlying ty = some d) (hd : (match d with | .struct _ | .array _ _ => true | _ => false) = true) (hi : (P.info? ty).map (·.size) = some cs.size)
    (hn : HL P ops C Qn rest (a.put o.dst (.agg cs)) w) : HL P ops C Qn ((1, i) :: rest) a w := by
  refine ⟨o, .agg cs, ho, .inl ⟨by simp [Region.wanted, hgd], fun w' h => ?_⟩, hn⟩
  subst h
  refine .inl ?_
  unfold execOp
  simp only [hop, hx, Instr.loadAt, Instr.sureAddr, Sem.run_bind, Sem.run_pure, Result.andThen_ok, run_loadVar_row w' g t ty cs (0, 0) d hB hu hd hi]
theorem read_row0 {Qn : Act → World → Prop} {w : World} {a : Act} {rest : List (Nat × Nat)} {i : Nat} {o : Oper} (ho : ops[i]? = some o) (hgd : o.guard = none) (ty : TypeId) (x : Operand) (hop : o.op = .load ty x)
    (g : Nat) (hx : a.eval x = .pointer (some ⟨g, 0, none⟩)) (t : TypeId) (cs : Array Value) (d : TypeDesc) (hB : ∀ w', C w' → Blk w' g t cs)
    (hu : P.underlying ty = some d) (hd : (match d with | .struct _ | .array _ _ => true | _ => false) = true) (hi : (P.info? ty).map (·.size) = some cs.size)
    (hn : HL P ops C Qn rest (a.put o.dst (.agg cs)) w) : HL P ops C Qn ((0, i) :: rest) a w := by
  refine ⟨o, .agg cs, ho, .inl ⟨by simp [Region.wanted, hgd], fun w' h => ?_⟩, hn⟩
  refine .inl ?_
  unfold execOp
  simp only [hop, hx, Instr.loadAt, Instr.sureAddr, Sem.run_bind, Sem.run_pure, Result.andThen_ok, run_loadVar_row w' g t ty cs (0, 0) d (hB w' h) hu hd hi]
/-- An effect that is guarded and wanted, by the plain walk. -/
theorem effect_w {Qn : Act → World → Prop} {w : World} {a : Act} {rest : List (Nat × Nat)} {i : Nat} {o : Oper} (ho : ops[i]? = some o) (hw : Region.wanted o (yielded ops a.tmps) = true)
    (h0 : ∀ Q : Exit → Act → World → Prop, (∀ a' w', C w' → HL P ops C Qn rest a' w' → Q .normal a' w') → wpList P ops Q [o] a w) : HL P ops C Qn ((2, i) :: rest) a w := by
  have h := h0 (only fun a' w' => C w' ∧ HL P ops C Qn rest a' w') (fun _ _ h1 h2 => ⟨h1, h2⟩)
  refine ⟨o, ho, ?_⟩
  unfold Ef
  rw [if_pos hw]
  unfold wpList at h
  rw [if_pos hw] at h
  rcases h with h | ⟨_, _, _, hf⟩
  · have hq : ∀ (a' : Act) (w' : World), wpList P ops (only fun a' w' => C w' ∧ HL P ops C Qn rest a' w') [] a' w' → C w' ∧ HL P ops C Qn rest a' w' := fun a' w' hh => hh
    have := Oper.wp_mono hq h
    exact weaken this
  · exact False.elim hf
theorem read_row_w {Qn : Act → World → Prop} {w : World} {a : Act} {rest : List (Nat × Nat)} {i : Nat} {o : Oper} (ho : ops[i]? = some o) (hw : Region.wanted o (yielded ops a.tmps) = true) (ty : TypeId) (x : Operand) (hop : o.op = .load ty x)
    (g : Nat) (hx : a.eval x = .pointer (some ⟨g, 0, none⟩)) (t : TypeId) (cs : Array Value) (d : TypeDesc) (hB : Blk w g t cs)
    (hu : P.underlying ty = some d) (hd : (match d with | .struct _ | .array _ _ => true | _ => false) = true) (hi : (P.info? ty).map (·.size) = some cs.size)
    (hn : HL P ops C Qn rest (a.put o.dst (.agg cs)) w) : HL P ops C Qn ((1, i) :: rest) a w := by
  refine ⟨o, .agg cs, ho, .inl ⟨hw, fun w' h => ?_⟩, hn⟩
  subst h
  refine .inl ?_
  unfold execOp
  simp only [hop, hx, Instr.loadAt, Instr.sureAddr, Sem.run_bind, Sem.run_pure, Result.andThen_ok, run_loadVar_row w' g t ty cs (0, 0) d hB hu hd hi]
theorem read_row0_w {Qn : Act → World → Prop} {w : World} {a : Act} {rest : List (Nat × Nat)} {i : Nat} {o : Oper} (ho : ops[i]? = some o) (hw : Region.wanted o (yielded ops a.tmps) = true) (ty : TypeId) (x : Operand) (hop : o.op = .load ty x)
    (g : Nat) (hx : a.eval x = .pointer (some ⟨g, 0, none⟩)) (t : TypeId) (cs : Array Value) (d : TypeDesc) (hB : ∀ w', C w' → Blk w' g t cs)
    (hu : P.underlying ty = some d) (hd : (match d with | .struct _ | .array _ _ => true | _ => false) = true) (hi : (P.info? ty).map (·.size) = some cs.size)
    (hn : HL P ops C Qn rest (a.put o.dst (.agg cs)) w) : HL P ops C Qn ((0, i) :: rest) a w := by
  refine ⟨o, .agg cs, ho, .inl ⟨hw, fun w' h => ?_⟩, hn⟩
  refine .inl ?_
  unfold execOp
  simp only [hop, hx, Instr.loadAt, Instr.sureAddr, Sem.run_bind, Sem.run_pure, Result.andThen_ok, run_loadVar_row w' g t ty cs (0, 0) d (hB w' h) hu hd hi]
end
end MixedC
end Go.Proofs.Ytbfgnlckmpnchaa

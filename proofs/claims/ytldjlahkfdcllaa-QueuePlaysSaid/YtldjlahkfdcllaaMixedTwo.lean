/-
  A REGION THAT DRAWS ITS ORDER, IN WHICH TWO EFFECTS STAND IN NO ORDER (a call, and a new variable's block): two orders of my own, which part at those two, serve every order. Beside Mixed.lean. Nothing of the program is named here.
-/
import Derived.Test.YtldjlahkfdcllaaMixed
namespace Go.Proofs.Ytldjlahkfdcllaa
open Go.RowKit
namespace Mixed
section
variable {P : Program} {ops : Array Oper} {C : World → Prop}

/-- As pairB, but that e stands ahead of f, and of what comes after f, is no matter. -/
def pairB2 (ops : Array Oper) (anc : Array Nat) (e f : Nat) (x y : Nat × Nat) : Bool :=
  match ops[x.2]?, ops[y.2]? with
  | some ox, some oy => (!ox.after.any fun e => Region.binds .any e && e.on == y.2) && (x.2 != y.2) &&
      ((x.2 == e && (y.2 == f || desc anc f y.2)) || (desc anc x.2 y.2 || (decide (x.1 ≤ 1) && ox.apart ops oy && (decide (y.1 ≤ 1) || (decide (x.1 = 0) && decide (y.1 = 2))))))
  | _, _ => false
def pairsB2 (ops : Array Oper) (anc : Array Nat) (e f : Nat) : List (Nat × Nat) → Bool
  | [] => true
  | x :: l => l.all (pairB2 ops anc e f x) && pairsB2 ops anc e f l
theorem pairB2_spec {anc : Array Nat} {e f : Nat} {x y : Nat × Nat} (h : pairB2 ops anc e f x y = true) :
    ∃ ox oy, ops[x.2]? = some ox ∧ ops[y.2]? = some oy ∧ (∀ e ∈ ox.after, Region.binds .any e = true → e.on ≠ y.2) ∧ x.2 ≠ y.2 ∧ ((x.2 = e ∧ (y.2 = f ∨ desc anc f y.2 = true)) ∨ pairB ops anc x y = true) := by
  unfold pairB2 at h
  split at h
  · rename_i ox oy h1 h2
    simp only [Bool.and_eq_true, Bool.or_eq_true, decide_eq_true_eq, bne_iff_ne, Bool.not_eq_true', beq_iff_eq] at h
    obtain ⟨⟨g1, g2⟩, g3⟩ := h
    refine ⟨ox, oy, h1, h2, fun e he hb heq => ?_, g2, ?_⟩
    · have : (ox.after.any fun e => Region.binds .any e && e.on == y.2) = true := Array.any_eq_true'.2 ⟨e, he, by simp [hb, heq]⟩
      rw [this] at g1
      cases g1
    · refine g3.imp id fun g4 => ?_
      unfold pairB
      simp only [h1, h2, Bool.and_eq_true, Bool.or_eq_true, decide_eq_true_eq, bne_iff_ne, Bool.not_eq_true']
      exact ⟨⟨g1, g2⟩, g4⟩
  · cases h
theorem pairsB2_pw {anc : Array Nat} {e f : Nat} : ∀ {l : List (Nat × Nat)}, pairsB2 ops anc e f l = true → l.Pairwise fun x y => pairB2 ops anc e f x y = true
  | [], _ => List.Pairwise.nil
  | x :: l, h => by
    simp only [pairsB2, Bool.and_eq_true, List.all_eq_true] at h
    exact List.Pairwise.cons h.1 (pairsB2_pw h.2)

/-- x comes to the front, past whatever is no ancestor of it. -/
theorem HL.front2 {Qn : Act → World → Prop} {anc : Array Nat} {e f : Nat} (hs : ops.all noSel = true) {x : Nat × Nat} {l2 : List (Nat × Nat)} (hx : x.2 ≠ f) (hx' : desc anc f x.2 = false) : ∀ (l1 : List (Nat × Nat)),
    (l1 ++ x :: l2).Pairwise (fun x y => pairB2 ops anc e f x y = true) → (∀ y ∈ l1, desc anc y.2 x.2 = false) → ∀ (a : Act) (w : World), HL P ops C Qn (l1 ++ x :: l2) a w → HL P ops C Qn (x :: (l1 ++ l2)) a w
  | [], _, _, _, _, h => h
  | y :: l1, hp, hd, a, w, h => by
    simp only [List.cons_append, List.pairwise_cons] at hp
    obtain ⟨_, _, _, _, _, _, g0⟩ := pairB2_spec (hp.1 x (by simp))
    have g0 : pairB ops anc y x = true := g0.resolve_left fun h => h.2.elim hx fun h => by rw [hx'] at h; cases h
    obtain ⟨oy, ox, g1, g2, _, _, g3⟩ := pairB_spec g0
    rw [hd y (by simp)] at g3
    have hy1 : y.1 ≤ 1 := by simp only [Bool.false_eq_true, false_or] at g3; exact g3.1
    have h1 := HL.mono_head hy1 (HL.front2 hs hx hx' l1 hp.2 (fun z hz => hd z (List.mem_cons_of_mem _ hz))) h
    have hsel : ∀ {i : Nat} {o : Oper}, ops[i]? = some o → ∀ cs b, o.op ≠ .select cs b := fun {i o} ho => noSel_spec (Array.all_eq_true_iff_forall_mem.1 hs o (Array.mem_of_getElem? ho))
    simp only [Bool.false_eq_true, false_or] at g3
    exact HL.swap y x g1 g2 (hsel g1) (hsel g2) g3.1 g3.2.1 g3.2.2 h1

/-- A read at the head: its value, in this very world. -/
theorem HL.read_head {Qn : Act → World → Prop} {x : Nat × Nat} {l : List (Nat × Nat)} {a : Act} {w : World} (hx : x.1 ≤ 1) (hC : C w) (h : HL P ops C Qn (x :: l) a w) :
    ∃ o v, ops[x.2]? = some o ∧ ((Region.wanted o (yielded ops a.tmps) = true ∧ (execOp a.eval o).run P w = .ok (.value v) w) ∨ (Region.wanted o (yielded ops a.tmps) = false ∧ v = undef)) ∧ HL P ops C Qn l (a.put o.dst v) w := by
  obtain ⟨k, i⟩ := x
  match k, hx, h with
  | 0, _, ⟨o, v, h1, h2, h3⟩ => exact ⟨o, v, h1, h2.imp (fun g => ⟨g.1, g.2 w hC⟩) id, h3⟩
  | 1, _, ⟨o, v, h1, h2, h3⟩ => exact ⟨o, v, h1, h2.imp (fun g => ⟨g.1, g.2 w rfl⟩) id, h3⟩
  | _ + 2, hx, _ => exact absurd hx (by simp)

theorem un_drop {listed : Array Bool} {l1 l2 : List (Nat × Nat)} {x : Nat × Nat} (hsz : listed.size = ops.size) (hnd : ∀ y ∈ l1 ++ l2, y.2 ≠ x.2)
    (hun : ∀ j, j < ops.size → (listed.getD j false = false ↔ ∃ y ∈ l1 ++ x :: l2, y.2 = j)) : ∀ j, j < ops.size → ((listed.setIfInBounds x.2 true).getD j false = false ↔ ∃ y ∈ l1 ++ l2, y.2 = j) := by
  intro j hj
  have hsub : (l1 ++ l2).Sublist (l1 ++ x :: l2) := List.Sublist.append (List.Sublist.refl _) (List.sublist_cons_self _ _)
  by_cases hjx : x.2 = j
  · subst hjx
    constructor
    · intro h1
      simp [hsz, hj] at h1
    · rintro ⟨y, hy, hye⟩
      exact absurd hye (hnd y hy)
  · rw [getD_set_ne false hjx, hun j hj]
    constructor
    · rintro ⟨y, hy, rfl⟩
      refine ⟨y, ?_, rfl⟩
      simp only [List.mem_append, List.mem_cons] at hy ⊢
      rcases hy with hy | rfl | hy
      · exact .inl hy
      · exact absurd rfl hjx
      · exact .inr hy
    · rintro ⟨y, hy, rfl⟩
      exact ⟨y, hsub.subset hy, rfl⟩

theorem closed_set {listed : Array Bool} {i : Nat} (hc : Closed ops listed) (hi : i ∈ Region.ready .any ops listed) : Closed ops (listed.setIfInBounds i true) := by
  obtain ⟨h0, o, ho, hall⟩ := mem_ready.1 hi
  intro j oj hoj hlj e he hb
  by_cases hjx : i = j
  · subst hjx
    obtain rfl := Option.some.inj (ho.symm.trans hoj)
    exact getD_set_true (hall e he hb)
  · rw [getD_set_ne false hjx] at hlj
    exact getD_set_true (hc j oj hoj hlj e he hb)

/-- What both lists bear. -/
structure Side (P : Program) (ops : Array Oper) (anc : Array Nat) (e f : Nat) (Qn : Act → World → Prop) (n : Nat) (C : World → Prop) (l : List (Nat × Nat)) (listed : Array Bool) (a : Act) (w : World) : Prop where
  len : l.length = n
  pw : l.Pairwise (fun x y => pairB2 ops anc e f x y = true)
  un : ∀ j, j < ops.size → (listed.getD j false = false ↔ ∃ x ∈ l, x.2 = j)
  lt : ∀ x ∈ l, x.2 < ops.size
  kind : ∀ x ∈ l, x.1 ≤ 1 ∨ x.2 = e ∨ x.2 = f ∨ desc anc e x.2 = true ∨ desc anc f x.2 = true
  he : ∃ x ∈ l, x.2 = e
  hf : ∃ x ∈ l, x.2 = f
  cls : C w
  hl : HL P ops C Qn l a w

theorem Side.lost {anc : Array Nat} {e f n : Nat} {Qn : Act → World → Prop} {l1 l2 : List (Nat × Nat)} {x : Nat × Nat} {listed : Array Bool} {a : Act} {w : World}
    (h : Side P ops anc e f Qn n C (l1 ++ x :: l2) listed a w) : ∀ y ∈ l1 ++ l2, y.2 ≠ x.2 := by
  intro y hy
  have hp := h.pw
  rcases List.mem_append.1 hy with hy | hy
  · have := (List.pairwise_append.1 hp).2.2 y hy x (by simp)
    obtain ⟨_, _, _, _, _, g, _⟩ := pairB2_spec this
    exact g
  · have := (List.pairwise_cons.1 (List.pairwise_append.1 hp).2.1).1 y hy
    obtain ⟨_, _, _, _, _, g, _⟩ := pairB2_spec this
    exact fun e => g e.symm

theorem front_of {anc : Array Nat} {e f n : Nat} {Qn : Act → World → Prop} {l : List (Nat × Nat)} {listed : Array Bool} {a : Act} {w : World} (hs : ops.all noSel = true) (hA : ancB ops anc = true) (hc : Closed ops listed)
    (h : Side P ops anc e f Qn n C l listed a w) {i : Nat} (hi : i ∈ Region.ready .any ops listed) (hif : i ≠ f) : ∃ x l1 l2, x.2 = i ∧ l = l1 ++ x :: l2 ∧ HL P ops C Qn (x :: (l1 ++ l2)) a w := by
  obtain ⟨h0, o, ho, hall⟩ := mem_ready.1 hi
  have his : i < ops.size := (Array.getElem?_eq_some_iff.1 ho).1
  have hu : listed.getD i false = false := by
    rw [Array.getD_eq_getD_getElem?] at *
    cases hq : listed[i]? with
    | none => rfl
    | some b => rw [hq] at h0; simpa using h0
  obtain ⟨x, hx, rfl⟩ := (h.un i his).1 hu
  obtain ⟨l1, l2, rfl⟩ := List.append_of_mem hx
  have hnf : desc anc f x.2 = false := by
    cases hd : desc anc f x.2 with
    | false => rfl
    | true =>
      obtain ⟨y, hy, rfl⟩ := h.hf
      have hys := h.lt y hy
      have h1 := anc_ready hA hc hi hys hd
      have h2 := (h.un y.2 hys).2 ⟨y, hy, rfl⟩
      rw [h1] at h2
      cases h2
  refine ⟨x, l1, l2, rfl, rfl, HL.front2 hs hif hnf l1 h.pw (fun y hy => ?_) a w h.hl⟩
  cases hd : desc anc y.2 x.2 with
  | false => rfl
  | true =>
    have hys := h.lt y (by simp [hy])
    have h1 := anc_ready hA hc hi hys hd
    have h2 := (h.un y.2 hys).2 ⟨y, by simp [hy], rfl⟩
    rw [h1] at h2
    cases h2

/-- The head e of a list is carried out; what stays is a list as Mixed's. -/
theorem side_e {Q : Exit → Act → World → Prop} {anc : Array Nat} {e f n : Nat} {l : List (Nat × Nat)} {listed : Array Bool} {a : Act} {w : World} (hs : ops.all noSel = true) (hA : ancB ops anc = true)
    (hin : ∀ (i : Nat) (o : Oper), ops[i]? = some o → ∀ e ∈ o.after, Region.binds .any e = true → e.on < ops.size ∧ e.on ≠ i) (hc : Closed ops listed) (hsz : listed.size = ops.size)
    (h : Side P ops anc e f (Q .normal) (n + 1) C l listed a w) (hi : e ∈ Region.ready .any ops listed) (hef : e ≠ f) : wpOp P ops Q e (wpAny P .any ops Q n (listed.setIfInBounds e true)) a w := by
  obtain ⟨x, l1, l2, rfl, rfl, hfr⟩ := front_of hs hA hc h hi hef
  refine head_step h.cls (fun C' a' w' hC' hh => ?_) hfr
  have hnd := h.lost
  have hsub : (l1 ++ l2).Sublist (l1 ++ x :: l2) := List.Sublist.append (List.Sublist.refl _) (List.sublist_cons_self _ _)
  have hl := h.len
  have hp : (l1 ++ l2).Pairwise (fun x y => pairB ops anc x y = true) :=
    (List.Pairwise.and_mem.1 (h.pw.sublist hsub)).imp fun {y z} hh => by
      obtain ⟨_, _, _, _, _, _, g⟩ := pairB2_spec hh.2.2
      exact g.resolve_left fun g => hnd y hh.1 g.1
  exact HL_any hs hA hin n C' (l1 ++ l2) _ a' w' (by simp at hl ⊢; omega) (by simpa using hsz) hp (un_drop hsz hnd h.un) (fun y hy => h.lt y (hsub.subset hy)) (closed_set hc hi) hC' hh

theorem HL_any2 {Q : Exit → Act → World → Prop} {anc : Array Nat} {e f : Nat} {C1 C2 : World → Prop} (hef : e ≠ f) (hs : ops.all noSel = true) (hA : ancB ops anc = true)
    (hin : ∀ (i : Nat) (o : Oper), ops[i]? = some o → ∀ e ∈ o.after, Region.binds .any e = true → e.on < ops.size ∧ e.on ≠ i) :
    ∀ (n : Nat) (l l' : List (Nat × Nat)) (listed : Array Bool) (a : Act) (w : World), listed.size = ops.size → Closed ops listed → Side P ops anc e f (Q .normal) n C1 l listed a w → Side P ops anc f e (Q .normal) n C2 l' listed a w →
      wpAny P .any ops Q n listed a w := by
  intro n
  induction n with
  | zero =>
    intro l l' listed a w _ _ h _
    obtain ⟨x, hx, _⟩ := h.he
    obtain rfl : l = [] := List.eq_nil_of_length_eq_zero h.len
    cases hx
  | succ n ih =>
    intro l l' listed a w hsz hc h h'
    refine ⟨fun h0 => ?_, fun i hi => ?_⟩
    · exfalso
      match l, h with
      | [], h => have := h.len; simp at this
      | x :: l, h =>
        have hx : x.2 ∈ Region.ready .any ops listed := by
          have hxs := h.lt x (by simp)
          have hu : listed.getD x.2 false = false := (h.un _ hxs).2 ⟨x, by simp, rfl⟩
          refine mem_ready.2 ⟨by simp [hsz, hxs] at hu ⊢; exact hu, ops[x.2], Array.getElem?_eq_getElem hxs, fun e he hb => ?_⟩
          have hes := hin _ _ (Array.getElem?_eq_getElem hxs) e he hb
          cases hle : listed.getD e.on false with
          | true => rfl
          | false =>
            obtain ⟨y, hy, hye⟩ := (h.un _ hes.1).1 hle
            rcases List.mem_cons.1 hy with rfl | hy
            · exact absurd hye.symm hes.2
            · have hpr := (List.pairwise_cons.1 h.pw).1 y hy
              obtain ⟨ox, oy, g1, g2, g3, _⟩ := pairB2_spec hpr
              have : ox = ops[x.2] := by rw [Array.getElem?_eq_getElem hxs] at g1; exact (Option.some.inj g1).symm
              subst this
              exact absurd hye.symm (g3 e he hb)
        rw [h0] at hx
        cases hx
    · by_cases hie : i = e
      · subst hie
        exact side_e hs hA hin hc hsz h hi hef
      by_cases hif : i = f
      · subst hif
        exact side_e hs hA hin hc hsz h' hi (Ne.symm hef)
      obtain ⟨x, l1, l2, rfl, rfl, hfr⟩ := front_of hs hA hc h hi hif
      obtain ⟨x', l1', l2', hxx, rfl, hfr'⟩ := front_of hs hA hc h' hi hie
      have notAnc : ∀ j, (∃ y ∈ l1 ++ x :: l2, y.2 = j) → desc anc j x.2 = true → False := fun j hj hd => by
        obtain ⟨y, hy, rfl⟩ := hj
        have hys := h.lt y hy
        have h1 := anc_ready hA hc hi hys hd
        have h2 := (h.un y.2 hys).2 ⟨y, hy, rfl⟩
        rw [h1] at h2
        cases h2
      have hx1 : x.1 ≤ 1 := by
        rcases h.kind x (by simp) with g | g | g | g | g
        · exact g
        · exact absurd g hie
        · exact absurd g hif
        · exact (notAnc e h.he g).elim
        · exact (notAnc f h.hf g).elim
      have hx1' : x'.1 ≤ 1 := by
        rcases h'.kind x' (by simp) with g | g | g | g | g
        · exact g
        · exact absurd (hxx.symm.trans g) hif
        · exact absurd (hxx.symm.trans g) hie
        · exact (notAnc f h.hf (by rw [← hxx]; exact g)).elim
        · exact (notAnc e h.he (by rw [← hxx]; exact g)).elim
      obtain ⟨o, v, ho, hv, hn⟩ := HL.read_head hx1 h.cls hfr
      obtain ⟨o', v', ho', hv', hn'⟩ := HL.read_head hx1' h'.cls hfr'
      rw [hxx] at ho'
      obtain rfl := Option.some.inj (ho.symm.trans ho')
      have hvv : v = v' := by
        rcases hv with ⟨g1, g2⟩ | ⟨g1, g2⟩ <;> rcases hv' with ⟨g3, g4⟩ | ⟨g3, g4⟩
        · have g5 := g2.symm.trans g4
          injection g5 with g5 _
          injection g5
        · rw [g1] at g3; cases g3
        · rw [g1] at g3; cases g3
        · rw [g2, g4]
      subst hvv
      have hK : wpAny P .any ops Q n (listed.setIfInBounds x.2 true) (a.put o.dst v) w := by
        have side : ∀ {e f : Nat} {C : World → Prop} {z : Nat × Nat} {m1 m2 : List (Nat × Nat)}, z.2 = x.2 → x.2 ≠ e → x.2 ≠ f → Side P ops anc e f (Q .normal) (n + 1) C (m1 ++ z :: m2) listed a w → HL P ops C (Q .normal) (m1 ++ m2) (a.put o.dst v) w →
            Side P ops anc e f (Q .normal) n C (m1 ++ m2) (listed.setIfInBounds x.2 true) (a.put o.dst v) w := by
          intro e f C z m1 m2 hz hze hzf g gl
          have hsub : (m1 ++ m2).Sublist (m1 ++ z :: m2) := List.Sublist.append (List.Sublist.refl _) (List.sublist_cons_self _ _)
          have hl := g.len
          have stays : ∀ k, x.2 ≠ k → (∃ y ∈ m1 ++ z :: m2, y.2 = k) → ∃ y ∈ m1 ++ m2, y.2 = k := by
            rintro k hk ⟨y, hy, rfl⟩
            refine ⟨y, ?_, rfl⟩
            simp only [List.mem_append, List.mem_cons] at hy ⊢
            rcases hy with hy | rfl | hy
            · exact .inl hy
            · exact absurd hz.symm hk
            · exact .inr hy
          exact ⟨by simp at hl ⊢; omega, g.pw.sublist hsub, by rw [← hz]; exact un_drop hsz g.lost g.un, fun y hy => g.lt y (hsub.subset hy), fun y hy => g.kind y (hsub.subset hy), stays e hze g.he, stays f hzf g.hf, g.cls, gl⟩
        exact ih _ _ _ _ _ (by simpa using hsz) (closed_set hc hi) (side rfl hie hif h hn) (side hxx hif hie h' hn')
      unfold wpOp
      simp only [ho]
      rcases hv with ⟨hw, hr⟩ | ⟨hw, rfl⟩
      · rw [if_pos hw]
        refine .inl ?_
        unfold Oper.wp
        rw [hr]
        exact hK
      · rw [if_neg (by rw [hw]; exact Bool.false_ne_true)]
        exact hK

def okB2 (ops : Array Oper) (e f : Nat) (ord : List (Nat × Nat)) : Bool :=
  let anc := Region.before ops
  ancB ops anc && pairsB2 ops anc e f ord && inB ops ord && ((ord.any fun x => x.2 == e) && (ord.any fun x => x.2 == f) && (e != f) && ord.all fun x => decide (x.1 ≤ 1) || x.2 == e || x.2 == f || desc anc e x.2 || desc anc f x.2)

theorem side_of {Qn : Act → World → Prop} {e f : Nat} {a : Act} {w : World} {ord : List (Nat × Nat)} (hB : okB2 ops e f ord = true) (hC : C w) (h : HL P ops C Qn ord a w) :
    Side P ops (Region.before ops) e f Qn ord.length C ord (Array.replicate ops.size false) a w := by
  simp only [okB2, Bool.and_eq_true] at hB
  obtain ⟨⟨⟨hA, hp⟩, hi⟩, hk⟩ := hB
  simp only [inB, Bool.and_eq_true, decide_eq_true_eq, List.all_eq_true, List.mem_range, List.any_eq_true, beq_iff_eq] at hi
  obtain ⟨⟨⟨⟨hs, hlen⟩, hall⟩, hlt⟩, hon⟩ := hi
  simp only [List.all_eq_true, List.any_eq_true, beq_iff_eq, Bool.or_eq_true, decide_eq_true_eq] at hk
  refine ⟨rfl, pairsB2_pw hp, fun j hj => ?_, hlt, fun x hx => ?_, hk.1.1.1, hk.1.1.2, hC, h⟩
  · simp [hj]
    obtain ⟨x, hx, hxj⟩ := hall j hj
    exact ⟨x.1, by rw [← hxj]; exact hx⟩
  · rcases hk.2 x hx with (((g | g) | g) | g) | g
    · exact .inl g
    · exact .inr (.inl g)
    · exact .inr (.inr (.inl g))
    · exact .inr (.inr (.inr (.inl g)))
    · exact .inr (.inr (.inr (.inr g)))

/-- **A REGION THAT DRAWS ITS ORDER, WITH TWO EFFECTS e AND f IN NO ORDER**: a walk with e ahead of f, and one with f ahead of e, serve every order. -/
theorem wp_region2 {id : Nat} {Q : Exit → Act → World → Prop} {a : Act} {w : World} (C1 C2 : World → Prop) (e f : Nat) (ord1 ord2 : List (Nat × Nat)) (hm : P.follows .mixedOrders = true) (hB1 : okB2 ops e f ord1 = true) (hB2 : okB2 ops f e ord2 = true)
    (hC1 : C1 w.drew) (hC2 : C2 w.drew) (h1 : HL P ops C1 (Q .normal) ord1 a w.drew) (h2 : HL P ops C2 (Q .normal) ord2 a w.drew) : (Code.region id ops true).wp P Q a w := by
  have hS1 := side_of hB1 hC1 h1
  have hS2 := side_of hB2 hC2 h2
  have hB1' := hB1
  have hB2' := hB2
  simp only [okB2, Bool.and_eq_true] at hB1' hB2'
  obtain ⟨⟨⟨hA, _⟩, hi⟩, hk⟩ := hB1'
  obtain ⟨⟨_, hi2⟩, _⟩ := hB2'
  have hef : e ≠ f := by simpa using hk.1.2
  simp only [inB, Bool.and_eq_true, decide_eq_true_eq, List.all_eq_true, List.mem_range, List.any_eq_true, beq_iff_eq] at hi hi2
  obtain ⟨⟨⟨⟨hs, hlen⟩, hall⟩, hlt⟩, hon⟩ := hi
  obtain ⟨⟨⟨⟨_, hlen2⟩, _⟩, _⟩, _⟩ := hi2
  rw [hlen] at hS1
  rw [hlen2] at hS2
  refine wp_region_any hm ?_
  refine HL_any2 hef hs hA (fun i o ho e he hb => ?_) ops.size ord1 ord2 _ a w.drew (by simp) (fun j o _ hl => ?_) hS1 hS2
  · have h1 := hon i (Array.getElem?_eq_some_iff.1 ho).1
    simp only [ho] at h1
    have h2 := Array.all_eq_true_iff_forall_mem.1 h1 e he
    simp only [hb, Bool.not_true, Bool.false_or, Bool.and_eq_true, decide_eq_true_eq, bne_iff_ne] at h2
    exact h2
  · by_cases hj : j < ops.size
    · simp [hj] at hl
    · simp [hj] at hl
end
end Mixed
end Go.Proofs.Ytldjlahkfdcllaa

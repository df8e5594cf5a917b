/-
  queue: the document's two lists (causeyref24): what its Take and Put compute.
-/
import Derived.Test.YtldjlahkfdcllaaQAwake
import Derived.Test.YtldjlahkfdcllaaOwnSrc
namespace Go.Proofs.Ytldjlahkfdcllaa
open Go.RowKit

theorem results_c3 {fn : Func} {p t u v : Tmp} {ty : TypeId} (h : fn.results = #[.cell p ty, .tmp t, .tmp u, .tmp v]) {P : Program} (tmps : Array Value) (w : World) (g : Nat) (ct : TypeId) (cs : Array Value) (fs : Array Field)
    (hp : tmps.getD p undef = .pointer (some ⟨g, 0, none⟩)) (hg : Blk w g ct cs)
    (hu : P.underlying ty = some (.struct fs)) (hi : (P.info? ty).map (·.size) = some cs.size) :
    (results fn tmps).run P w = .ok (.tuple #[.agg cs, tmps.getD t undef, tmps.getD u undef, tmps.getD v undef]) w := by
  have hp' : tmps[p]?.getD undef = .pointer (some ⟨g, 0, none⟩) := by simpa using hp
  simp [results, h, hp', asAddr, run_loadVar_row w g ct ty cs _ _ hg hu rfl hi]
theorem results_c1 {fn : Func} {p t : Tmp} {ty : TypeId} (h : fn.results = #[.cell p ty, .tmp t]) {P : Program} (tmps : Array Value) (w : World) (g : Nat) (ct : TypeId) (cs : Array Value) (fs : Array Field)
    (hp : tmps.getD p undef = .pointer (some ⟨g, 0, none⟩)) (hg : Blk w g ct cs)
    (hu : P.underlying ty = some (.struct fs)) (hi : (P.info? ty).map (·.size) = some cs.size) :
    (results fn tmps).run P w = .ok (.tuple #[.agg cs, tmps.getD t undef]) w := by
  have hp' : tmps[p]?.getD undef = .pointer (some ⟨g, 0, none⟩) := by simpa using hp
  simp [results, h, hp', asAddr, run_loadVar_row w g ct ty cs _ _ hg hu rfl hi]

theorem own_fresh {w : World} {base g : Nat} (h1 : base ≤ g) (h2 : g < w.heap.size) : Own w base (.slice (some ⟨g, 0, none⟩) 0 0) [] :=
  .inr ⟨g, 0, 0, rfl, h1, h2, Nat.le_refl _, Nat.zero_le _, fun j hj => by omega, fun i u hu => by cases hu⟩
/-- Two blocks of the call's own, at b and b + 1, as they are held while rows behind them grow. -/
structure Two (w w' : World) (cs cs' : Array Value) : Prop where
  one : Blk w' w.heap.size 37 cs
  two : Blk w' (w.heap.size + 1) 37 cs'
  bel : Below w.heap.size w w'
  size : w.heap.size + 2 ≤ w'.heap.size
theorem Two.grown {w w' w'' : World} {cs cs' : Array Value} {v : Value} (h : Two w w' cs cs') (o : Obj) (hg : (w'.alloc o).grownBy w'' v.ownBlock) (hv : ∀ k, v.ownBlock = some k → w.heap.size + 2 ≤ k) : Two w w'' cs cs' := by
  have hs := h.size
  have h1 := hg.size
  simp at h1
  refine ⟨(h.one.alloc o).grown hg (fun e => ?_), (h.two.alloc o).grown hg (fun e => ?_), (h.bel.alloc (by omega) o).grown hg (by simp; omega) (fun k hk => by have := hv k hk; omega), by omega⟩
  · have := hv _ e.symm; omega
  · have := hv _ e.symm; omega
theorem made2 (w : World) (o : Obj) (t : TypeId) (cs : Array Value) : Blk ((w.alloc o).alloc (.cells cs t)) (w.heap.size + 1) t cs := by
  have := Blk.made (w.alloc o) t cs
  simpa using this
theorem below3 (w : World) (o o' o'' : Obj) : Below w.heap.size w (((w.alloc o).alloc o').alloc o'') := (((Below.refl _ _).alloc (Nat.le_refl _) _).alloc (by simp) _).alloc (by simp; omega) _
theorem two_made (w : World) (cs cs' : Array Value) : Two w ((w.alloc (.cells cs 37)).alloc (.cells cs' 37)) cs cs' :=
  ⟨(Blk.made w 37 cs).alloc _, made2 w _ 37 cs', ((Below.refl _ _).alloc (Nat.le_refl _) _).alloc (by simp) _, by simp⟩
theorem own_set2 {wr : World} {base N : Nat} {v : Value} {xs : List Value} (h : Own wr base v xs) (hv : ∀ k, v.ownBlock = some k → N + 2 ≤ k) (g i : Nat) (hp : g < N + 2) (u : Value) : Own (wr.setCell ⟨g, i, none⟩ u) base v xs :=
  h.setCell (fun e => by have := hv g e; omega) u
theorem below2 (w : World) (o o' : Obj) : Below w.heap.size w ((w.alloc o).alloc o') := ((Below.refl _ _).alloc (Nat.le_refl _) _).alloc (by simp) _

theorem rtake_c (x : Int) (g off m c n cc : Nat) (a : Option Addr) (dr : Nat) (w : World) (hm : m + 1 ≤ c) (hx : w.cell? ⟨g, off, none⟩ = some (.int .i64 x)) (hg : g < w.heap.size) :
    Calls Try.prog 12 #[.agg #[.slice (some ⟨g, off, none⟩) (m + 1) c, .slice a n cc, .int .i64 dr]] w fun e w' =>
      e = .returned (.tuple #[.agg #[tailOf g off m c, .slice a n cc, .int .i64 dr], .int .i64 x, .bool true, .bool true]) ∧ Below w.heap.size w w' := by
  unfold tailOf
  by_cases h1 : 1 < c
  all_goals
    simp only [h1, if_true, if_false]
    go_enter Try.func12, Try.ntmps12
    go_wp2_with fail
    refine bodyPost_ret (results_c3 rfl _ _ (w.heap.size + 1) 37 _ _ rfl (made2 w _ 37 _) Try.underlying37 (by kernel_rfl)) rfl ?_
    exact ⟨rfl, below2 _ _ _⟩

theorem rtake_d (x : Int) (g off m c cc : Nat) (a : Option Addr) (dr : Nat) (w : World) (hm : m + 1 ≤ c) (hx : w.cell? ⟨g, off, none⟩ = some (.int .i64 x)) (hg : g < w.heap.size) :
    Calls Try.prog 12 #[.agg #[.slice a 0 cc, .slice (some ⟨g, off, none⟩) (m + 1) c, .int .i64 dr]] w fun e w' =>
      e = .returned (.tuple #[.agg #[.slice a 0 cc, tailOf g off m c, .int .i64 dr], .int .i64 x, .bool false, .bool true]) ∧ Below w.heap.size w w' := by
  unfold tailOf
  by_cases h1 : 1 < c
  all_goals
    simp only [h1, if_true, if_false]
    go_enter Try.func12, Try.ntmps12
    go_wp2_with fail
    refine bodyPost_ret (results_c3 rfl _ _ (w.heap.size + 1) 37 _ _ rfl (made2 w _ 37 _) Try.underlying37 (by kernel_rfl)) rfl ?_
    exact ⟨rfl, below2 _ _ _⟩

theorem rtake_none (c cc : Nat) (a a' : Option Addr) (dr : Nat) (w : World) :
    Calls Try.prog 12 #[.agg #[.slice a 0 c, .slice a' 0 cc, .int .i64 dr]] w fun e w' =>
      e = .returned (.tuple #[.agg #[.slice a 0 c, .slice a' 0 cc, .int .i64 dr], .int .i64 0, .bool false, .bool false]) ∧ Below w.heap.size w w' := by
    go_enter Try.func12, Try.ntmps12
    go_wp2_with fail
    refine bodyPost_ret (results_c3 rfl _ _ (w.heap.size + 1) 37 _ _ rfl (made2 w _ 37 _) Try.underlying37 (by kernel_rfl)) rfl ?_
    exact ⟨rfl, below2 _ _ _⟩


set_option maxHeartbeats 1000000 in
theorem rput_c (lim : Nat) (x : Int) (a a' : Option Addr) (n c n' c' base : Nat) (dr : Nat) (xs : List Value) (w : World) (h : Own w base (.slice a n c) xs) (hn : xs.length = n) (h1 : ∀ u ∈ xs, u.oneCell' = true) (hl : n < lim) (hlim : lim ≤ 65536) :
    Calls Try.prog 13 #[.agg #[.slice a n c, .slice a' n' c', .int .i64 dr], .int .i64 lim, .bool true, .int .i64 x] w fun e w' =>
      ∃ v, e = .returned (.tuple #[.agg #[v, .slice a' n' c', .int .i64 dr], .bool false]) ∧ Own w' w.heap.size v (xs ++ [.int .i64 x]) ∧ Below w.heap.size w w' := by
  obtain ⟨i0, hi, hz0, hz1, hz2⟩ := info_parts info3
  have hnew : ∀ wz : World, (wz.alloc (.cells #[.int .i64 x] 3)).cell? ⟨wz.heap.size, 0, none⟩ = some (.int .i64 x) := fun wz => (Blk.made wz 3 #[.int .i64 x]).at_ rfl
  have dl : decide ((n : Int) < (lim : Int)) = true := by simp; omega
  go_enter Try.func13, Try.ntmps13
  go_wp2_with (at_builtin; first
    | (refine wpList_append_src _ rfl (.tmp 18) (.tmp 20) 28 28 rfl w.heap.size 3 i0 (.int .i64 0) 8 Try.underlying28 hi hz0 hz1 hz2 rfl (.slice (some ⟨w.heap.size + 1 + 1, 0, none⟩) 0 0) [] rfl (own_fresh (by omega) (by first | omega | (simp; done) | (simp; omega))) (.slice a n c) xs.length xs rfl ((h.below (below3 w _ _ _)).src Try.underlying28 h1) (by first | omega | (simp; omega)) (by omega) (by first | omega | (simp; omega)) ?_
       intro v4 w4 hown4 hg4 hv4
       rw [List.nil_append] at hown4
       have h4 := (two_made w #[.slice a n c, .slice a' n' c', .int .i64 dr] #[.slice none 0 0, .slice none 0 0, .int .i64 0]).grown _ hg4 (fun k hk => by have hk' : some (w.heap.size + 1 + 1) = some k := hk; injection hk' with hk'; omega)
       have hv4' : ∀ k, v4.ownBlock = some k → w.heap.size + 2 ≤ k := fun k hk => by
         rcases hv4 k hk with h2 | h2
         · have h2' : some (w.heap.size + 1 + 1) = some k := h2
           injection h2' with h2'; omega
         · simp at h2; omega
       obtain ⟨a4, cap4, ev, -, -, -⟩ := hown4.form
       rw [hn] at ev
       subst ev
       have HV4 := keep hv4'
       clear hg4 hv4 hv4')
    | (refine wpList_append_one _ rfl (.tmp 21) (.tmp 23) 28 rfl w.heap.size 3 i0 (.int .i64 0) 8 Try.underlying28 hi hz0 hz1 hz2 rfl (.slice a4 n cap4) xs rfl (hown4.alloc _) w4.heap.size 1 (.int .i64 x) rfl (hnew _) rfl (by omega) (by omega) (by have := h4.size; first | omega | (simp; omega)) ?_
       intro v5 w5 hown5 hg5 hv5
       have h5 := h4.grown _ hg5 HV4.out
       have hvv5 : ∀ k, v5.ownBlock = some k → w.heap.size + 2 ≤ k := fun k hk => (hv5 k hk).elim (HV4.out k) (fun h2 => by have := h4.size; simp at h2; omega)
       obtain ⟨a5, cap5, ev, -, -, -⟩ := hown5.form
       rw [List.length_append, List.length_singleton, hn] at ev
       subst ev
       have c0 := h5.one.at_ (i := 0) rfl
       have c1 := h5.one.at_ (i := 1) rfl
       have c2 := h5.one.at_ (i := 2) rfl
       have f0 := h5.one.free 0
       have r0 := h5.two.at_ (i := 0) rfl
       have r1 := h5.two.at_ (i := 1) rfl
       have r2 := h5.two.at_ (i := 2) rfl
       have g0 := h5.two.free 0
       have g1 := h5.two.free 1
       have g2 := h5.two.free 2
       have hown6 := keep (own_set2 (own_set2 (own_set2 (own_set2 hown5 hvv5 w.heap.size 0 (by omega) (.slice a5 (n + 1) cap5)) hvv5 (w.heap.size + 1) 0 (by omega) (.slice a5 (n + 1) cap5)) hvv5 (w.heap.size + 1) 1 (by omega) (.slice a' n' c')) hvv5 (w.heap.size + 1) 2 (by omega) (.int .i64 dr))
       clear hg5 hv5 HV4 hvv5 hown5))
  have hne : w.heap.size + 1 ≠ w.heap.size := by omega
  refine bodyPost_ret (results_c1 rfl _ _ (w.heap.size + 1) 37 _ _ rfl ((((h5.two.other hne _).set 0 _).set 1 _).set 2 _) Try.underlying37 (by kernel_rfl)) rfl ?_
  have hs5 := h5.size
  refine ⟨_, rfl, hown6.out, (((h5.bel.setCell (Nat.le_refl _) _).setCell (by simp) _).setCell (by simp) _).setCell (by simp) _⟩

set_option maxHeartbeats 1000000 in
theorem rput_d (lim : Nat) (x : Int) (a a' : Option Addr) (n c n' c' base : Nat) (dr : Nat) (xs : List Value) (w : World) (h : Own w base (.slice a' n' c') xs) (hn : xs.length = n') (h1 : ∀ u ∈ xs, u.oneCell' = true) (hl : n' < lim) (hlim : lim ≤ 65536) :
    Calls Try.prog 13 #[.agg #[.slice a n c, .slice a' n' c', .int .i64 dr], .int .i64 lim, .bool false, .int .i64 x] w fun e w' =>
      ∃ v, e = .returned (.tuple #[.agg #[.slice a n c, v, .int .i64 dr], .bool false]) ∧ Own w' w.heap.size v (xs ++ [.int .i64 x]) ∧ Below w.heap.size w w' := by
  obtain ⟨i0, hi, hz0, hz1, hz2⟩ := info_parts info3
  have hnew : ∀ wz : World, (wz.alloc (.cells #[.int .i64 x] 3)).cell? ⟨wz.heap.size, 0, none⟩ = some (.int .i64 x) := fun wz => (Blk.made wz 3 #[.int .i64 x]).at_ rfl
  have dl : decide ((n' : Int) < (lim : Int)) = true := by simp; omega
  go_enter Try.func13, Try.ntmps13
  go_wp2_with (at_builtin; first
    | (refine wpList_append_src _ rfl (.tmp 36) (.tmp 38) 28 28 rfl w.heap.size 3 i0 (.int .i64 0) 8 Try.underlying28 hi hz0 hz1 hz2 rfl (.slice (some ⟨w.heap.size + 1 + 1, 0, none⟩) 0 0) [] rfl (own_fresh (by omega) (by first | omega | (simp; done) | (simp; omega))) (.slice a' n' c') xs.length xs rfl ((h.below (below3 w _ _ _)).src Try.underlying28 h1) (by first | omega | (simp; omega)) (by omega) (by first | omega | (simp; omega)) ?_
       intro v4 w4 hown4 hg4 hv4
       rw [List.nil_append] at hown4
       have h4 := (two_made w #[.slice a n c, .slice a' n' c', .int .i64 dr] #[.slice none 0 0, .slice none 0 0, .int .i64 0]).grown _ hg4 (fun k hk => by have hk' : some (w.heap.size + 1 + 1) = some k := hk; injection hk' with hk'; omega)
       have hv4' : ∀ k, v4.ownBlock = some k → w.heap.size + 2 ≤ k := fun k hk => by
         rcases hv4 k hk with h2 | h2
         · have h2' : some (w.heap.size + 1 + 1) = some k := h2
           injection h2' with h2'; omega
         · simp at h2; omega
       obtain ⟨a4, cap4, ev, -, -, -⟩ := hown4.form
       rw [hn] at ev
       subst ev
       have HV4 := keep hv4'
       clear hg4 hv4 hv4')
    | (refine wpList_append_one _ rfl (.tmp 39) (.tmp 41) 28 rfl w.heap.size 3 i0 (.int .i64 0) 8 Try.underlying28 hi hz0 hz1 hz2 rfl (.slice a4 n' cap4) xs rfl (hown4.alloc _) w4.heap.size 1 (.int .i64 x) rfl (hnew _) rfl (by omega) (by omega) (by have := h4.size; first | omega | (simp; omega)) ?_
       intro v5 w5 hown5 hg5 hv5
       have h5 := h4.grown _ hg5 HV4.out
       have hvv5 : ∀ k, v5.ownBlock = some k → w.heap.size + 2 ≤ k := fun k hk => (hv5 k hk).elim (HV4.out k) (fun h2 => by have := h4.size; simp at h2; omega)
       obtain ⟨a5, cap5, ev, -, -, -⟩ := hown5.form
       rw [List.length_append, List.length_singleton, hn] at ev
       subst ev
       have c0 := h5.one.at_ (i := 0) rfl
       have c1 := h5.one.at_ (i := 1) rfl
       have c2 := h5.one.at_ (i := 2) rfl
       have f0 := h5.one.free 1
       have r0 := h5.two.at_ (i := 0) rfl
       have r1 := h5.two.at_ (i := 1) rfl
       have r2 := h5.two.at_ (i := 2) rfl
       have g0 := h5.two.free 0
       have g1 := h5.two.free 1
       have g2 := h5.two.free 2
       have hown6 := keep (own_set2 (own_set2 (own_set2 (own_set2 hown5 hvv5 w.heap.size 1 (by omega) (.slice a5 (n' + 1) cap5)) hvv5 (w.heap.size + 1) 0 (by omega) (.slice a n c)) hvv5 (w.heap.size + 1) 1 (by omega) (.slice a5 (n' + 1) cap5)) hvv5 (w.heap.size + 1) 2 (by omega) (.int .i64 dr))
       clear hg5 hv5 HV4 hvv5 hown5))
  have hne : w.heap.size + 1 ≠ w.heap.size := by omega
  refine bodyPost_ret (results_c1 rfl _ _ (w.heap.size + 1) 37 _ _ rfl ((((h5.two.other hne _).set 0 _).set 1 _).set 2 _) Try.underlying37 (by kernel_rfl)) rfl ?_
  have hs5 := h5.size
  refine ⟨_, rfl, hown6.out, (((h5.bel.setCell (Nat.le_refl _) _).setCell (by simp) _).setCell (by simp) _).setCell (by simp) _⟩

theorem rfull_c (lim : Nat) (x : Value) (a a' : Option Addr) (n c n' c' : Nat) (dr : Nat) (w : World) (hl : lim ≤ n) (hd : dr < 1099511627776) :
    Calls Try.prog 13 #[.agg #[.slice a n c, .slice a' n' c', .int .i64 dr], .int .i64 lim, .bool true, x] w fun e w' =>
      e = .returned (.tuple #[.agg #[.slice a n c, .slice a' n' c', .int .i64 (dr + 1 : Nat)], .bool true]) ∧ Below w.heap.size w w' := by
  have dl : decide ((n : Int) < (lim : Int)) = false := by simp; omega
  go_enter Try.func13, Try.ntmps13
  go_wp2_with fail
  refine bodyPost_ret (results_c1 rfl _ _ (w.heap.size + 1) 37 _ _ rfl (made2 w _ 37 _) Try.underlying37 (by kernel_rfl)) rfl ?_
  exact ⟨rfl, below2 _ _ _⟩

theorem rfull_d (lim : Nat) (x : Value) (a a' : Option Addr) (n c n' c' : Nat) (dr : Nat) (w : World) (hl : lim ≤ n') (hd : dr < 1099511627776) :
    Calls Try.prog 13 #[.agg #[.slice a n c, .slice a' n' c', .int .i64 dr], .int .i64 lim, .bool false, x] w fun e w' =>
      e = .returned (.tuple #[.agg #[.slice a n c, .slice a' n' c', .int .i64 (dr + 1 : Nat)], .bool true]) ∧ Below w.heap.size w w' := by
  have dl : decide ((n' : Int) < (lim : Int)) = false := by simp; omega
  go_enter Try.func13, Try.ntmps13
  go_wp2_with fail
  refine bodyPost_ret (results_c1 rfl _ _ (w.heap.size + 1) 37 _ _ rfl (made2 w _ 37 _) Try.underlying37 (by kernel_rfl)) rfl ?_
  exact ⟨rfl, below2 _ _ _⟩
end Go.Proofs.Ytldjlahkfdcllaa

/- TermVars, plainly: whose variables are whose. No program in sight. -/
import Derived.Test.YtoihjobdfjajfaaAw7
namespace Go.Proofs.Ytoihjobdfjajfaa
set_option linter.unusedVariables false
set_option linter.unusedSimpArgs false

/-- A number more, if it is not there. -/
def addNew (vs : List Int) (n : Int) : List Int := if n ∈ vs then vs else vs ++ [n]
theorem addNew_yes {vs : List Int} {n : Int} (h : n ∈ vs) : addNew vs n = vs := if_pos h
theorem addNew_no {vs : List Int} {n : Int} (h : n ∉ vs) : addNew vs n = vs ++ [n] := if_neg h
theorem mem_addNew {vs : List Int} {n m : Int} : m ∈ addNew vs n ↔ m ∈ vs ∨ m = n := by
  unfold addNew; split <;> simp_all
theorem mem_foldNew {ns vs : List Int} {m : Int} : m ∈ ns.foldl addNew vs ↔ m ∈ vs ∨ m ∈ ns := by
  induction ns generalizing vs with
  | nil => simp
  | cons n ns ih => rw [List.foldl_cons, ih, mem_addNew, List.mem_cons, or_assoc]
theorem foldNew_le (ns vs : List Int) : (ns.foldl addNew vs).length ≤ vs.length + ns.length := by
  induction ns generalizing vs with
  | nil => simp
  | cons n ns ih =>
    rw [List.foldl_cons, List.length_cons]
    have := ih (addNew vs n)
    have h : (addNew vs n).length ≤ vs.length + 1 := by unfold addNew; split <;> simp
    omega
theorem foldNew_idem (ns vs : List Int) : (ns.foldl addNew []).foldl addNew vs = ns.foldl addNew vs := by
  suffices h : ∀ l : List Int, ∀ ns : List Int, l = ns.reverse → (ns.foldl addNew []).foldl addNew vs = ns.foldl addNew vs from h _ ns rfl
  intro l
  induction l with
  | nil => intro ns h; have : ns = [] := by simpa using h.symm
           subst this; rfl
  | cons m l ih =>
    intro ns h
    have hn : ns = l.reverse ++ [m] := by rw [← List.reverse_reverse ns, ← h]; simp
    have ih' := ih l.reverse (by simp)
    rw [hn, List.foldl_append, List.foldl_append, List.foldl_cons, List.foldl_nil, List.foldl_cons, List.foldl_nil]
    by_cases hm : m ∈ l.reverse.foldl addNew []
    · rw [addNew_yes hm, ih', addNew_yes]
      rw [mem_foldNew] at hm ⊢
      rcases hm with hm | hm
      · cases hm
      · exact .inr hm
    · rw [addNew_no hm, List.foldl_append, ih']
      rfl
/-- The numbers of the variables, one by one. -/
def varNs {α : Type} (l : List (Tm α)) : List Int := (l.filter fun x => decide (x.kind = 0)).map Tm.n
theorem foldVar_eq {α : Type} (l : List (Tm α)) (vs : List Int) : l.foldl Tm.addVar vs = (varNs l).foldl addNew vs := by
  induction l generalizing vs with
  | nil => rfl
  | cons x l ih =>
    rw [List.foldl_cons, ih]
    unfold varNs
    by_cases hk : x.kind = 0
    · rw [List.filter_cons_of_pos (by simpa using hk), List.map_cons, List.foldl_cons]
      congr 1
      unfold Tm.addVar addNew
      by_cases hn : x.n ∈ vs <;> simp [hk, hn]
    · rw [List.filter_cons_of_neg (by simpa using hk)]
      congr 1
      unfold Tm.addVar
      simp [hk]
theorem foldVar_idem {α : Type} (l : List (Tm α)) (vs : List Int) : (l.foldl Tm.addVar []).foldl addNew vs = l.foldl Tm.addVar vs := by
  rw [foldVar_eq, foldVar_eq, foldNew_idem]
theorem vars_flats {α : Type} (l : List (Tm α)) (vs : List Int) : l.foldl (fun vs x => x.vars.foldl addNew vs) vs = (Tm.flats l).foldl Tm.addVar vs := by
  induction l generalizing vs with
  | nil => rfl
  | cons x l ih =>
    rw [List.foldl_cons, ih]
    simp only [Tm.flats, List.foldl_append]
    rw [Tm.vars, foldVar_idem]

/-- Of a term that may be, each arg may be. -/
theorem good_args {α : Type} {k n : Int} {s : ByteArray} {e : α} {l : List (Tm α)} (h : goodB (.mk k n s e l) = true) : ∀ x ∈ l, goodB x = true := by
  intro x hx
  unfold goodB at h ⊢
  simp only [Bool.and_eq_true, decide_eq_true_eq, List.all_eq_true] at h ⊢
  obtain ⟨h1, h2, h3⟩ := h
  have hsub : ∀ (l : List (Tm α)), x ∈ l → x.size ≤ Tm.sizes l ∧ x.depth ≤ Tm.depths l ∧ ∀ y ∈ x.flat, y ∈ Tm.flats l := by
    intro l
    induction l with
    | nil => intro h; cases h
    | cons z l ih =>
      intro h
      simp only [Tm.sizes, Tm.depths, Tm.flats]
      rcases List.mem_cons.1 h with rfl | h
      · exact ⟨by omega, by omega, fun y hy => List.mem_append_left _ hy⟩
      · obtain ⟨a, b, c⟩ := ih h
        exact ⟨by omega, by omega, fun y hy => List.mem_append_right _ (c y hy)⟩
  obtain ⟨a, b, c⟩ := hsub l hx
  simp only [Tm.size, Tm.depth] at h1 h2
  refine ⟨by omega, by omega, fun y hy => h3 y ?_⟩
  simp only [Tm.flat]
  exact List.mem_cons_of_mem _ (c y hy)
theorem good_depth {α : Type} {t : Tm α} (h : goodB t = true) : t.depth ≤ 64 := by
  unfold goodB at h; simp at h; exact h.2.1
theorem good_ones {α : Type} {t : Tm α} (h : goodB t = true) : ∀ x ∈ t.flat, goodOneB x = true := by
  unfold goodB at h; simp only [Bool.and_eq_true, List.all_eq_true] at h; exact h.2.2
theorem varsB_le {α : Type} (t : Tm α) : (varsB t).length ≤ 2000 := by
  unfold varsB
  split
  · rename_i h
    have h1 := addVar_le t.flat []
    have h2 := good_size h
    rw [Tm.flat_length] at h1
    simp at h1
    unfold Tm.vars; omega
  · simp

/-- What TermVars sums up. -/
def tvVars {α : Type} (l : List (Tm α)) : List Int := l.foldl (fun vs x => (varsB x).foldl addNew vs) []
def tvSize {α : Type} (l : List (Tm α)) : Nat := 1 + (l.map fun x => min x.size 2001).sum
def tvDepth {α : Type} (l : List (Tm α)) : Nat := l.foldl (fun d x => max d (min x.depth 65)) 0
theorem tvVars_snoc {α : Type} (l : List (Tm α)) (x : Tm α) : tvVars (l ++ [x]) = (varsB x).foldl addNew (tvVars l) := by
  unfold tvVars; rw [List.foldl_append]; rfl
theorem tvSize_snoc {α : Type} (l : List (Tm α)) (x : Tm α) : tvSize (l ++ [x]) = tvSize l + min x.size 2001 := by
  unfold tvSize; rw [List.map_append, List.sum_append]; simp; omega
theorem tvDepth_snoc {α : Type} (l : List (Tm α)) (x : Tm α) : tvDepth (l ++ [x]) = max (tvDepth l) (min x.depth 65) := by
  unfold tvDepth; rw [List.foldl_append]; rfl
theorem tvVars_le {α : Type} (l : List (Tm α)) : (tvVars l).length ≤ 2000 * l.length := by
  suffices h : ∀ vs : List Int, (l.foldl (fun vs x => (varsB x).foldl addNew vs) vs).length ≤ vs.length + 2000 * l.length by
    have := h []; simp at this; exact this
  induction l with
  | nil => simp
  | cons x l ih =>
    intro vs
    rw [List.foldl_cons, List.length_cons]
    have h1 := ih ((varsB x).foldl addNew vs)
    have h2 := foldNew_le (varsB x) vs
    have h3 := varsB_le x
    omega
theorem tv_good {α : Type} {s : ByteArray} {e : α} {l : List (Tm α)} (h : goodB (.mk 2 0 s e l) = true) :
    varsB (.mk 2 0 s e l) = tvVars l ∧ (Tm.mk 2 0 s e l).size = tvSize l ∧ (Tm.mk 2 0 s e l).depth = tvDepth l + 1 := by
  have hg := good_args h
  refine ⟨?_, ?_, ?_⟩
  · unfold varsB
    rw [if_pos h]
    unfold Tm.vars tvVars
    simp only [Tm.flat, List.foldl_cons]
    have h0 : Tm.addVar [] (.mk 2 0 s e l) = [] := by unfold Tm.addVar; simp [Tm.kind]
    rw [h0, ← vars_flats]
    clear h h0
    suffices hh : ∀ vs : List Int, l.foldl (fun vs x => x.vars.foldl addNew vs) vs = l.foldl (fun vs x => (varsB x).foldl addNew vs) vs from hh []
    induction l with
    | nil => intro vs; rfl
    | cons x l ih =>
      intro vs
      rw [List.foldl_cons, List.foldl_cons, ih (fun y hy => hg y (List.mem_cons_of_mem _ hy))]
      rw [show varsB x = x.vars by unfold varsB; rw [if_pos (hg x (List.mem_cons_self ..))]]
  · simp only [Tm.size, tvSize]
    congr 1
    clear h
    induction l with
    | nil => rfl
    | cons x l ih =>
      simp only [Tm.sizes, List.map_cons, List.sum_cons]
      have := good_size (hg x (List.mem_cons_self ..))
      rw [ih (fun y hy => hg y (List.mem_cons_of_mem _ hy))]
      omega
  · simp only [Tm.depth, tvDepth]
    clear h
    suffices hh : ∀ d : Nat, l.foldl (fun d x => max d (min x.depth 65)) d = max d (Tm.depths l) by rw [hh 0]; omega
    induction l with
    | nil => intro d; simp [Tm.depths]
    | cons x l ih =>
      intro d
      have := good_depth (hg x (List.mem_cons_self ..))
      rw [List.foldl_cons, ih (fun y hy => hg y (List.mem_cons_of_mem _ hy))]
      simp only [Tm.depths]; omega

/-- Not deep: slim. -/
theorem deep_slim {α : Type} (k : Nat) : ∀ t : Tm α, deepB k t = false → slim t := by
  induction k with
  | zero => intro t h; simp [deepB] at h
  | succ k ih =>
    intro t h
    simp only [deepB, Bool.or_eq_false_iff, decide_eq_false_iff_not, List.any_eq_false] at h
    intro x hx
    rw [Tm.flat_eq] at hx
    rcases List.mem_cons.1 hx with rfl | hx
    · omega
    · obtain ⟨h1, h2⟩ := h
      clear h1
      revert hx
      generalize t.args = l at h2
      induction l with
      | nil => intro hx; simp [Tm.flats] at hx
      | cons y l ih2 =>
        intro hx
        simp only [Tm.flats, List.mem_append] at hx
        rcases hx with hx | hx
        · exact ih y (by have := h2 y (List.mem_cons_self ..); simpa using this) x hx
        · exact ih2 (fun z hz => h2 z (List.mem_cons_of_mem _ hz)) hx
theorem slim_mk {α : Type} {k n : Int} {s : ByteArray} {e : α} {l : List (Tm α)} (hl : l.length ≤ 12) (h : ∀ x ∈ l, slim x) : slim (.mk k n s e l) := by
  intro x hx
  simp only [Tm.flat, List.mem_cons] at hx
  rcases hx with rfl | hx
  · exact hl
  · clear hl
    induction l with
    | nil => simp [Tm.flats] at hx
    | cons y l ih =>
      simp only [Tm.flats, List.mem_append] at hx
      rcases hx with hx | hx
      · exact h y (List.mem_cons_self ..) x hx
      · exact ih (fun z hz => h z (List.mem_cons_of_mem _ hz)) hx
end Go.Proofs.Ytoihjobdfjajfaa

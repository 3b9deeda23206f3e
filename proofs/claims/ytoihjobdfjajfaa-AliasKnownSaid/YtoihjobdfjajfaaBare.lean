/- What does not hang on the notes; the items of a list; the document's 'formed'. No program in sight. -/
import Derived.Test.YtoihjobdfjajfaaVars
import Derived.Test.YtoihjobdfjajfaaOrd
namespace Go.Proofs.Ytoihjobdfjajfaa
set_option linter.unusedVariables false
set_option linter.unusedSimpArgs false

namespace Tm
variable {α β : Type}
theorem bare_kind (t : Tm α) : t.bare.kind = t.kind := by cases t; rfl
theorem bare_n (t : Tm α) : t.bare.n = t.n := by cases t; rfl
theorem bare_name (t : Tm α) : t.bare.name = t.name := by cases t; rfl
theorem bare_args (t : Tm α) : t.bare.args = bares t.args := by cases t; rfl
theorem bares_length (l : List (Tm α)) : (bares l).length = l.length := by rw [bares_eq, List.length_map]
theorem bare_arity (t : Tm α) : t.bare.args.length = t.args.length := by rw [bare_args, bares_length]
mutual
theorem flat_bare : ∀ t : Tm α, t.bare.flat = t.flat.map bare
  | .mk k n s e aa => by simp only [bare, flat, List.map_cons, flats_bare aa]
theorem flats_bare : ∀ l : List (Tm α), flats (bares l) = (flats l).map bare
  | [] => rfl
  | x :: l => by simp only [bares, flats, List.map_append, flat_bare x, flats_bare l]
end
theorem size_bare (t : Tm α) : t.bare.size = t.size := by rw [← flat_length, flat_bare, List.length_map, flat_length]
mutual
theorem depth_bare : ∀ t : Tm α, t.bare.depth = t.depth
  | .mk k n s e aa => by simp only [bare, depth, depths_bare aa]
theorem depths_bare : ∀ l : List (Tm α), depths (bares l) = depths l
  | [] => rfl
  | x :: l => by simp only [bares, depths, depth_bare x, depths_bare l]
end
theorem addVar_bare (l : List Int) (x : Tm α) : addVar l x.bare = addVar l x := by unfold addVar; rw [bare_kind, bare_n]
theorem vars_bare (t : Tm α) : t.bare.vars = t.vars := by
  unfold vars
  rw [flat_bare, List.foldl_map]
  congr 1
  funext l x
  exact addVar_bare l x
mutual
theorem cmp_bare : ∀ (a : Tm α) (b : Tm β), cmp a.bare b.bare = cmp a b
  | .mk k n s e aa, .mk k' n' s' e' bs => by
    simp only [bare, cmp, cmps_bare aa bs]
    congr 1
    have e1 : place (Tm.mk k n s () (bares aa)) = place (Tm.mk k n s e aa) := by unfold place; simp only [kind, args, bares_length]; congr
    have e2 : place (Tm.mk k' n' s' () (bares bs)) = place (Tm.mk k' n' s' e' bs) := by unfold place; simp only [kind, args, bares_length]; congr
    unfold cmpHead
    rw [e1, e2]
    simp only [Tm.n, name, args, bares_length]
theorem cmps_bare : ∀ (l : List (Tm α)) (m : List (Tm β)), cmps (bares l) (bares m) = cmps l m
  | [], [] => rfl
  | [], _ :: _ => rfl
  | _ :: _, [] => rfl
  | x :: l, y :: m => by simp only [bares, cmps, cmp_bare x y, cmps_bare l m]
end
/-- A list's pair. -/
def dot : ByteArray := ⟨#[46]⟩
def isDot (t : Tm α) : Bool := decide (t.kind = 2) && (decide (t.name = dot) && decide (t.args.length = 2))
/-- A list's items, and what ends it. -/
def items (t : Tm α) : List (Tm α) × Tm α :=
  match t with
  | .mk k n s e [a, b] => if k = 2 ∧ s = dot then (a :: (items b).1, (items b).2) else ([], .mk k n s e [a, b])
  | t => ([], t)
termination_by t.size
decreasing_by all_goals (simp only [size, sizes]; omega)
theorem items_dot {t : Tm α} (h : isDot t = true) : ∃ a b, t.args = [a, b] ∧ items t = (a :: (items b).1, (items b).2) ∧ b.size < t.size := by
  cases t with | mk k n s e aa =>
  simp only [isDot, kind, name, args, Bool.and_eq_true, decide_eq_true_eq] at h
  obtain ⟨h1, h2, h3⟩ := h
  match aa, h3 with
  | [a, b], _ =>
    refine ⟨a, b, rfl, ?_, by simp only [size, sizes]; omega⟩
    rw [items, if_pos ⟨of_decide_eq_true h1, of_decide_eq_true h2⟩]
theorem items_end {t : Tm α} (h : isDot t = false) : items t = ([], t) := by
  cases t with | mk k n s e aa =>
  match aa with
  | [a, b] =>
    rw [items, if_neg]
    intro ⟨h1, h2⟩
    simp [isDot, kind, name, args, h1, h2] at h
  | [] => rw [items]; intro _ _ _ _ _ _ e; cases e
  | [a] => rw [items]; intro _ _ _ _ _ _ e; cases e
  | a :: b :: c :: l => rw [items]; intro _ _ _ _ _ _ e; cases e
theorem isDot_bare (t : Tm α) : t.bare.isDot = t.isDot := by unfold isDot; rw [bare_kind, bare_name, bare_arity]
theorem items_bare (n : Nat) : ∀ t : Tm α, t.size ≤ n → items t.bare = ((items t).1.map bare, (items t).2.bare) := by
  induction n with
  | zero => intro t h; have := size_pos t; omega
  | succ n ih =>
    intro t h
    cases hd : isDot t with
    | true =>
      obtain ⟨a, b, h1, h2, h3⟩ := items_dot hd
      obtain ⟨a', b', g1, g2, g3⟩ := items_dot (t := t.bare) (by rw [isDot_bare]; exact hd)
      rw [bare_args, h1] at g1
      simp only [bares, List.cons.injEq, and_true] at g1
      obtain ⟨rfl, rfl⟩ := g1
      rw [g2, h2, ih b (by omega)]
      rfl
    | false =>
      rw [items_end hd, items_end (t := t.bare) (by rw [isDot_bare]; exact hd)]
      rfl
theorem items_eq {t : Tm α} {u : Tm β} (h : t.bare = u.bare) : (items t).1.map bare = (items u).1.map bare ∧ (items t).2.bare = (items u).2.bare := by
  have h1 := items_bare _ t (Nat.le_refl _)
  have h2 := items_bare _ u (Nat.le_refl _)
  rw [h, h2] at h1
  injection h1 with h3 h4
  exact ⟨h3.symm, h4.symm⟩
theorem items_mem (n : Nat) : ∀ t : Tm α, t.size ≤ n → (∀ x ∈ (items t).1, x ∈ t.flat) ∧ (items t).2 ∈ t.flat := by
  induction n with
  | zero => intro t h; have := size_pos t; omega
  | succ n ih =>
    intro t h
    cases hd : isDot t with
    | true =>
      obtain ⟨a, b, h1, h2, h3⟩ := items_dot hd
      obtain ⟨i1, i2⟩ := ih b (by omega)
      have hf : ∀ x, x ∈ a.flat ∨ x ∈ b.flat → x ∈ t.flat := by
        intro x hx
        rw [flat_eq, h1]
        simp only [flats, List.mem_cons, List.mem_append, List.append_nil]
        rcases hx with hx | hx
        · exact .inr (.inl hx)
        · exact .inr (.inr hx)
      rw [h2]
      refine ⟨fun x hx => ?_, hf _ (.inr i2)⟩
      rcases List.mem_cons.1 hx with rfl | hx
      · exact hf _ (.inl (by rw [flat_eq]; exact List.mem_cons_self ..))
      · exact hf _ (.inr (i1 x hx))
    | false =>
      rw [items_end hd]
      refine ⟨fun x hx => ?_, ?_⟩
      · exact absurd hx (List.not_mem_nil)
      · rw [flat_eq]; exact List.mem_cons_self ..
theorem items_len (n : Nat) : ∀ t : Tm α, t.size ≤ n → (items t).1.length ≤ t.size := by
  induction n with
  | zero => intro t h; have := size_pos t; omega
  | succ n ih =>
    intro t h
    cases hd : isDot t with
    | true =>
      obtain ⟨a, b, h1, h2, h3⟩ := items_dot hd
      have := ih b (by omega)
      rw [h2]
      simp only [List.length_cons]
      omega
    | false => rw [items_end hd]; simp
end Tm
theorem goodOneB_bare {α : Type} (t : Tm α) : goodOneB t.bare = goodOneB t := by
  unfold goodOneB
  rw [Tm.bare_kind, Tm.bare_n, Tm.bare_name, Tm.bare_arity]
theorem goodB_bare {α : Type} (t : Tm α) : goodB t.bare = goodB t := by
  unfold goodB
  rw [Tm.size_bare, Tm.depth_bare, Tm.flat_bare, List.all_map]
  congr 2
  apply congrArg (fun f => t.flat.all f)
  funext x
  exact goodOneB_bare x
theorem varsB_bare {α : Type} (t : Tm α) : varsB t.bare = varsB t := by unfold varsB; rw [goodB_bare, Tm.vars_bare]
section
variable {α β : Type} {t : Tm α} {u : Tm β} (h : t.bare = u.bare)
include h
theorem goodB_eq : goodB t = goodB u := by rw [← goodB_bare t, h, goodB_bare]
theorem varsB_eq : varsB t = varsB u := by rw [← varsB_bare t, h, varsB_bare]
theorem size_eq' : t.size = u.size := by rw [← Tm.size_bare t, h, Tm.size_bare]
theorem depth_eq' : t.depth = u.depth := by rw [← Tm.depth_bare t, h, Tm.depth_bare]
theorem kind_eq' : t.kind = u.kind := by rw [← Tm.bare_kind t, h, Tm.bare_kind]
theorem n_eq' : t.n = u.n := by rw [← Tm.bare_n t, h, Tm.bare_n]
theorem name_eq' : t.name = u.name := by rw [← Tm.bare_name t, h, Tm.bare_name]
theorem arity_eq' : t.args.length = u.args.length := by rw [← Tm.bare_arity t, h, Tm.bare_arity]
theorem bares_eq' : Tm.bares t.args = Tm.bares u.args := by rw [← Tm.bare_args t, h, Tm.bare_args]
theorem slim_eq' (hs : slim t) : slim u := by
  intro x hx
  have : x.bare ∈ u.bare.flat := by rw [Tm.flat_bare]; exact List.mem_map_of_mem hx
  rw [← h, Tm.flat_bare] at this
  obtain ⟨y, hy, he⟩ := List.mem_map.1 this
  have h1 := hs y hy
  have h2 := congrArg (fun t : Tm Unit => t.args.length) he
  simp only [Tm.bare_arity] at h2
  omega
end
/-- Alike: same, on terms that may be. -/
def sameB {α β : Type} (a : Tm α) (b : Tm β) : Bool := goodB a && (goodB b && Tm.same a b)

/-- The document's 'formed'. -/
def formedB {α : Type} (t : Tm α) : Bool := t.flat.all goodOneB
theorem formed_leaf {α : Type} {t : Tm α} (h : t.args.length = 0) : formedB t = goodOneB t := by
  have : t.args = [] := List.eq_nil_of_length_eq_zero h
  unfold formedB
  rw [Tm.flat_eq, this]
  simp [Tm.flats]
theorem flats_all {α : Type} (f : Tm α → Bool) (l : List (Tm α)) : (Tm.flats l).all f = l.all fun x => x.flat.all f := by
  induction l with
  | nil => rfl
  | cons x l ih => simp only [Tm.flats, List.all_append, List.all_cons, ih]
theorem formed_eq {α : Type} (t : Tm α) : formedB t = (goodOneB t && t.args.all formedB) := by
  unfold formedB
  rw [Tm.flat_eq, List.all_cons, flats_all]
end Go.Proofs.Ytoihjobdfjajfaa

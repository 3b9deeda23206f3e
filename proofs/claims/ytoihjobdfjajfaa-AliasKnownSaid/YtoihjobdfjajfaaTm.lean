/- Terms, plainly: size, depth, what is told from left to right. No program in sight. -/
namespace Go.Proofs.Ytoihjobdfjajfaa
set_option linter.unusedVariables false
set_option linter.unusedSimpArgs false

/-- A term; 'note' is whatever one wants to know of it besides (where its args lie). -/
inductive Tm (α : Type) where
  | mk (kind n : Int) (name : ByteArray) (note : α) (args : List (Tm α))

namespace Tm
variable {α : Type}
def kind : Tm α → Int | .mk k _ _ _ _ => k
def n : Tm α → Int | .mk _ n _ _ _ => n
def name : Tm α → ByteArray | .mk _ _ s _ _ => s
def args : Tm α → List (Tm α) | .mk _ _ _ _ as => as

mutual
def size : Tm α → Nat
  | .mk _ _ _ _ as => 1 + sizes as
def sizes : List (Tm α) → Nat
  | [] => 0
  | x :: l => size x + sizes l
end
mutual
def depth : Tm α → Nat
  | .mk _ _ _ _ as => 1 + depths as
def depths : List (Tm α) → Nat
  | [] => 0
  | x :: l => max (depth x) (depths l)
end
mutual
/-- A term and all that it is made of, from left to right. -/
def flat : Tm α → List (Tm α)
  | .mk k n s e as => .mk k n s e as :: flats as
def flats : List (Tm α) → List (Tm α)
  | [] => []
  | x :: l => flat x ++ flats l
end

mutual
theorem flat_length : ∀ t : Tm α, t.flat.length = t.size
  | .mk _ _ _ _ as => by simp only [flat, size, List.length_cons, flats_length as]; omega
theorem flats_length : ∀ l : List (Tm α), (flats l).length = sizes l
  | [] => rfl
  | x :: l => by simp only [flats, sizes, List.length_append, flat_length x, flats_length l]
end
theorem flats_append (a b : List (Tm α)) : flats (a ++ b) = flats a ++ flats b := by
  induction a with
  | nil => rfl
  | cons x a ih => simp only [List.cons_append, flats, ih, List.append_assoc]
theorem sizes_append (a b : List (Tm α)) : sizes (a ++ b) = sizes a + sizes b := by
  induction a with
  | nil => simp [sizes]
  | cons x a ih => simp only [List.cons_append, sizes, ih]; omega
theorem size_pos (t : Tm α) : 0 < t.size := by cases t; simp only [size]; omega
theorem depth_pos (t : Tm α) : 0 < t.depth := by cases t; simp only [depth]; omega
theorem flat_eq (t : Tm α) : t.flat = t :: flats t.args := by cases t; rfl
theorem size_eq (t : Tm α) : t.size = 1 + sizes t.args := by cases t; rfl
theorem depth_eq (t : Tm α) : t.depth = 1 + depths t.args := by cases t; rfl

mutual
/-- The document's Size: it stops counting above most. -/
def docSize : Tm α → Nat → Nat
  | .mk _ _ _ _ as, most => docSizes as most 1
def docSizes : List (Tm α) → Nat → Nat → Nat
  | [], _, n => n
  | x :: l, most, n => if n ≤ most then docSizes l most (n + docSize x (most - n)) else n
end
mutual
theorem docSize_eq : ∀ (t : Tm α) (most : Nat), docSize t most = min t.size (most + 1)
  | .mk _ _ _ _ as, most => by
    simp only [docSize, size]
    rw [docSizes_eq as most 1 (by omega)]
theorem docSizes_eq : ∀ (l : List (Tm α)) (most n : Nat), n ≤ most + 1 → docSizes l most n = min (n + sizes l) (most + 1)
  | [], most, n, h => by simp only [docSizes, sizes]; omega
  | x :: l, most, n, h => by
    simp only [docSizes, sizes]
    split
    · have hx := docSize_eq x (most - n)
      have hp := size_pos x
      rw [docSizes_eq l most _ (by rw [hx]; omega), hx]
      omega
    · have hp := size_pos x
      omega
end
mutual
/-- The document's Depth. -/
def docDepth : Tm α → Nat → Nat
  | .mk _ _ _ _ as, most => match most with
    | 0 => 1
    | m + 1 => docDepths as m 0 + 1
def docDepths : List (Tm α) → Nat → Nat → Nat
  | [], _, d => d
  | x :: l, m, d => docDepths l m (max d (docDepth x m))
end
mutual
theorem docDepth_eq : ∀ (t : Tm α) (most : Nat), docDepth t most = min t.depth (most + 1)
  | .mk _ _ _ _ as, 0 => by simp only [docDepth, depth]; omega
  | .mk _ _ _ _ as, m + 1 => by
    simp only [docDepth, depth]
    rw [docDepths_eq as m 0]
    omega
theorem docDepths_eq : ∀ (l : List (Tm α)) (m d : Nat), docDepths l m d = max d (min (depths l) (m + 1))
  | [], m, d => by simp only [docDepths, depths]; omega
  | x :: l, m, d => by
    simp only [docDepths, depths]
    rw [docDepths_eq l m, docDepth_eq x m]
    omega
end

/-- The program's depth: it looks no further than most. -/
def upDepth (l : List (Tm α)) (m d : Nat) : Nat := l.foldl (fun d x => if m ≤ d then d else max d (min x.depth m)) d
theorem upDepth_eq (l : List (Tm α)) (m d : Nat) (hd : d ≤ m) : upDepth l m d = max d (min (depths l) m) := by
  unfold upDepth
  induction l generalizing d with
  | nil => simp only [List.foldl_nil, depths]; omega
  | cons x l ih =>
    simp only [List.foldl_cons, depths]
    split
    · rw [ih d hd]; omega
    · rw [ih _ (by omega)]; omega

/-- A variable more, if it is one and is not there. -/
def addVar (l : List Int) (x : Tm α) : List Int := if x.kind = 0 ∧ x.n ∉ l then l ++ [x.n] else l
def vars (t : Tm α) : List Int := t.flat.foldl addVar []
mutual
/-- The document's vars. -/
def docVars : Tm α → List Int → List Int
  | .mk k n _ _ as, l => if k = 0 then (if n ∈ l then l else l ++ [n]) else docVarss as l
def docVarss : List (Tm α) → List Int → List Int
  | [], l => l
  | x :: xs, l => docVarss xs (docVars x l)
end
mutual
theorem docVars_eq : ∀ (t : Tm α) (l : List Int), (∀ x ∈ t.flat, x.kind = 0 → x.args = []) → docVars t l = t.flat.foldl addVar l
  | .mk k n s e as, l, h => by
    simp only [docVars, flat, List.foldl_cons, addVar, kind, Tm.n]
    by_cases hk : k = 0
    · have := h (.mk k n s e as) (by simp [flat]) hk
      simp only [args] at this
      subst this
      by_cases hn : n ∈ l <;> simp [hk, hn, flats]
    · simp only [hk, false_and, if_false]
      exact docVarss_eq as l (fun x hx => h x (by simp only [flat]; exact List.mem_cons_of_mem _ hx))
theorem docVarss_eq : ∀ (xs : List (Tm α)) (l : List Int), (∀ x ∈ flats xs, x.kind = 0 → x.args = []) → docVarss xs l = (flats xs).foldl addVar l
  | [], l, _ => rfl
  | x :: xs, l, h => by
    simp only [docVarss, flats, List.foldl_append]
    rw [docVars_eq x l (fun y hy => h y (by simp only [flats]; exact List.mem_append_left _ hy)), docVarss_eq xs _ (fun y hy => h y (by simp only [flats]; exact List.mem_append_right _ hy))]
end

/-- One step of 'each': the last of the stack is told; its args come on top, the last one first. -/
theorem flats_todo (todo : List (Tm α)) (x : Tm α) : flats (todo ++ [x]).reverse = x :: flats (todo ++ x.args.reverse).reverse := by
  rw [List.reverse_append, List.reverse_append, List.reverse_reverse]
  simp only [List.reverse_singleton, flats, flat_eq, flats_append, List.cons_append, List.nil_append]
mutual
theorem mem_flat_size : ∀ (t x : Tm α), x ∈ t.flat → x.size ≤ t.size
  | .mk k n s e as, x, h => by
    simp only [flat, List.mem_cons] at h
    rcases h with rfl | h
    · exact Nat.le_refl _
    · have := mem_flats_size as x h
      simp only [size]; omega
theorem mem_flats_size : ∀ (l : List (Tm α)) (x : Tm α), x ∈ flats l → x.size ≤ sizes l
  | [], x, h => by simp [flats] at h
  | y :: l, x, h => by
    simp only [flats, List.mem_append] at h
    simp only [sizes]
    rcases h with h | h
    · have := mem_flat_size y x h; omega
    · have := mem_flats_size l x h; omega
end
mutual
/-- The term without its notes. -/
def bare : Tm α → Tm Unit
  | .mk k n s _ as => .mk k n s () (bares as)
def bares : List (Tm α) → List (Tm Unit)
  | [] => []
  | x :: l => bare x :: bares l
end
mutual
/-- The document's Same, on two terms. -/
def same {β : Type} : Tm α → Tm β → Bool
  | .mk k n s _ as, .mk k' n' s' _ bs => k == k' && n == n' && decide (s = s') && sames as bs
def sames {β : Type} : List (Tm α) → List (Tm β) → Bool
  | [], [] => true
  | x :: l, y :: m => same x y && sames l m
  | _, _ => false
end
mutual
theorem same_iff {β : Type} : ∀ (a : Tm α) (b : Tm β), same a b = true ↔ bare a = bare b
  | .mk k n s e as, .mk k' n' s' e' bs => by
    simp only [same, bare, Bool.and_eq_true, beq_iff_eq, decide_eq_true_eq, sames_iff as bs, Tm.mk.injEq, and_assoc, true_and]
theorem sames_iff {β : Type} : ∀ (l : List (Tm α)) (m : List (Tm β)), sames l m = true ↔ bares l = bares m
  | [], [] => by simp [sames, bares]
  | x :: l, y :: m => by simp only [sames, bares, Bool.and_eq_true, same_iff x y, sames_iff l m, List.cons.injEq]
  | [], y :: m => by simp [sames, bares]
  | x :: l, [] => by simp [sames, bares]
end
theorem bares_eq (l : List (Tm α)) : bares l = l.map bare := by
  induction l with
  | nil => rfl
  | cons x l ih => simp only [bares, List.map_cons, ih]

/-- Whether a name may be. -/
def goodName (s : ByteArray) : Prop := s.size ≤ 64 ∧ ∀ b ∈ s.data.toList, b = 9 ∨ b = 10 ∨ (32 ≤ b ∧ b ≤ 126)
/-- What is asked of one term, but for its args. -/
def goodOne (t : Tm α) : Prop :=
  (t.kind = 0 ∧ 0 ≤ t.n ∧ t.n ≤ 2147483647 ∧ t.name.size = 0 ∧ t.args = []) ∨ (t.kind = 1 ∧ t.name.size = 0 ∧ t.args = []) ∨
  (t.kind = 2 ∧ t.n = 0 ∧ goodName t.name ∧ t.args.length ≤ 8)
def good (t : Tm α) : Prop := t.size ≤ 2000 ∧ t.depth ≤ 64 ∧ ∀ x ∈ t.flat, goodOne x
theorem good_arg {t x : Tm α} (h : good t) (hx : x ∈ t.flat) : x.size ≤ 2000 := Nat.le_trans (mem_flat_size t x hx) h.1
theorem good_vars {t : Tm α} (h : good t) : ∀ x ∈ t.flat, x.kind = 0 → x.args = [] := by
  intro x hx hk
  rcases h.2.2 x hx with g | g | g
  · exact g.2.2.2.2
  · exact absurd (hk.symm.trans g.1) (by decide)
  · exact absurd (hk.symm.trans g.1) (by decide)
theorem vars_doc {t : Tm α} (h : good t) : docVars t [] = t.vars := docVars_eq t [] (good_vars h)
end Tm
end Go.Proofs.Ytoihjobdfjajfaa

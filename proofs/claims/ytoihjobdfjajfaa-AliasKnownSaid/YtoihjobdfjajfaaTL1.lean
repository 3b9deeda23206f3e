/- Plain: a list made of items and a tail: its size, its items, the list made again. No program in sight. -/
import Derived.Test.YtoihjobdfjajfaaSayP
namespace Go.Proofs.Ytoihjobdfjajfaa
set_option linter.unusedVariables false
set_option linter.unusedSimpArgs false
namespace Tm
mutual
theorem bare_unit : ∀ t : Tm Unit, t.bare = t
  | .mk k n s e aa => by simp only [bare, bares_unit aa]
theorem bares_unit : ∀ l : List (Tm Unit), bares l = l
  | [] => rfl
  | x :: l => by simp only [bares, bare_unit x, bares_unit l]
end
/-- The list of these items with this tail. -/
def listB (l : List (Tm Unit)) (t : Tm Unit) : Tm Unit := l.foldr (fun x t => .mk 2 0 dot () [x, t]) t
theorem listB_nil (t : Tm Unit) : listB [] t = t := rfl
theorem listB_cons (x : Tm Unit) (l : List (Tm Unit)) (t : Tm Unit) : listB (x :: l) t = .mk 2 0 dot () [x, listB l t] := rfl
theorem size_listB (l : List (Tm Unit)) (t : Tm Unit) : (listB l t).size = l.length + sizes l + t.size := by
  induction l with
  | nil => simp [listB, sizes]
  | cons x l ih => rw [listB_cons]; simp only [size, sizes, List.length_cons, ih]; omega
theorem items_listB (l : List (Tm Unit)) (t : Tm Unit) : items (listB l t) = (l ++ (items t).1, (items t).2) := by
  induction l with
  | nil => rfl
  | cons x l ih => rw [listB_cons, items, if_pos ⟨rfl, rfl⟩, ih]; rfl
theorem listB_items (m : Nat) : ∀ t : Tm Unit, t.size ≤ m → (∀ x ∈ t.flat, goodOneB x = true) → listB (items t).1 (items t).2 = t := by
  induction m with
  | zero => intro t h; have := size_pos t; omega
  | succ m ih =>
    intro t h hg
    cases hd : isDot t with
    | true =>
      obtain ⟨a, b, h1, h2, h3⟩ := items_dot hd
      have h0 := hg t (by rw [flat_eq]; exact List.mem_cons_self ..)
      cases t with | mk k n s e aa =>
      cases e
      simp only [isDot, kind, name, args, Bool.and_eq_true, decide_eq_true_eq] at hd
      obtain ⟨d1, d2, d3⟩ := hd
      have d1 := of_decide_eq_true d1
      have d2 := of_decide_eq_true d2
      rw [goodOneB_2 (.mk k n s () aa) d1] at h0
      simp only [Bool.and_eq_true, decide_eq_true_eq, Tm.n] at h0
      simp only [args] at h1
      have hb := ih b (by omega) (fun x hx => hg x (by rw [flat_eq, args, h1]; simp only [flats, List.mem_cons, List.mem_append]; exact .inr (.inr (.inl hx))))
      rw [h2]
      show listB (a :: (items b).1) (items b).2 = _
      rw [listB_cons, hb, d1, d2, h1, of_decide_eq_true h0.1]
    | false => rw [items_end hd]; rfl
theorem listB_mem {l : List (Tm Unit)} {t x : Tm Unit} (h : x ∈ l ∨ x = t) : x ∈ (listB l t).flat := by
  induction l with
  | nil =>
    rcases h with h | rfl
    · cases h
    · rw [listB_nil, flat_eq]; exact List.mem_cons_self ..
  | cons y l ih =>
    rw [listB_cons, flat]
    simp only [flats, List.mem_cons, List.mem_append]
    rcases h with h | h
    · rcases List.mem_cons.1 h with rfl | h
      · exact .inr (.inl (by rw [flat_eq]; exact List.mem_cons_self ..))
      · exact .inr (.inr (.inl (ih (.inl h))))
    · exact .inr (.inr (.inl (ih (.inr h))))
theorem listB_slim {l : List (Tm Unit)} {t : Tm Unit} (hl : ∀ x ∈ l, slim x) (ht : slim t) : slim (listB l t) := by
  induction l with
  | nil => exact ht
  | cons y l ih =>
    rw [listB_cons]
    refine slim_mk (by simp) ?_
    intro x hx
    simp only [List.mem_cons, List.not_mem_nil, or_false] at hx
    rcases hx with rfl | rfl
    · exact hl x (List.mem_cons_self ..)
    · exact ih (fun z hz => hl z (List.mem_cons_of_mem _ hz))
end Tm
mutual
theorem depth_flat {α : Type} : ∀ (t x : Tm α), x ∈ t.flat → x.depth ≤ t.depth
  | .mk k n s e aa, x, h => by
    simp only [Tm.flat, List.mem_cons] at h
    rcases h with rfl | h
    · exact Nat.le_refl _
    · have := depth_flats aa x h
      simp only [Tm.depth]; omega
theorem depth_flats {α : Type} : ∀ (l : List (Tm α)) (x : Tm α), x ∈ Tm.flats l → x.depth ≤ Tm.depths l
  | [], x, h => by simp [Tm.flats] at h
  | y :: l, x, h => by
    simp only [Tm.flats, List.mem_append] at h
    simp only [Tm.depths]
    rcases h with h | h
    · have := depth_flat y x h; omega
    · have := depth_flats l x h; omega
end
theorem goodB_flat {α : Type} {t x : Tm α} (h : goodB t = true) (hx : x ∈ t.flat) : goodB x = true := by
  unfold goodB at h ⊢
  simp only [Bool.and_eq_true, decide_eq_true_eq, List.all_eq_true] at h ⊢
  have h1 := Tm.mem_flat_size t x hx
  have h2 := depth_flat t x hx
  exact ⟨by omega, by omega, fun y hy => h.2.2 y (mem_flat_trans hx hy)⟩
theorem sameB_of {α β : Type} {a : Tm α} {b : Tm β} (h : a.bare = b.bare) (ha : goodB a = true) : sameB a b = true := by
  unfold sameB
  rw [ha, ← goodB_eq h, ha, (Tm.same_iff a b).2 h]
  rfl

theorem sizes_take {α : Type} (l : List (Tm α)) (j : Nat) : Tm.sizes (l.take j) ≤ Tm.sizes l := by
  have h := Tm.sizes_append (l.take j) (l.drop j)
  rw [List.take_append_drop] at h
  omega
theorem sizes_at {α : Type} {l : List (Tm α)} {j : Nat} {x : Tm α} (h : l[j]? = some x) : Tm.sizes (l.take (j + 1)) = Tm.sizes (l.take j) + x.size := by
  rw [List.take_add_one, h, Tm.sizes_append]
  rfl
section
variable {l : List LT} {tail t end_ : LT} {m : List LT}
/-- What a list says, if it may be. -/
structure ListOk (l : List LT) (tail t : LT) (m : List LT) (en : LT) : Prop where
  len : l.length ≤ m.length
  items : ∀ (i : Nat) (x y : LT), l[i]? = some x → m[i]? = some y → sameB y x = true
  again : Tm.listB (m.map Tm.bare) en.bare = t.bare
  good : goodB t = true
  size : (t.size : Int) = 2 * l.length + tail.size + (l.map fun x => (x.size : Int) - 1).sum
  sizeN : t.size = l.length + Tm.sizes l + tail.size
  goods : ∀ x ∈ l, goodB x = true
  goodt : goodB tail = true
  small : t.size ≤ 2000
theorem listOk (ht : t.bare = Tm.listB (l.map Tm.bare) tail.bare) (hg : goodB t = true) (hm : (m, end_) = Tm.items t) : ListOk l tail t m end_ := by
  have hi := Tm.items_bare _ t (Nat.le_refl _)
  rw [ht, Tm.items_listB, ← hm] at hi
  injection hi with i1 i2
  have hgb : goodB t.bare = true := by rw [goodB_bare]; exact hg
  have hgo : ∀ x ∈ t.bare.flat, goodOneB x = true := by
    unfold goodB at hgb
    simp only [Bool.and_eq_true, decide_eq_true_eq, List.all_eq_true] at hgb
    exact hgb.2.2
  have hgl : ∀ x ∈ l, goodB x = true := by
    intro x hx
    rw [← goodB_bare]
    refine goodB_flat hgb ?_
    rw [ht]
    exact Tm.listB_mem (.inl (List.mem_map_of_mem hx))
  have hgt : goodB tail = true := by
    rw [← goodB_bare]
    refine goodB_flat hgb ?_
    rw [ht]
    exact Tm.listB_mem (.inr rfl)
  have hsz := Tm.size_listB (l.map Tm.bare) tail.bare
  rw [← ht, Tm.size_bare, Tm.size_bare, List.length_map] at hsz
  have hlen := congrArg List.length i1
  rw [List.length_append, List.length_map, List.length_map] at hlen
  simp only at hlen
  have hs : Tm.sizes (l.map Tm.bare) = Tm.sizes l := by
    clear hsz i1 i2 hgl hlen ht
    induction l with
    | nil => rfl
    | cons x l ih => simp only [List.map_cons, Tm.sizes, Tm.size_bare, ih]
  have hsum : (l.map fun x => (x.size : Int) - 1).sum = (Tm.sizes l : Int) - l.length := by
    clear hsz i1 i2 hgl hlen ht hs
    induction l with
    | nil => rfl
    | cons x l ih => simp only [List.map_cons, List.sum_cons, Tm.sizes, List.length_cons, ih]; omega
  refine ⟨by omega, ?_, ?_, hg, by rw [hsum]; omega, by omega, hgl, hgt, ?_⟩
  · intro i x y hx hy
    have h1 := congrArg (fun z : List (Tm Unit) => z[i]?) i1
    simp only at h1
    rw [List.getElem?_append_left (by rw [List.length_map]; exact (List.getElem?_eq_some_iff.1 hx).1), List.getElem?_map, List.getElem?_map, hx, hy] at h1
    simp only [Option.map_some, Option.some.injEq] at h1
    have hxl := hgl x (List.mem_of_getElem? hx)
    refine sameB_of h1.symm ?_
    rw [goodB_eq h1.symm]; exact hxl
  · have := Tm.listB_items _ t.bare (Nat.le_refl _) hgo
    rw [Tm.items_bare _ t (Nat.le_refl _), ← hm] at this
    exact this
  · unfold goodB at hg
    simp only [Bool.and_eq_true, decide_eq_true_eq] at hg
    exact hg.1
end
end Go.Proofs.Ytoihjobdfjajfaa

/- Merged texts: TL1, AL1, RepP, Any6, AL2, BR1, BS, BS2, BS3, TK1, AL3, AL4, AL5, AL6. -/
import Derived.Test.YtoihjobdfjajfaaIx2
/- Plain: a list made of items and a tail: its size, its items, the list made again. No program in sight. -/
namespace Go.Proofs.Ytoihjobdfjajfaa
set_option linter.unusedVariables false
set_option linter.unusedSimpArgs false
namespace Tm
mutual
theorem bare_unit : ∀ t : Tm Unit, t.bare = t
  | .mk k n s e aa => by simp only [bare, bares_unit aa]
theorem bares_unit : ∀ l : List (Tm Unit), bares l = l
  | [] => rfl
  | x :: l => by simp only [bares, bare_unit x, bares_unit l]
end
/-- The list of these items with this tail. -/
def listB (l : List (Tm Unit)) (t : Tm Unit) : Tm Unit := l.foldr (fun x t => .mk 2 0 dot () [x, t]) t
theorem listB_nil (t : Tm Unit) : listB [] t = t := rfl
theorem listB_cons (x : Tm Unit) (l : List (Tm Unit)) (t : Tm Unit) : listB (x :: l) t = .mk 2 0 dot () [x, listB l t] := rfl
theorem size_listB (l : List (Tm Unit)) (t : Tm Unit) : (listB l t).size = l.length + sizes l + t.size := by
  induction l with
  | nil => simp [listB, sizes]
  | cons x l ih => rw [listB_cons]; simp only [size, sizes, List.length_cons, ih]; omega
theorem items_listB (l : List (Tm Unit)) (t : Tm Unit) : items (listB l t) = (l ++ (items t).1, (items t).2) := by
  induction l with
  | nil => rfl
  | cons x l ih => rw [listB_cons, items, if_pos ⟨rfl, rfl⟩, ih]; rfl
theorem listB_items (m : Nat) : ∀ t : Tm Unit, t.size ≤ m → (∀ x ∈ t.flat, goodOneB x = true) → listB (items t).1 (items t).2 = t := by
  induction m with
  | zero => intro t h; have := size_pos t; omega
  | succ m ih =>
    intro t h hg
    cases hd : isDot t with
    | true =>
      obtain ⟨a, b, h1, h2, h3⟩ := items_dot hd
      have h0 := hg t (by rw [flat_eq]; exact List.mem_cons_self ..)
      cases t with | mk k n s e aa =>
      cases e
      simp only [isDot, kind, name, args, Bool.and_eq_true, decide_eq_true_eq] at hd
      obtain ⟨d1, d2, d3⟩ := hd
      have d1 := of_decide_eq_true d1
      have d2 := of_decide_eq_true d2
      rw [goodOneB_2 (.mk k n s () aa) d1] at h0
      simp only [Bool.and_eq_true, decide_eq_true_eq, Tm.n] at h0
      simp only [args] at h1
      have hb := ih b (by omega) (fun x hx => hg x (by rw [flat_eq, args, h1]; simp only [flats, List.mem_cons, List.mem_append]; exact .inr (.inr (.inl hx))))
      rw [h2]
      show listB (a :: (items b).1) (items b).2 = _
      rw [listB_cons, hb, d1, d2, h1, of_decide_eq_true h0.1]
    | false => rw [items_end hd]; rfl
theorem listB_mem {l : List (Tm Unit)} {t x : Tm Unit} (h : x ∈ l ∨ x = t) : x ∈ (listB l t).flat := by
  induction l with
  | nil =>
    rcases h with h | rfl
    · cases h
    · rw [listB_nil, flat_eq]; exact List.mem_cons_self ..
  | cons y l ih =>
    rw [listB_cons, flat]
    simp only [flats, List.mem_cons, List.mem_append]
    rcases h with h | h
    · rcases List.mem_cons.1 h with rfl | h
      · exact .inr (.inl (by rw [flat_eq]; exact List.mem_cons_self ..))
      · exact .inr (.inr (.inl (ih (.inl h))))
    · exact .inr (.inr (.inl (ih (.inr h))))
theorem listB_slim {l : List (Tm Unit)} {t : Tm Unit} (hl : ∀ x ∈ l, slim x) (ht : slim t) : slim (listB l t) := by
  induction l with
  | nil => exact ht
  | cons y l ih =>
    rw [listB_cons]
    refine slim_mk (by simp) ?_
    intro x hx
    simp only [List.mem_cons, List.not_mem_nil, or_false] at hx
    rcases hx with rfl | rfl
    · exact hl x (List.mem_cons_self ..)
    · exact ih (fun z hz => hl z (List.mem_cons_of_mem _ hz))
end Tm
mutual
theorem depth_flat {α : Type} : ∀ (t x : Tm α), x ∈ t.flat → x.depth ≤ t.depth
  | .mk k n s e aa, x, h => by
    simp only [Tm.flat, List.mem_cons] at h
    rcases h with rfl | h
    · exact Nat.le_refl _
    · have := depth_flats aa x h
      simp only [Tm.depth]; omega
theorem depth_flats {α : Type} : ∀ (l : List (Tm α)) (x : Tm α), x ∈ Tm.flats l → x.depth ≤ Tm.depths l
  | [], x, h => by simp [Tm.flats] at h
  | y :: l, x, h => by
    simp only [Tm.flats, List.mem_append] at h
    simp only [Tm.depths]
    rcases h with h | h
    · have := depth_flat y x h; omega
    · have := depth_flats l x h; omega
end
theorem goodB_flat {α : Type} {t x : Tm α} (h : goodB t = true) (hx : x ∈ t.flat) : goodB x = true := by
  unfold goodB at h ⊢
  simp only [Bool.and_eq_true, decide_eq_true_eq, List.all_eq_true] at h ⊢
  have h1 := Tm.mem_flat_size t x hx
  have h2 := depth_flat t x hx
  exact ⟨by omega, by omega, fun y hy => h.2.2 y (mem_flat_trans hx hy)⟩
theorem sameB_of {α β : Type} {a : Tm α} {b : Tm β} (h : a.bare = b.bare) (ha : goodB a = true) : sameB a b = true := by
  unfold sameB
  rw [ha, ← goodB_eq h, ha, (Tm.same_iff a b).2 h]
  rfl

theorem sizes_take {α : Type} (l : List (Tm α)) (j : Nat) : Tm.sizes (l.take j) ≤ Tm.sizes l := by
  have h := Tm.sizes_append (l.take j) (l.drop j)
  rw [List.take_append_drop] at h
  omega
theorem sizes_at {α : Type} {l : List (Tm α)} {j : Nat} {x : Tm α} (h : l[j]? = some x) : Tm.sizes (l.take (j + 1)) = Tm.sizes (l.take j) + x.size := by
  rw [List.take_add_one, h, Tm.sizes_append]
  rfl
section
variable {l : List LT} {tail t end_ : LT} {m : List LT}
/-- What a list says, if it may be. -/
structure ListOk (l : List LT) (tail t : LT) (m : List LT) (en : LT) : Prop where
  len : l.length ≤ m.length
  items : ∀ (i : Nat) (x y : LT), l[i]? = some x → m[i]? = some y → sameB y x = true
  again : Tm.listB (m.map Tm.bare) en.bare = t.bare
  good : goodB t = true
  size : (t.size : Int) = 2 * l.length + tail.size + (l.map fun x => (x.size : Int) - 1).sum
  sizeN : t.size = l.length + Tm.sizes l + tail.size
  goods : ∀ x ∈ l, goodB x = true
  goodt : goodB tail = true
  small : t.size ≤ 2000
theorem listOk (ht : t.bare = Tm.listB (l.map Tm.bare) tail.bare) (hg : goodB t = true) (hm : (m, end_) = Tm.items t) : ListOk l tail t m end_ := by
  have hi := Tm.items_bare _ t (Nat.le_refl _)
  rw [ht, Tm.items_listB, ← hm] at hi
  injection hi with i1 i2
  have hgb : goodB t.bare = true := by rw [goodB_bare]; exact hg
  have hgo : ∀ x ∈ t.bare.flat, goodOneB x = true := by
    unfold goodB at hgb
    simp only [Bool.and_eq_true, decide_eq_true_eq, List.all_eq_true] at hgb
    exact hgb.2.2
  have hgl : ∀ x ∈ l, goodB x = true := by
    intro x hx
    rw [← goodB_bare]
    refine goodB_flat hgb ?_
    rw [ht]
    exact Tm.listB_mem (.inl (List.mem_map_of_mem hx))
  have hgt : goodB tail = true := by
    rw [← goodB_bare]
    refine goodB_flat hgb ?_
    rw [ht]
    exact Tm.listB_mem (.inr rfl)
  have hsz := Tm.size_listB (l.map Tm.bare) tail.bare
  rw [← ht, Tm.size_bare, Tm.size_bare, List.length_map] at hsz
  have hlen := congrArg List.length i1
  rw [List.length_append, List.length_map, List.length_map] at hlen
  simp only at hlen
  have hs : Tm.sizes (l.map Tm.bare) = Tm.sizes l := by
    clear hsz i1 i2 hgl hlen ht
    induction l with
    | nil => rfl
    | cons x l ih => simp only [List.map_cons, Tm.sizes, Tm.size_bare, ih]
  have hsum : (l.map fun x => (x.size : Int) - 1).sum = (Tm.sizes l : Int) - l.length := by
    clear hsz i1 i2 hgl hlen ht hs
    induction l with
    | nil => rfl
    | cons x l ih => simp only [List.map_cons, List.sum_cons, Tm.sizes, List.length_cons, ih]; omega
  refine ⟨by omega, ?_, ?_, hg, by rw [hsum]; omega, by omega, hgl, hgt, ?_⟩
  · intro i x y hx hy
    have h1 := congrArg (fun z : List (Tm Unit) => z[i]?) i1
    simp only at h1
    rw [List.getElem?_append_left (by rw [List.length_map]; exact (List.getElem?_eq_some_iff.1 hx).1), List.getElem?_map, List.getElem?_map, hx, hy] at h1
    simp only [Option.map_some, Option.some.injEq] at h1
    have hxl := hgl x (List.mem_of_getElem? hx)
    refine sameB_of h1.symm ?_
    rw [goodB_eq h1.symm]; exact hxl
  · have := Tm.listB_items _ t.bare (Nat.le_refl _) hgo
    rw [Tm.items_bare _ t (Nat.le_refl _), ← hm] at this
    exact this
  · unfold goodB at hg
    simp only [Bool.and_eq_true, decide_eq_true_eq] at hg
    exact hg.1
end
end Go.Proofs.Ytoihjobdfjajfaa

/- Plain: terms with terms in their variables' place; other names; what says more. No program in sight. -/
namespace Go.Proofs.Ytoihjobdfjajfaa
set_option linter.unusedVariables false
set_option linter.unusedSimpArgs false
namespace Tm
/-- A variable. -/
def V (n : Int) : Tm Unit := .mk 0 n ByteArray.empty () []
mutual
/-- Terms in the variables' place. -/
def subT (σ : Int → Tm Unit) : Tm Unit → Tm Unit
  | .mk k n s e aa => if k = 0 then σ n else .mk k n s e (subTs σ aa)
def subTs (σ : Int → Tm Unit) : List (Tm Unit) → List (Tm Unit)
  | [] => []
  | x :: l => subT σ x :: subTs σ l
end
theorem subTs_eq (σ : Int → Tm Unit) (l : List (Tm Unit)) : subTs σ l = l.map (subT σ) := by
  induction l with
  | nil => rfl
  | cons x l ih => simp only [subTs, List.map_cons, ih]
/-- Every variable in it is just that. -/
def leafy (t : Tm Unit) : Prop := ∀ x ∈ t.flat, x.kind = 0 → x = V x.n
theorem leafy_args {k n : Int} {s : ByteArray} {aa : List (Tm Unit)} (h : leafy (.mk k n s () aa)) : ∀ x ∈ aa, leafy x := by
  intro x hx y hy
  refine h y ?_
  rw [flat_eq]
  refine List.mem_cons_of_mem _ ?_
  clear h
  induction aa with
  | nil => cases hx
  | cons z aa ih =>
    simp only [args, flats, List.mem_append] at ih ⊢
    rcases List.mem_cons.1 hx with rfl | hx
    · exact .inl hy
    · exact .inr (ih hx)
theorem leafy_good {t : Tm Unit} (h : ∀ x ∈ t.flat, goodOneB x = true) : leafy t := by
  intro x hx hk
  have := h x hx
  rw [goodOneB_0 x hk] at this
  simp only [Bool.and_eq_true, decide_eq_true_eq] at this
  obtain ⟨_, _, h3, h4⟩ := this
  cases x with | mk k n s e aa =>
  simp only [kind] at hk
  simp only [name] at h3
  simp only [args] at h4
  have : aa = [] := List.eq_nil_of_length_eq_zero h4
  subst this
  have hs : s = ByteArray.empty := (bytes_nil s).1 h3
  subst hs hk
  rfl
/-- What is asked of the numbers in it. -/
def numsIn (t : Tm Unit) (n : Int) : Prop := ∃ x ∈ t.flat, x.kind = 0 ∧ x.n = n
mutual
theorem subT_congr {σ τ : Int → Tm Unit} : ∀ t : Tm Unit, (∀ x ∈ t.flat, x.kind = 0 → σ x.n = τ x.n) → subT σ t = subT τ t
  | .mk k n s e aa, h => by
    by_cases hk : k = 0
    · have := h (.mk k n s e aa) (by rw [flat_eq]; exact List.mem_cons_self ..) hk
      simp only [subT, if_pos hk]; exact this
    · simp only [subT, if_neg hk]
      rw [subTs_congr aa (fun x hx => h x (by rw [flat_eq]; exact List.mem_cons_of_mem _ hx))]
theorem subTs_congr {σ τ : Int → Tm Unit} : ∀ l : List (Tm Unit), (∀ x ∈ flats l, x.kind = 0 → σ x.n = τ x.n) → subTs σ l = subTs τ l
  | [], _ => rfl
  | x :: l, h => by
    simp only [subTs]
    rw [subT_congr x (fun y hy => h y (by simp only [flats]; exact List.mem_append_left _ hy)), subTs_congr l (fun y hy => h y (by simp only [flats]; exact List.mem_append_right _ hy))]
end
mutual
theorem subT_subT {σ τ : Int → Tm Unit} : ∀ t : Tm Unit, subT τ (subT σ t) = subT (fun n => subT τ (σ n)) t
  | .mk k n s e aa => by
    by_cases hk : k = 0
    · simp only [subT, if_pos hk]
    · simp only [subT, if_neg hk, subTs_subTs aa]
theorem subTs_subTs {σ τ : Int → Tm Unit} : ∀ l : List (Tm Unit), subTs τ (subTs σ l) = subTs (fun n => subT τ (σ n)) l
  | [] => rfl
  | x :: l => by simp only [subTs, subT_subT x, subTs_subTs l]
end
mutual
theorem subT_V : ∀ t : Tm Unit, leafy t → subT V t = t
  | .mk k n s e aa, h => by
    by_cases hk : k = 0
    · have := h (.mk k n s e aa) (by rw [flat_eq]; exact List.mem_cons_self ..) hk
      simp only [subT, if_pos hk]; exact this.symm
    · simp only [subT, if_neg hk]
      rw [subTs_V aa (fun x hx => h x (by rw [flat_eq]; exact List.mem_cons_of_mem _ hx))]
theorem subTs_V : ∀ l : List (Tm Unit), (∀ x ∈ flats l, x.kind = 0 → x = V x.n) → subTs V l = l
  | [], _ => rfl
  | x :: l, h => by
    simp only [subTs]
    rw [subT_V x (fun y hy => h y (by simp only [flats]; exact List.mem_append_left _ hy)), subTs_V l (fun y hy => h y (by simp only [flats]; exact List.mem_append_right _ hy))]
end

/-! ### Other names -/
/-- With variables for variables. -/
def ren (s : Int → Int) (t : Tm Unit) : Tm Unit := subT (fun n => V (s n)) t
def rens (s : Int → Int) (l : List (Tm Unit)) : List (Tm Unit) := subTs (fun n => V (s n)) l
theorem ren_kind (s : Int → Int) (t : Tm Unit) : (ren s t).kind = t.kind := by
  cases t with | mk k n nm e aa =>
  unfold ren
  by_cases hk : k = 0
  · simp only [subT, if_pos hk, V, kind]; exact hk.symm
  · simp only [subT, if_neg hk, kind]
theorem ren_n {s : Int → Int} {t : Tm Unit} (h : t.kind = 0) : (ren s t).n = s t.n := by
  cases t with | mk k n nm e aa =>
  unfold ren
  simp only [kind] at h
  simp only [subT, if_pos h, V, Tm.n]
mutual
theorem flat_ren (s : Int → Int) : ∀ t : Tm Unit, leafy t → (ren s t).flat = t.flat.map (ren s)
  | .mk k n nm e aa, h => by
    by_cases hk : k = 0
    · have := h (.mk k n nm e aa) (by rw [flat_eq]; exact List.mem_cons_self ..) hk
      rw [this]
      simp only [Tm.n, V, flat, flats, ren, subT, if_pos, List.map_cons, List.map_nil]
    · have hr : ren s (.mk k n nm e aa) = .mk k n nm e (rens s aa) := by unfold ren rens; simp only [subT, if_neg hk]
      rw [flat_eq (.mk k n nm e aa), List.map_cons, hr, flat]
      congr 1
      exact flats_ren s aa (fun x hx => h x (by rw [flat_eq]; exact List.mem_cons_of_mem _ hx))
theorem flats_ren (s : Int → Int) : ∀ l : List (Tm Unit), (∀ x ∈ flats l, x.kind = 0 → x = V x.n) → flats (rens s l) = (flats l).map (ren s)
  | [], _ => rfl
  | x :: l, h => by
    show flats (ren s x :: rens s l) = _
    simp only [flats, List.map_append]
    rw [flat_ren s x (fun y hy => h y (by simp only [flats]; exact List.mem_append_left _ hy)), flats_ren s l (fun y hy => h y (by simp only [flats]; exact List.mem_append_right _ hy))]
end
theorem size_ren (s : Int → Int) {t : Tm Unit} (h : leafy t) : (ren s t).size = t.size := by rw [← flat_length, flat_ren s t h, List.length_map, flat_length]
mutual
theorem depth_ren (s : Int → Int) : ∀ t : Tm Unit, leafy t → (ren s t).depth = t.depth
  | .mk k n nm e aa, h => by
    by_cases hk : k = 0
    · have := h (.mk k n nm e aa) (by rw [flat_eq]; exact List.mem_cons_self ..) hk
      rw [this]
      simp only [Tm.n, V, ren, subT, if_pos, depth, depths]
    · have hr : ren s (.mk k n nm e aa) = .mk k n nm e (rens s aa) := by unfold ren rens; simp only [subT, if_neg hk]
      rw [hr, depth, depth, depths_ren s aa (fun x hx => h x (by rw [flat_eq]; exact List.mem_cons_of_mem _ hx))]
theorem depths_ren (s : Int → Int) : ∀ l : List (Tm Unit), (∀ x ∈ flats l, x.kind = 0 → x = V x.n) → depths (rens s l) = depths l
  | [], _ => rfl
  | x :: l, h => by
    show depths (ren s x :: rens s l) = _
    simp only [depths]
    rw [depth_ren s x (fun y hy => h y (by simp only [flats]; exact List.mem_append_left _ hy)), depths_ren s l (fun y hy => h y (by simp only [flats]; exact List.mem_append_right _ hy))]
end
theorem leafy_ren (s : Int → Int) {t : Tm Unit} (h : leafy t) : leafy (ren s t) := by
  intro x hx hk
  rw [flat_ren s t h] at hx
  obtain ⟨y, hy, rfl⟩ := List.mem_map.1 hx
  rw [ren_kind] at hk
  rw [ren_n hk]
  have := h y hy hk
  rw [this]
  simp only [ren, V, subT, if_pos, Tm.n]
theorem vars_mem {t : Tm Unit} (n : Int) : n ∈ t.vars ↔ numsIn t n := by
  unfold vars numsIn
  generalize t.flat = l
  suffices h : ∀ (l : List (Tm Unit)) (vs : List Int), n ∈ l.foldl addVar vs ↔ n ∈ vs ∨ ∃ x ∈ l, x.kind = 0 ∧ x.n = n by
    rw [h]; simp
  intro l
  induction l with
  | nil => intro vs; simp
  | cons y l ih =>
    intro vs
    rw [List.foldl_cons, ih]
    unfold addVar
    by_cases h : y.kind = 0 ∧ y.n ∉ vs
    · rw [if_pos h]
      simp only [List.mem_append, List.mem_cons, List.not_mem_nil, or_false, exists_eq_or_imp]
      constructor
      · rintro ((h1 | h1) | h1)
        · exact .inl h1
        · exact .inr (.inl ⟨h.1, h1.symm⟩)
        · exact .inr (.inr h1)
      · rintro (h1 | h1 | h1)
        · exact .inl (.inl h1)
        · exact .inl (.inr h1.2.symm)
        · exact .inr h1
    · rw [if_neg h]
      simp only [List.mem_cons, exists_eq_or_imp]
      constructor
      · rintro (h1 | h1)
        · exact .inl h1
        · exact .inr (.inr h1)
      · rintro (h1 | h1 | h1)
        · exact .inl h1
        · refine .inl ?_
          by_cases hm : y.n ∈ vs
          · rw [← h1.2]; exact hm
          · exact absurd ⟨h1.1, hm⟩ h
        · exact .inr h1
theorem vars_nodup {α : Type} (t : Tm α) : t.vars.Nodup := by
  unfold vars
  suffices h : ∀ (l : List (Tm α)) (vs : List Int), vs.Nodup → (l.foldl addVar vs).Nodup from h _ _ List.nodup_nil
  intro l
  induction l with
  | nil => intro vs h; exact h
  | cons y l ih =>
    intro vs h
    rw [List.foldl_cons]
    apply ih
    unfold addVar
    split
    · rename_i hc
      rw [List.nodup_append]
      exact ⟨h, List.nodup_cons.2 ⟨List.not_mem_nil, List.nodup_nil⟩, fun a ha b hb => by simp at hb; subst hb; exact fun e => hc.2 (e ▸ ha)⟩
    · exact h
/-- Injective on what is in it. -/
def InjOn (s : Int → Int) (l : List Int) : Prop := ∀ a ∈ l, ∀ b ∈ l, s a = s b → a = b
theorem vars_ren {s : Int → Int} {t : Tm Unit} (h : leafy t) (hs : InjOn s t.vars) : (ren s t).vars = t.vars.map s := by
  have hs' : ∀ a b, numsIn t a → numsIn t b → s a = s b → a = b := fun a b ha hb => hs a ((vars_mem a).2 ha) b ((vars_mem b).2 hb)
  unfold vars
  rw [flat_ren s t h]
  unfold numsIn at hs'
  revert hs'
  clear hs h
  generalize t.flat = l
  intro hs'
  suffices hh : ∀ (r : List (Tm Unit)) (vs : List Int), (∀ x ∈ r, x ∈ l) → (∀ v ∈ vs, ∃ x ∈ l, x.kind = 0 ∧ x.n = v) → (r.map (ren s)).foldl addVar (vs.map s) = (r.foldl addVar vs).map s from
    hh l [] (fun _ h => h) (fun _ h => by cases h)
  intro r
  induction r with
  | nil => intro vs _ _; rfl
  | cons y r ih =>
    intro vs hr hv
    simp only [List.map_cons, List.foldl_cons]
    have hy := hr y (List.mem_cons_self ..)
    have e : addVar (vs.map s) (ren s y) = (addVar vs y).map s := by
      unfold addVar
      rw [ren_kind]
      by_cases hk : y.kind = 0
      · rw [ren_n hk]
        have hm : s y.n ∈ vs.map s ↔ y.n ∈ vs := by
          constructor
          · intro hm
            obtain ⟨v, hv1, hv2⟩ := List.mem_map.1 hm
            have := hs' v y.n (hv v hv1) ⟨y, hy, hk, rfl⟩ hv2
            rw [← this]; exact hv1
          · exact fun hm => List.mem_map_of_mem hm
        by_cases hn : y.n ∈ vs
        · rw [if_neg (fun c => c.2 (hm.2 hn)), if_neg (fun c => c.2 hn)]
        · rw [if_pos ⟨hk, fun c => hn (hm.1 c)⟩, if_pos ⟨hk, hn⟩, List.map_append]; rfl
      · rw [if_neg (fun c => hk c.1), if_neg (fun c => hk c.1)]
    rw [e]
    refine ih _ (fun x hx => hr x (List.mem_cons_of_mem _ hx)) ?_
    intro v hv'
    unfold addVar at hv'
    split at hv'
    · rename_i hc
      rcases List.mem_append.1 hv' with h1 | h1
      · exact hv v h1
      · simp at h1; exact ⟨y, hy, hc.1, h1.symm⟩
    · exact hv v hv'

/-- A variable's place among them. -/
def posOf (vs : List Int) (n : Int) : Nat := vs.idxOf n
theorem posOf_at {vs : List Int} (h : vs.Nodup) {i : Nat} {v : Int} (hi : vs[i]? = some v) : posOf vs v = i := by
  unfold posOf
  obtain ⟨hl, rfl⟩ := List.getElem?_eq_some_iff.1 hi
  exact List.Nodup.idxOf_getElem h i hl
theorem posOf_mem {vs : List Int} {n : Int} (h : n ∈ vs) : vs[posOf vs n]? = some n := by
  have hl := List.idxOf_lt_length_of_mem h
  unfold posOf
  rw [List.getElem?_eq_getElem hl, List.getElem_idxOf hl]
theorem posOf_map {vs : List Int} {s : Int → Int} (hs : InjOn s vs) (hnd : vs.Nodup) {n : Int} (h : n ∈ vs) : posOf (vs.map s) (s n) = posOf vs n := by
  have hnd' : (vs.map s).Nodup := by
    clear h
    induction vs with
    | nil => exact List.nodup_nil
    | cons v vs ih =>
      rw [List.map_cons, List.nodup_cons]
      rw [List.nodup_cons] at hnd
      refine ⟨fun hm => ?_, ih (fun a ha b hb => hs a (List.mem_cons_of_mem _ ha) b (List.mem_cons_of_mem _ hb)) hnd.2⟩
      obtain ⟨u, hu1, hu2⟩ := List.mem_map.1 hm
      have := hs u (List.mem_cons_of_mem _ hu1) v (List.mem_cons_self ..) hu2
      exact hnd.1 (this ▸ hu1)
  refine posOf_at hnd' ?_
  rw [List.getElem?_map, posOf_mem h]
  rfl
/-- Numbered from a first one on. -/
def fromS (vs : List Int) (first : Int) (n : Int) : Int := first + (posOf vs n : Nat)
theorem fromS_inj (vs : List Int) (first : Int) : InjOn (fromS vs first) vs := by
  intro a ha b hb e
  unfold fromS at e
  have e' : posOf vs a = posOf vs b := by omega
  have h1 := posOf_mem ha
  have h2 := posOf_mem hb
  rw [e', h2] at h1
  injection h1 with h1
  exact h1.symm
/-- Numbered anew from a first one on. -/
def fromT (t : Tm Unit) (first : Int) : Tm Unit := ren (fromS t.vars first) t
theorem vars_fromT {t : Tm Unit} (h : leafy t) (first : Int) : (fromT t first).vars = (List.range t.vars.length).map fun (i : Nat) => first + (i : Int) := by
  unfold fromT
  rw [vars_ren h (fromS_inj _ _)]
  apply List.ext_getElem?
  intro i
  rw [List.getElem?_map, List.getElem?_map]
  by_cases hi : i < t.vars.length
  · have h1 : t.vars[i]? = some t.vars[i] := List.getElem?_eq_getElem hi
    rw [h1, List.getElem?_range hi]
    simp only [Option.map_some]
    unfold fromS
    rw [posOf_at (vars_nodup t) h1]
  · rw [List.getElem?_eq_none (by omega), List.getElem?_eq_none (by rw [List.length_range]; omega)]
    rfl
theorem ren_ren (s r : Int → Int) (t : Tm Unit) : ren r (ren s t) = ren (fun n => r (s n)) t := by
  unfold ren
  rw [subT_subT]
  congr 1
theorem ren_congr {s r : Int → Int} {t : Tm Unit} (h : ∀ n ∈ t.vars, s n = r n) : ren s t = ren r t :=
  subT_congr t (fun x hx hk => by rw [h x.n ((vars_mem _).2 ⟨x, hx, hk, rfl⟩)])
theorem fromT_ren {s : Int → Int} {t : Tm Unit} (h : leafy t) (hs : InjOn s t.vars) (first : Int) : fromT (ren s t) first = fromT t first := by
  unfold fromT
  rw [vars_ren h hs, ren_ren]
  refine ren_congr (fun n hn => ?_)
  unfold fromS
  rw [posOf_map hs (vars_nodup t) hn]
end Tm
theorem good_leafy {t : Tm Unit} (h : goodB t = true) : Tm.leafy t := by
  unfold goodB at h
  simp only [Bool.and_eq_true, decide_eq_true_eq, List.all_eq_true] at h
  exact Tm.leafy_good h.2.2
theorem goodB_ren {s : Int → Int} {t : Tm Unit} (h : goodB t = true) (hs : ∀ n ∈ t.vars, 0 ≤ s n ∧ s n ≤ 2147483647) : goodB (Tm.ren s t) = true := by
  have hl := good_leafy h
  unfold goodB at h ⊢
  rw [Tm.size_ren s hl, Tm.depth_ren s t hl, Tm.flat_ren s t hl]
  simp only [Bool.and_eq_true, decide_eq_true_eq, List.all_eq_true] at h ⊢
  refine ⟨h.1, h.2.1, ?_⟩
  intro x hx
  obtain ⟨y, hy, rfl⟩ := List.mem_map.1 hx
  by_cases hk : y.kind = 0
  · have := hs y.n ((Tm.vars_mem _).2 ⟨y, hy, hk, rfl⟩)
    rw [hl y hy hk]
    simp only [Tm.V, Tm.n, Tm.ren, Tm.subT, if_pos]
    rw [goodOneB_0 _ rfl]
    show (decide (0 ≤ s y.n) && (decide (s y.n ≤ 2147483647) && (decide (ByteArray.empty.toList = []) && decide (0 = 0)))) = true
    rw [decide_eq_true this.1, decide_eq_true this.2, decide_eq_true ((bytes_nil _).2 rfl)]
    rfl
  · have hy' := h.2.2 y hy
    cases y with | mk k n nm e aa =>
    have hr : Tm.ren s (.mk k n nm e aa) = .mk k n nm e (Tm.rens s aa) := by unfold Tm.ren Tm.rens; simp only [Tm.kind] at hk; simp only [Tm.subT, if_neg hk]
    rw [hr]
    unfold goodOneB at hy' ⊢
    have e1 : (Tm.rens s aa).length = aa.length := by unfold Tm.rens; rw [Tm.subTs_eq, List.length_map]
    simp only [Tm.kind, Tm.n, Tm.name, Tm.args, e1] at hy' ⊢
    exact hy'
theorem goodB_fromT {t : Tm Unit} {first : Int} (h : goodB t = true) (h0 : 0 ≤ first) (h1 : first + t.vars.length ≤ 2147483648) : goodB (Tm.fromT t first) = true := by
  refine goodB_ren h (fun n hn => ?_)
  have := List.idxOf_lt_length_of_mem hn
  unfold Tm.fromS Tm.posOf
  omega
/-! ### One says more than another -/
namespace Tm
theorem same_unit (a b : Tm Unit) : same a b = true ↔ a = b := by rw [same_iff, bare_unit, bare_unit]
abbrev MM := Int → Option (Tm Unit)
def setM (m : MM) (n : Int) (b : Tm Unit) : MM := fun j => if j = n then some b else m j
mutual
/-- What stands for what, when the first is made the second; none: it can't be. -/
def moreM (a b : Tm Unit) (m : MM) : Option MM :=
  match a with
  | .mk k n s _ aa =>
    if k = 0 then (match m n with | none => some (setM m n b) | some x => if same x b = true then some m else none)
    else if k = b.kind ∧ n = b.n ∧ s = b.name ∧ aa.length = b.args.length then moresM aa b.args m else none
def moresM (l r : List (Tm Unit)) (m : MM) : Option MM :=
  match l with
  | [] => some m
  | x :: l => (match r with | [] => some m | y :: r => (match moreM x y m with | none => none | some m => moresM l r m))
end
/-- It has all that was there. -/
def Ext (m : MM) (σ : Int → Tm Unit) : Prop := ∀ n x, m n = some x → σ n = x
def Sub (m m' : MM) : Prop := ∀ n x, m n = some x → m' n = some x
theorem Sub.refl (m : MM) : Sub m m := fun _ _ h => h
theorem Sub.trans {a b c : MM} (h : Sub a b) (k : Sub b c) : Sub a c := fun n x e => k n x (h n x e)
theorem eq_mk (b : Tm Unit) : b = .mk b.kind b.n b.name () b.args := by cases b; rfl
mutual
theorem moreM_some : ∀ (a b : Tm Unit) (m m' : MM), moreM a b m = some m' → Sub m m' ∧ ∀ σ, Ext m' σ → subT σ a = b
  | .mk k n s e aa, b, m, m', h => by
    unfold moreM at h
    by_cases hk : k = 0
    · rw [if_pos hk] at h
      cases hm : m n with
      | none =>
        rw [hm] at h
        injection h with h; subst h
        refine ⟨fun j x hj => ?_, fun σ hσ => ?_⟩
        · unfold setM; by_cases e : j = n
          · subst e; rw [hm] at hj; cases hj
          · rw [if_neg e]; exact hj
        · simp only [subT, if_pos hk]
          exact hσ n b (by unfold setM; rw [if_pos rfl])
      | some x =>
        rw [hm] at h
        simp only at h
        by_cases hx : same x b = true
        · rw [if_pos hx] at h
          injection h with h; subst h
          exact ⟨Sub.refl _, fun σ hσ => by simp only [subT, if_pos hk]; rw [← (same_unit x b).1 hx]; exact hσ n x hm⟩
        · rw [if_neg hx] at h; cases h
    · rw [if_neg hk] at h
      by_cases hc : k = b.kind ∧ n = b.n ∧ s = b.name ∧ aa.length = b.args.length
      · rw [if_pos hc] at h
        obtain ⟨h1, h2⟩ := moresM_some aa b.args m m' hc.2.2.2 h
        refine ⟨h1, fun σ hσ => ?_⟩
        simp only [subT, if_neg hk]
        rw [h2 σ hσ, eq_mk b, ← hc.1, ← hc.2.1, ← hc.2.2.1]
        rfl
      · rw [if_neg hc] at h; cases h
theorem moresM_some : ∀ (l r : List (Tm Unit)) (m m' : MM), l.length = r.length → moresM l r m = some m' → Sub m m' ∧ ∀ σ, Ext m' σ → subTs σ l = r
  | [], [], m, m', _, h => by
    unfold moresM at h
    injection h with h; subst h
    exact ⟨Sub.refl _, fun _ _ => rfl⟩
  | [], _ :: _, _, _, hl, _ => by simp at hl
  | _ :: _, [], _, _, hl, _ => by simp at hl
  | x :: l, y :: r, m, m', hl, h => by
    unfold moresM at h
    simp only at h
    cases h1 : moreM x y m with
    | none => rw [h1] at h; cases h
    | some m1 =>
      rw [h1] at h
      simp only at h
      obtain ⟨a1, a2⟩ := moreM_some x y m m1 h1
      obtain ⟨b1, b2⟩ := moresM_some l r m1 m' (by simpa using hl) h
      refine ⟨a1.trans b1, fun σ hσ => ?_⟩
      simp only [subTs]
      rw [a2 σ (fun j z hz => hσ j z (b1 j z hz)), b2 σ hσ]
end
mutual
theorem moreM_of (σ : Int → Tm Unit) : ∀ (a b : Tm Unit) (m : MM), Ext m σ → subT σ a = b → ∃ m', moreM a b m = some m' ∧ Ext m' σ
  | .mk k n s e aa, b, m, hm, h => by
    unfold moreM
    by_cases hk : k = 0
    · simp only [subT, if_pos hk] at h
      rw [if_pos hk]
      cases hn : m n with
      | none =>
        refine ⟨_, rfl, fun j x hj => ?_⟩
        unfold setM at hj
        by_cases e : j = n
        · rw [if_pos e] at hj; injection hj with hj; rw [e, h, hj]
        · rw [if_neg e] at hj; exact hm j x hj
      | some x =>
        have := hm n x hn
        rw [h] at this
        simp only
        rw [if_pos ((same_unit x b).2 this.symm)]
        exact ⟨m, rfl, hm⟩
    · simp only [subT, if_neg hk] at h
      subst h
      rw [if_neg hk, if_pos ⟨rfl, rfl, rfl, by simp only [args]; rw [subTs_eq, List.length_map]⟩]
      exact moresM_of σ aa m hm
theorem moresM_of (σ : Int → Tm Unit) : ∀ (l : List (Tm Unit)) (m : MM), Ext m σ → ∃ m', moresM l (subTs σ l) m = some m' ∧ Ext m' σ
  | [], m, hm => ⟨m, by unfold moresM; rfl, hm⟩
  | x :: l, m, hm => by
    obtain ⟨m1, e1, h1⟩ := moreM_of σ x (subT σ x) m hm rfl
    obtain ⟨m2, e2, h2⟩ := moresM_of σ l m1 h1
    refine ⟨m2, ?_, h2⟩
    unfold moresM
    simp only [subTs]
    rw [e1]
    exact e2
end
/-- One says more than another: it is the other with terms in its variables' place. -/
def moreS (a b : Tm Unit) : Bool := (moreM a b fun _ => none).isSome
theorem moreS_iff (a b : Tm Unit) : moreS a b = true ↔ ∃ σ, subT σ a = b := by
  unfold moreS
  constructor
  · intro h
    obtain ⟨m, hm⟩ := Option.isSome_iff_exists.1 h
    refine ⟨fun n => (m n).getD b, (moreM_some a b _ m hm).2 _ (fun n x hx => by rw [hx]; rfl)⟩
  · rintro ⟨σ, hσ⟩
    obtain ⟨m, hm, _⟩ := moreM_of σ a b (fun _ => none) (fun _ _ h => by cases h) hσ
    rw [hm]; rfl
theorem moreS_refl {a : Tm Unit} (h : leafy a) : moreS a a = true := (moreS_iff a a).2 ⟨V, subT_V a h⟩
theorem moreS_trans {a b c : Tm Unit} (h : moreS a b = true) (k : moreS b c = true) : moreS a c = true := by
  obtain ⟨σ, hσ⟩ := (moreS_iff a b).1 h
  obtain ⟨τ, hτ⟩ := (moreS_iff b c).1 k
  exact (moreS_iff a c).2 ⟨_, by rw [← subT_subT, hσ, hτ]⟩
theorem subT_kind {σ : Int → Tm Unit} {t : Tm Unit} (h : t.kind ≠ 0) : (subT σ t).kind = t.kind := by
  cases t with | mk k n s e aa => simp only [kind] at h; simp only [subT, if_neg h, kind]
mutual
/-- What stands for a variable is in it. -/
theorem subT_mem (σ : Int → Tm Unit) (n : Int) : ∀ t : Tm Unit, (∃ x ∈ t.flat, x.kind = 0 ∧ x.n = n) → leafy t → σ n ∈ (subT σ t).flat
  | .mk k m s e aa, h, hl => by
    by_cases hk : k = 0
    · have hv := hl (.mk k m s e aa) (by rw [flat_eq]; exact List.mem_cons_self ..) hk
      rw [hv] at h ⊢
      obtain ⟨x, hx, _, hn⟩ := h
      simp only [V, Tm.n, flat, flats, List.mem_cons, List.not_mem_nil, or_false] at hx
      subst hx
      simp only [Tm.n] at hn
      subst hn
      simp only [V, subT, if_pos, Tm.n]
      rw [flat_eq]; exact List.mem_cons_self ..
    · simp only [subT, if_neg hk, flat]
      refine List.mem_cons_of_mem _ ?_
      refine subTs_mem σ n aa ?_ (fun x hx => hl x (by rw [flat_eq]; exact List.mem_cons_of_mem _ hx))
      obtain ⟨x, hx, h0, hn⟩ := h
      rw [flat_eq] at hx
      rcases List.mem_cons.1 hx with rfl | hx
      · exact absurd h0 hk
      · exact ⟨x, hx, h0, hn⟩
theorem subTs_mem (σ : Int → Tm Unit) (n : Int) : ∀ l : List (Tm Unit), (∃ x ∈ flats l, x.kind = 0 ∧ x.n = n) → (∀ x ∈ flats l, x.kind = 0 → x = V x.n) → σ n ∈ flats (subTs σ l)
  | [], h, _ => by obtain ⟨x, hx, _⟩ := h; cases hx
  | y :: l, h, hl => by
    simp only [subTs, flats]
    obtain ⟨x, hx, h0, hn⟩ := h
    simp only [flats] at hx
    rcases List.mem_append.1 hx with hx | hx
    · exact List.mem_append_left _ (subT_mem σ n y ⟨x, hx, h0, hn⟩ (fun z hz => hl z (by simp only [flats]; exact List.mem_append_left _ hz)))
    · exact List.mem_append_right _ (subTs_mem σ n l ⟨x, hx, h0, hn⟩ (fun z hz => hl z (by simp only [flats]; exact List.mem_append_right _ hz)))
end
mutual
/-- Made alike by two: in each variable's place. -/
theorem subT_eq {σ τ : Int → Tm Unit} {n : Int} : ∀ {t : Tm Unit}, subT σ t = subT τ t → leafy t → numsIn t n → σ n = τ n
  | .mk k m s e aa, h, hl, hn => by
    by_cases hk : k = 0
    · have hv := hl (.mk k m s e aa) (by rw [flat_eq]; exact List.mem_cons_self ..) hk
      rw [hv] at h hn
      obtain ⟨x, hx, _, hn⟩ := hn
      simp only [V, Tm.n, flat, flats, List.mem_cons, List.not_mem_nil, or_false] at hx
      subst hx
      simp only [Tm.n] at hn
      subst hn
      simpa only [V, subT, if_pos, Tm.n] using h
    · simp only [subT, if_neg hk, Tm.mk.injEq, true_and] at h
      obtain ⟨x, hx, h0, hn⟩ := hn
      rw [flat_eq] at hx
      rcases List.mem_cons.1 hx with rfl | hx
      · exact absurd h0 hk
      · exact subTs_eq' h (fun x hx => hl x (by rw [flat_eq]; exact List.mem_cons_of_mem _ hx)) ⟨x, hx, h0, hn⟩
theorem subTs_eq' {σ τ : Int → Tm Unit} {n : Int} : ∀ {l : List (Tm Unit)}, subTs σ l = subTs τ l → (∀ x ∈ flats l, x.kind = 0 → x = V x.n) → (∃ x ∈ flats l, x.kind = 0 ∧ x.n = n) → σ n = τ n
  | [], _, _, h => by obtain ⟨x, hx, _⟩ := h; cases hx
  | y :: l, h, hl, hn => by
    simp only [subTs, List.cons.injEq] at h
    obtain ⟨x, hx, h0, hn⟩ := hn
    simp only [flats] at hx
    rcases List.mem_append.1 hx with hx | hx
    · exact subT_eq h.1 (fun z hz => hl z (by simp only [flats]; exact List.mem_append_left _ hz)) ⟨x, hx, h0, hn⟩
    · exact subTs_eq' h.2 (fun z hz => hl z (by simp only [flats]; exact List.mem_append_right _ hz)) ⟨x, hx, h0, hn⟩
end
/-- Numbered from 0 on. -/
def plainT (t : Tm Unit) : Tm Unit := fromT t 0
theorem fromT_inv {t : Tm Unit} (h : leafy t) (first : Int) : subT (fun n => V (t.vars.getD (n - first).toNat 0)) (fromT t first) = t := by
  unfold fromT ren
  rw [subT_subT]
  have : subT (fun n => subT (fun n => V (t.vars.getD (n - first).toNat 0)) (V (fromS t.vars first n))) t = subT V t := by
    refine subT_congr t (fun x hx hk => ?_)
    have hm := (vars_mem x.n).2 ⟨x, hx, hk, rfl⟩
    simp only [V, subT, if_pos]
    unfold fromS
    have e : (first + (posOf t.vars x.n : Int) - first).toNat = posOf t.vars x.n := by omega
    rw [e, List.getD_eq_getElem?_getD, posOf_mem hm]
    rfl
  rw [this, subT_V t h]
theorem alike_more {a b : Tm Unit} (ha : leafy a) (hb : leafy b) (h : plainT a = plainT b) : moreS a b = true := by
  refine (moreS_iff a b).2 ⟨fun n => subT (fun n => V (b.vars.getD (n - 0).toNat 0)) (V (fromS a.vars 0 n)), ?_⟩
  rw [← subT_subT]
  show subT _ (plainT a) = b
  rw [h]
  exact fromT_inv hb 0
theorem more_alike {a b : Tm Unit} (ha : leafy a) (hb : leafy b) (h : moreS a b = true) (k : moreS b a = true) : plainT a = plainT b := by
  obtain ⟨σ, hσ⟩ := (moreS_iff a b).1 h
  obtain ⟨τ, hτ⟩ := (moreS_iff b a).1 k
  have hcomp : subT (fun n => subT τ (σ n)) a = subT V a := by rw [← subT_subT, hσ, hτ, subT_V a ha]
  have key : ∀ n ∈ a.vars, subT τ (σ n) = V n := by
    intro n hn
    have hn' := (vars_mem n).1 hn
    clear hn h k hσ hτ hb
    exact subT_eq hcomp ha hn'
  have hvar : ∀ n ∈ a.vars, σ n = V (σ n).n := by
    intro n hn
    have h0 : (σ n).kind = 0 := by
      by_cases hk : (σ n).kind = 0
      · exact hk
      · have := congrArg kind (key n hn)
        rw [subT_kind hk] at this
        exact absurd this hk
    exact hb _ (by rw [← hσ]; exact subT_mem σ n a ((vars_mem n).1 hn) ha) h0
  have e : b = ren (fun n => (σ n).n) a := by
    rw [← hσ]
    exact subT_congr a (fun x hx hk => hvar x.n ((vars_mem _).2 ⟨x, hx, hk, rfl⟩))
  have hinj : InjOn (fun n => (σ n).n) a.vars := by
    intro m hm n hn hmn
    have h1 := key m hm
    have h2 := key n hn
    rw [hvar m hm] at h1
    rw [hvar n hn] at h2
    simp only at hmn
    rw [hmn, h2] at h1
    exact (congrArg Tm.n h1).symm
  rw [e]
  exact (fromT_ren ha hinj 0).symm
end Tm
end Go.Proofs.Ytoihjobdfjajfaa

/- Terms made again, arg by arg: what a loop of appends holds (Replace, rename). -/
namespace Go.Proofs.Ytoihjobdfjajfaa
set_option linter.unusedVariables false
set_option linter.unusedSimpArgs false
open Go.RowKit

namespace Tm
mutual
/-- What is known in the variables' place. -/
def subF (f : Int → Option (Tm Unit)) : Tm Unit → Tm Unit
  | .mk k n s e aa => if k = 0 then (f n).getD (.mk k n s e aa) else .mk k n s e (subFs f aa)
def subFs (f : Int → Option (Tm Unit)) : List (Tm Unit) → List (Tm Unit)
  | [] => []
  | x :: l => subF f x :: subFs f l
end
theorem subFs_eq (f : Int → Option (Tm Unit)) (l : List (Tm Unit)) : subFs f l = l.map (subF f) := by
  induction l with
  | nil => rfl
  | cons x l ih => simp only [subFs, List.map_cons, ih]
mutual
theorem subF_subT {f : Int → Option (Tm Unit)} {σ : Int → Tm Unit} : ∀ t : Tm Unit, (∀ x ∈ t.flat, x.kind = 0 → f x.n = some (σ x.n)) → subF f t = subT σ t
  | .mk k n s e aa, h => by
    by_cases hk : k = 0
    · have := h (.mk k n s e aa) (by rw [flat_eq]; exact List.mem_cons_self ..) hk
      simp only [Tm.n] at this
      simp only [subF, subT, if_pos hk, this, Option.getD_some]
    · simp only [subF, subT, if_neg hk]
      rw [subFs_subTs aa (fun x hx => h x (by rw [flat_eq]; exact List.mem_cons_of_mem _ hx))]
theorem subFs_subTs {f : Int → Option (Tm Unit)} {σ : Int → Tm Unit} : ∀ l : List (Tm Unit), (∀ x ∈ flats l, x.kind = 0 → f x.n = some (σ x.n)) → subFs f l = subTs σ l
  | [], _ => rfl
  | x :: l, h => by
    simp only [subFs, subTs]
    rw [subF_subT x (fun y hy => h y (by simp only [flats]; exact List.mem_append_left _ hy)), subFs_subTs l (fun y hy => h y (by simp only [flats]; exact List.mem_append_right _ hy))]
end
end Tm
/-- What a map of terms holds, as values; as terms. -/
def valsM (g : Int → Option LT) : Int → Option Value := fun i => (g i).map LT.val
def baresM (g : Int → Option LT) : Int → Option (Tm Unit) := fun i => (g i).map Tm.bare
/-- What lies in memory at the head of the loop: the terms made so far, behind out's Args. -/
structure RepI (p : Nat → Prop) (σ : Tm Unit → Tm Unit) (N B2 : Nat) (t : LT) (w1 : World) (j : Nat) (us : List LT) (a : Option Addr) (c : Nat) (W : World) : Prop where
  bares : us.map Tm.bare = (t.args.take j).map fun x => σ x.bare
  blk : W.heap[B2]? = some (.cells #[.int .i64 t.kind, .int .i64 t.n, .string t.name, .slice a j c] 27 (0, 0))
  row : Row W 27 4 (.slice a j c) j (us.flatMap LT.cells)
  ins : LT.Ins (fun k => (p k ∨ N ≤ k) ∧ (Value.slice a j c).ownBlock ≠ some k) W us
  own : ∀ b, (Value.slice a j c).ownBlock = some b → N ≤ b
  turned : Turned (fun k => k = B2) w1 W
/-- The region's state: the call has been, its cells laid, appended, stored. -/
def RepS (p : Nat → Prop) (σ : Tm Unit → Tm Unit) (N B2 : Nat) (t x : LT) (w1 : World) (j : Nat) (us : List LT) (a : Option Addr) (c : Nat) (wr : World) : List Value → World → Prop
  | [], W => Turned (fun _ => False) wr W
  | [uv], W => Turned (fun _ => False) wr W ∧ ∃ u : LT, uv = u.val ∧ u.bare = σ x.bare ∧ u.In (fun k => p k ∨ wr.heap.size ≤ k) W
  | [_, sv], W => Turned (fun _ => False) wr W ∧ ∃ (u : LT) (g : Nat), sv = .slice (some ⟨g, 0, none⟩) 1 1 ∧ u.bare = σ x.bare ∧ u.In (fun k => p k ∨ wr.heap.size ≤ k) W ∧ W.heap[g]? = some (.cells u.cells.toArray 27 (0, 0))
  | [_, _, av], W => ∃ (u : LT) (g cap : Nat), av = .slice (some ⟨g, 0, none⟩) (j + 1) cap ∧ u.bare = σ x.bare ∧ Row W 27 4 av (j + 1) (us.flatMap LT.cells ++ u.cells) ∧ LT.In (fun k => (p k ∨ wr.heap.size ≤ k) ∧ k ≠ g) W u ∧ Turned (fun k => (Value.slice a j c).ownBlock = some k) wr W ∧ (some g = (Value.slice a j c).ownBlock ∨ wr.heap.size ≤ g)
  | [_, _, _, _], W => ∃ us' a' c', RepI p σ N B2 t w1 (j + 1) us' a' c' W
  | _, _ => False
theorem RepI.turned0 {p : Nat → Prop} {σ : Tm Unit → Tm Unit} {N B2 : Nat} {t : LT} {w1 : World} {j : Nat} {us : List LT} {a : Option Addr} {c : Nat} {w w' : World} (h : RepI p σ N B2 t w1 j us a c w) (ht : Turned (fun _ => False) w w') : RepI p σ N B2 t w1 j us a c w' :=
  ⟨h.bares, (ht.block B2 (Array.getElem?_eq_some_iff.1 h.blk).1 (fun f => f)).trans h.blk, h.row.turned0 ht, h.ins.turned0 ht, h.own, h.turned.trans (ht.mono (fun _ _ f => f.elim))⟩
theorem RepS.turned0 {p : Nat → Prop} {σ : Tm Unit → Tm Unit} {N B2 : Nat} {t x : LT} {w1 wr : World} {j : Nat} {us : List LT} {a : Option Addr} {c : Nat} : ∀ (hs : List Value) (w w' : World), RepS p σ N B2 t x w1 j us a c wr hs w → Turned (fun _ => False) w w' → RepS p σ N B2 t x w1 j us a c wr hs w'
  | [], w, w', h, ht => Turned.trans h ht
  | [uv], w, w', h, ht => by
    obtain ⟨h1, u, h2, h3, h4⟩ := h
    exact ⟨h1.trans ht, u, h2, h3, h4.turned0 ht⟩
  | [_, sv], w, w', h, ht => by
    obtain ⟨h1, u, g, h2, h3, h4, h5⟩ := h
    exact ⟨h1.trans ht, u, g, h2, h3, h4.turned0 ht, (ht.block g (Array.getElem?_eq_some_iff.1 h5).1 (fun f => f)).trans h5⟩
  | [_, _, av], w, w', h, ht => by
    obtain ⟨u, g, cap, h1, h2, h3, h4, h5, h6⟩ := h
    exact ⟨u, g, cap, h1, h2, h3.turned0 ht, h4.turned0 ht, h5.trans (ht.mono (fun _ _ f => f.elim)), h6⟩
  | [_, _, _, _], w, w', h, ht => by
    obtain ⟨us', a', c', h⟩ := h
    exact ⟨us', a', c', h.bares, (ht.block B2 (Array.getElem?_eq_some_iff.1 h.blk).1 (fun f => f)).trans h.blk, h.row.turned0 ht, h.ins.turned0 ht, h.own, h.turned.trans (ht.mono (fun _ _ f => f.elim))⟩
  | _ :: _ :: _ :: _ :: _ :: _, _, _, h, _ => h.elim
theorem rep_nil {p : Nat → Prop} {σ : Tm Unit → Tm Unit} {N B2 : Nat} {t x : LT} {w1 wr W : World} {j : Nat} {us : List LT} {a : Option Addr} {c : Nat} {hs : List Value} (hl : hs.length ≤ 0) (h : RepS p σ N B2 t x w1 j us a c wr hs W) : Turned (fun _ => False) wr W := by
  obtain rfl : hs = [] := List.eq_nil_of_length_eq_zero (by omega)
  exact h
/-- r, as long as nothing has been appended. -/
theorem RepS.blk {p : Nat → Prop} {σ : Tm Unit → Tm Unit} {N B2 : Nat} {t x : LT} {w1 wr : World} {j : Nat} {us : List LT} {a : Option Addr} {c : Nat} (h : RepI p σ N B2 t w1 j us a c wr) (hs : List Value) (W : World) (hle : hs.length ≤ 2) (hS : RepS p σ N B2 t x w1 j us a c wr hs W) :
    W.cell? ⟨B2, 0, none⟩ = some (.int .i64 t.kind) ∧ W.cell? ⟨B2, 1, none⟩ = some (.int .i64 t.n) ∧ W.cell? ⟨B2, 2, none⟩ = some (.string t.name) ∧ W.cell? ⟨B2, 3, none⟩ = some (.slice a j c) := by
  have hT : Turned (fun _ => False) wr W := by
    match hs, hle, hS with
    | [], _, h => exact h
    | [_], _, h => exact h.1
    | [_, _], _, h => exact h.1
  obtain ⟨q0, q1, q2, q3, _⟩ := cells4 ((hT.block B2 (Array.getElem?_eq_some_iff.1 h.blk).1 (fun f => f)).trans h.blk)
  exact ⟨q0, q1, q2, q3⟩
/-- After the store. -/
theorem rep_close {p : Nat → Prop} {σ : Tm Unit → Tm Unit} {N B2 : Nat} {t x : LT} {w1 wr W : World} {j : Nat} {us : List LT} {a : Option Addr} {c g cap : Nat} {u : LT} (hp : ∀ k, p k → k < B2) (hB : B2 < N) (hN : N ≤ wr.heap.size) (h : RepI p σ N B2 t w1 j us a c wr) (hx : t.args[j]? = some x)
    (hu : u.bare = σ x.bare) (hr : Row W 27 4 (.slice (some ⟨g, 0, none⟩) (j + 1) cap) (j + 1) (us.flatMap LT.cells ++ u.cells)) (hi : LT.In (fun k => (p k ∨ wr.heap.size ≤ k) ∧ k ≠ g) W u) (hT : Turned (fun k => (Value.slice a j c).ownBlock = some k) wr W) (hg : some g = (Value.slice a j c).ownBlock ∨ wr.heap.size ≤ g) (hw : w1.heap.size ≤ N) :
    RepI p σ N B2 t w1 (j + 1) (us ++ [u]) (some ⟨g, 0, none⟩) cap (W.setCell ⟨B2, 3, none⟩ (.slice (some ⟨g, 0, none⟩) (j + 1) cap)) := by
  have hgN : N ≤ g := by
    rcases hg with e | e
    · exact h.own g e.symm
    · omega
  have hgB : g ≠ B2 := by omega
  have hbl : W.heap[B2]? = some (.cells #[.int .i64 t.kind, .int .i64 t.n, .string t.name, .slice a j c] 27 (0, 0)) :=
    (hT.block B2 (Array.getElem?_eq_some_iff.1 h.blk).1 (fun e => by have := h.own B2 e; omega)).trans h.blk
  have Ts : Turned (fun k => k = B2) W (W.setCell ⟨B2, 3, none⟩ (.slice (some ⟨g, 0, none⟩) (j + 1) cap)) := (Turned.refl (fun k => k = B2) W).setCell (p := ⟨B2, 3, none⟩) (.inr rfl) _
  refine ⟨?_, ?_, ?_, ?_, ?_, ?_⟩
  · rw [List.take_add_one, hx, List.map_append, List.map_append, h.bares, List.map_cons, List.map_nil, hu]; rfl
  · have := heap_setCell_same W B2 3 _ 27 (.slice (some ⟨g, 0, none⟩) (j + 1) cap) hbl
    simpa using this
  · rw [List.flatMap_append, List.flatMap_cons, List.flatMap_nil, List.append_nil]
    exact hr.setCell (by simp [Value.ownBlock]; exact hgB) _
  · rw [LT.ins_append]
    have hne : ∀ k, (Value.slice (some ⟨g, 0, none⟩) (j + 1) cap).ownBlock ≠ some k ↔ k ≠ g := by
      intro k; simp [Value.ownBlock]; exact ⟨fun h e => h e.symm, fun h e => h e.symm⟩
    refine ⟨?_, ?_, trivial⟩
    · have h1 : LT.Ins (fun k => (p k ∨ N ≤ k) ∧ k ≠ g) W us := h.ins.turned hT (fun k _ hk e => hk.2 e) (fun k hl hk => ⟨hk.1, fun e => by
        subst e
        rcases hg with e | e
        · exact hk.2 e.symm
        · omega⟩)
      refine h1.turned Ts (fun k _ hk e => hk.1.elim (fun hq => by have := hp k hq; omega) (fun hq => by omega)) (fun k _ hk => ⟨hk.1, (hne k).2 hk.2⟩)
    · exact hi.turned Ts (fun k _ hk e => hk.1.elim (fun hq => by have := hp k hq; omega) (fun hq => by omega)) (fun k _ hk => ⟨hk.1.elim .inl (fun hq => .inr (by omega)), (hne k).2 hk.2⟩)
  · intro b hb
    simp [Value.ownBlock] at hb
    omega
  · exact (h.turned.step hT (fun i hi e => by have := h.own i e; omega)).setCell (p := ⟨B2, 3, none⟩) (.inr rfl) _
end Go.Proofs.Ytoihjobdfjajfaa

/- The laws of Any3 and Any4, where an operation that turns the state waits for the one ahead of it be it through others. -/
namespace Go.Proofs.Ytoihjobdfjajfaa
open Go
/-- What an operation waits for, as bits. -/
def edgeMask (ops : Array Oper) (i : Nat) : Nat := match ops[i]? with
  | none => 0
  | some o => o.after.toList.foldl (fun m e => if Region.binds .any e then m ||| 1 <<< e.on else m) 0
/-- All that it waits for, be it through others, as bits; and itself. -/
def reachMask (ops : Array Oper) (j : Nat) : Nat := (List.range (j + 1)).reverse.foldl (fun m i => if m.testBit i then m ||| edgeMask ops i else m) (1 <<< j)
theorem bit_one (k i : Nat) : (1 <<< k).testBit i = true ↔ k = i := by
  rw [Nat.one_shiftLeft, Nat.testBit_two_pow, decide_eq_true_eq]
theorem edgeMask_bit {ops : Array Oper} {i k : Nat} (h : (edgeMask ops i).testBit k = true) : ∃ o, ops[i]? = some o ∧ ∃ e ∈ o.after, Region.binds .any e = true ∧ e.on = k := by
  unfold edgeMask at h
  cases ho : ops[i]? with
  | none => rw [ho] at h; simp at h
  | some o =>
    rw [ho] at h
    simp only at h
    refine ⟨o, rfl, ?_⟩
    have key : ∀ (l : List Edge) (m : Nat), (l.foldl (fun m e => if Region.binds .any e then m ||| 1 <<< e.on else m) m).testBit k = true → m.testBit k = true ∨ ∃ e ∈ l, Region.binds .any e = true ∧ e.on = k := by
      intro l
      induction l with
      | nil => intro m h; exact .inl h
      | cons x l ih =>
        intro m h
        rw [List.foldl_cons] at h
        rcases ih _ h with h | ⟨e, he, hb⟩
        · split at h
          · rename_i hb
            rw [Nat.testBit_or, Bool.or_eq_true] at h
            rcases h with h | h
            · exact .inl h
            · exact .inr ⟨x, List.mem_cons_self .., hb, (bit_one _ _).1 h⟩
          · exact .inl h
        · exact .inr ⟨e, List.mem_cons_of_mem _ he, hb⟩
    rcases key _ _ h with h | ⟨e, he, hb⟩
    · simp at h
    · exact ⟨e, by simpa using he, hb⟩
theorem waits_edge {ops : Array Oper} {i k : Nat} (he : ∃ o, ops[i]? = some o ∧ ∃ e ∈ o.after, Region.binds .any e = true ∧ e.on = k) : ∀ (n j : Nat), waits ops n j i = true → waits ops (n + 1) j k = true := by
  intro n
  induction n with
  | zero => intro j h; cases h
  | succ n ih =>
    intro j h
    unfold waits at h ⊢
    cases ho : ops[j]? with
    | none => rw [ho] at h; cases h
    | some o =>
      rw [ho] at h
      simp only at h ⊢
      obtain ⟨e, hm, hb⟩ := (Array.any_eq_true').1 h
      simp only [Bool.and_eq_true, Bool.or_eq_true, beq_iff_eq] at hb
      refine (Array.any_eq_true').2 ⟨e, hm, ?_⟩
      simp only [Bool.and_eq_true, Bool.or_eq_true, beq_iff_eq]
      refine ⟨hb.1, .inr ?_⟩
      rcases hb.2 with hq | hq
      · subst hq
        obtain ⟨o', ho', e', he', hb', hon⟩ := he
        unfold waits
        rw [ho']
        refine (Array.any_eq_true').2 ⟨e', he', ?_⟩
        simp only [Bool.and_eq_true, Bool.or_eq_true, beq_iff_eq]
        exact ⟨hb', .inl hon⟩
      · exact ih _ hq
theorem waits_one {ops : Array Oper} {i k : Nat} (he : ∃ o, ops[i]? = some o ∧ ∃ e ∈ o.after, Region.binds .any e = true ∧ e.on = k) : waits ops 1 i k = true := by
  obtain ⟨o', ho', e', he', hb', hon⟩ := he
  unfold waits
  rw [ho']
  refine (Array.any_eq_true').2 ⟨e', he', ?_⟩
  simp only [Bool.and_eq_true, Bool.or_eq_true, beq_iff_eq]
  exact ⟨hb', .inl hon⟩
theorem reachMask_bit {ops : Array Oper} {j i : Nat} (h : (reachMask ops j).testBit i = true) : i = j ∨ ∃ n, waits ops n j i = true := by
  unfold reachMask at h
  have key : ∀ (l : List Nat) (m : Nat), (∀ i, m.testBit i = true → i = j ∨ ∃ n, waits ops n j i = true) → ∀ i, (l.foldl (fun m i => if m.testBit i then m ||| edgeMask ops i else m) m).testBit i = true → i = j ∨ ∃ n, waits ops n j i = true := by
    intro l
    induction l with
    | nil => intro m hm i h; exact hm i h
    | cons x l ih =>
      intro m hm i h
      rw [List.foldl_cons] at h
      refine ih _ ?_ i h
      intro k hk
      split at hk
      · rename_i hx
        rw [Nat.testBit_or, Bool.or_eq_true] at hk
        rcases hk with hk | hk
        · exact hm k hk
        · have he := edgeMask_bit hk
          rcases hm x hx with rfl | ⟨n, hn⟩
          · exact .inr ⟨1, waits_one he⟩
          · exact .inr ⟨n + 1, waits_edge he n j hn⟩
      · exact hm k hk
  refine key _ _ (fun i h => ?_) i h
  exact .inl ((bit_one _ _).1 h).symm
def chkStW (ops : Array Oper) (st : List Nat) : Bool :=
  st.all (fun i => decide (i < ops.size)) && (List.range st.length).all fun k => match st[k]?, st[k + 1]? with
    | some i, some j => decide (i < j) && (reachMask ops j).testBit i
    | _, _ => true
theorem chkSt_ltW {ops : Array Oper} {st : List Nat} (h : chkStW ops st = true) {k i : Nat} (hi : st[k]? = some i) : i < ops.size := by
  simp only [chkStW, Bool.and_eq_true, List.all_eq_true] at h
  simpa using h.1 i (List.mem_of_getElem? hi)
theorem chkSt_nextW {ops : Array Oper} {st : List Nat} (h : chkStW ops st = true) {k i j : Nat} (hi : st[k]? = some i) (hj : st[k + 1]? = some j) : i < j ∧ ∃ n, waits ops n j i = true := by
  simp only [chkStW, Bool.and_eq_true, List.all_eq_true] at h
  have := h.2 k (List.mem_range.2 (List.getElem?_eq_some_iff.1 hi).1)
  rw [hi, hj] at this
  simp only [Bool.and_eq_true, decide_eq_true_eq] at this
  refine ⟨this.1, ?_⟩
  rcases reachMask_bit this.2 with e | e
  · omega
  · exact e
theorem chkSt_monoW {ops : Array Oper} {st : List Nat} (h : chkStW ops st = true) (d : Nat) : ∀ {k i j : Nat}, st[k]? = some i → st[k + d + 1]? = some j → i < j := by
  induction d with
  | zero => intro k i j hi hj; exact (chkSt_nextW h hi hj).1
  | succ d ih =>
    intro k i j hi hj
    have hlt : k + d + 1 < st.length := by have := (List.getElem?_eq_some_iff.1 hj).1; omega
    have hm : st[k + d + 1]? = some st[k + d + 1] := List.getElem?_eq_getElem hlt
    have h1 := ih hi hm
    have h2 := (chkSt_nextW h hm (by rw [show k + d + 1 + 1 = k + (d + 1) + 1 from by omega]; exact hj)).1
    omega
theorem chkSt_injW {ops : Array Oper} {st : List Nat} (h : chkStW ops st = true) {k k' i : Nat} (hi : st[k]? = some i) (hj : st[k']? = some i) : k = k' := by
  rcases Nat.lt_trichotomy k k' with hl | hl | hl
  · have := chkSt_monoW h (k' - k - 1) hi (by rw [show k + (k' - k - 1) + 1 = k' from by omega]; exact hj)
    omega
  · exact hl
  · have := chkSt_monoW h (k - k' - 1) hj (by rw [show k' + (k - k' - 1) + 1 = k from by omega]; exact hi)
    omega
section
variable {P : Program} {G : List Value → Tmp → Value → World → Prop} {ops : Array Oper} {a0 : Act} {w0 : World} {Q : Exit → Act → World → Prop} {st : List Nat} {R : List Value → World → Prop} {Step : World → World → Prop}
theorem InvS.hereW {listed : Array Bool} {hs : List Value} {m : Nat} {w : World} (h : InvS ops st R listed hs m w) (hst : chkStW ops st = true) {i k : Nat} (hp : posOf st i = some k) (hr : i ∈ Region.ready .any ops listed) : k = m := by
  obtain ⟨hf, o, ho, hall⟩ := mem_ready.1 hr
  have hk := posOf_some hp
  have h1 := h.done k i hk
  have hmk : m ≤ k := by
    have : listed.getD i false = false := by
      have hf' := hf
      simp only [Array.getD_eq_getD_getElem?] at hf' ⊢
      cases h : listed[i]? with
      | none => rfl
      | some b => rw [h] at hf'; simpa using hf'
    rw [this] at h1
    have := of_decide_eq_false h1.symm
    omega
  by_cases e : k = m
  · exact e
  · exfalso
    have hk1 : st[k - 1]? = some (st[k - 1]'(by have := (List.getElem?_eq_some_iff.1 hk).1; omega)) := List.getElem?_eq_getElem _
    obtain ⟨_, hedge⟩ := chkSt_nextW hst hk1 (by rw [show k - 1 + 1 = k from by omega]; exact hk)
    have h2 := h.done _ _ hk1
    have h3 : listed.getD (st[k - 1]'(by have := (List.getElem?_eq_some_iff.1 hk).1; omega)) false = true := by
      obtain ⟨n, hedge⟩ := hedge
      cases n with
      | zero => cases hedge
      | succ n =>
      unfold waits at hedge
      rw [ho] at hedge
      obtain ⟨e', he', hb⟩ := (Array.any_eq_true').1 hedge
      simp only [Bool.and_eq_true, Bool.or_eq_true, beq_iff_eq] at hb
      have h4 := hall e' he' hb.1
      rcases hb.2 with hq | hq
      · rw [← hq]; exact h4
      · exact waits_listed h.shut n _ _ hq h4
    rw [h3] at h2
    have := of_decide_eq_true h2.symm
    omega
theorem InvS.nextW {listed : Array Bool} {hs : List Value} {m : Nat} {w w' : World} (h : InvS ops st R listed hs m w) (hst : chkStW ops st = true) (hl : listed.size = ops.size) {i : Nat} (hr : i ∈ Region.ready .any ops listed) (hp : posOf st i = some m) {v : Value} (hR : R (hs ++ [v]) w') : InvS ops st R (listed.setIfInBounds i true) (hs ++ [v]) (m + 1) w' := by
  have hk := posOf_some hp
  have hlt := (List.getElem?_eq_some_iff.1 hk).1
  refine ⟨hlt, by rw [List.length_append, h.len]; rfl, hR, fun k j hj => ?_, shut_set h.shut hl hr⟩
  by_cases e : j = i
  · subst e
    have := chkSt_injW hst hj hk
    subst this
    have hb : j < listed.size := by rw [hl]; exact chkSt_ltW hst hk
    simp [hb]
  · rw [getD_set_ne false (Ne.symm e), h.done k j hj, decide_eq_decide]
    have hne : k ≠ m := fun e' => by subst e'; rw [hk] at hj; injection hj with hj; exact e hj.symm
    omega
theorem st_goW (hc : chkAny ops a0.tmps.size = true) (hst : chkStW ops st = true) (hG : ∀ hs d v w w', Step w w' → G hs d v w → G hs d v w') (hG2 : ∀ hs x d v w, G hs d v w → G (hs ++ [x]) d v w) (hs : StepsAt P G ops a0 st R Step 0 ops.toList)
    (hQ : ∀ hs a w, hs.length = st.length → R hs w → (∀ s, Looks (G hs) ops a0 a w s) → a.defers = a0.defers → a.tmps.size = a0.tmps.size → Q .normal a w) :
    ∀ (fuel : Nat) (listed : Array Bool) (a : Act) (w : World) (hs : List Value) (m : Nat), listed.toList.count false ≤ fuel → InvS ops st R listed hs m w → InvA (G hs) ops a0 a listed w → wpAny P .any ops Q fuel listed a w := by
  intro fuel
  have hend : ∀ (listed : Array Bool) (a : Act) (w : World) (hs : List Value) (m : Nat), InvS ops st R listed hs m w → InvA (G hs) ops a0 a listed w → Region.ready .any ops listed = [] → Q .normal a w := by
    intro listed a w hs m hT hI hr
    have hall := all_listed hc hI.lsize hr
    have hm : m = st.length := by
      rcases Nat.lt_or_ge m st.length with hl | hl
      · have hk : st[m]? = some st[m] := List.getElem?_eq_getElem hl
        have h1 := hT.done m _ hk
        rw [hall _ (chkSt_ltW hst hk)] at h1
        have := of_decide_eq_true h1.symm
        omega
      · have := hT.le; omega
    subst hm
    refine hQ hs a w hT.len hT.state (fun s => ?_) hI.defers hI.size
    unfold Looks
    split
    · rename_i hm
      obtain ⟨oj, hoj, hd⟩ := List.mem_filterMap.1 hm
      obtain ⟨j, hj⟩ := List.getElem?_of_mem hoj
      rw [Array.getElem?_toList] at hj
      exact hI.done j oj s hj hd (hall j (Array.getElem?_eq_some_iff.1 hj).1)
    · rename_i hm
      refine hI.rest s fun j oj hj hd => absurd (List.mem_filterMap.2 ⟨oj, ?_, hd⟩) hm
      exact List.mem_of_getElem? (by rw [Array.getElem?_toList]; exact hj)
  induction fuel with
  | zero =>
    intro listed a w hs' m hf hT hI
    have hr : Region.ready .any ops listed = [] := by
      apply List.eq_nil_iff_forall_not_mem.2
      intro i hi
      obtain ⟨hfalse, o, ho, _⟩ := mem_ready.1 hi
      have hlt : i < listed.size := by rw [hI.lsize]; exact (Array.getElem?_eq_some_iff.1 ho).1
      simp [hlt] at hfalse
      have : false ∈ listed.toList := by rw [← hfalse]; exact Array.getElem_mem_toList hlt
      have := List.count_pos_iff.2 this
      omega
    exact ⟨hr, hend _ _ _ _ _ hT hI hr⟩
  | succ fuel ih =>
    intro listed a w hs' m hf hT hI
    refine ⟨hend _ _ _ _ _ hT hI, fun i hi => ?_⟩
    obtain ⟨hfalse, o, ho, _⟩ := mem_ready.1 hi
    have hlt : i < listed.size := by rw [hI.lsize]; exact (Array.getElem?_eq_some_iff.1 ho).1
    have hcnt : (listed.setIfInBounds i true).toList.count false ≤ fuel := by
      have h1 : listed.toList[i]? = some false := by
        simp [hlt] at hfalse
        rw [Array.getElem?_toList, Array.getElem?_eq_getElem hlt, hfalse]
      have := count_set h1
      rw [Array.toList_setIfInBounds]
      omega
    have hst1 := hs.at (j := i) (o := o) (by rw [Array.getElem?_toList]; exact ho)
    rw [Nat.zero_add] at hst1
    unfold wpOp
    simp only [ho]
    unfold StepAt at hst1
    cases hp : posOf st i with
    | none =>
      rw [hp] at hst1
      have hst2 := hst1 hs' (by rw [hT.len]; exact hT.le) (fun k j n hk hedge => by
        rw [hT.len]
        have h1 := hT.done k j hk
        rcases Nat.lt_or_ge k m with hl | hl
        · exfalso
          have h2 := waits_listed hT.shut n j i hedge (by rw [h1]; exact decide_eq_true hl)
          have h3 : listed.getD i true = false := by simpa using hfalse
          simp only [Array.getD_eq_getD_getElem?] at h2 h3
          cases hx : listed[i]? with
          | none => rw [hx] at h2; simp at h2
          | some b => rw [hx] at h2 h3; simp at h2 h3; rw [h2] at h3; cases h3
        · exact hl) a w hT.state (hI.looks hc ho hi)
      split
      · rename_i hw
        refine .inl ?_
        exact Brings.upon (hst2.1 hw) fun v w' hv => ih _ _ _ hs' m hcnt (hT.other hp hI.lsize hi hv.1) (hI.stepG hc (fun d v => hG hs' d v _ _ hv.2.1) ho hv.2.2)
      · rename_i hw
        have := hst2.2 (by simpa using hw)
        exact ih _ _ _ hs' m hcnt (hT.other hp hI.lsize hi this.1) (hI.stepG hc (fun d v h => h) ho this.2.2)
    | some k =>
      rw [hp] at hst1
      have hkm := InvS.hereW hT hst hp hi
      subst hkm
      have hst2 := hst1 hs' hT.len a w hT.state (hI.looks hc ho hi)
      split
      · rename_i hw
        refine .inl ?_
        exact Brings.upon (hst2.1 hw) fun v w' hv => ih _ _ _ (hs' ++ [v]) (k + 1) hcnt (InvS.nextW hT hst hI.lsize hi hp hv.1) (hI.stepG hc (fun d u h => hG2 _ _ _ _ _ (hG hs' d u _ _ hv.2.1 h)) ho hv.2.2)
      · rename_i hw
        have := hst2.2 (by simpa using hw)
        exact ih _ _ _ (hs' ++ [undef]) (k + 1) hcnt (InvS.nextW hT hst hI.lsize hi hp this.1) (hI.stepG hc (fun d u h => hG2 _ _ _ _ _ h) ho this.2.2)
/-- THE LAW: dl = the slots that the region writes, st = the operations that turn the state, R = the state when so many of them have been. -/
theorem wp_region_stW {id : Nat} (dl : List Tmp) (st : List Nat) (R : List Value → World → Prop) (Step : World → World → Prop) (hdl : ops.toList.filterMap (·.dst) = dl) (hm : P.follows .mixedOrders = true) (hc : chkAny ops a0.tmps.size = true) (hst : chkStW ops st = true) (hR : ∀ w, Turned (fun _ => False) w0 w → R [] w) (hG : ∀ hs d v w w', Step w w' → G hs d v w → G hs d v w') (hG2 : ∀ hs x d v w, G hs d v w → G (hs ++ [x]) d v w) (hs : StepsAt P G ops a0 st R Step 0 ops.toList)
    (hQ : ∀ (hs : List Value) (vs : Tmp → Value) w, hs.length = st.length → R hs w → (∀ s ∈ dl, G hs s (vs s) w) → Q .normal ⟨dl.foldl (fun t d => t.setIfInBounds d (vs d)) a0.tmps, a0.defers⟩ w) : (Code.region id ops true).wp P Q a0 w0 := by
  refine wp_region_any hm (st_goW hc hst hG hG2 hs ?_ _ _ _ _ [] 0 ?_ ⟨Nat.zero_le _, rfl, hR _ ((Turned.refl _ w0).drew), fun k i hi => ?_, fun j o ho hj => ?_⟩ ?_)
  · intro hs a w hlen hR hL hd hsz
    have := hQ hs (fun d => a.tmps.getD d undef) w hlen hR (fun s hs => by
      have := hL s
      unfold Looks at this
      rw [hdl, if_pos hs] at this
      exact this)
    have e : a = ⟨dl.foldl (fun t d => t.setIfInBounds d (a.tmps.getD d undef)) a0.tmps, a0.defers⟩ := by
      cases a with | mk tmps defers =>
      simp only at hd hsz this ⊢
      subst hd
      congr 1
      apply Array.ext
      · rw [fold_size]; exact hsz
      · intro i h1 h2
        have h3 : i < a0.tmps.size := by rw [← hsz]; exact h1
        have hf := fold_getD (fun d => tmps.getD d undef) dl a0.tmps i h3
        have hl := hL i
        unfold Looks at hl
        rw [hdl] at hl
        have e1 := getD_lt tmps i h1
        have e2 := getD_lt _ i h2
        rw [← e1, ← e2, hf]
        by_cases hm : i ∈ dl
        · rw [if_pos hm]
        · rw [if_neg hm] at hl ⊢
          exact hl
    rw [e]
    exact this
  · rw [Array.toList_replicate, List.count_replicate_self]
    exact Nat.le_refl _
  · have hlt := chkSt_ltW hst hi
    simp [hlt]
  · have hlt := (Array.getElem?_eq_some_iff.1 ho).1
    simp [hlt] at hj
  · refine ⟨rfl, rfl, by simp, fun j oj d hj hd hl => ?_, fun d _ => rfl⟩
    have hlt := (Array.getElem?_eq_some_iff.1 hj).1
    simp [hlt] at hl
end
def chkBdW (ops : Array Oper) (st bd : List Nat) : Bool :=
  (List.range ops.size).all fun i => bd.getD i st.length == st.length || match st[bd.getD i st.length]? with
    | none => false
    | some j => !(j == i) && (reachMask ops j).testBit i
theorem chkBd_atW {ops : Array Oper} {st bd : List Nat} (h : chkBdW ops st bd = true) {i : Nat} {o : Oper} (ho : ops[i]? = some o) {hs : List Value} (h1 : hs.length ≤ st.length)
    (h2 : ∀ k j n, st[k]? = some j → waits ops n j i = true → hs.length ≤ k) : hs.length ≤ bd.getD i st.length := by
  have := List.all_eq_true.1 h i (List.mem_range.2 (Array.getElem?_eq_some_iff.1 ho).1)
  rw [Bool.or_eq_true] at this
  rcases this with this | this
  · rw [beq_iff_eq] at this; omega
  · cases hj : st[bd.getD i st.length]? with
    | none => rw [hj] at this; cases this
    | some j =>
      rw [hj] at this
      simp only [Bool.and_eq_true, Bool.not_eq_true', beq_eq_false_iff_ne] at this
      rcases reachMask_bit this.2 with e | ⟨n, hn⟩
      · exact absurd e.symm this.1
      · exact h2 _ j n hj hn
section
variable {P : Program} {hist : List Tmp} {GL : Tmp → Value → Prop} {ops : Array Oper} {a0 : Act} {w0 : World} {Q : Exit → Act → World → Prop} {st bd : List Nat} {R : List Value → World → Prop}
theorem StepsH.upW (hh : chkHist ops st hist = true) (hb0 : chkBdW ops st bd = true) (hRt : ∀ hs w w', R hs w → Turned (fun _ => False) w w' → R hs w') : ∀ (l : List Oper) (b : Nat), (∀ j o, l[j]? = some o → ops[b + j]? = some o) → StepsH P hist GL ops a0 st bd R b l → StepsAt P (fun hs d v _ => GH hist GL hs d v) ops a0 st R (fun _ _ => True) b l := by
  intro l
  induction l with
  | nil => intro b _ _; trivial
  | cons o l ih =>
    intro b hb hs
    refine ⟨?_, ih (b + 1) (fun j x hx => by have := hb (j + 1) x (by simpa using hx); rwa [show b + (j + 1) = b + 1 + j from by omega] at this) hs.2⟩
    have ho : ops[b]? = some o := hb 0 o (by simp)
    have h1 := hs.1
    unfold StepH at h1
    unfold StepAt
    cases hp : posOf st b with
    | none =>
      rw [hp] at h1
      intro hl hl1 hl2 a w hR hL
      obtain ⟨k1, k2⟩ := h1 hl (chkBd_atW hb0 ho hl1 hl2) a w hR hL
      have hg : ∀ v, GDL GL o.dst v → ∀ w', GD (fun d v _ => GH hist GL hl d v) o.dst v w' := by
        intro v hv w'
        cases hd : o.dst with
        | none => trivial
        | some d =>
          rw [hd] at hv
          show GH hist GL hl d v
          unfold GH
          rw [chkHist_at hh ho hd, hp]
          exact hv
      refine ⟨fun hw => (k1 hw).mono fun v w' hv => ⟨hRt _ _ _ hR hv.1, trivial, hg v hv.2 _⟩, fun hw => ⟨hR, trivial, hg _ (k2 hw).2 _⟩⟩
    | some k =>
      rw [hp] at h1
      intro hl hk a w hR hL
      obtain ⟨k1, k2⟩ := h1 hl hk a w hR hL
      have hg : ∀ v w', GD (fun d v _ => GH hist GL (hl ++ [v]) d v) o.dst v w' := by
        intro v w'
        cases hd : o.dst with
        | none => trivial
        | some d =>
          show GH hist GL (hl ++ [v]) d v
          unfold GH
          rw [chkHist_at hh ho hd, hp]
          simp only
          rw [← hk]
          simp
      refine ⟨fun hw => (k1 hw).mono fun v w' hv => ⟨hv, trivial, ?_⟩, fun hw => ⟨k2 hw, trivial, ?_⟩⟩
      · have := hg v w'
        cases hd : o.dst with
        | none => trivial
        | some d => rw [hd] at this; exact this
      · have := hg undef w
        cases hd : o.dst with
        | none => trivial
        | some d => rw [hd] at this; exact this
/-- THE LAW: dl = the slots that the region writes; st = the operations that turn the state, hist = their slots; R = the state when they have brought so much. -/
theorem wp_region_hsW {id : Nat} (dl : List Tmp) (st bd : List Nat) (hist : List Tmp) (GL : Tmp → Value → Prop) (R : List Value → World → Prop) (hdl : ops.toList.filterMap (·.dst) = dl) (hm : P.follows .mixedOrders = true) (hc : chkAny ops a0.tmps.size = true) (hst : chkStW ops st = true) (hh : chkHist ops st hist = true) (hb : chkBdW ops st bd = true)
    (hR0 : ∀ w, Turned (fun _ => False) w0 w → R [] w) (hRt : ∀ hs w w', R hs w → Turned (fun _ => False) w w' → R hs w') (hs : StepsH P hist GL ops a0 st bd R 0 ops.toList)
    (hQ : ∀ (hs : List Value) (vs : Tmp → Value) w, hs.length = st.length → R hs w → (∀ s ∈ dl, GH hist GL hs s (vs s)) → Q .normal ⟨dl.foldl (fun t d => t.setIfInBounds d (vs d)) a0.tmps, a0.defers⟩ w) : (Code.region id ops true).wp P Q a0 w0 := by
  refine wp_region_stW (G := fun hs d v _ => GH hist GL hs d v) dl st R (fun _ _ => True) hdl hm hc hst hR0 (fun _ _ _ _ _ _ h => h) (fun hl x d v _ h => ?_) (StepsH.upW hh hb hRt _ 0 (fun j o ho => by rw [Nat.zero_add]; rwa [Array.getElem?_toList] at ho) hs) hQ
  show GH hist GL (hl ++ [x]) d v
  have h' : GH hist GL hl d v := h
  unfold GH at h' ⊢
  split at h'
  · rename_i k hk
    exact (List.getElem?_append_left (List.getElem?_eq_some_iff.1 h').1).trans h'
  · exact h'
end
end Go.Proofs.Ytoihjobdfjajfaa

/- alias.Replace: terms in the variables' place. -/
namespace Go.Proofs.Ytoihjobdfjajfaa
set_option linter.unusedVariables false
set_option linter.unusedSimpArgs false
open Go.RowKit Go.Maps

theorem zero27 (w : World) : (zeroValue 27).run Try.prog w = .ok zeroT w := by kernel_rfl
theorem baresM_some {g : Int → Option LT} {i : Int} {x : LT} (h : g i = some x) : baresM g i = some x.bare := by unfold baresM; rw [h]; rfl
theorem baresM_none {g : Int → Option LT} {i : Int} (h : g i = none) : baresM g i = none := by unfold baresM; rw [h]; rfl
set_option maxRecDepth 100000 in
set_option maxHeartbeats 3200000 in
theorem replace136 {mb mn : Nat} {g : Int → Option LT} (n : Nat) : ∀ (p : Nat → Prop) (t : LT) (w : World), t.depth ≤ n → t.In p w → slim t → IMap Try.prog 2 w mb mn (valsM g) → (∀ i x, g i = some x → x.In p w) →
    Calls Try.prog 136 #[t.val, .map (some mb)] w fun e w' => ∃ u : LT, e = .returned u.val ∧ u.bare = Tm.subF (baresM g) t.bare ∧ u.In (fun k => p k ∨ w.heap.size ≤ k) w' ∧ Turned (fun _ => False) w w' := by
  induction n with
  | zero => intro p t w h; have := Tm.depth_pos t; omega
  | succ n ih =>
    intro p t w hd ht hsl hm hgi
    obtain ⟨i0, hi0, hz0, hz1, hz2⟩ := info_parts infoT
    by_cases hk : t.kind = 0
    · have k0 : (t.kind == 0) = true := by simp [hk]
      have ht1 : (I64 t.n) := ht.n
      have w2 : Turned (fun _ => False) w ((w.alloc (.cells #[.int .i64 t.kind, .int .i64 t.n, .string t.name, .slice t.at_.1 t.args.length t.at_.2] 27)).alloc (.cells #[.int .i64 0, .int .i64 0, .string ⟨#[]⟩, .slice none 0 0] 27)) := ((Turned.refl _ w).alloc _).alloc _
      have hb1 := heap_alloc2_new w (.cells #[.int .i64 t.kind, .int .i64 t.n, .string t.name, .slice t.at_.1 t.args.length t.at_.2] 27) (.cells #[.int .i64 0, .int .i64 0, .string ⟨#[]⟩, .slice none 0 0] 27)
      have hlk := (hm.turned w2 (fun f => f)).look_ok law2 Try.underlying151 (zero27 _) (key2 ht1)
      have hsub : ∀ y, Tm.subF (baresM g) t.bare = y ↔ (baresM g t.n).getD t.bare = y := fun y => by rw [mk_bare t, Tm.subF, if_pos hk]
      have HSUB := Lib.hid hsub
      have HIN := Lib.hid ht
      have HGI := Lib.hid hgi
      have HT2 := Lib.hid w2
      have HB1 := Lib.hid hb1
      clear hsub ht hgi w2 hd hsl hm ih
      unfold valsM at hlk
      cases hg : g t.n with
      | some x =>
        rw [hg] at hlk
        simp only [Option.map_some, Option.getD_some, Option.isSome_some] at hlk
        rw [LT.val_eq x] at hlk
        have HX := Lib.hid hg
        clear hg hk hb1
        rw [LT.val_eq t]
        go_enter Try.func136, Try.ntmps136
        go_wp2_with fail
        have h3 := three w (.cells #[.int .i64 t.kind, .int .i64 t.n, .string t.name, .slice t.at_.1 t.args.length t.at_.2] 27) (.cells #[.int .i64 x.kind, .int .i64 x.n, .string x.name, .slice x.at_.1 x.args.length x.at_.2] 27) (.cells #[.int .i64 x.kind, .int .i64 x.n, .string x.name, .slice x.at_.1 x.args.length x.at_.2] 27)
        have T4 := h3.1
        refine bodyPost_ret (v := .agg #[.int .i64 x.kind, .int .i64 x.n, .string x.name, .slice x.at_.1 x.args.length x.at_.2]) (results_cell_row Try.results136 _ _ (w.heap.size + 1) 27 _ (0, 0) _ rfl h3.2.2.2.2 Try.underlying27 rfl (by kernel_rfl)) rfl ⟨x, by rw [LT.val_eq x], ?_, ?_, T4⟩
        · rw [eq_comm, HSUB.out, baresM_some HX.out]; rfl
        · exact ((HGI.out _ x HX.out).turned0 T4).mono (fun k _ h => .inl h)
      | none =>
        rw [hg] at hlk
        simp only [Option.map_none, Option.getD_none, Option.isSome_none] at hlk
        unfold zeroT at hlk
        have HX := Lib.hid hg
        clear hg hk hb1
        rw [LT.val_eq t]
        go_enter Try.func136, Try.ntmps136
        go_wp2_with fail
        have h3 := three w (.cells #[.int .i64 t.kind, .int .i64 t.n, .string t.name, .slice t.at_.1 t.args.length t.at_.2] 27) (.cells #[.int .i64 t.kind, .int .i64 t.n, .string t.name, .slice t.at_.1 t.args.length t.at_.2] 27) (.cells #[.int .i64 0, .int .i64 0, .string ByteArray.empty, .slice none 0 0] 27)
        have T4 := h3.1
        refine bodyPost_ret (v := .agg #[.int .i64 t.kind, .int .i64 t.n, .string t.name, .slice t.at_.1 t.args.length t.at_.2]) (results_cell_row Try.results136 _ _ (w.heap.size + 1) 27 _ (0, 0) _ rfl h3.2.2.2.2 Try.underlying27 rfl (by kernel_rfl)) rfl ⟨t, by rw [LT.val_eq t], ?_, ?_, T4⟩
        · rw [eq_comm, HSUB.out, baresM_none HX.out]; rfl
        · exact (HIN.out.turned0 T4).mono (fun k _ h => .inl h)
    · have k0 : (t.kind == 0) = false := by simp [hk]
      obtain ⟨p', hp'⟩ : ∃ q : Nat → Prop, q = fun k => p k ∧ k < w.heap.size := ⟨_, rfl⟩
      have HPL0 : Hid (∀ k, p' k → p k ∧ k < w.heap.size) := by intro k hq; rw [hp'] at hq; exact hq
      have ht' : t.In p' w := ht.mono (fun k hk h => by rw [hp']; exact ⟨h, hk⟩)
      have hgi' : ∀ i x, g i = some x → x.In p' w := fun i x hx => (hgi i x hx).mono (fun k hk h => by rw [hp']; exact ⟨h, hk⟩)
      have hl12 : t.args.length ≤ 12 := hsl t (by rw [Tm.flat_eq]; exact List.mem_cons_self ..)
      have hcall : ∀ x : LT, x ∈ t.args → ∀ W, Turned (fun _ => False) w W → Calls Try.prog 136 #[x.val, .map (some mb)] W fun e w' => ∃ u : LT, e = .returned u.val ∧ u.bare = Tm.subF (baresM g) x.bare ∧ u.In (fun k => p' k ∨ W.heap.size ≤ k) w' ∧ Turned (fun _ => False) W w' := fun x hx W hW =>
        ih p' x W (by have := arg_depth hx; omega) ((LT.ins_iff _).1 (ht'.turned0 hW).args x hx) (fun y hy => hsl y (by rw [Tm.flat_eq]; exact List.mem_cons_of_mem _ (mem_flats_arg hx hy))) (hm.turned hW (fun f => f)) (fun i y hy => (hgi' i y hy).turned0 hW)
      have HC := Lib.hid hcall
      have HIN := Lib.hid ht'
      have hsub : Tm.subF (baresM g) t.bare = .mk t.kind t.n t.name () (t.args.map fun x => Tm.subF (baresM g) x.bare) := by
        rw [mk_bare t, Tm.subF, if_neg hk, Tm.subFs_eq, Tm.bares_eq, List.map_map]; rfl
      have HSUB := Lib.hid hsub
      have hL := fun W h => (LT.In.lies (p := p') (w := W) (t := t) h)
      rw [LT.val_eq]
      obtain ⟨ad, had⟩ : ∃ z, z = t.at_.1 := ⟨_, rfl⟩
      obtain ⟨cd, hcd⟩ : ∃ z, z = t.at_.2 := ⟨_, rfl⟩
      rw [← had] at hL
      rw [← had, ← hcd]
      have HL := Lib.hid hL
      have H3 := Lib.hid (three w (.cells #[.int .i64 t.kind, .int .i64 t.n, .string t.name, .slice ad t.args.length cd] 27) (.cells #[.int .i64 0, .int .i64 0, .string ⟨#[]⟩, .slice none 0 0] 27) (.cells #[.int .i64 t.kind, .int .i64 t.n, .string t.name, .slice none 0 0] 27))
      clear ih hd hsl hcall ht ht' hgi hgi' hm hL had hcd hp' hsub hk
      go_enter Try.func136, Try.ntmps136
      go_wp2_with fail
      revert H3
      generalize (((w.alloc (.cells #[.int .i64 t.kind, .int .i64 t.n, .string t.name, .slice ad t.args.length cd] 27)).alloc (.cells #[.int .i64 0, .int .i64 0, .string ⟨#[]⟩, .slice none 0 0] 27)).alloc (.cells #[.int .i64 t.kind, .int .i64 t.n, .string t.name, .slice none 0 0] 27)) = w1
      intro H3
      obtain ⟨B0, hB0⟩ : ∃ z, z = w.heap.size := ⟨_, rfl⟩
      obtain ⟨B1, hB1⟩ : ∃ z, z = w.heap.size + 1 := ⟨_, rfl⟩
      obtain ⟨B2, hB2⟩ : ∃ z, z = w.heap.size + 2 := ⟨_, rfl⟩
      obtain ⟨N, hN⟩ : ∃ z, z = w.heap.size + 3 := ⟨_, rfl⟩
      rw [← hB1, ← hB2, ← hN, ← hB0] at H3
      have HE := Lib.hid (And.intro hB0 (And.intro hB1 (And.intro hB2 hN)))
      have HPL : Hid (∀ k, p' k → k < B2) := by intro k hq; have := (HPL0.out k hq).2; omega
      try rw [← hB2]
      try rw [← hB1]
      try rw [← hB0]
      clear hB0 hB1 hB2 hN
      have hinit : Hid (RepI p' (Tm.subF (baresM g)) N B2 t w1 0 [] none 0 w1) := ⟨rfl, H3.out.2.2.2.1, Row.nil _ _ _, trivial, fun b h => by simp [Value.ownBlock] at h, Turned.refl _ _⟩
      go_loopg [28] t.args.length (fun q i wr => ∃ j : Nat, Hid (j + q = t.args.length) ∧ j ≤ t.args.length ∧ i = .int .i64 j ∧ ∃ us a c, Hid (RepI p' (Tm.subF (baresM g)) N B2 t w1 j us a c wr))
      case atStart => exact ⟨0, Nat.zero_add _, Nat.zero_le _, rfl, [], none, 0, hinit⟩
      case round =>
        obtain ⟨j, HG, hj, rfl, us, a, c, HOR⟩ := hrel
        have HTw : Hid (Turned (fun _ => False) w wr) := H3.out.1.step HOR.out.turned (fun i hi e => by have := HE.out; omega)
        have hlen' : us.length = j := by have := congrArg List.length HOR.out.bares; rw [List.length_map, List.length_map, List.length_take] at this; omega
        have HUL := Lib.hid hlen'
        clear hlen'
        by_cases hjl : j < t.args.length
        · have hx : t.args[j]? = some t.args[j] := List.getElem?_eq_getElem hjl
          obtain ⟨x, hxe⟩ : ∃ x : LT, x = t.args[j] := ⟨_, rfl⟩
          rw [← hxe] at hx
          clear hxe
          have tin := HIN.out.turned0 HTw.out
          obtain ⟨b, o, rfl, _, c0, c1, c2, c3⟩ := (HL.out _ tin).cell hx
          have hcx := fun W (h : Turned (fun _ => False) wr W) => HC.out x (List.mem_of_getElem? hx) W (HTw.out.trans h)
          rw [LT.val_eq x] at hcx
          have HCX := Lib.hid hcx
          have HX := Lib.hid hx
          have hbn : B2 < N ∧ N ≤ wr.heap.size ∧ w1.heap.size ≤ N := ⟨by have := HE.out; omega, by have := HOR.out.turned.size; have := H3.out.2.1; omega, by have := H3.out.2.1; omega⟩
          clear hx hcx tin
          go_wp2_with fail
          have TX : Turned (fun _ => False) wr (wr.alloc (.cells #[.int .i64 x.kind, .int .i64 x.n, .string x.name, .slice x.at_.1 x.args.length x.at_.2] 27)) := (Turned.refl _ wr).alloc _
          have hbx := boxAt (Turned.refl (fun _ => False) (wr.alloc (.cells #[.int .i64 x.kind, .int .i64 x.n, .string x.name, .slice x.at_.1 x.args.length x.at_.2] 27)))
          have HOI : Hid (RepI p' (Tm.subF (baresM g)) N B2 t w1 j us a c (wr.alloc (.cells #[.int .i64 x.kind, .int .i64 x.n, .string x.name, .slice x.at_.1 x.args.length x.at_.2] 27))) := HOR.out.turned0 TX
          have HBN : Hid (B2 < N ∧ N ≤ (wr.alloc (.cells #[.int .i64 x.kind, .int .i64 x.n, .string x.name, .slice x.at_.1 x.args.length x.at_.2] 27)).heap.size ∧ w1.heap.size ≤ N) := ⟨hbn.1, Nat.le_trans hbn.2.1 TX.size, hbn.2.2⟩
          have HTB := And.intro (Lib.hid TX) (And.intro hbx (And.intro HOI HBN))
          clear TX hbx HOI HBN hbn c0 c1 c2 c3
          revert HTB
          generalize wr.alloc (.cells #[.int .i64 x.kind, .int .i64 x.n, .string x.name, .slice x.at_.1 x.args.length x.at_.2] 27) = wx
          generalize wr.heap.size = B9
          intro HTB
          obtain ⟨HWX, ⟨x0, x1, x2, x3, _⟩, HOI, HBN⟩ := HTB
          refine wp_region_hsW [32, 33, 34, 35, 36, 37, 38, 39] [4, 5, 6, 8] [2, 2, 0, 0, 1, 2, 3, 3, 4] [36, 37, 38, 100008] (fun d v => (match d with | 32 => v = .pointer (some ⟨B2, 3, none⟩) | 33 => v = .slice a j c | 34 => v = .agg #[.int .i64 x.kind, .int .i64 x.n, .string x.name, .slice x.at_.1 x.args.length x.at_.2] | 35 => v = .map (some mb) | 39 => v = .pointer (some ⟨B2, 3, none⟩) | _ => True : Prop)) (RepS p' (Tm.subF (baresM g)) N B2 t x w1 j us a c wx) (by kernel_rfl) rfl (by kernel_rfl) (by kernel_rfl) (by kernel_rfl) (by kernel_rfl) (fun _ h => h) (fun hs w w' h ht => RepS.turned0 hs w w' h ht) ?hs ?hQ
          case hs =>
            refine ⟨?s0, ?s1, ?s2, ?s3, ?s4, ?s5, ?s6, ?s7, ?s8, trivial⟩
            case s0 =>
              refine fun hs hle => stepG_free [] [7] (by kernel_rfl) rfl ?_
              · intro ac W hT hI hO
                have hle : hs.length ≤ 2 := hle
                have h7 : ac.tmps.getD 7 undef = .pointer (some ⟨B2, 0, none⟩) := hO 7 (by simp)
                show Brings Try.prog (fun v w' => Turned (fun _ => False) W w' ∧ v = .pointer (some ⟨B2, 3, none⟩)) _
                simp only [execOp, Act.eval, h7]
                go_simp
                try exact ⟨Turned.refl _ _, rfl⟩
            case s1 =>
              refine fun hs hle => stepG_free [32] [] (by kernel_rfl) rfl ?_
              · intro ac W hT hI hO
                have hle : hs.length ≤ 2 := hle
                have h32 : ac.tmps.getD 32 undef = .pointer (some ⟨B2, 3, none⟩) := hI 32 (by simp)
                show Brings Try.prog (fun v w' => Turned (fun _ => False) W w' ∧ v = .slice a j c) _
                obtain ⟨_, _, _, d3⟩ := RepS.blk HOI.out hs W hle hT
                simp only [execOp, Act.eval, h32]
                go_simp
                exact ⟨Turned.refl _ _, rfl⟩
            case s2 =>
              refine fun hs hle => stepG_free [] [9] (by kernel_rfl) rfl ?_
              · intro ac W hT hI hO
                have hle : hs.length ≤ 0 := hle
                have h9 : ac.tmps.getD 9 undef = .pointer (some ⟨B9, 0, none⟩) := hO 9 (by simp)
                show Brings Try.prog (fun v w' => Turned (fun _ => False) W w' ∧ v = .agg #[.int .i64 x.kind, .int .i64 x.n, .string x.name, .slice x.at_.1 x.args.length x.at_.2]) _
                have hT0 : Turned (fun _ => False) wx W := rep_nil (by omega) hT; have x0 := hT0.cell0 x0; have x1 := hT0.cell0 x1; have x2 := hT0.cell0 x2; have x3 := hT0.cell0 x3
                simp only [execOp, Act.eval, h9]
                go_simp
                exact ⟨Turned.refl _ _, rfl⟩
            case s3 =>
              refine fun hs hle => stepG_free [] [1] (by kernel_rfl) rfl ?_
              · intro ac W hT hI hO
                have hle : hs.length ≤ 0 := hle
                have h1 : ac.tmps.getD 1 undef = .map (some mb) := hO 1 (by simp)
                show Brings Try.prog (fun v w' => Turned (fun _ => False) W w' ∧ v = .map (some mb)) _
                simp only [execOp, Act.eval, h1]
                go_simp
                try exact ⟨Turned.refl _ _, rfl⟩
            case s4 =>
              refine fun hs hlen => stepG_free [34, 35] [] (by kernel_rfl) rfl ?_
              · intro ac W hT hI hO
                have h34 : ac.tmps.getD 34 undef = .agg #[.int .i64 x.kind, .int .i64 x.n, .string x.name, .slice x.at_.1 x.args.length x.at_.2] := hI 34 (by simp)
                have h35 : ac.tmps.getD 35 undef = .map (some mb) := hI 35 (by simp)
                show Brings Try.prog (fun v w' => RepS p' (Tm.subF (baresM g)) N B2 t x w1 j us a c wx (hs ++ [v]) w') _
                obtain rfl : hs = [] := List.eq_nil_of_length_eq_zero hlen
                replace hT : Turned (fun _ => False) wx W := hT
                simp only [execOp, Act.eval, h34, h35]
                go_simp
                show Calls Try.prog 136 _ W _
                (with_reducible refine (HCX.out W (HWX.out.trans hT)).mono ?_)
                rintro e w' ⟨u, rfl, hb, hu, T'⟩
                exact ⟨_, rfl, hT.trans T', u, rfl, hb, hu.mono (fun k hk h => h.elim .inl (fun h => .inr (Nat.le_trans hT.size h)))⟩
            case s5 =>
              refine fun hs hlen => stepG_free [36] [] (by kernel_rfl) rfl ?_
              · intro ac W hT hI hO
                have h36 : hs[0]? = some (ac.tmps.getD 36 undef) := hI 36 (by simp)
                show Brings Try.prog (fun v w' => RepS p' (Tm.subF (baresM g)) N B2 t x w1 j us a c wx (hs ++ [v]) w') _
                obtain ⟨uv, rfl⟩ := List.length_eq_one_iff.1 hlen
                obtain ⟨hT1, u, rfl, hb, hu⟩ := hT
                replace h36 : ac.tmps.getD 36 undef = u.val := by simpa using h36.symm
                rw [LT.val_eq] at h36
                have h36' : ac.tmps[36]?.getD undef = .agg #[.int .i64 u.kind, .int .i64 u.n, .string u.name, .slice u.at_.1 u.args.length u.at_.2] := by rw [← Array.getD_eq_getD_getElem?]; exact h36
                simp only [execOp, Act.eval, h36]
                go_simp
                have hnew := heap_alloc_new W (.cells #[.int .i64 u.kind, .int .i64 u.n, .string u.name, .slice u.at_.1 u.args.length u.at_.2] 27)
                refine ⟨hT1.alloc _, u, W.heap.size, rfl, hb, hu.turned0 ((Turned.refl _ W).alloc _), ?_⟩
                rw [LT.cells_eq]
                exact hnew
            case s6 =>
              refine fun hs hlen => stepG_free [33, 37] [] (by kernel_rfl) rfl ?_
              · intro ac W hT hI hO
                have h33 : ac.tmps.getD 33 undef = .slice a j c := hI 33 (by simp)
                have h37 : hs[1]? = some (ac.tmps.getD 37 undef) := hI 37 (by simp)
                show Brings Try.prog (fun v w' => RepS p' (Tm.subF (baresM g)) N B2 t x w1 j us a c wx (hs ++ [v]) w') _
                obtain ⟨uv, sv, rfl⟩ := list2' hlen
                obtain ⟨hT1, u, g2, rfl, hb, hu, hg⟩ := hT
                replace h37 : ac.tmps.getD 37 undef = .slice (some ⟨g2, 0, none⟩) 1 1 := by simpa using h37.symm
                refine brings_append (.tmp 33) (.tmp 37) 22 rfl 27 i0 zeroT 4 56 Try.underlying22 hi0 hz0 hz1 hz2 rfl (by decide) _ _ _ h33 (HOI.out.row.turned0 hT1) ⟨g2, 0, none⟩ 1 1 u.cells h37 (LT.cells_length u) (news_block hg) (LT.cells_one u) (by omega) (by unfold maxLen; omega) (by omega) ?_
                intro g3 cap2 w2 hrow2 T2 hl2
                have hgw : some g3 = (Value.slice a j c).ownBlock ∨ wx.heap.size ≤ g3 := by
                  rcases hl2 with e | e
                  · exact .inl e
                  · have := hT1.size; exact .inr (by omega)
                refine ⟨u, g3, cap2, rfl, hb, hrow2, ?_, (hT1.mono (fun _ _ f => f.elim)).trans T2, hgw⟩
                have hpl := HPL.out
                have hbn := HBN.out
                refine hu.turned T2 (fun k hk h e => ?_) (fun k hk h => ⟨h, fun e => ?_⟩)
                · have h1 := HOI.out.row.lt k e
                  have h2 := HOI.out.own k e
                  rcases h with h | h
                  · have := hpl k h; omega
                  · omega
                · subst e
                  rcases hl2 with e | e
                  · have h1 := HOI.out.row.lt k e.symm
                    have h2 := HOI.out.own k e.symm
                    rcases h with h | h
                    · have := hpl k h; omega
                    · omega
                  · omega
            case s7 =>
              refine fun hs hle => stepG_free [] [7] (by kernel_rfl) rfl ?_
              · intro ac W hT hI hO
                have hle : hs.length ≤ 3 := hle
                have h7 : ac.tmps.getD 7 undef = .pointer (some ⟨B2, 0, none⟩) := hO 7 (by simp)
                show Brings Try.prog (fun v w' => Turned (fun _ => False) W w' ∧ v = .pointer (some ⟨B2, 3, none⟩)) _
                simp only [execOp, Act.eval, h7]
                go_simp
                try exact ⟨Turned.refl _ _, rfl⟩
            case s8 =>
              refine fun hs hlen => stepG_free [39, 38] [] (by kernel_rfl) rfl ?_
              · intro ac W hT hI hO
                have h39 : ac.tmps.getD 39 undef = .pointer (some ⟨B2, 3, none⟩) := hI 39 (by simp)
                have h38 : hs[2]? = some (ac.tmps.getD 38 undef) := hI 38 (by simp)
                show Brings Try.prog (fun v w' => RepS p' (Tm.subF (baresM g)) N B2 t x w1 j us a c wx (hs ++ [v]) w') _
                obtain ⟨uv, sv, av, rfl⟩ := list3' hlen
                obtain ⟨u, g2, cap, rfl, hb, hrow, hu, hT2, hg⟩ := hT
                replace h38 : ac.tmps.getD 38 undef = .slice (some ⟨g2, 0, none⟩) (j + 1) cap := by simpa using h38.symm
                have hbl := (hT2.block B2 (Array.getElem?_eq_some_iff.1 HOI.out.blk).1 (fun e => by have := HOI.out.own B2 e; have := HBN.out.1; omega)).trans HOI.out.blk
                obtain ⟨_, _, _, d3, _, _, _, f3⟩ := cells4 hbl
                simp only [execOp, Act.eval, h39, h38]
                go_simp
                exact ⟨_, _, _, rep_close HPL.out HBN.out.1 HBN.out.2.1 HOI.out HX.out hb hrow hu hT2 hg HBN.out.2.2⟩
          case hQ =>
            intro hs vs w2 hlen hR hV
            obtain ⟨e1, e2, e3, e4, rfl⟩ : ∃ a b c d, hs = [a, b, c, d] := list4' hlen
            obtain ⟨us', a', c', hI⟩ := hR
            have HI' := Lib.hid hI
            simp only [List.foldl_cons, List.foldl_nil, List.setIfInBounds_toArray, List.set_cons_zero, List.set_cons_succ]
            clear hV hlen hI
            go_wp2_with fail
            go_roundg (gk - 1)
            case measure => have := HG.out; omega
            case rel => exact ⟨j + 1, show _ = _ by have := HG.out; omega, by omega, by go_num, us', a', c', HI'⟩
        · obtain rfl : j = t.args.length := by omega
          have hb1 := (HOR.out.turned.block B1 (Array.getElem?_eq_some_iff.1 H3.out.2.2.2.2).1 (fun e => by have := HE.out; omega)).trans H3.out.2.2.2.2
          obtain ⟨d0, d1, d2, d3, f0, f1, f2, f3⟩ := cells4 hb1
          obtain ⟨g0, g1, g2, g3, _⟩ := cells4 HOR.out.blk
          have HB1 := Lib.hid hb1
          clear hb1
          go_wp2_with fail
          have hset := set4 (a' := .int .i64 t.kind) (b' := .int .i64 t.n) (c' := .string t.name) (d' := .slice a t.args.length c) HB1.out
          have hge : w.heap.size ≤ B1 := by have := HE.out; omega
          have T4 := turned4 (a := .int .i64 t.kind) (b := .int .i64 t.n) (c := .string t.name) (d := .slice a t.args.length c) HTw.out hge
          refine bodyPost_ret (v := .agg #[.int .i64 t.kind, .int .i64 t.n, .string t.name, .slice a t.args.length c]) (results_cell_row Try.results136 _ _ B1 27 _ (0, 0) _ rfl hset Try.underlying27 rfl (by kernel_rfl)) rfl ?_
          have hne : ∀ q, (Value.slice a t.args.length c).ownBlock ≠ some (Addr.block ⟨B1, q, none⟩) := fun q e => by have h1 : N ≤ B1 := HOR.out.own _ e; have := HE.out; omega
          have hrow := ((((HOR.out.row.setCell (hne 0) (.int .i64 t.kind)).setCell (hne 1) (.int .i64 t.n)).setCell (hne 2) (.string t.name)).setCell (hne 3) (.slice a t.args.length c))
          have Tq : Turned (fun k => k = B1) wr _ := ((((Turned.refl (fun k => k = B1) wr).setCell (p := ⟨B1, 0, none⟩) (.inr rfl) (.int .i64 t.kind)).setCell (p := ⟨B1, 1, none⟩) (.inr rfl) (.int .i64 t.n)).setCell (p := ⟨B1, 2, none⟩) (.inr rfl) (.string t.name)).setCell (p := ⟨B1, 3, none⟩) (.inr rfl) (.slice a t.args.length c)
          have hpl := HPL0.out
          have hins := HOR.out.ins.turned (q := fun k => p k ∨ w.heap.size ≤ k) Tq (fun k _ hk e => by
            have := HE.out
            rcases hk.1 with h | h
            · have := (hpl k h).2; omega
            · omega) (fun k _ hk => by
            have := HE.out
            rcases hk.1 with h | h
            · exact .inl (hpl k h).1
            · exact .inr (by omega))
          obtain ⟨e1, e2⟩ := LT.Sl.of_row (p := fun k => p k ∨ w.heap.size ≤ k) hrow (fun k hk => .inr (by have := HOR.out.own k hk; have := HE.out; omega)) hins
          refine ⟨.mk t.kind t.n t.name (a, c) us, ?_, ?_, e2.in_ HIN.out.kind HIN.out.n HIN.out.name, T4⟩
          · show _ = Ending.returned (LT.val (.mk t.kind t.n t.name (a, c) us))
            rw [LT.val_eq]
            show _ = Ending.returned (.agg #[.int .i64 t.kind, .int .i64 t.n, .string t.name, .slice a us.length c])
            rw [HUL.out]
          · have hbr := HOR.out.bares
            rw [List.take_length] at hbr
            rw [HSUB.out, Tm.bare, Tm.bares_eq, hbr]
end Go.Proofs.Ytoihjobdfjajfaa

/- unify.replace: terms in the variables' place. -/
namespace Go.Proofs.Ytoihjobdfjajfaa
set_option linter.unusedVariables false
set_option linter.unusedSimpArgs false
open Go.RowKit Go.Maps

set_option maxRecDepth 100000 in
set_option maxHeartbeats 3200000 in
theorem replace174 {mb mn : Nat} {g : Int → Option LT} (n : Nat) : ∀ (p : Nat → Prop) (t : LT) (w : World), t.depth ≤ n → t.In p w → slim t → IMap Try.prog 2 w mb mn (valsM g) → (∀ i x, g i = some x → x.In p w) → (∀ x ∈ t.flat, x.kind = 0 → ∃ y, g x.n = some y) →
    Calls Try.prog 174 #[t.val, .map (some mb)] w fun e w' => ∃ u : LT, e = .returned u.val ∧ u.bare = Tm.subF (baresM g) t.bare ∧ u.In (fun k => p k ∨ w.heap.size ≤ k) w' ∧ Turned (fun _ => False) w w' := by
  induction n with
  | zero => intro p t w h; have := Tm.depth_pos t; omega
  | succ n ih =>
    intro p t w hd ht hsl hm hgi hall
    obtain ⟨i0, hi0, hz0, hz1, hz2⟩ := info_parts infoT
    by_cases hk : t.kind = 0
    · have k0 : (t.kind == 0) = true := by simp [hk]
      have ht1 : (I64 t.n) := ht.n
      have w2 : Turned (fun _ => False) w ((w.alloc (.cells #[.int .i64 t.kind, .int .i64 t.n, .string t.name, .slice t.at_.1 t.args.length t.at_.2] 27)).alloc (.cells #[.int .i64 0, .int .i64 0, .string ⟨#[]⟩, .slice none 0 0] 27)) := ((Turned.refl _ w).alloc _).alloc _
      have hb1 := heap_alloc2_new w (.cells #[.int .i64 t.kind, .int .i64 t.n, .string t.name, .slice t.at_.1 t.args.length t.at_.2] 27) (.cells #[.int .i64 0, .int .i64 0, .string ⟨#[]⟩, .slice none 0 0] 27)
      obtain ⟨x, hgx⟩ := hall t (by rw [Tm.flat_eq]; exact List.mem_cons_self ..) hk
      have hlk := (hm.turned w2 (fun f => f)).look law2 Try.underlying151 (zero27 _) (key2 ht1)
      have hsub : Tm.subF (baresM g) t.bare = x.bare := by rw [mk_bare t, Tm.subF, if_pos hk, baresM_some hgx]; rfl
      have HSUB := Lib.hid hsub
      have HGI := Lib.hid (hgi _ _ hgx)
      unfold valsM at hlk
      rw [hgx] at hlk
      simp only [Option.map_some, Option.getD_some] at hlk
      rw [LT.val_eq x] at hlk
      clear hsub ht hgi w2 hd hsl hm ih hall hgx hk hb1
      rw [LT.val_eq t]
      go_enter Try.func174, Try.ntmps174
      go_wp2_with fail
      have h3 := heap_alloc2_new w (.cells #[.int .i64 t.kind, .int .i64 t.n, .string t.name, .slice t.at_.1 t.args.length t.at_.2] 27) (.cells #[.int .i64 x.kind, .int .i64 x.n, .string x.name, .slice x.at_.1 x.args.length x.at_.2] 27)
      have T4 : Turned (fun _ => False) w ((w.alloc (.cells #[.int .i64 t.kind, .int .i64 t.n, .string t.name, .slice t.at_.1 t.args.length t.at_.2] 27)).alloc (.cells #[.int .i64 x.kind, .int .i64 x.n, .string x.name, .slice x.at_.1 x.args.length x.at_.2] 27)) := ((Turned.refl _ w).alloc _).alloc _
      refine bodyPost_ret (v := .agg #[.int .i64 x.kind, .int .i64 x.n, .string x.name, .slice x.at_.1 x.args.length x.at_.2]) (results_cell_row Try.results174 _ _ (w.heap.size + 1) 27 _ (0, 0) _ rfl h3 Try.underlying27 rfl (by kernel_rfl)) rfl ⟨x, by rw [LT.val_eq x], HSUB.out.symm, (HGI.out.turned0 T4).mono (fun k _ h => .inl h), T4⟩
    · have k0 : (t.kind == 0) = false := by simp [hk]
      obtain ⟨p', hp'⟩ : ∃ q : Nat → Prop, q = fun k => p k ∧ k < w.heap.size := ⟨_, rfl⟩
      have HPL0 : Hid (∀ k, p' k → p k ∧ k < w.heap.size) := by intro k hq; rw [hp'] at hq; exact hq
      have ht' : t.In p' w := ht.mono (fun k hk h => by rw [hp']; exact ⟨h, hk⟩)
      have hgi' : ∀ i x, g i = some x → x.In p' w := fun i x hx => (hgi i x hx).mono (fun k hk h => by rw [hp']; exact ⟨h, hk⟩)
      have hl12 : t.args.length ≤ 12 := hsl t (by rw [Tm.flat_eq]; exact List.mem_cons_self ..)
      have hcall : ∀ x : LT, x ∈ t.args → ∀ W, Turned (fun _ => False) w W → Calls Try.prog 174 #[x.val, .map (some mb)] W fun e w' => ∃ u : LT, e = .returned u.val ∧ u.bare = Tm.subF (baresM g) x.bare ∧ u.In (fun k => p' k ∨ W.heap.size ≤ k) w' ∧ Turned (fun _ => False) W w' := fun x hx W hW =>
        ih p' x W (by have := arg_depth hx; omega) ((LT.ins_iff _).1 (ht'.turned0 hW).args x hx) (fun y hy => hsl y (by rw [Tm.flat_eq]; exact List.mem_cons_of_mem _ (mem_flats_arg hx hy))) (hm.turned hW (fun f => f)) (fun i y hy => (hgi' i y hy).turned0 hW) (fun y hy => hall y (by rw [Tm.flat_eq]; exact List.mem_cons_of_mem _ (mem_flats_arg hx hy)))
      have HC := Lib.hid hcall
      have HIN := Lib.hid ht'
      have hsub : Tm.subF (baresM g) t.bare = .mk t.kind t.n t.name () (t.args.map fun x => Tm.subF (baresM g) x.bare) := by
        rw [mk_bare t, Tm.subF, if_neg hk, Tm.subFs_eq, Tm.bares_eq, List.map_map]; rfl
      have HSUB := Lib.hid hsub
      have hL := fun W h => (LT.In.lies (p := p') (w := W) (t := t) h)
      rw [LT.val_eq]
      obtain ⟨ad, had⟩ : ∃ z, z = t.at_.1 := ⟨_, rfl⟩
      obtain ⟨cd, hcd⟩ : ∃ z, z = t.at_.2 := ⟨_, rfl⟩
      rw [← had] at hL
      rw [← had, ← hcd]
      have HL := Lib.hid hL
      have H3 := Lib.hid (three w (.cells #[.int .i64 t.kind, .int .i64 t.n, .string t.name, .slice ad t.args.length cd] 27) (.cells #[.int .i64 0, .int .i64 0, .string ⟨#[]⟩, .slice none 0 0] 27) (.cells #[.int .i64 t.kind, .int .i64 t.n, .string t.name, .slice none 0 0] 27))
      clear ih hd hsl hcall ht ht' hgi hgi' hm hL had hcd hp' hsub hk hall
      go_enter Try.func174, Try.ntmps174
      go_wp2_with fail
      revert H3
      generalize (((w.alloc (.cells #[.int .i64 t.kind, .int .i64 t.n, .string t.name, .slice ad t.args.length cd] 27)).alloc (.cells #[.int .i64 0, .int .i64 0, .string ⟨#[]⟩, .slice none 0 0] 27)).alloc (.cells #[.int .i64 t.kind, .int .i64 t.n, .string t.name, .slice none 0 0] 27)) = w1
      intro H3
      obtain ⟨B0, hB0⟩ : ∃ z, z = w.heap.size := ⟨_, rfl⟩
      obtain ⟨B1, hB1⟩ : ∃ z, z = w.heap.size + 1 := ⟨_, rfl⟩
      obtain ⟨B2, hB2⟩ : ∃ z, z = w.heap.size + 2 := ⟨_, rfl⟩
      obtain ⟨N, hN⟩ : ∃ z, z = w.heap.size + 3 := ⟨_, rfl⟩
      rw [← hB1, ← hB2, ← hN, ← hB0] at H3
      have HE := Lib.hid (And.intro hB0 (And.intro hB1 (And.intro hB2 hN)))
      have HPL : Hid (∀ k, p' k → k < B2) := by intro k hq; have := (HPL0.out k hq).2; omega
      try rw [← hB2]
      try rw [← hB1]
      try rw [← hB0]
      clear hB0 hB1 hB2 hN
      have hinit : Hid (RepI p' (Tm.subF (baresM g)) N B2 t w1 0 [] none 0 w1) := ⟨rfl, H3.out.2.2.2.1, Row.nil _ _ _, trivial, fun b h => by simp [Value.ownBlock] at h, Turned.refl _ _⟩
      go_loopg [20] t.args.length (fun q i wr => ∃ j : Nat, Hid (j + q = t.args.length) ∧ j ≤ t.args.length ∧ i = .int .i64 j ∧ ∃ us a c, Hid (RepI p' (Tm.subF (baresM g)) N B2 t w1 j us a c wr))
      case atStart => exact ⟨0, Nat.zero_add _, Nat.zero_le _, rfl, [], none, 0, hinit⟩
      case round =>
        obtain ⟨j, HG, hj, rfl, us, a, c, HOR⟩ := hrel
        have HTw : Hid (Turned (fun _ => False) w wr) := H3.out.1.step HOR.out.turned (fun i hi e => by have := HE.out; omega)
        have hlen' : us.length = j := by have := congrArg List.length HOR.out.bares; rw [List.length_map, List.length_map, List.length_take] at this; omega
        have HUL := Lib.hid hlen'
        clear hlen'
        by_cases hjl : j < t.args.length
        · have hx : t.args[j]? = some t.args[j] := List.getElem?_eq_getElem hjl
          obtain ⟨x, hxe⟩ : ∃ x : LT, x = t.args[j] := ⟨_, rfl⟩
          rw [← hxe] at hx
          clear hxe
          have tin := HIN.out.turned0 HTw.out
          obtain ⟨b, o, rfl, _, c0, c1, c2, c3⟩ := (HL.out _ tin).cell hx
          have hcx := fun W (h : Turned (fun _ => False) wr W) => HC.out x (List.mem_of_getElem? hx) W (HTw.out.trans h)
          rw [LT.val_eq x] at hcx
          have HCX := Lib.hid hcx
          have HX := Lib.hid hx
          have hbn : B2 < N ∧ N ≤ wr.heap.size ∧ w1.heap.size ≤ N := ⟨by have := HE.out; omega, by have := HOR.out.turned.size; have := H3.out.2.1; omega, by have := H3.out.2.1; omega⟩
          clear hx hcx tin
          go_wp2_with fail
          have TX : Turned (fun _ => False) wr (wr.alloc (.cells #[.int .i64 x.kind, .int .i64 x.n, .string x.name, .slice x.at_.1 x.args.length x.at_.2] 27)) := (Turned.refl _ wr).alloc _
          have hbx := boxAt (Turned.refl (fun _ => False) (wr.alloc (.cells #[.int .i64 x.kind, .int .i64 x.n, .string x.name, .slice x.at_.1 x.args.length x.at_.2] 27)))
          have HOI : Hid (RepI p' (Tm.subF (baresM g)) N B2 t w1 j us a c (wr.alloc (.cells #[.int .i64 x.kind, .int .i64 x.n, .string x.name, .slice x.at_.1 x.args.length x.at_.2] 27))) := HOR.out.turned0 TX
          have HBN : Hid (B2 < N ∧ N ≤ (wr.alloc (.cells #[.int .i64 x.kind, .int .i64 x.n, .string x.name, .slice x.at_.1 x.args.length x.at_.2] 27)).heap.size ∧ w1.heap.size ≤ N) := ⟨hbn.1, Nat.le_trans hbn.2.1 TX.size, hbn.2.2⟩
          have HTB := And.intro (Lib.hid TX) (And.intro hbx (And.intro HOI HBN))
          clear TX hbx HOI HBN hbn c0 c1 c2 c3
          revert HTB
          generalize wr.alloc (.cells #[.int .i64 x.kind, .int .i64 x.n, .string x.name, .slice x.at_.1 x.args.length x.at_.2] 27) = wx
          generalize wr.heap.size = B9
          intro HTB
          obtain ⟨HWX, ⟨x0, x1, x2, x3, _⟩, HOI, HBN⟩ := HTB
          refine wp_region_hsW [24, 25, 26, 27, 28, 29, 30, 31] [4, 5, 6, 8] [2, 2, 0, 0, 1, 2, 3, 3, 4] [28, 29, 30, 100008] (fun d v => (match d with | 24 => v = .pointer (some ⟨B2, 3, none⟩) | 25 => v = .slice a j c | 26 => v = .agg #[.int .i64 x.kind, .int .i64 x.n, .string x.name, .slice x.at_.1 x.args.length x.at_.2] | 27 => v = .map (some mb) | 31 => v = .pointer (some ⟨B2, 3, none⟩) | _ => True : Prop)) (RepS p' (Tm.subF (baresM g)) N B2 t x w1 j us a c wx) (by kernel_rfl) rfl (by kernel_rfl) (by kernel_rfl) (by kernel_rfl) (by kernel_rfl) (fun _ h => h) (fun hs w w' h ht => RepS.turned0 hs w w' h ht) ?hs ?hQ
          case hs =>
            refine ⟨?s0, ?s1, ?s2, ?s3, ?s4, ?s5, ?s6, ?s7, ?s8, trivial⟩
            case s0 =>
              refine fun hs hle => stepG_free [] [5] (by kernel_rfl) rfl ?_
              · intro ac W hT hI hO
                have hle : hs.length ≤ 2 := hle
                have h5 : ac.tmps.getD 5 undef = .pointer (some ⟨B2, 0, none⟩) := hO 5 (by simp)
                show Brings Try.prog (fun v w' => Turned (fun _ => False) W w' ∧ v = .pointer (some ⟨B2, 3, none⟩)) _
                simp only [execOp, Act.eval, h5]
                go_simp
                try exact ⟨Turned.refl _ _, rfl⟩
            case s1 =>
              refine fun hs hle => stepG_free [24] [] (by kernel_rfl) rfl ?_
              · intro ac W hT hI hO
                have hle : hs.length ≤ 2 := hle
                have h24 : ac.tmps.getD 24 undef = .pointer (some ⟨B2, 3, none⟩) := hI 24 (by simp)
                show Brings Try.prog (fun v w' => Turned (fun _ => False) W w' ∧ v = .slice a j c) _
                obtain ⟨_, _, _, d3⟩ := RepS.blk HOI.out hs W hle hT
                simp only [execOp, Act.eval, h24]
                go_simp
                exact ⟨Turned.refl _ _, rfl⟩
            case s2 =>
              refine fun hs hle => stepG_free [] [7] (by kernel_rfl) rfl ?_
              · intro ac W hT hI hO
                have hle : hs.length ≤ 0 := hle
                have h7 : ac.tmps.getD 7 undef = .pointer (some ⟨B9, 0, none⟩) := hO 7 (by simp)
                show Brings Try.prog (fun v w' => Turned (fun _ => False) W w' ∧ v = .agg #[.int .i64 x.kind, .int .i64 x.n, .string x.name, .slice x.at_.1 x.args.length x.at_.2]) _
                have hT0 : Turned (fun _ => False) wx W := rep_nil (by omega) hT; have x0 := hT0.cell0 x0; have x1 := hT0.cell0 x1; have x2 := hT0.cell0 x2; have x3 := hT0.cell0 x3
                simp only [execOp, Act.eval, h7]
                go_simp
                exact ⟨Turned.refl _ _, rfl⟩
            case s3 =>
              refine fun hs hle => stepG_free [] [1] (by kernel_rfl) rfl ?_
              · intro ac W hT hI hO
                have hle : hs.length ≤ 0 := hle
                have h1 : ac.tmps.getD 1 undef = .map (some mb) := hO 1 (by simp)
                show Brings Try.prog (fun v w' => Turned (fun _ => False) W w' ∧ v = .map (some mb)) _
                simp only [execOp, Act.eval, h1]
                go_simp
                try exact ⟨Turned.refl _ _, rfl⟩
            case s4 =>
              refine fun hs hlen => stepG_free [26, 27] [] (by kernel_rfl) rfl ?_
              · intro ac W hT hI hO
                have h26 : ac.tmps.getD 26 undef = .agg #[.int .i64 x.kind, .int .i64 x.n, .string x.name, .slice x.at_.1 x.args.length x.at_.2] := hI 26 (by simp)
                have h27 : ac.tmps.getD 27 undef = .map (some mb) := hI 27 (by simp)
                show Brings Try.prog (fun v w' => RepS p' (Tm.subF (baresM g)) N B2 t x w1 j us a c wx (hs ++ [v]) w') _
                obtain rfl : hs = [] := List.eq_nil_of_length_eq_zero hlen
                replace hT : Turned (fun _ => False) wx W := hT
                simp only [execOp, Act.eval, h26, h27]
                go_simp
                show Calls Try.prog 174 _ W _
                (with_reducible refine (HCX.out W (HWX.out.trans hT)).mono ?_)
                rintro e w' ⟨u, rfl, hb, hu, T'⟩
                exact ⟨_, rfl, hT.trans T', u, rfl, hb, hu.mono (fun k hk h => h.elim .inl (fun h => .inr (Nat.le_trans hT.size h)))⟩
            case s5 =>
              refine fun hs hlen => stepG_free [28] [] (by kernel_rfl) rfl ?_
              · intro ac W hT hI hO
                have h28 : hs[0]? = some (ac.tmps.getD 28 undef) := hI 28 (by simp)
                show Brings Try.prog (fun v w' => RepS p' (Tm.subF (baresM g)) N B2 t x w1 j us a c wx (hs ++ [v]) w') _
                obtain ⟨uv, rfl⟩ := List.length_eq_one_iff.1 hlen
                obtain ⟨hT1, u, rfl, hb, hu⟩ := hT
                replace h28 : ac.tmps.getD 28 undef = u.val := by simpa using h28.symm
                rw [LT.val_eq] at h28
                have h28' : ac.tmps[28]?.getD undef = .agg #[.int .i64 u.kind, .int .i64 u.n, .string u.name, .slice u.at_.1 u.args.length u.at_.2] := by rw [← Array.getD_eq_getD_getElem?]; exact h28
                simp only [execOp, Act.eval, h28]
                go_simp
                have hnew := heap_alloc_new W (.cells #[.int .i64 u.kind, .int .i64 u.n, .string u.name, .slice u.at_.1 u.args.length u.at_.2] 27)
                refine ⟨hT1.alloc _, u, W.heap.size, rfl, hb, hu.turned0 ((Turned.refl _ W).alloc _), ?_⟩
                rw [LT.cells_eq]
                exact hnew
            case s6 =>
              refine fun hs hlen => stepG_free [25, 29] [] (by kernel_rfl) rfl ?_
              · intro ac W hT hI hO
                have h25 : ac.tmps.getD 25 undef = .slice a j c := hI 25 (by simp)
                have h29 : hs[1]? = some (ac.tmps.getD 29 undef) := hI 29 (by simp)
                show Brings Try.prog (fun v w' => RepS p' (Tm.subF (baresM g)) N B2 t x w1 j us a c wx (hs ++ [v]) w') _
                obtain ⟨uv, sv, rfl⟩ := list2' hlen
                obtain ⟨hT1, u, g2, rfl, hb, hu, hg⟩ := hT
                replace h29 : ac.tmps.getD 29 undef = .slice (some ⟨g2, 0, none⟩) 1 1 := by simpa using h29.symm
                refine brings_append (.tmp 25) (.tmp 29) 22 rfl 27 i0 zeroT 4 56 Try.underlying22 hi0 hz0 hz1 hz2 rfl (by decide) _ _ _ h25 (HOI.out.row.turned0 hT1) ⟨g2, 0, none⟩ 1 1 u.cells h29 (LT.cells_length u) (news_block hg) (LT.cells_one u) (by omega) (by unfold maxLen; omega) (by omega) ?_
                intro g3 cap2 w2 hrow2 T2 hl2
                have hgw : some g3 = (Value.slice a j c).ownBlock ∨ wx.heap.size ≤ g3 := by
                  rcases hl2 with e | e
                  · exact .inl e
                  · have := hT1.size; exact .inr (by omega)
                refine ⟨u, g3, cap2, rfl, hb, hrow2, ?_, (hT1.mono (fun _ _ f => f.elim)).trans T2, hgw⟩
                have hpl := HPL.out
                have hbn := HBN.out
                refine hu.turned T2 (fun k hk h e => ?_) (fun k hk h => ⟨h, fun e => ?_⟩)
                · have h1 := HOI.out.row.lt k e
                  have h2 := HOI.out.own k e
                  rcases h with h | h
                  · have := hpl k h; omega
                  · omega
                · subst e
                  rcases hl2 with e | e
                  · have h1 := HOI.out.row.lt k e.symm
                    have h2 := HOI.out.own k e.symm
                    rcases h with h | h
                    · have := hpl k h; omega
                    · omega
                  · omega
            case s7 =>
              refine fun hs hle => stepG_free [] [5] (by kernel_rfl) rfl ?_
              · intro ac W hT hI hO
                have hle : hs.length ≤ 3 := hle
                have h5 : ac.tmps.getD 5 undef = .pointer (some ⟨B2, 0, none⟩) := hO 5 (by simp)
                show Brings Try.prog (fun v w' => Turned (fun _ => False) W w' ∧ v = .pointer (some ⟨B2, 3, none⟩)) _
                simp only [execOp, Act.eval, h5]
                go_simp
                try exact ⟨Turned.refl _ _, rfl⟩
            case s8 =>
              refine fun hs hlen => stepG_free [31, 30] [] (by kernel_rfl) rfl ?_
              · intro ac W hT hI hO
                have h31 : ac.tmps.getD 31 undef = .pointer (some ⟨B2, 3, none⟩) := hI 31 (by simp)
                have h30 : hs[2]? = some (ac.tmps.getD 30 undef) := hI 30 (by simp)
                show Brings Try.prog (fun v w' => RepS p' (Tm.subF (baresM g)) N B2 t x w1 j us a c wx (hs ++ [v]) w') _
                obtain ⟨uv, sv, av, rfl⟩ := list3' hlen
                obtain ⟨u, g2, cap, rfl, hb, hrow, hu, hT2, hg⟩ := hT
                replace h30 : ac.tmps.getD 30 undef = .slice (some ⟨g2, 0, none⟩) (j + 1) cap := by simpa using h30.symm
                have hbl := (hT2.block B2 (Array.getElem?_eq_some_iff.1 HOI.out.blk).1 (fun e => by have := HOI.out.own B2 e; have := HBN.out.1; omega)).trans HOI.out.blk
                obtain ⟨_, _, _, d3, _, _, _, f3⟩ := cells4 hbl
                simp only [execOp, Act.eval, h31, h30]
                go_simp
                exact ⟨_, _, _, rep_close HPL.out HBN.out.1 HBN.out.2.1 HOI.out HX.out hb hrow hu hT2 hg HBN.out.2.2⟩
          case hQ =>
            intro hs vs w2 hlen hR hV
            obtain ⟨e1, e2, e3, e4, rfl⟩ : ∃ a b c d, hs = [a, b, c, d] := list4' hlen
            obtain ⟨us', a', c', hI⟩ := hR
            have HI' := Lib.hid hI
            simp only [List.foldl_cons, List.foldl_nil, List.setIfInBounds_toArray, List.set_cons_zero, List.set_cons_succ]
            clear hV hlen hI
            go_wp2_with fail
            go_roundg (gk - 1)
            case measure => have := HG.out; omega
            case rel => exact ⟨j + 1, show _ = _ by have := HG.out; omega, by omega, by go_num, us', a', c', HI'⟩
        · obtain rfl : j = t.args.length := by omega
          have hb1 := (HOR.out.turned.block B1 (Array.getElem?_eq_some_iff.1 H3.out.2.2.2.2).1 (fun e => by have := HE.out; omega)).trans H3.out.2.2.2.2
          obtain ⟨d0, d1, d2, d3, f0, f1, f2, f3⟩ := cells4 hb1
          obtain ⟨g0, g1, g2, g3, _⟩ := cells4 HOR.out.blk
          have HB1 := Lib.hid hb1
          clear hb1
          go_wp2_with fail
          have hset := set4 (a' := .int .i64 t.kind) (b' := .int .i64 t.n) (c' := .string t.name) (d' := .slice a t.args.length c) HB1.out
          have hge : w.heap.size ≤ B1 := by have := HE.out; omega
          have T4 := turned4 (a := .int .i64 t.kind) (b := .int .i64 t.n) (c := .string t.name) (d := .slice a t.args.length c) HTw.out hge
          refine bodyPost_ret (v := .agg #[.int .i64 t.kind, .int .i64 t.n, .string t.name, .slice a t.args.length c]) (results_cell_row Try.results174 _ _ B1 27 _ (0, 0) _ rfl hset Try.underlying27 rfl (by kernel_rfl)) rfl ?_
          have hne : ∀ q, (Value.slice a t.args.length c).ownBlock ≠ some (Addr.block ⟨B1, q, none⟩) := fun q e => by have h1 : N ≤ B1 := HOR.out.own _ e; have := HE.out; omega
          have hrow := ((((HOR.out.row.setCell (hne 0) (.int .i64 t.kind)).setCell (hne 1) (.int .i64 t.n)).setCell (hne 2) (.string t.name)).setCell (hne 3) (.slice a t.args.length c))
          have Tq : Turned (fun k => k = B1) wr _ := ((((Turned.refl (fun k => k = B1) wr).setCell (p := ⟨B1, 0, none⟩) (.inr rfl) (.int .i64 t.kind)).setCell (p := ⟨B1, 1, none⟩) (.inr rfl) (.int .i64 t.n)).setCell (p := ⟨B1, 2, none⟩) (.inr rfl) (.string t.name)).setCell (p := ⟨B1, 3, none⟩) (.inr rfl) (.slice a t.args.length c)
          have hpl := HPL0.out
          have hins := HOR.out.ins.turned (q := fun k => p k ∨ w.heap.size ≤ k) Tq (fun k _ hk e => by
            have := HE.out
            rcases hk.1 with h | h
            · have := (hpl k h).2; omega
            · omega) (fun k _ hk => by
            have := HE.out
            rcases hk.1 with h | h
            · exact .inl (hpl k h).1
            · exact .inr (by omega))
          obtain ⟨e1, e2⟩ := LT.Sl.of_row (p := fun k => p k ∨ w.heap.size ≤ k) hrow (fun k hk => .inr (by have := HOR.out.own k hk; have := HE.out; omega)) hins
          refine ⟨.mk t.kind t.n t.name (a, c) us, ?_, ?_, e2.in_ HIN.out.kind HIN.out.n HIN.out.name, T4⟩
          · show _ = Ending.returned (LT.val (.mk t.kind t.n t.name (a, c) us))
            rw [LT.val_eq]
            show _ = Ending.returned (.agg #[.int .i64 t.kind, .int .i64 t.n, .string t.name, .slice a us.length c])
            rw [HUL.out]
          · have hbr := HOR.out.bares
            rw [List.take_length] at hbr
            rw [HSUB.out, Tm.bare, Tm.bares_eq, hbr]
end Go.Proofs.Ytoihjobdfjajfaa

/- Plain: what stands for what: a list of what was set, the last one first; all the way in. No program in sight. -/
namespace Go.Proofs.Ytoihjobdfjajfaa
set_option linter.unusedVariables false
set_option linter.unusedSimpArgs false
namespace Tm
theorem numsIn_V {i v : Int} : numsIn (V i) v ↔ v = i := by
  unfold numsIn V
  constructor
  · rintro ⟨x, hx, _, rfl⟩
    simp only [flat, flats, List.mem_cons, List.not_mem_nil, or_false] at hx
    subst hx
    rfl
  · rintro rfl
    exact ⟨_, by simp only [flat, flats]; exact List.mem_cons_self .., rfl, rfl⟩
theorem flat_V (i : Int) : (V i).flat = [V i] := by unfold V; simp only [flat, flats]
theorem leafy_V (i : Int) : leafy (V i) := by
  intro x hx hk
  rw [flat_V] at hx
  simp only [List.mem_cons, List.not_mem_nil, or_false] at hx
  subst hx
  rfl
theorem leafy_self {t : Tm Unit} (h : leafy t) (hk : t.kind = 0) : t = V t.n := h t (by rw [flat_eq]; exact List.mem_cons_self ..) hk
theorem mem_flat_trans (n : Nat) : ∀ (t x y : Tm Unit), t.size ≤ n → x ∈ t.flat → y ∈ x.flat → y ∈ t.flat := by
  induction n with
  | zero => intro t; have := size_pos t; omega
  | succ n ih =>
    intro t x y hn hx hy
    rw [flat_eq] at hx
    rcases List.mem_cons.1 hx with rfl | hx
    · exact hy
    · rw [flat_eq]
      refine List.mem_cons_of_mem _ ?_
      have hs := size_eq t
      have gen : ∀ l : List (Tm Unit), sizes l ≤ n → x ∈ flats l → y ∈ flats l := by
        intro l
        induction l with
        | nil => intro _ h; simp [flats] at h
        | cons z l ihl =>
          intro h1 h2
          simp only [flats, List.mem_append, sizes] at h1 h2 ⊢
          rcases h2 with h2 | h2
          · exact .inl (ih z x y (by omega) h2 hy)
          · exact .inr (ihl (by omega) h2)
      exact gen _ (by omega) hx
theorem numsIn_mk {k n : Int} {s : ByteArray} {e : Unit} {aa : List (Tm Unit)} {v : Int} (hk : ¬ k = 0) : numsIn (.mk k n s e aa) v ↔ ∃ x ∈ flats aa, x.kind = 0 ∧ x.n = v := by
  unfold numsIn
  constructor
  · rintro ⟨x, hx, h1, h2⟩
    rw [flat_eq] at hx
    rcases List.mem_cons.1 hx with rfl | hx
    · exact absurd h1 hk
    · exact ⟨x, hx, h1, h2⟩
  · rintro ⟨x, hx, h1, h2⟩
    exact ⟨x, by rw [flat_eq]; exact List.mem_cons_of_mem _ hx, h1, h2⟩
mutual
theorem numsIn_subT {σ : Int → Tm Unit} {v : Int} : ∀ t : Tm Unit, leafy t → (numsIn (subT σ t) v ↔ ∃ u, numsIn t u ∧ numsIn (σ u) v)
  | .mk k n s e aa, h => by
    by_cases hk : k = 0
    · have := leafy_self h hk
      rw [this]
      simp only [Tm.n, V, subT, if_pos]
      constructor
      · intro hv; exact ⟨n, numsIn_V.2 rfl, hv⟩
      · rintro ⟨u, hu, hv⟩
        have := numsIn_V.1 hu
        subst this
        exact hv
    · simp only [subT, if_neg hk]
      rw [numsIn_mk hk, numsIn_subTs aa (fun x hx => h x (by rw [flat_eq]; exact List.mem_cons_of_mem _ hx))]
      constructor
      · rintro ⟨u, hu, hv⟩; exact ⟨u, (numsIn_mk hk).2 hu, hv⟩
      · rintro ⟨u, hu, hv⟩; exact ⟨u, (numsIn_mk hk).1 hu, hv⟩
theorem numsIn_subTs {σ : Int → Tm Unit} {v : Int} : ∀ l : List (Tm Unit), (∀ x ∈ flats l, x.kind = 0 → x = V x.n) → ((∃ x ∈ flats (subTs σ l), x.kind = 0 ∧ x.n = v) ↔ ∃ u, (∃ x ∈ flats l, x.kind = 0 ∧ x.n = u) ∧ numsIn (σ u) v)
  | [], _ => by simp [flats, subTs]
  | y :: l, h => by
    have h1 := numsIn_subT (σ := σ) (v := v) y (fun x hx => h x (by simp only [flats]; exact List.mem_append_left _ hx))
    have h2 := numsIn_subTs (σ := σ) (v := v) l (fun x hx => h x (by simp only [flats]; exact List.mem_append_right _ hx))
    unfold numsIn at h1
    simp only [subTs, flats, List.mem_append]
    constructor
    · rintro ⟨x, hx | hx, hk, hn⟩
      · obtain ⟨u, ⟨z, hz, h3, h4⟩, hv⟩ := h1.1 ⟨x, hx, hk, hn⟩
        exact ⟨u, ⟨z, .inl hz, h3, h4⟩, hv⟩
      · obtain ⟨u, ⟨z, hz, h3, h4⟩, hv⟩ := h2.1 ⟨x, hx, hk, hn⟩
        exact ⟨u, ⟨z, .inr hz, h3, h4⟩, hv⟩
    · rintro ⟨u, ⟨z, hz | hz, h3, h4⟩, hv⟩
      · obtain ⟨x, hx, hk, hn⟩ := h1.2 ⟨u, ⟨z, hz, h3, h4⟩, hv⟩
        exact ⟨x, .inl hx, hk, hn⟩
      · obtain ⟨x, hx, hk, hn⟩ := h2.2 ⟨u, ⟨z, hz, h3, h4⟩, hv⟩
        exact ⟨x, .inr hx, hk, hn⟩
end
/-- All nodes of a term in whose variables' place terms were put: such of the term's own that are no variables, or of what was put. -/
def allN (P : Tm Unit → Prop) (t : Tm Unit) : Prop := ∀ x ∈ t.flat, P x
mutual
theorem allN_subT {P : Tm Unit → Prop} {σ : Int → Tm Unit} (hP : ∀ k n s aa bb, P (.mk k n s () aa) → aa.length = bb.length → ¬ k = 0 → P (.mk k n s () bb)) : ∀ t : Tm Unit, allN P t → (∀ u, numsIn t u → allN P (σ u)) → allN P (subT σ t)
  | .mk k n s e aa, h, hσ => by
    by_cases hk : k = 0
    · simp only [subT, if_pos hk]
      exact hσ n ⟨.mk k n s e aa, by rw [flat_eq]; exact List.mem_cons_self .., hk, rfl⟩
    · simp only [subT, if_neg hk]
      intro x hx
      rw [flat_eq] at hx
      rcases List.mem_cons.1 hx with rfl | hx
      · exact hP k n s aa _ (h _ (by rw [flat_eq]; exact List.mem_cons_self ..)) (by rw [subTs_eq, List.length_map]) hk
      · exact allN_subTs hP aa (fun x hx => h x (by rw [flat_eq]; exact List.mem_cons_of_mem _ hx)) (fun u hu => hσ u ((numsIn_mk hk).2 hu)) x hx
theorem allN_subTs {P : Tm Unit → Prop} {σ : Int → Tm Unit} (hP : ∀ k n s aa bb, P (.mk k n s () aa) → aa.length = bb.length → ¬ k = 0 → P (.mk k n s () bb)) : ∀ l : List (Tm Unit), (∀ x ∈ flats l, P x) → (∀ u, (∃ x ∈ flats l, x.kind = 0 ∧ x.n = u) → allN P (σ u)) → ∀ x ∈ flats (subTs σ l), P x
  | [], _, _ => by simp [flats, subTs]
  | y :: l, h, hσ => by
    intro x hx
    simp only [subTs, flats, List.mem_append] at hx
    rcases hx with hx | hx
    · exact allN_subT hP y (fun x hx => h x (by simp only [flats]; exact List.mem_append_left _ hx)) (fun u ⟨z, hz, h3⟩ => hσ u ⟨z, by simp only [flats]; exact List.mem_append_left _ hz, h3⟩) x hx
    · exact allN_subTs hP l (fun x hx => h x (by simp only [flats]; exact List.mem_append_right _ hx)) (fun u ⟨z, hz, h3⟩ => hσ u ⟨z, by simp only [flats]; exact List.mem_append_right _ hz, h3⟩) x hx
end
theorem leafy_subT {σ : Int → Tm Unit} {t : Tm Unit} (h : leafy t) (hσ : ∀ u, numsIn t u → leafy (σ u)) : leafy (subT σ t) :=
  allN_subT (P := fun x => x.kind = 0 → x = V x.n) (fun k n s aa bb _ _ hk h => absurd h hk) t h hσ

/-! ### What was set -/
/-- One variable's place taken. -/
def put (n : Int) (x : Tm Unit) : Int → Tm Unit := fun i => if i = n then x else V i
theorem put_self (n : Int) (x : Tm Unit) : put n x n = x := by unfold put; rw [if_pos rfl]
theorem put_ne {n i : Int} (x : Tm Unit) (h : ¬ i = n) : put n x i = V i := by unfold put; rw [if_neg h]
abbrev Trail := List (Int × Tm Unit)
/-- What a variable stands for, all the way in. -/
def sig : Trail → Int → Tm Unit
  | [] => V
  | b :: l => fun i => subT (put b.1 (subT (sig l) b.2)) (sig l i)
/-- A term with all that its variables stand for. -/
def img (l : Trail) (t : Tm Unit) : Tm Unit := subT (sig l) t
def dom (l : Trail) : List Int := l.map (·.1)
def look : Trail → Int → Option (Tm Unit)
  | [], _ => none
  | b :: l, n => if b.1 = n then some b.2 else look l n
/-- What may have been set, where so many variables were given. -/
def okT (m : Nat) : Trail → Prop
  | [] => True
  | b :: l => okT m l ∧ 0 ≤ b.1 ∧ b.1 < m ∧ b.1 ∉ dom l ∧ goodB b.2 = true ∧ (∀ v, numsIn b.2 v → v < (m : Int)) ∧ ¬ numsIn (img l b.2) b.1
theorem okT.more {m m' : Nat} (h : m ≤ m') : ∀ {l : Trail}, okT m l → okT m' l
  | [], _ => trivial
  | b :: l, ⟨h1, h2, h3, h4, h5, h6, h7⟩ => ⟨okT.more h h1, h2, by omega, h4, h5, fun v hv => by have := h6 v hv; omega, h7⟩
theorem look_none {l : Trail} {n : Int} : look l n = none ↔ n ∉ dom l := by
  induction l with
  | nil => simp [look, dom]
  | cons b l ih =>
    simp only [look, dom, List.map_cons, List.mem_cons, not_or]
    by_cases h : b.1 = n
    · rw [if_pos h]; simp [h]
    · rw [if_neg h]
      rw [ih]
      have h' : ¬ n = b.1 := fun e => h e.symm
      unfold dom
      exact ⟨fun c => ⟨h', c⟩, fun c => c.2⟩
theorem look_mem {l : Trail} {n : Int} {t : Tm Unit} (h : look l n = some t) : (n, t) ∈ l := by
  induction l with
  | nil => simp [look] at h
  | cons b l ih =>
    simp only [look] at h
    split at h
    · rename_i e; injection h with h; subst e h; exact List.mem_cons_self ..
    · exact List.mem_cons_of_mem _ (ih h)
theorem okT_mem {m : Nat} {l : Trail} (h : okT m l) {b : Int × Tm Unit} (hb : b ∈ l) : 0 ≤ b.1 ∧ b.1 < m ∧ goodB b.2 = true ∧ ∀ v, numsIn b.2 v → v < (m : Int) := by
  induction l with
  | nil => cases hb
  | cons c l ih =>
    obtain ⟨h1, h2, h3, h4, h5, h6, h7⟩ := h
    rcases List.mem_cons.1 hb with rfl | hb
    · exact ⟨h2, h3, h5, h6⟩
    · exact ih h1 hb
theorem sig_free {m : Nat} {l : Trail} (h : okT m l) {i : Int} (hi : i ∉ dom l) : sig l i = V i := by
  induction l with
  | nil => rfl
  | cons b l ih =>
    simp only [dom, List.map_cons, List.mem_cons, not_or] at hi
    simp only [sig]
    rw [ih h.1 hi.2]
    simp only [V, subT, if_pos]
    exact put_ne _ hi.1
theorem sig_leafy {m : Nat} {l : Trail} (h : okT m l) (i : Int) : leafy (sig l i) := by
  induction l generalizing i with
  | nil => exact leafy_V i
  | cons b l ih =>
    simp only [sig]
    refine leafy_subT (ih h.1 i) (fun u _ => ?_)
    unfold put
    split
    · exact leafy_subT (good_leafy h.2.2.2.2.1) (fun u _ => ih h.1 u)
    · exact leafy_V u
theorem img_leafy {m : Nat} {l : Trail} (h : okT m l) {t : Tm Unit} (ht : leafy t) : leafy (img l t) := leafy_subT ht (fun u _ => sig_leafy h u)
theorem sig_nums {m : Nat} {l : Trail} (h : okT m l) {i v : Int} (hv : numsIn (sig l i) v) : v ∉ dom l := by
  induction l generalizing i v with
  | nil => simp [dom]
  | cons b l ih =>
    simp only [sig] at hv
    obtain ⟨u, hu, hv⟩ := (numsIn_subT _ (sig_leafy h.1 i)).1 hv
    have h1 := ih h.1 hu
    unfold put at hv
    simp only [dom, List.map_cons, List.mem_cons, not_or]
    split at hv
    · obtain ⟨z, _, hz⟩ := (numsIn_subT _ (good_leafy h.2.2.2.2.1)).1 hv
      exact ⟨fun e => h.2.2.2.2.2.2 (by rw [← e]; exact hv), ih h.1 hz⟩
    · rename_i hne
      have := numsIn_V.1 hv
      subst this
      exact ⟨hne, h1⟩
theorem img_nums {m : Nat} {l : Trail} (h : okT m l) {t : Tm Unit} (ht : leafy t) {v : Int} (hv : numsIn (img l t) v) : v ∉ dom l := by
  obtain ⟨u, _, hu⟩ := (numsIn_subT t ht).1 hv
  exact sig_nums h hu
theorem img_same {m : Nat} {l : Trail} (h : okT m l) {t : Tm Unit} (ht : leafy t) (hv : ∀ v, numsIn t v → v ∉ dom l) : img l t = t := by
  unfold img
  rw [subT_congr (τ := V) t (fun x hx hk => sig_free h (hv _ ⟨x, hx, hk, rfl⟩)), subT_V t ht]
theorem img_img {m : Nat} {l : Trail} (h : okT m l) {t : Tm Unit} (ht : leafy t) : img l (img l t) = img l t :=
  img_same h (img_leafy h ht) (fun v hv => img_nums h ht hv)
theorem img_cons {m : Nat} {b : Int × Tm Unit} {l : Trail} (t : Tm Unit) : img (b :: l) t = subT (put b.1 (img l b.2)) (img l t) := by
  unfold img
  rw [subT_subT]
  rfl
theorem put_none {n : Int} {x t : Tm Unit} (ht : leafy t) (h : ¬ numsIn t n) : subT (put n x) t = t := by
  rw [subT_congr (τ := V) t (fun y hy hk => put_ne _ (fun e => h ⟨y, hy, hk, e⟩)), subT_V t ht]
theorem sig_look {m : Nat} {l : Trail} (h : okT m l) {i : Int} {t : Tm Unit} (hi : look l i = some t) : sig l i = img l t := by
  induction l generalizing i t with
  | nil => simp [look] at hi
  | cons b l ih =>
    have hg := good_leafy h.2.2.2.2.1
    rw [img_cons (m := m)]
    simp only [look] at hi
    simp only [sig]
    split at hi
    · rename_i e
      injection hi with hi
      subst hi
      rw [sig_free h.1 (by rw [← e]; exact h.2.2.2.1), put_none (img_leafy h.1 hg) h.2.2.2.2.2.2]
      simp only [V, subT, if_pos]
      rw [← e, put_self]
      rfl
    · rw [ih h.1 hi]
      rfl
theorem img_V (l : Trail) (i : Int) : img l (V i) = sig l i := by unfold img V; simp only [subT, if_pos]
theorem img_mk {k n : Int} {s : ByteArray} {e : Unit} {aa : List (Tm Unit)} (l : Trail) (hk : ¬ k = 0) : img l (.mk k n s e aa) = .mk k n s () (aa.map (img l)) := by
  unfold img
  simp only [subT, if_neg hk, subTs_eq]
theorem img_goodOne {m : Nat} {l : Trail} (h : okT m l) {t : Tm Unit} (ht : ∀ x ∈ t.flat, goodOneB x = true) : ∀ x ∈ (img l t).flat, goodOneB x = true := by
  have hP : ∀ k n s (aa bb : List (Tm Unit)), goodOneB (.mk k n s () aa) = true → aa.length = bb.length → ¬ k = 0 → goodOneB (.mk k n s () bb) = true := by
    intro k n s aa bb h1 h2 h3
    unfold goodOneB at h1 ⊢
    simp only [kind, Tm.n, name, args] at h1 ⊢
    simp only [h2] at h1
    exact h1
  have hs : ∀ (l : Trail), okT m l → ∀ i, 0 ≤ i ∧ i < 2147483648 → allN (fun x => goodOneB x = true) (sig l i) := by
    intro l
    induction l with
    | nil =>
      intro _ i hi x hx
      simp only [sig] at hx
      rw [flat_V] at hx
      simp only [List.mem_cons, List.not_mem_nil, or_false] at hx
      subst hx
      rw [goodOneB_0 _ rfl]
      simp only [V, Tm.n, name, args, List.length_nil, Bool.and_eq_true, decide_eq_true_eq]
      refine ⟨decide_eq_true (show 0 ≤ i by omega), decide_eq_true (show i ≤ 2147483647 by omega), ?_, ?_⟩
      · first | rfl | (exact decide_eq_true rfl) | simp
      · first | rfl | trivial | simp
    | cons b l ih =>
      intro hok i hi
      simp only [sig]
      refine allN_subT hP _ (ih hok.1 i hi) (fun u hu => ?_)
      have hgb := hok.2.2.2.2.1
      have hones : ∀ x ∈ b.2.flat, goodOneB x = true := by
        unfold goodB at hgb
        simp only [Bool.and_eq_true, List.all_eq_true] at hgb
        exact hgb.2.2
      have hnum : ∀ {t : Tm Unit}, allN (fun x => goodOneB x = true) t → ∀ u, numsIn t u → 0 ≤ u ∧ u < 2147483648 := by
        rintro t ht u ⟨x, hx, hk, rfl⟩
        have := ht x hx
        simp only [goodOneB_0 x hk, Bool.and_eq_true, decide_eq_true_eq] at this
        omega
      unfold put
      split
      · exact allN_subT hP _ hones (fun u hu => ih hok.1 u (hnum hones u hu))
      · have h1 := hnum (ih hok.1 i hi) u hu
        have := ih hok.1 i hi
        intro x hx
        rw [flat_V] at hx
        simp only [List.mem_cons, List.not_mem_nil, or_false] at hx
        subst hx
        rw [goodOneB_0 _ rfl]
        simp only [V, Tm.n, name, args, List.length_nil, Bool.and_eq_true, decide_eq_true_eq]
        refine ⟨decide_eq_true (show 0 ≤ u by omega), decide_eq_true (show u ≤ 2147483647 by omega), ?_, ?_⟩
        · first | rfl | (exact decide_eq_true rfl) | simp
        · first | rfl | trivial | simp
  refine allN_subT hP t ht (fun u hu => hs l h u ?_)
  obtain ⟨x, hx, hk, rfl⟩ := hu
  have := ht x hx
  simp only [goodOneB_0 x hk, Bool.and_eq_true, decide_eq_true_eq] at this
  omega
theorem img_lt {m : Nat} {l : Trail} (h : okT m l) {t : Tm Unit} (ht : leafy t) (hv : ∀ v, numsIn t v → v < (m : Int)) : ∀ v, numsIn (img l t) v → v < (m : Int) := by
  have hs : ∀ (l : Trail), okT m l → ∀ i, i < (m : Int) → ∀ v, numsIn (sig l i) v → v < (m : Int) := by
    intro l
    induction l with
    | nil => intro _ i hi v hv; have := numsIn_V.1 hv; omega
    | cons b l ih =>
      intro hok i hi v hv
      simp only [sig] at hv
      obtain ⟨u, hu, hv⟩ := (numsIn_subT _ (sig_leafy hok.1 i)).1 hv
      unfold put at hv
      split at hv
      · obtain ⟨z, hz, hv⟩ := (numsIn_subT _ (good_leafy hok.2.2.2.2.1)).1 hv
        exact ih hok.1 z (hok.2.2.2.2.2.1 z hz) v hv
      · have := numsIn_V.1 hv
        subst this
        exact ih hok.1 i hi _ hu
  intro v hv'
  obtain ⟨u, hu, hv'⟩ := (numsIn_subT _ ht).1 hv'
  exact hs l h u (hv u hu) v hv'

/-! ### A rank: what a variable stands for lies lower -/
def total (f : Int → Nat) (l : List Int) : Nat := (l.map f).sum
theorem total_mem {f : Int → Nat} {l : List Int} {v : Int} (h : v ∈ l) : f v ≤ total f l := by
  unfold total
  induction l with
  | nil => cases h
  | cons a l ih =>
    simp only [List.map_cons, List.sum_cons]
    rcases List.mem_cons.1 h with rfl | h
    · omega
    · have := ih h; omega
open Classical in
noncomputable def rk : Trail → Int → Nat
  | [], _ => 0
  | b :: l, i => if numsIn (sig l i) b.1 then rk l i + total (rk l) b.2.vars + 1 else rk l i
theorem rk_lt {m : Nat} {l : Trail} (h : okT m l) {i v : Int} {t : Tm Unit} (hi : look l i = some t) (hv : numsIn t v) : rk l v < rk l i := by
  induction l generalizing i t v with
  | nil => simp [look] at hi
  | cons b l ih =>
    have hg := good_leafy h.2.2.2.2.1
    simp only [look] at hi
    simp only [rk]
    split at hi
    · rename_i e
      injection hi with hi
      subst hi
      have h0 : ¬ numsIn (sig l v) b.1 := fun c => h.2.2.2.2.2.2 ((numsIn_subT _ hg).2 ⟨v, hv, c⟩)
      rw [if_neg h0, if_pos]
      · have := total_mem (f := rk l) ((vars_mem v).2 hv)
        omega
      · rw [← e, sig_free h.1 h.2.2.2.1]
        exact numsIn_V.2 rfl
    · have h1 := ih h.1 hi hv
      have hl : leafy t := by
        have := okT_mem h.1 (look_mem hi)
        exact good_leafy this.2.2.1
      by_cases hc : numsIn (sig l v) b.1
      · rw [if_pos hc, if_pos]
        · omega
        · rw [sig_look h.1 hi]
          exact (numsIn_subT _ hl).2 ⟨v, hv, hc⟩
      · rw [if_neg hc]
        split <;> omega
end Tm
end Go.Proofs.Ytoihjobdfjajfaa

/- Plain: looking for a variable all the way in, each variable once; what is whole. No program in sight. -/
namespace Go.Proofs.Ytoihjobdfjajfaa
set_option linter.unusedVariables false
set_option linter.unusedSimpArgs false
namespace Tm
/-- Lower than a variable. -/
def lower (l : Trail) (y : Tm Unit) (h : Int) : Prop := ∀ v, numsIn y v → rk l v < rk l h
/-- Where the search for a variable stands: what is still to be looked at, which variables were met. -/
structure Seek (l : Trail) (n : Int) (t : Tm Unit) (todo : List (Tm Unit)) (had : List Int) : Prop where
  leafy : ∀ y ∈ todo, leafy y
  sound : ∀ y ∈ todo, numsIn (img l y) n → numsIn (img l t) n
  met : ∀ h ∈ had, numsIn (sig l h) n → ∃ y ∈ todo, numsIn (img l y) n ∧ lower l y h
  whole : numsIn (img l t) n → ∃ y ∈ todo, numsIn (img l y) n
theorem Seek.start {l : Trail} {n : Int} {t : Tm Unit} (ht : Tm.leafy t) : Seek l n t [t] [] :=
  ⟨fun y hy => by rw [List.mem_singleton] at hy; rw [hy]; exact ht, fun y hy h => by rw [List.mem_singleton] at hy; rwa [← hy], fun h hh => (by cases hh), fun h => ⟨t, List.mem_singleton.2 rfl, h⟩⟩
theorem Seek.stop {l : Trail} {n : Int} {t : Tm Unit} {had : List Int} (h : Seek l n t [] had) : ¬ numsIn (img l t) n := fun c => by
  obtain ⟨y, hy, _⟩ := h.whole c
  cases hy
theorem mem_flats_iff {α : Type} {l : List (Tm α)} {x : Tm α} : x ∈ flats l ↔ ∃ y ∈ l, x ∈ y.flat := by
  induction l with
  | nil => simp [flats]
  | cons z l ih => simp only [flats, List.mem_append, ih, List.mem_cons]; constructor
                   · rintro (h | ⟨y, hy, h⟩)
                     · exact ⟨z, .inl rfl, h⟩
                     · exact ⟨y, .inr hy, h⟩
                   · rintro ⟨y, rfl | hy, h⟩
                     · exact .inl h
                     · exact .inr ⟨y, hy, h⟩
theorem numsIn_args {y : Tm Unit} (hk : ¬ y.kind = 0) {v : Int} : numsIn y v ↔ ∃ a ∈ y.args, numsIn a v := by
  cases y with | mk k n s e aa =>
  rw [numsIn_mk (by exact hk)]
  simp only [mem_flats_iff, args]
  unfold numsIn
  constructor
  · rintro ⟨x, ⟨a, ha, hx⟩, h1, h2⟩; exact ⟨a, ha, x, hx, h1, h2⟩
  · rintro ⟨a, ha, x, hx, h1, h2⟩; exact ⟨x, ⟨a, ha, hx⟩, h1, h2⟩
theorem img_args {l : Trail} {y : Tm Unit} (hk : ¬ y.kind = 0) : img l y = .mk y.kind y.n y.name () (y.args.map (img l)) := by
  cases y with | mk k n s e aa => exact img_mk l hk
theorem leafy_arg {y : Tm Unit} (h : Tm.leafy y) : ∀ a ∈ y.args, Tm.leafy a := by
  cases y with | mk k n s e aa => exact leafy_args h
/-- Its args in its place. -/
theorem Seek.args {l : Trail} {n : Int} {t y : Tm Unit} {todo : List (Tm Unit)} {had : List Int} (h : Seek l n t (todo ++ [y]) had) (hk : ¬ y.kind = 0) : Seek l n t (todo ++ y.args) had := by
  have hi : numsIn (img l y) n ↔ ∃ a ∈ y.args, numsIn (img l a) n := by
    rw [img_args hk, numsIn_args (by exact hk)]
    simp only [Tm.args, List.mem_map]
    constructor
    · rintro ⟨_, ⟨a, ha, rfl⟩, h⟩; exact ⟨a, ha, h⟩
    · rintro ⟨a, ha, h⟩; exact ⟨_, ⟨a, ha, rfl⟩, h⟩
  have hy : y ∈ todo ++ [y] := by simp
  refine ⟨fun x hx => ?_, fun x hx hn => ?_, fun m hm hn => ?_, fun hn => ?_⟩
  · rcases List.mem_append.1 hx with hx | hx
    · exact h.leafy x (List.mem_append_left _ hx)
    · exact leafy_arg (h.leafy y hy) x hx
  · rcases List.mem_append.1 hx with hx | hx
    · exact h.sound x (List.mem_append_left _ hx) hn
    · exact h.sound y hy (hi.2 ⟨x, hx, hn⟩)
  · obtain ⟨z, hz, h1, h2⟩ := h.met m hm hn
    rcases List.mem_append.1 hz with hz | hz
    · exact ⟨z, List.mem_append_left _ hz, h1, h2⟩
    · rw [List.mem_singleton] at hz
      subst hz
      obtain ⟨a, ha, h3⟩ := hi.1 h1
      exact ⟨a, List.mem_append_right _ ha, h3, fun v hv => h2 v ((numsIn_args hk).2 ⟨a, ha, hv⟩)⟩
  · obtain ⟨z, hz, h1⟩ := h.whole hn
    rcases List.mem_append.1 hz with hz | hz
    · exact ⟨z, List.mem_append_left _ hz, h1⟩
    · rw [List.mem_singleton] at hz
      subst hz
      obtain ⟨a, ha, h3⟩ := hi.1 h1
      exact ⟨a, List.mem_append_right _ ha, h3⟩
/-- A variable that was met is left. -/
theorem Seek.skip {l : Trail} {n k : Int} {t : Tm Unit} {todo : List (Tm Unit)} {had : List Int} (h : Seek l n t (todo ++ [V k]) had) (hk : k ∈ had) : Seek l n t todo had := by
  have hR : numsIn (img l (V k)) n → ∃ y ∈ todo, numsIn (img l y) n ∧ lower l y k := by
    intro hr
    rw [img_V] at hr
    obtain ⟨z, hz, h1, h2⟩ := h.met k hk hr
    rcases List.mem_append.1 hz with hz | hz
    · exact ⟨z, hz, h1, h2⟩
    · rw [List.mem_singleton] at hz
      subst hz
      have := h2 k (numsIn_V.2 rfl)
      omega
  refine ⟨fun x hx => h.leafy x (List.mem_append_left _ hx), fun x hx hn => h.sound x (List.mem_append_left _ hx) hn, fun m hm hn => ?_, fun hn => ?_⟩
  · obtain ⟨z, hz, h1, h2⟩ := h.met m hm hn
    rcases List.mem_append.1 hz with hz | hz
    · exact ⟨z, hz, h1, h2⟩
    · rw [List.mem_singleton] at hz
      subst hz
      obtain ⟨z', hz', h3, h4⟩ := hR h1
      have := h2 k (numsIn_V.2 rfl)
      exact ⟨z', hz', h3, fun v hv => by have := h4 v hv; omega⟩
  · obtain ⟨z, hz, h1⟩ := h.whole hn
    rcases List.mem_append.1 hz with hz | hz
    · exact ⟨z, hz, h1⟩
    · rw [List.mem_singleton] at hz
      subst hz
      obtain ⟨z', hz', h3, _⟩ := hR h1
      exact ⟨z', hz', h3⟩
/-- It was found. -/
theorem Seek.found {m : Nat} {l : Trail} {n : Int} {t : Tm Unit} {todo : List (Tm Unit)} {had : List Int} (hl : okT m l) (h : Seek l n t (todo ++ [V n]) had) (hn : n ∉ dom l) : numsIn (img l t) n :=
  h.sound (V n) (by simp) (by rw [img_V, sig_free hl hn]; exact numsIn_V.2 rfl)
/-- A variable that stands for nothing. -/
theorem Seek.free {m : Nat} {l : Trail} {n k : Int} {t : Tm Unit} {todo : List (Tm Unit)} {had : List Int} (hl : okT m l) (h : Seek l n t (todo ++ [V k]) had) (hk : look l k = none) (hne : ¬ k = n) : Seek l n t todo (k :: had) := by
  have hR : ¬ numsIn (img l (V k)) n := by
    rw [img_V, sig_free hl (look_none.1 hk), numsIn_V]
    exact fun e => hne e.symm
  have hR' : ¬ numsIn (sig l k) n := by rwa [img_V] at hR
  have hf : ∀ P : Tm Unit → Prop, (∃ y ∈ todo ++ [V k], numsIn (img l y) n ∧ P y) → ∃ y ∈ todo, numsIn (img l y) n ∧ P y := by
    rintro P ⟨z, hz, h1, h2⟩
    rcases List.mem_append.1 hz with hz | hz
    · exact ⟨z, hz, h1, h2⟩
    · rw [List.mem_singleton] at hz
      subst hz
      exact absurd h1 hR
  refine ⟨fun x hx => h.leafy x (List.mem_append_left _ hx), fun x hx hn => h.sound x (List.mem_append_left _ hx) hn, fun m hm hn => ?_, fun hn => ?_⟩
  · rcases List.mem_cons.1 hm with rfl | hm
    · exact absurd hn hR'
    · exact hf _ (h.met m hm hn)
  · obtain ⟨z, hz, h1⟩ := h.whole hn
    obtain ⟨z', hz', h3, _⟩ := hf (fun _ => True) ⟨z, hz, h1, trivial⟩
    exact ⟨z', hz', h3⟩
/-- A variable that stands for a term. -/
theorem Seek.bound {m : Nat} {l : Trail} {n k : Int} {t p : Tm Unit} {todo : List (Tm Unit)} {had : List Int} (hl : okT m l) (h : Seek l n t (todo ++ [V k]) had) (hk : look l k = some p) : Seek l n t (todo ++ [p]) (k :: had) := by
  have hp : Tm.leafy p := good_leafy (okT_mem hl (look_mem hk)).2.2.1
  have hR : numsIn (img l (V k)) n → numsIn (img l p) n := by rw [img_V, sig_look hl hk]; exact id
  have hR' : numsIn (img l p) n → numsIn (img l (V k)) n := by rw [img_V, sig_look hl hk]; exact id
  have hbl : lower l p k := fun v hv => rk_lt hl hk hv
  refine ⟨fun x hx => ?_, fun x hx hn => ?_, fun m hm hn => ?_, fun hn => ?_⟩
  · rcases List.mem_append.1 hx with hx | hx
    · exact h.leafy x (List.mem_append_left _ hx)
    · rw [List.mem_singleton] at hx; rw [hx]; exact hp
  · rcases List.mem_append.1 hx with hx | hx
    · exact h.sound x (List.mem_append_left _ hx) hn
    · rw [List.mem_singleton] at hx
      rw [hx] at hn
      exact h.sound (V k) (by simp) (hR' hn)
  · rcases List.mem_cons.1 hm with rfl | hm
    · refine ⟨p, by simp, ?_, hbl⟩
      rw [← sig_look hl hk]
      exact hn
    · obtain ⟨z, hz, h1, h2⟩ := h.met m hm hn
      rcases List.mem_append.1 hz with hz | hz
      · exact ⟨z, List.mem_append_left _ hz, h1, h2⟩
      · rw [List.mem_singleton] at hz
        subst hz
        have := h2 k (numsIn_V.2 rfl)
        exact ⟨p, by simp, hR h1, fun v hv => by have := hbl v hv; omega⟩
  · obtain ⟨z, hz, h1⟩ := h.whole hn
    rcases List.mem_append.1 hz with hz | hz
    · exact ⟨z, List.mem_append_left _ hz, h1⟩
    · rw [List.mem_singleton] at hz
      subst hz
      exact ⟨p, by simp, hR h1⟩
/-- How much there is at the most still to be looked at. -/
def gasT : Trail → List Int → Nat
  | [], _ => 0
  | b :: l, had => (if b.1 ∈ had then 0 else b.2.size) + gasT l had
theorem gasT_mono {l : Trail} {had : List Int} (k : Int) : gasT l (k :: had) ≤ gasT l had := by
  induction l with
  | nil => exact Nat.le_refl _
  | cons b l ih =>
    simp only [gasT]
    by_cases h : b.1 ∈ had
    · rw [if_pos h, if_pos (List.mem_cons_of_mem _ h)]; omega
    · rw [if_neg h]
      split <;> omega
theorem gasT_met {l : Trail} {had : List Int} {k : Int} {p : Tm Unit} (h : look l k = some p) (hk : k ∉ had) : gasT l (k :: had) + p.size ≤ gasT l had := by
  induction l with
  | nil => simp [look] at h
  | cons b l ih =>
    simp only [look] at h
    simp only [gasT]
    split at h
    · rename_i e
      injection h with h
      subst h
      rw [if_pos (by rw [e]; exact List.mem_cons_self ..), if_neg (by rw [e]; exact hk)]
      have := gasT_mono (l := l) (had := had) k
      omega
    · have := ih h
      by_cases hb : b.1 ∈ had
      · rw [if_pos hb, if_pos (List.mem_cons_of_mem _ hb)]; omega
      · rw [if_neg hb]
        split <;> omega
theorem gasT_le {m : Nat} {l : Trail} (h : okT m l) (had : List Int) : gasT l had ≤ 2000 * l.length := by
  induction l with
  | nil => exact Nat.zero_le _
  | cons b l ih =>
    have hg := h.2.2.2.2.1
    have h1 := ih h.1
    unfold goodB at hg
    simp only [Bool.and_eq_true, decide_eq_true_eq] at hg
    simp only [gasT, List.length_cons]
    split <;> omega

/-! ### Walked, whole -/
/-- What a term is walked to. -/
structure Walked (m : Nat) (l : Trail) (t x : Tm Unit) : Prop where
  img : img l x = img l t
  free : x.kind = 0 → x.n ∉ dom l
  leafy : leafy x
  ones : ∀ y ∈ x.flat, goodOneB y = true
  lt : (∀ v, numsIn t v → v < (m : Int)) → ∀ v, numsIn x v → v < (m : Int)
theorem Walked.self {m : Nat} {l : Trail} {t : Tm Unit} (ht : ∀ y ∈ t.flat, goodOneB y = true) (h : t.kind = 0 → t.n ∉ dom l) : Walked m l t t :=
  ⟨rfl, h, leafy_good ht, ht, fun h => h⟩
theorem Walked.step {m : Nat} {l : Trail} {t p x : Tm Unit} (hl : okT m l) (ht : Tm.leafy t) (hk : t.kind = 0) (hp : look l t.n = some p) (h : Walked m l p x) : Walked m l t x :=
  ⟨by rw [h.img, leafy_self ht hk, img_V, sig_look hl hp], h.free, h.leafy, h.ones, fun _ => h.lt (okT_mem hl (look_mem hp)).2.2.2⟩
/-- A walked term as it is, all the way in. -/
theorem Walked.var {m : Nat} {l : Trail} {t x : Tm Unit} (hl : okT m l) (h : Walked m l t x) (hk : x.kind = 0) : Tm.img l t = x := by
  rw [← h.img, leafy_self h.leafy hk, img_V, sig_free hl (h.free hk)]
theorem Walked.flat {m : Nat} {l : Trail} {t x : Tm Unit} (hl : okT m l) (h : Walked m l t x) (ha : x.args = []) : Tm.img l t = x := by
  by_cases hk : x.kind = 0
  · exact h.var hl hk
  · rw [← h.img, img_args hk, ha]
    cases x with | mk k n s e aa =>
    simp only [args] at ha
    subst ha
    rfl
theorem one_args {α : Type} {x : Tm α} (h : goodOneB x = true) (ha : ¬ x.args = []) : x.kind = 2 ∧ x.n = 0 ∧ x.args.length ≤ 8 := by
  have hl : ¬ x.args.length = 0 := fun c => ha (List.eq_nil_of_length_eq_zero c)
  by_cases h0 : x.kind = 0
  · rw [goodOneB_0 x h0] at h
    simp only [Bool.and_eq_true, decide_eq_true_eq] at h
    exact absurd h.2.2.2 hl
  · by_cases h1 : x.kind = 1
    · rw [goodOneB_1 x h1] at h
      simp only [Bool.and_eq_true, decide_eq_true_eq] at h
      exact absurd h.2 hl
    · by_cases h2 : x.kind = 2
      · rw [goodOneB_2 x h2] at h
        simp only [Bool.and_eq_true, decide_eq_true_eq] at h
        exact ⟨h2, h.1, h.2.2⟩
      · rw [goodOneB_3 x h0 h1 h2] at h
        cases h
theorem Walked.args {m : Nat} {l : Trail} {t x : Tm Unit} (h : Walked m l t x) (ha : ¬ x.args = []) : Tm.img l t = .mk x.kind 0 x.name () (x.args.map (Tm.img l)) := by
  obtain ⟨h1, h2, _⟩ := one_args (h.ones x (by rw [flat_eq]; exact List.mem_cons_self ..)) ha
  rw [← h.img, img_args (by omega), h2]
/-- Whether a term is neither too great nor too deep, where so many were made, so deep. -/
def makeOk (s d : Nat) (u : Tm Unit) : Bool := decide (s + u.size ≤ 2000) && decide (d + u.depth ≤ 65)
theorem makeOk_iff {s d : Nat} {u : Tm Unit} : makeOk s d u = true ↔ s + u.size ≤ 2000 ∧ d + u.depth ≤ 65 := by
  unfold makeOk; simp only [Bool.and_eq_true, decide_eq_true_eq]
theorem depths_mem {α : Type} {l : List (Tm α)} {x : Tm α} (h : x ∈ l) : x.depth ≤ depths l := by
  induction l with
  | nil => cases h
  | cons z l ih =>
    simp only [depths]
    rcases List.mem_cons.1 h with rfl | h
    · omega
    · have := ih h; omega
theorem depths_le {α : Type} {l : List (Tm α)} {d : Nat} (h : ∀ x ∈ l, x.depth ≤ d) : depths l ≤ d := by
  induction l with
  | nil => exact Nat.zero_le _
  | cons z l ih =>
    simp only [depths]
    have := h z (List.mem_cons_self ..)
    have := ih (fun x hx => h x (List.mem_cons_of_mem _ hx))
    omega
theorem sizes_take {α : Type} {l : List (Tm α)} {i : Nat} {x : Tm α} (h : l[i]? = some x) : sizes (l.take (i + 1)) = sizes (l.take i) + x.size := by
  rw [List.take_add_one, h, sizes_append]
  simp only [Option.toList, sizes]
  omega
theorem sizes_take_le {α : Type} (l : List (Tm α)) (i : Nat) : sizes (l.take i) ≤ sizes l := by
  have := sizes_append (l.take i) (l.drop i)
  rw [List.take_append_drop] at this
  omega
/-- One of the args was too great or too deep. -/
theorem makeOk_no {s d i : Nat} {u x : Tm Unit} (h : u.args[i]? = some x) (hx : makeOk (s + 1 + sizes (u.args.take i)) (d + 1) x = false) : makeOk s d u = false := by
  rw [Bool.eq_false_iff, ne_eq, makeOk_iff] at hx ⊢
  intro c
  apply hx
  have h1 := sizes_take h
  have h2 := sizes_take_le u.args (i + 1)
  have h3 := depths_mem (List.mem_of_getElem? h)
  have h4 := size_eq u
  have h5 := depth_eq u
  omega
theorem makeOk_yes {s d : Nat} {u : Tm Unit} (h0 : s + 1 ≤ 2000) (h1 : d ≤ 64) (h2 : s + 1 + sizes u.args ≤ 2000) (h3 : ∀ x ∈ u.args, d + 1 + x.depth ≤ 65) : makeOk s d u = true := by
  rw [makeOk_iff]
  have h4 := size_eq u
  have h5 := depth_eq u
  have h6 := depths_le (d := 64 - d) (l := u.args) (fun x hx => by have := h3 x hx; omega)
  omega
/-- Given variables alone. -/
def ownB {α : Type} (m : Nat) (t : Tm α) : Bool := goodB t && t.vars.all fun v => decide (v < (m : Int))
theorem ownB_iff {m : Nat} {t : Tm Unit} : ownB m t = true ↔ goodB t = true ∧ ∀ v, numsIn t v → v < (m : Int) := by
  unfold ownB
  simp only [Bool.and_eq_true, List.all_eq_true, decide_eq_true_eq]
  constructor
  · rintro ⟨h1, h2⟩; exact ⟨h1, fun v hv => h2 v ((vars_mem v).2 hv)⟩
  · rintro ⟨h1, h2⟩; exact ⟨h1, fun v hv => h2 v ((vars_mem v).1 hv)⟩
theorem good_ones' {t : Tm Unit} (h : goodB t = true) : ∀ x ∈ t.flat, goodOneB x = true := by
  unfold goodB at h
  simp only [Bool.and_eq_true, List.all_eq_true] at h
  exact h.2.2
/-- What Whole makes. -/
def wholeB (l : Trail) (t : Tm Unit) : Bool := decide ((img l t).size ≤ 2000) && decide ((img l t).depth ≤ 64)
theorem makeOk_whole (l : Trail) (t : Tm Unit) : makeOk 0 1 (img l t) = wholeB l t := by
  unfold makeOk wholeB
  rw [Nat.zero_add]
  congr 1
  rw [decide_eq_decide]
  omega
theorem whole_good {m : Nat} {l : Trail} {t : Tm Unit} (hl : okT m l) (ht : ownB m t = true) (hw : wholeB l t = true) : ownB m (img l t) = true := by
  obtain ⟨h1, h2⟩ := ownB_iff.1 ht
  refine ownB_iff.2 ⟨?_, img_lt hl (good_leafy h1) h2⟩
  unfold wholeB at hw
  unfold goodB
  simp only [Bool.and_eq_true, decide_eq_true_eq, List.all_eq_true] at hw ⊢
  exact ⟨hw.1, hw.2, img_goodOne hl (good_ones' h1)⟩
theorem whole_whole {m : Nat} {l : Trail} {t : Tm Unit} (hl : okT m l) (ht : ownB m t = true) (hw : wholeB l t = true) : img l (img l t) = img l t ∧ wholeB l (img l t) = true := by
  have h := img_img hl (good_leafy (ownB_iff.1 ht).1)
  exact ⟨h, by unfold wholeB at hw ⊢; rw [h]; exact hw⟩
end Tm
end Go.Proofs.Ytoihjobdfjajfaa

/- Plain: how many may have been set; what is set is laid with where it lies. No program in sight. -/
namespace Go.Proofs.Ytoihjobdfjajfaa
set_option linter.unusedVariables false
set_option linter.unusedSimpArgs false
theorem nodup_length : ∀ (m : Nat) (l : List Int), l.Nodup → (∀ x ∈ l, 0 ≤ x ∧ x < (m : Int)) → l.length ≤ m := by
  intro m
  induction m with
  | zero =>
    intro l _ h
    cases l with
    | nil => exact Nat.le_refl _
    | cons x l => have := h x (List.mem_cons_self ..); omega
  | succ m ih =>
    intro l hn h
    by_cases hm : (m : Int) ∈ l
    · have h1 := ih (l.erase m) (hn.erase _) (fun x hx => by
        have hx' := (hn.mem_erase_iff).1 hx
        have := h x hx'.2
        have hne : x ≠ (m : Int) := hx'.1
        omega)
      have h2 := List.length_erase_of_mem hm
      omega
    · have := ih l hn (fun x hx => by
        have h1 := h x hx
        have : x ≠ (m : Int) := fun e => hm (e ▸ hx)
        omega)
      omega
namespace Tm
theorem okT_nodup {m : Nat} {l : Trail} (h : okT m l) : (dom l).Nodup := by
  induction l with
  | nil => simp [dom]
  | cons b l ih =>
    simp only [dom, List.map_cons, List.nodup_cons]
    exact ⟨h.2.2.2.1, ih h.1⟩
theorem okT_length {m : Nat} {l : Trail} (h : okT m l) : l.length ≤ m := by
  have := nodup_length m (dom l) (okT_nodup h) (fun x hx => by
    obtain ⟨b, hb, rfl⟩ := List.mem_map.1 hx
    have := okT_mem h hb
    exact ⟨this.1, this.2.1⟩)
  simpa [dom] using this
/-- What Set answers. -/
def setE (m : Nat) (l : Trail) (n : Int) (t : Tm Unit) : Int :=
  if 0 ≤ n ∧ n < (m : Int) ∧ ownB m t = true then
    (if n ∈ dom l then 8 else if n ∈ (img l t).vars then 5 else 0)
  else 1
theorem setE_ok {m : Nat} {l : Trail} {n : Int} {t : Tm Unit} (hl : okT m l) (h : setE m l n t = 0) : okT m ((n, t) :: l) := by
  unfold setE at h
  split at h
  · rename_i h1
    split at h
    · cases h
    · rename_i h2
      split at h
      · cases h
      · rename_i h3
        obtain ⟨g1, g2⟩ := ownB_iff.1 h1.2.2
        exact ⟨hl, h1.1, h1.2.1, h2, g1, g2, fun c => h3 ((vars_mem n).2 c)⟩
  · cases h
end Tm
end Go.Proofs.Ytoihjobdfjajfaa

/- TermKnown, plainly: what may not be, chains, bushes. No program in sight. -/
namespace Go.Proofs.Ytoihjobdfjajfaa
set_option linter.unusedVariables false
set_option linter.unusedSimpArgs false
open Go.RowKit
def zt : LT := leaf 0 0 ByteArray.empty
/-- The eleven that may not be. -/
def bads (a9 : Option Addr) (c9 : Nat) (a10 : Option Addr) (c10 : Nat) : List LT :=
  [leaf 3 0 ByteArray.empty, leaf (-1) 0 ByteArray.empty, leaf 0 (-1) ByteArray.empty, leaf 0 2147483648 ByteArray.empty, leaf 0 0 ⟨#[97]⟩, leaf 1 0 ⟨#[97]⟩, leaf 2 1 ⟨#[97]⟩, leaf 2 0 ⟨#[1]⟩, leaf 2 0 ⟨#[255]⟩,
    .mk 2 0 ⟨#[102]⟩ (a9, c9) [zt, zt, zt, zt, zt, zt, zt, zt, zt], .mk 1 0 ByteArray.empty (a10, c10) [zt]]
theorem bads_bad (a9 : Option Addr) (c9 : Nat) (a10 : Option Addr) (c10 : Nat) : ∀ x ∈ bads a9 c9 a10 c10, goodB x = false ∧ slim x := by
  have h : (bads a9 c9 a10 c10).all (fun x => !goodB x && x.flat.all (fun y => decide (y.args.length ≤ 12))) = true := by kernel_rfl
  intro x hx
  have := List.all_eq_true.1 h x hx
  simp only [Bool.and_eq_true, Bool.not_eq_true', List.all_eq_true] at this
  exact ⟨this.1, fun y hy => of_decide_eq_true (this.2 y hy)⟩

/-- So many round a number. -/
def ch : Nat → Tm Unit
  | 0 => .mk 1 0 ByteArray.empty () []
  | n + 1 => .mk 2 0 ⟨#[102]⟩ () [ch n]
/-- So many rows of eight. -/
def bush : Nat → Tm Unit
  | 0 => .mk 2 0 ⟨#[97]⟩ () []
  | n + 1 => .mk 2 0 ⟨#[103]⟩ () [bush n, bush n, bush n, bush n, bush n, bush n, bush n, bush n]
theorem ch_size (n : Nat) : (ch n).size = n + 1 := by
  induction n with
  | zero => rfl
  | succ n ih => simp only [ch, Tm.size, Tm.sizes, ih]; omega
theorem ch_depth (n : Nat) : (ch n).depth = n + 1 := by
  induction n with
  | zero => rfl
  | succ n ih => simp only [ch, Tm.depth, Tm.depths, ih]; omega
theorem ch_all (n : Nat) : (ch n).flat.all (fun x => goodOneB x && decide (x.args.length ≤ 12)) = true := by
  induction n with
  | zero => kernel_rfl
  | succ n ih =>
    simp only [ch, Tm.flat, Tm.flats, List.append_nil, List.all_cons, ih, Bool.and_true]
    rfl
theorem all_two {α : Type} {t : Tm α} (h : t.flat.all (fun x => goodOneB x && decide (x.args.length ≤ 12)) = true) : t.flat.all goodOneB = true ∧ slim t := by
  simp only [List.all_eq_true, Bool.and_eq_true, decide_eq_true_eq] at h ⊢
  exact ⟨fun x hx => (h x hx).1, fun x hx => (h x hx).2⟩
theorem ch_good (n : Nat) : goodB (ch n) = decide (n ≤ 63) := by
  unfold goodB
  rw [ch_size, ch_depth, (all_two (ch_all n)).1]
  by_cases h : n ≤ 63
  · rw [decide_eq_true h, decide_eq_true (by omega), decide_eq_true (by omega)]; rfl
  · rw [decide_eq_false h, decide_eq_false (show ¬ n + 1 ≤ 64 by omega)]; simp
theorem bush_size : (bush 4).size = 4681 := by
  have h : ∀ n, (bush (n + 1)).size = 1 + 8 * (bush n).size := fun n => by simp only [bush, Tm.size, Tm.sizes]; omega
  rw [h, h, h, h]; rfl
theorem bush_all (n : Nat) : (bush n).flat.all (fun x => goodOneB x && decide (x.args.length ≤ 12)) = true := by
  induction n with
  | zero => kernel_rfl
  | succ n ih =>
    simp only [bush, Tm.flat, Tm.flats, List.append_nil, List.all_cons, List.all_append, ih, Bool.and_true]
    rfl
theorem bush_good : goodB (bush 4) = false := by
  unfold goodB
  rw [bush_size]; rfl
section
variable {t : LT}
theorem ch_of {n : Nat} (h : t.bare = ch n) : goodB t = decide (n ≤ 63) ∧ slim t ∧ t.depth = n + 1 :=
  ⟨by rw [← goodB_bare, h, ch_good], slim_eq' (t := ch n) (by rw [Tm.bare_unit]; exact h.symm) (all_two (ch_all n)).2, by rw [← Tm.depth_bare, h, ch_depth]⟩
theorem bush_of (h : t.bare = bush 4) : goodB t = false ∧ slim t ∧ t.size = 4681 :=
  ⟨by rw [← goodB_bare, h, bush_good], slim_eq' (t := bush 4) (by rw [Tm.bare_unit]; exact h.symm) (all_two (bush_all 4)).2, by rw [← Tm.size_bare, h, bush_size]⟩
/-- The list of two. -/
theorem two_of (h : t.bare = Tm.listB ([leaf 1 1 ByteArray.empty, leaf 2 0 ⟨#[98]⟩].map Tm.bare) (leaf 0 0 ByteArray.empty).bare) : goodB t = true ∧ slim t ∧ t.size = 5 := by
  have h1 : goodB (Tm.listB ([leaf 1 1 ByteArray.empty, leaf 2 0 ⟨#[98]⟩].map Tm.bare) (leaf 0 0 ByteArray.empty).bare) = true := by kernel_rfl
  have h2 : (Tm.listB ([leaf 1 1 ByteArray.empty, leaf 2 0 ⟨#[98]⟩].map Tm.bare) (leaf 0 0 ByteArray.empty).bare).flat.all (fun x => goodOneB x && decide (x.args.length ≤ 12)) = true := by kernel_rfl
  exact ⟨by rw [← goodB_bare, h, h1], slim_eq' (by rw [Tm.bare_unit]; exact h.symm) (all_two h2).2, by rw [← Tm.size_bare, h]; rfl⟩
theorem two_items {us : List LT} {y : LT} (h : t.bare = Tm.listB ([leaf 1 1 ByteArray.empty, leaf 2 0 ⟨#[98]⟩].map Tm.bare) (leaf 0 0 ByteArray.empty).bare) (hi : (us, y) = Tm.items t) :
    us.length = 2 ∧ (∃ x, us[1]? = some x ∧ x.bare = (leaf 2 0 ⟨#[98]⟩).bare) ∧ y.bare = (leaf 0 0 ByteArray.empty).bare := by
  have h1 := Tm.items_bare _ t (Nat.le_refl _)
  rw [h, Tm.items_listB, ← hi] at h1
  have h0 : Tm.items (leaf 0 0 ByteArray.empty).bare = ([], (leaf 0 0 ByteArray.empty).bare) := Tm.items_end (by kernel_rfl)
  rw [h0] at h1
  injection h1 with e1 e2
  simp only [List.append_nil] at e1
  have hl : us.length = 2 := by have := congrArg List.length e1; simpa using this.symm
  refine ⟨hl, ?_, e2.symm⟩
  match us, hl with
  | [p, q], _ =>
    simp only [List.map_cons, List.map_nil, List.cons.injEq, and_true] at e1
    exact ⟨q, rfl, e1.2.symm⟩
end
theorem leafIn' {p : Nat → Prop} {w : World} {k n : Int} {s : ByteArray} (h1 : I64 k) (h2 : I64 n) (h3 : s.size ≤ maxLen) : (leaf k n s).In p w :=
  LT.In.mk h1 h2 h3 (Nat.le_refl _) (by unfold maxLen; omega) (fun _ => ⟨rfl, rfl⟩) (fun h => absurd h (by decide)) trivial
theorem leafSlim' (k n : Int) (s : ByteArray) : slim (leaf k n s) := by
  intro x hx
  simp only [leaf, Tm.flat, Tm.flats, List.mem_cons, List.not_mem_nil, or_false] at hx
  subst hx
  exact Nat.zero_le _
end Go.Proofs.Ytoihjobdfjajfaa

/- alias.From: a term's variables numbered from a first one on. -/
namespace Go.Proofs.Ytoihjobdfjajfaa
set_option linter.unusedVariables false
set_option linter.unusedSimpArgs false
open Go.RowKit Go.Maps

/-- What the first so many variables stand for. -/
def gmap (vs : List Int) (first : Int) (j : Nat) : Int → Option LT := fun n => if n ∈ vs.take j then some (leaf 0 (Tm.fromS vs first n) ByteArray.empty) else none
theorem gmap_zero (vs : List Int) (first : Int) : valsM (gmap vs first 0) = fun _ => none := by
  funext n; unfold valsM gmap; simp
theorem gmap_none {vs : List Int} {first : Int} {j : Nat} {n : Int} (hnd : vs.Nodup) (h : vs[j]? = some n) : gmap vs first j n = none := by
  unfold gmap
  rw [if_neg]
  intro hm
  obtain ⟨i, hi⟩ := List.getElem?_of_mem hm
  obtain ⟨hl, _⟩ := List.getElem?_eq_some_iff.1 hi
  rw [List.length_take] at hl
  rw [List.getElem?_take_of_lt (by omega)] at hi
  have h1 := Tm.posOf_at hnd hi
  have h2 := Tm.posOf_at hnd h
  omega
theorem gmap_succ {vs : List Int} {first : Int} {j : Nat} {n : Int} (hnd : vs.Nodup) (h : vs[j]? = some n) :
    upd (valsM (gmap vs first j)) n (.agg #[.int .i64 0, .int .i64 (first + (j : Int)), .string ByteArray.empty, .slice none 0 0]) = valsM (gmap vs first (j + 1)) := by
  funext m
  unfold upd valsM gmap
  have e : vs.take (j + 1) = vs.take j ++ [n] := by rw [List.take_add_one, h]; rfl
  by_cases hm : m = n
  · subst hm
    rw [if_pos rfl, if_pos (by rw [e]; simp)]
    unfold Tm.fromS
    rw [Tm.posOf_at hnd h]
    rfl
  · rw [if_neg hm]
    have : m ∈ vs.take (j + 1) ↔ m ∈ vs.take j := by rw [e]; simp [hm]
    by_cases hq : m ∈ vs.take j
    · rw [if_pos hq, if_pos (this.2 hq)]
    · rw [if_neg hq, if_neg (fun c => hq (this.1 c))]
theorem gmap_sub {t : LT} {first : Int} (hg : goodB t = true) : Tm.subF (baresM (gmap t.vars first t.vars.length)) t.bare = Tm.fromT t.bare first := by
  unfold Tm.fromT Tm.ren
  rw [Tm.vars_bare]
  refine Tm.subF_subT t.bare (fun x hx hk => ?_)
  unfold baresM gmap
  rw [List.take_length, if_pos]
  · rfl
  · rw [← Tm.vars_bare]
    exact (Tm.vars_mem x.n).2 ⟨x, hx, hk, rfl⟩
theorem good_nums {t : LT} (hg : goodB t = true) : ∀ n ∈ t.vars, 0 ≤ n ∧ n ≤ 2147483647 := by
  intro n hn
  rw [← Tm.vars_bare] at hn
  obtain ⟨x, hx, hk, rfl⟩ := (Tm.vars_mem n).1 hn
  rw [← goodB_bare] at hg
  unfold goodB at hg
  simp only [Bool.and_eq_true, decide_eq_true_eq, List.all_eq_true] at hg
  have := hg.2.2 x hx
  rw [goodOneB_0 x hk] at this
  simp only [Bool.and_eq_true, decide_eq_true_eq] at this
  exact ⟨this.1, this.2.1⟩
theorem results_cell_tmp2 {P : Program} {fn : Func} {s q p : Tmp} {ty : TypeId} (h : fn.results = #[.cell p ty, .tmp s, .tmp q]) (tmps : Array Value) (w : World) (g : Nat) (t : TypeId) (cs : Array Value) (fr : Nat × Nat) (d : TypeDesc)
    (hp : tmps.getD p undef = .pointer (some ⟨g, 0, none⟩)) (hg : w.heap[g]? = some (.cells cs t fr))
    (hu : P.underlying ty = some d) (hd : (match d with | .struct _ | .array _ _ => true | _ => false) = true) (hi : (P.info? ty).map (·.size) = some cs.size) :
    (results fn tmps).run P w = .ok (.tuple #[.agg cs, tmps.getD s undef, tmps.getD q undef]) w := by
  have hp' : tmps[p]?.getD undef = .pointer (some ⟨g, 0, none⟩) := by simpa using hp
  simp [results, h, hp', asAddr, run_loadVar_row w g t ty cs fr d hg hu hd hi]
theorem results_cell_tmp1 {P : Program} {fn : Func} {s p : Tmp} {ty : TypeId} (h : fn.results = #[.cell p ty, .tmp s]) (tmps : Array Value) (w : World) (g : Nat) (t : TypeId) (cs : Array Value) (fr : Nat × Nat) (d : TypeDesc)
    (hp : tmps.getD p undef = .pointer (some ⟨g, 0, none⟩)) (hg : w.heap[g]? = some (.cells cs t fr))
    (hu : P.underlying ty = some d) (hd : (match d with | .struct _ | .array _ _ => true | _ => false) = true) (hi : (P.info? ty).map (·.size) = some cs.size) :
    (results fn tmps).run P w = .ok (.tuple #[.agg cs, tmps.getD s undef]) w := by
  have hp' : tmps[p]?.getD undef = .pointer (some ⟨g, 0, none⟩) := by simpa using hp
  simp [results, h, hp', asAddr, run_loadVar_row w g t ty cs fr d hg hu hd hi]
/-- What From answers. -/
def FromR (t : Tm Unit) (first : Int) (u : Tm Unit) (m er : Int) : Prop :=
  if goodB t = true ∧ 0 ≤ first ∧ first ≤ 2147483647 then
    (if first + (t.vars.length : Int) ≤ 2147483648 then er = 0 ∧ m = first + (t.vars.length : Int) ∧ u = Tm.fromT t first else er = 3 ∧ m = 0 ∧ u = Tm.V 0)
  else er = 1 ∧ m = 0 ∧ u = Tm.V 0
/-- What lies in memory at the head of the loop. -/
structure FromI (w : World) (mb : Nat) (t : LT) (vs : List Int) (first : Int) (v : Value) (j : Nat) (W : World) : Prop where
  b0 : W.heap[w.heap.size]? = some (.cells #[.int .i64 t.kind, .int .i64 t.n, .string t.name, .slice t.at_.1 t.args.length t.at_.2] 27 (0, 0))
  b1 : W.heap[w.heap.size + 1]? = some (.cells #[.int .i64 0, .int .i64 0, .string ⟨#[]⟩, .slice none 0 0] 27 (0, 0))
  map : IMap Try.prog 2 W mb j (valsM (gmap vs first j))
  row : Row W 2 1 v vs.length (vs.map (Value.int .i64))
  turned : Turned (fun _ => False) w W
  ne : v.ownBlock ≠ some mb
  lt : w.heap.size + 1 < mb
theorem FromI.turned0 {w w1 w2 : World} {mb : Nat} {t : LT} {vs : List Int} {first : Int} {v : Value} {j : Nat} (h : FromI w mb t vs first v j w1) (ht : Turned (fun _ => False) w1 w2) : FromI w mb t vs first v j w2 :=
  ⟨(ht.block _ (Array.getElem?_eq_some_iff.1 h.b0).1 (fun f => f)).trans h.b0, (ht.block _ (Array.getElem?_eq_some_iff.1 h.b1).1 (fun f => f)).trans h.b1, h.map.turned ht (fun f => f), h.row.turned0 ht, h.turned.trans ht, h.ne, h.lt⟩
theorem FromI.put {w w1 w2 : World} {mb : Nat} {t : LT} {vs : List Int} {first : Int} {v : Value} {j : Nat} {n : Int} (h : FromI w mb t vs first v j w1) (hnd : vs.Nodup) (hn : vs[j]? = some n) (ht : Turned (· = mb) w1 w2)
    (hm : IMap Try.prog 2 w2 mb (if (valsM (gmap vs first j) n).isSome then j else j + 1) (upd (valsM (gmap vs first j)) n (.agg #[.int .i64 0, .int .i64 (first + (j : Int)), .string ByteArray.empty, .slice none 0 0]))) : FromI w mb t vs first v (j + 1) w2 := by
  have h0 : valsM (gmap vs first j) n = none := by unfold valsM; rw [gmap_none hnd hn]; rfl
  rw [h0, gmap_succ hnd hn] at hm
  have hlt := h.lt
  exact ⟨(ht.block _ (Array.getElem?_eq_some_iff.1 h.b0).1 (by omega)).trans h.b0, (ht.block _ (Array.getElem?_eq_some_iff.1 h.b1).1 (by omega)).trans h.b1, hm, h.row.turned ht (fun k hk e => h.ne (by rw [hk, e])),
    h.turned.step ht (fun i hi e => by omega), h.ne, h.lt⟩
theorem varE (n : Int) (hn : I64 n) (w : World) : Calls Try.prog 62 #[.int .i64 n] w fun e w' => e = .returned (.agg #[.int .i64 0, .int .i64 n, .string ByteArray.empty, .slice none 0 0]) ∧ Turned (fun _ => False) w w' :=
  (varV n hn w).mono fun e w' ⟨h1, _, h3⟩ => ⟨h1, h3⟩
theorem vtIn {p : Nat → Prop} {W : World} : (leaf 0 0 ByteArray.empty).In p W := leafIn' (i64_lit _ (by omega)) (i64_lit _ (by omega)) (by unfold maxLen; decide)
set_option maxRecDepth 100000 in
set_option maxHeartbeats 3200000 in
theorem from71 {p : Nat → Prop} {t : LT} {w : World} {first : Int} (ht : t.In p w) (hs : slim t) (hf : I64 first) :
    Calls Try.prog 71 #[t.val, .int .i64 first] w fun e w' => ∃ (u : LT) (m er : Int), e = .returned (.tuple #[u.val, .int .i64 m, .int .i64 er]) ∧ FromR t.bare first u.bare m er ∧ u.In (fun k => p k ∨ w.heap.size ≤ k) w' ∧ Turned (fun _ => False) w w' := by
  have hmm := @run_makeMap Try.prog
  have h2 := twoBox w (.cells #[.int .i64 t.kind, .int .i64 t.n, .string t.name, .slice t.at_.1 t.args.length t.at_.2] 27) (.cells #[.int .i64 0, .int .i64 0, .string ⟨#[]⟩, .slice none 0 0] 27)
  have hgo := good38 (ht.turned0 h2.1) hs
  obtain ⟨hf1, hf2⟩ := hf
  have H2 := Lib.hid h2
  obtain ⟨p', hp'⟩ : ∃ q : Nat → Prop, q = fun k => p k ∧ k < w.heap.size := ⟨_, rfl⟩
  have HPL : Hid (∀ k, p' k → p k ∧ k < w.heap.size) := by intro k hq; rw [hp'] at hq; exact hq
  have ht' : t.In p' w := ht.mono (fun k hk h => by rw [hp']; exact ⟨h, hk⟩)
  have HIN := Lib.hid ht'
  have HS := Lib.hid hs
  clear hp' ht'
  rw [LT.val_eq] at hgo ⊢
  clear ht hs h2
  have hboxes : ∀ W, Turned (fun _ => False) ((w.alloc (.cells #[.int .i64 t.kind, .int .i64 t.n, .string t.name, .slice t.at_.1 t.args.length t.at_.2] 27)).alloc (.cells #[.int .i64 0, .int .i64 0, .string ⟨#[]⟩, .slice none 0 0] 27)) W →
      W.heap[w.heap.size]? = some (.cells #[.int .i64 t.kind, .int .i64 t.n, .string t.name, .slice t.at_.1 t.args.length t.at_.2] 27 (0, 0)) ∧ W.heap[w.heap.size + 1]? = some (.cells #[.int .i64 0, .int .i64 0, .string ⟨#[]⟩, .slice none 0 0] 27 (0, 0)) := fun W h =>
    ⟨(h.block _ (Array.getElem?_eq_some_iff.1 H2.out.2.2.1).1 (fun f => f)).trans H2.out.2.2.1, (h.block _ (Array.getElem?_eq_some_iff.1 H2.out.2.2.2).1 (fun f => f)).trans H2.out.2.2.2⟩
  have HBX := Lib.hid hboxes
  clear hboxes
  by_cases hall : goodB t = true ∧ 0 ≤ first ∧ first ≤ 2147483647
  · obtain ⟨hg, h0, h1⟩ := hall
    have hvars := fun W (h : Turned (fun _ => False) w W) => vars34 (HIN.out.turned0 h) HS.out
    rw [LT.val_eq] at hvars
    have ev : varsB t = t.vars := by unfold varsB; rw [if_pos hg]
    have hle : t.vars.length ≤ 2000 := by have := varsB_le t; rw [ev] at this; exact this
    rw [ev] at hvars
    obtain ⟨vs, hvs⟩ : ∃ z, z = t.vars := ⟨_, rfl⟩
    rw [← hvs] at hvars hle
    have HV := Lib.hid hvars
    have HVS := Lib.hid hvs
    have HG := Lib.hid hg
    have hnums := good_nums hg
    rw [← hvs] at hnums
    have HN := Lib.hid hnums
    have hnd : Hid (vs.Nodup) := by show vs.Nodup; rw [hvs]; exact Tm.vars_nodup t
    rw [hg] at hgo
    have HGO := Lib.hid hgo
    clear hgo hvars hvs hg hnums ev
    go_enter Try.func71, Try.ntmps71
    go_wp2_with (first
      | (go_at_call 38; (with_reducible refine HGO.out.mono ?_); rintro e w3 ⟨rfl, T3⟩; have T3m := T3.alloc (.map #[] 0); obtain ⟨b0, b1⟩ := HBX.out _ T3m; obtain ⟨c0, c1, c2, c3, _⟩ := cells4 b0; clear b0 b1)
      | (go_at_call 34; (with_reducible refine (HV.out _ (H2.out.1.trans T3m)).mono ?_); rintro e w4 ⟨v, rfl, hrow, hown, T4⟩; obtain ⟨va, vc, rfl⟩ := hrow.shape))
    have hl3 : w.heap.size + 2 ≤ w3.heap.size := by have := T3.size; have := H2.out.2.1; omega
    have HI : Hid (FromI w w3.heap.size t vs first (.slice va vs.length vc) 0 w4) := by
      obtain ⟨b0, b1⟩ := HBX.out _ (T3m.trans T4)
      refine ⟨b0, b1, ?_, hrow, H2.out.1.trans (T3m.trans T4), fun e => ?_, by omega⟩
      · rw [gmap_zero]
        exact (IMap.made w3 Try.prog 2).turned T4 (fun f => f)
      · have := hown _ e
        simp at this
        omega
    have hr1 := hrow.max.1
    have hr2 := hrow.max.2
    clear hrow hown T4 T3m T3 hl3 c0 c1 c2 c3 HV HGO HBX hmm
    revert HI
    generalize w3.heap.size = mb
    intro HI
    go_loopg [1, 26] vs.length (fun q f i wr => ∃ j : Nat, Hid (j + q = vs.length) ∧ j ≤ vs.length ∧ f = .int .i64 (first + (j : Int)) ∧ i = .int .i64 j ∧ first + (j : Int) ≤ 2147483648 ∧ Hid (FromI w mb t vs first (.slice va vs.length vc) j wr))
    case atStart => exact ⟨0, Nat.zero_add _, Nat.zero_le _, by simp, rfl, by simp; omega, HI⟩
    case round =>
      obtain ⟨j, HG2, hj, rfl, rfl, hfj, HJ⟩ := hrel
      by_cases hjl : j < vs.length
      · obtain ⟨n, hn⟩ : ∃ n, vs[j]? = some n := ⟨_, List.getElem?_eq_getElem hjl⟩
        have hrow := HJ.out.row
        obtain ⟨gv, cap, he⟩ := hrow.shape_pos (by omega)
        injection he with e1 _ e3
        subst e1 e3
        have hcv := hrow.cells rfl j (.int .i64 n) (by rw [List.getElem?_map, hn]; rfl)
        have hkey := key2 (n := n) (by have := HN.out n (List.mem_of_getElem? hn); unfold I64; omega)
        have HNN := Lib.hid hn
        clear hrow hn
        by_cases hov : first + (j : Int) ≤ 2147483647
        · go_wp2_with (first
            | (go_at_call 62; (with_reducible refine (varE (first + (j : Int)) (by unfold I64; omega) _).mono ?_); rintro e w5 ⟨rfl, T5⟩)
            | (at_mapUpdate; refine wpList_put rfl _ _ _ 151 rfl law2 Try.underlying151 rfl (HJ.out.turned0 T5).map (by unfold maxLen; omega) rfl rfl hkey trivial ?_; intro w6 hm6 T6))
          have HK : Hid (FromI w mb t vs first (.slice (some ⟨gv, 0, none⟩) vs.length vc) (j + 1) w6) := (HJ.out.turned0 T5).put hnd.out HNN.out T6 hm6
          clear hm6 T6 T5 HJ
          go_roundg (gk - 1)
          case measure => have := HG2.out; omega
          case rel => exact ⟨j + 1, show _ = _ by have := HG2.out; omega, by omega, by go_num, by go_num, by omega, HK⟩
        · obtain ⟨_, _, _, _, f0, f1, f2, f3⟩ := cells4 HJ.out.b1
          go_wp2_with fail
          have hset := set4 (a' := .int .i64 0) (b' := .int .i64 0) (c' := .string ⟨#[]⟩) (d' := .slice none 0 0) HJ.out.b1
          have T4 := turned4 (a := .int .i64 0) (b := .int .i64 0) (c := .string ⟨#[]⟩) (d := .slice none 0 0) HJ.out.turned (g := w.heap.size + 1) (by omega)
          refine bodyPost_ret (results_cell_tmp2 Try.results71 _ _ (w.heap.size + 1) 27 _ (0, 0) _ rfl hset Try.underlying27 rfl (by kernel_rfl)) rfl ⟨leaf 0 0 ByteArray.empty, 0, 3, rfl, ?_, vtIn, T4⟩
          unfold FromR
          rw [if_pos ⟨by rw [goodB_bare]; exact HG.out, h0, h1⟩, Tm.vars_bare, ← HVS.out, if_neg (by omega)]
          exact ⟨rfl, rfl, rfl⟩
      · obtain rfl : j = vs.length := by omega
        obtain ⟨c0, c1, c2, c3, _⟩ := cells4 HJ.out.b0
        have hrep := fun W (h : Turned (fun _ => False) wr W) => replace136 (mb := mb) (mn := vs.length) (g := gmap vs first vs.length) t.depth p' t W (Nat.le_refl _) (HIN.out.turned0 (HJ.out.turned.trans h)) HS.out (HJ.out.map.turned h (fun f => f)) (fun i x hx => by
          unfold gmap at hx
          split at hx
          · injection hx with hx
            subst hx
            rename_i hm
            rw [List.take_length] at hm
            have := List.idxOf_lt_length_of_mem hm
            exact leafIn' (i64_lit _ (by omega)) (by unfold Tm.fromS Tm.posOf I64; omega) (by unfold maxLen; decide)
          · cases hx)
        rw [LT.val_eq] at hrep
        have HREP := Lib.hid hrep
        clear hrep
        go_wp2_with (go_at_call 136; (with_reducible refine (HREP.out _ (Turned.refl _ _)).mono ?_); rintro e w7 ⟨u, rfl, hub, hui, T7⟩; rw [LT.val_eq u]; obtain ⟨_, _, _, _, f0, f1, f2, f3⟩ := cells4 (HJ.out.turned0 T7).b1)
        have HZ := (HJ.out.turned0 T7)
        have hset := set4 (a' := .int .i64 u.kind) (b' := .int .i64 u.n) (c' := .string u.name) (d' := .slice u.at_.1 u.args.length u.at_.2) HZ.b1
        have T4 := turned4 (a := .int .i64 u.kind) (b := .int .i64 u.n) (c := .string u.name) (d := .slice u.at_.1 u.args.length u.at_.2) HZ.turned (g := w.heap.size + 1) (by omega)
        refine bodyPost_ret (results_cell_tmp2 Try.results71 _ _ (w.heap.size + 1) 27 _ (0, 0) _ rfl hset Try.underlying27 rfl (by kernel_rfl)) rfl ⟨u, first + (vs.length : Int), 0, by rw [LT.val_eq u]; rfl, ?_, ?_, T4⟩
        · unfold FromR
          rw [if_pos ⟨by rw [goodB_bare]; exact HG.out, h0, h1⟩, Tm.vars_bare, ← HVS.out, if_pos hfj]
          refine ⟨rfl, rfl, ?_⟩
          rw [hub, HVS.out]
          exact gmap_sub HG.out
        · have Tq : Turned (fun k => k = w.heap.size + 1) w7 _ := ((((Turned.refl (fun k => k = w.heap.size + 1) w7).setCell (p := ⟨w.heap.size + 1, 0, none⟩) (.inr rfl) (.int .i64 u.kind)).setCell (p := ⟨w.heap.size + 1, 1, none⟩) (.inr rfl) (.int .i64 u.n)).setCell (p := ⟨w.heap.size + 1, 2, none⟩) (.inr rfl) (.string u.name)).setCell (p := ⟨w.heap.size + 1, 3, none⟩) (.inr rfl) (.slice u.at_.1 u.args.length u.at_.2)
          have hpl := HPL.out
          have hb1 := (Array.getElem?_eq_some_iff.1 HJ.out.b1).1
          refine LT.In.turned Tq (fun k _ hk e => ?_) (fun k _ hk => ?_) u hui
          · rcases hk with h | h
            · have := (hpl k h).2; omega
            · omega
          · rcases hk with h | h
            · exact .inl (hpl k h).1
            · exact .inr (by omega)
  · have hbad : ∀ (u : Tm Unit) (m er : Int), FromR t.bare first u m er = (er = 1 ∧ m = 0 ∧ u = Tm.V 0) := fun u m er => by
      unfold FromR
      rw [if_neg (by rw [goodB_bare]; exact hall)]
    have fin : ∀ W, Turned (fun _ => False) ((w.alloc (.cells #[.int .i64 t.kind, .int .i64 t.n, .string t.name, .slice t.at_.1 t.args.length t.at_.2] 27)).alloc (.cells #[.int .i64 0, .int .i64 0, .string ⟨#[]⟩, .slice none 0 0] 27)) W →
      W.heap[w.heap.size + 1]? = some (.cells #[.int .i64 0, .int .i64 0, .string ⟨#[]⟩, .slice none 0 0] 27 (0, 0)) ∧
      ((((W.setCell ⟨w.heap.size + 1, 0, none⟩ (.int .i64 0)).setCell ⟨w.heap.size + 1, 1, none⟩ (.int .i64 0)).setCell ⟨w.heap.size + 1, 2, none⟩ (.string ⟨#[]⟩)).setCell ⟨w.heap.size + 1, 3, none⟩ (.slice none 0 0)).heap[w.heap.size + 1]? = some (.cells #[.int .i64 0, .int .i64 0, .string ⟨#[]⟩, .slice none 0 0] 27 (0, 0)) ∧
      Turned (fun _ => False) w ((((W.setCell ⟨w.heap.size + 1, 0, none⟩ (.int .i64 0)).setCell ⟨w.heap.size + 1, 1, none⟩ (.int .i64 0)).setCell ⟨w.heap.size + 1, 2, none⟩ (.string ⟨#[]⟩)).setCell ⟨w.heap.size + 1, 3, none⟩ (.slice none 0 0)) := fun W h => by
      obtain ⟨_, b1⟩ := HBX.out W h
      exact ⟨b1, set4 b1, turned4 (H2.out.1.trans h) (by omega)⟩
    have FIN := Lib.hid fin
    have HBAD := Lib.hid hbad
    clear hbad fin hmm
    cases hg : goodB t with
    | false =>
      rw [hg] at hgo
      have HGO := Lib.hid hgo
      clear hgo hg hall
      go_enter Try.func71, Try.ntmps71
      go_wp2_with (go_at_call 38; (with_reducible refine HGO.out.mono ?_); rintro e w3 ⟨rfl, T3⟩; obtain ⟨b1, hset, T4⟩ := FIN.out _ T3; obtain ⟨d0, d1, d2, d3, f0, f1, f2, f3⟩ := cells4 b1; have HSET := Lib.hid hset; clear hset b1)
      refine bodyPost_ret (results_cell_tmp2 Try.results71 _ _ (w.heap.size + 1) 27 _ (0, 0) _ rfl HSET.out Try.underlying27 rfl (by kernel_rfl)) rfl ⟨leaf 0 0 ByteArray.empty, 0, 1, rfl, ?_, vtIn, T4⟩
      rw [HBAD.out]
      exact ⟨rfl, rfl, rfl⟩
    | true =>
      rw [hg] at hgo
      have HGO := Lib.hid hgo
      have hout : first < 0 ∨ 2147483647 < first := by
        rcases Int.lt_or_le first 0 with h | h
        · exact .inl h
        · rcases Int.lt_or_le 2147483647 first with h' | h'
          · exact .inr h'
          · exact absurd ⟨hg, h, h'⟩ hall
      clear hgo hg hall
      rcases hout with hout | hout
      · have d1 : decide (first < 0) = true := decide_eq_true hout
        go_enter Try.func71, Try.ntmps71
        go_wp2_with (go_at_call 38; (with_reducible refine HGO.out.mono ?_); rintro e w3 ⟨rfl, T3⟩; obtain ⟨b1, hset, T4⟩ := FIN.out _ T3; obtain ⟨d0, d1, d2, d3, f0, f1, f2, f3⟩ := cells4 b1; have HSET := Lib.hid hset; clear hset b1)
        refine bodyPost_ret (results_cell_tmp2 Try.results71 _ _ (w.heap.size + 1) 27 _ (0, 0) _ rfl HSET.out Try.underlying27 rfl (by kernel_rfl)) rfl ⟨leaf 0 0 ByteArray.empty, 0, 1, rfl, ?_, vtIn, T4⟩
        rw [HBAD.out]
        exact ⟨rfl, rfl, rfl⟩
      · have d1 : decide (first < 0) = false := decide_eq_false (by omega)
        have d2 : decide (2147483647 < first) = true := decide_eq_true hout
        go_enter Try.func71, Try.ntmps71
        go_wp2_with (go_at_call 38; (with_reducible refine HGO.out.mono ?_); rintro e w3 ⟨rfl, T3⟩; obtain ⟨b1, hset, T4⟩ := FIN.out _ T3; obtain ⟨d0, d1, d2, d3, f0, f1, f2, f3⟩ := cells4 b1; have HSET := Lib.hid hset; clear hset b1)
        refine bodyPost_ret (results_cell_tmp2 Try.results71 _ _ (w.heap.size + 1) 27 _ (0, 0) _ rfl HSET.out Try.underlying27 rfl (by kernel_rfl)) rfl ⟨leaf 0 0 ByteArray.empty, 0, 1, rfl, ?_, vtIn, T4⟩
        rw [HBAD.out]
        exact ⟨rfl, rfl, rfl⟩
end Go.Proofs.Ytoihjobdfjajfaa

/- alias.Plain, Alike, Ground. -/
namespace Go.Proofs.Ytoihjobdfjajfaa
set_option linter.unusedVariables false
set_option linter.unusedSimpArgs false
open Go.RowKit Go.Maps

theorem good_slim {α : Type} {t : Tm α} (h : goodB t = true) : slim t := by
  unfold goodB at h
  simp only [Bool.and_eq_true, decide_eq_true_eq, List.all_eq_true] at h
  intro x hx
  have := h.2.2 x hx
  unfold goodOneB at this
  split at this
  · simp only [Bool.and_eq_true, decide_eq_true_eq] at this; omega
  · split at this
    · simp only [Bool.and_eq_true, decide_eq_true_eq] at this; omega
    · split at this
      · simp only [Bool.and_eq_true, decide_eq_true_eq] at this; omega
      · cases this
theorem fromR_good {t u : Tm Unit} {m er : Int} (hg : goodB t = true) (h : FromR t 0 u m er) : er = 0 ∧ m = (t.vars.length : Int) ∧ u = Tm.plainT t := by
  have hle := varsB_le t
  unfold varsB at hle
  rw [if_pos hg] at hle
  unfold FromR at h
  rw [if_pos ⟨hg, by omega, by omega⟩, if_pos (by omega)] at h
  exact ⟨h.1, by rw [h.2.1]; omega, h.2.2⟩
theorem fromR_bad {t u : Tm Unit} {first m er : Int} (hg : goodB t = false) (h : FromR t first u m er) : er = 1 ∧ m = 0 ∧ u = Tm.V 0 := by
  unfold FromR at h
  rw [if_neg (by rw [hg]; simp)] at h
  exact h
theorem plain_good {t : Tm Unit} (hg : goodB t = true) : goodB (Tm.plainT t) = true := by
  have hle := varsB_le t
  unfold varsB at hle
  rw [if_pos hg] at hle
  exact goodB_fromT hg (by omega) (by omega)
/-- What Plain answers. -/
def PlainR (t u : Tm Unit) (er : Int) : Prop := if goodB t = true then er = 0 ∧ u = Tm.plainT t else er = 1 ∧ u = Tm.V 0
theorem plainR_of {t u : Tm Unit} {m er : Int} (h : FromR t 0 u m er) : PlainR t u er := by
  unfold PlainR
  cases hg : goodB t with
  | true => rw [if_pos rfl]; exact ⟨(fromR_good hg h).1, (fromR_good hg h).2.2⟩
  | false => rw [if_neg (by simp)]; exact ⟨(fromR_bad hg h).1, (fromR_bad hg h).2.2⟩
set_option maxHeartbeats 1600000 in
theorem plain81 {p : Nat → Prop} {t : LT} {w : World} (ht : t.In p w) (hs : slim t) :
    Calls Try.prog 81 #[t.val] w fun e w' => ∃ (u : LT) (er : Int), e = .returned (.tuple #[u.val, .int .i64 er]) ∧ PlainR t.bare u.bare er ∧ u.In (fun _ => True) w' ∧ Turned (fun _ => False) w w' := by
  have h2 := twoBox w (.cells #[.int .i64 t.kind, .int .i64 t.n, .string t.name, .slice t.at_.1 t.args.length t.at_.2] 27) (.cells #[.int .i64 0, .int .i64 0, .string ⟨#[]⟩, .slice none 0 0] 27)
  obtain ⟨p', hp'⟩ : ∃ q : Nat → Prop, q = fun k => k < w.heap.size := ⟨_, rfl⟩
  have ht' : t.In p' w := ht.mono (fun k hk h => by rw [hp']; exact hk)
  have hfr := from71 (first := 0) (ht'.turned0 h2.1) hs (i64_lit 0 (by omega))
  have HPL : Hid (∀ k, p' k → k < w.heap.size) := by intro k hq; rw [hp'] at hq; exact hq
  rw [LT.val_eq] at hfr ⊢
  have HF := Lib.hid hfr
  have H2 := Lib.hid h2
  clear hfr h2 ht ht' hs hp'
  go_enter Try.func81, Try.ntmps81
  go_wp2_with (go_at_call 71; (with_reducible refine HF.out.mono ?_); rintro e w3 ⟨u, m, er, rfl, hR, hin, T3⟩; rw [LT.val_eq u]; have T3u := T3.alloc (.cells #[.int .i64 u.kind, .int .i64 u.n, .string u.name, .slice u.at_.1 u.args.length u.at_.2] 27); have hb1 := (T3u.block _ (Array.getElem?_eq_some_iff.1 H2.out.2.2.2).1 (fun f => f)).trans H2.out.2.2.2; obtain ⟨d0, d1, d2, d3, f0, f1, f2, f3⟩ := cells4 hb1; have HB1 := Lib.hid hb1; clear hb1)
  have hset := set4 (a' := .int .i64 u.kind) (b' := .int .i64 u.n) (c' := .string u.name) (d' := .slice u.at_.1 u.args.length u.at_.2) HB1.out
  have T4 := turned4 (a := .int .i64 u.kind) (b := .int .i64 u.n) (c := .string u.name) (d := .slice u.at_.1 u.args.length u.at_.2) (H2.out.1.trans T3u) (g := w.heap.size + 1) (by omega)
  refine bodyPost_ret (results_cell_tmp1 Try.results81 _ _ (w.heap.size + 1) 27 _ (0, 0) _ rfl hset Try.underlying27 rfl (by kernel_rfl)) rfl ⟨u, er, by rw [LT.val_eq u]; rfl, plainR_of hR, ?_, T4⟩
  have Tq : Turned (fun k => k = w.heap.size + 1) (w3.alloc (.cells #[.int .i64 u.kind, .int .i64 u.n, .string u.name, .slice u.at_.1 u.args.length u.at_.2] 27)) _ := ((((Turned.refl (fun k => k = w.heap.size + 1) _).setCell (p := ⟨w.heap.size + 1, 0, none⟩) (.inr rfl) (.int .i64 u.kind)).setCell (p := ⟨w.heap.size + 1, 1, none⟩) (.inr rfl) (.int .i64 u.n)).setCell (p := ⟨w.heap.size + 1, 2, none⟩) (.inr rfl) (.string u.name)).setCell (p := ⟨w.heap.size + 1, 3, none⟩) (.inr rfl) (.slice u.at_.1 u.args.length u.at_.2)
  have hpl := HPL.out
  have hsz := H2.out.2.1
  refine LT.In.turned Tq (fun k _ hk e => ?_) (fun k _ hk => trivial) u (hin.turned0 ((Turned.refl _ w3).alloc _))
  rcases hk with h | h
  · have := hpl k h; omega
  · omega
theorem plainGood {p : Nat → Prop} {t : LT} {w : World} (ht : t.In p w) (hg : goodB t = true) :
    Calls Try.prog 81 #[.agg #[.int .i64 t.kind, .int .i64 t.n, .string t.name, .slice t.at_.1 t.args.length t.at_.2]] w fun e w' => ∃ (u : LT), e = .returned (.tuple #[.agg #[.int .i64 u.kind, .int .i64 u.n, .string u.name, .slice u.at_.1 u.args.length u.at_.2], .int .i64 0]) ∧ u.bare = Tm.plainT t.bare ∧ u.In (fun _ => True) w' ∧ Turned (fun _ => False) w w' := by
  have h := plain81 ht (good_slim hg)
  rw [LT.val_eq] at h
  refine h.mono ?_
  rintro e w' ⟨u, er, rfl, hR, hi, hT⟩
  unfold PlainR at hR
  rw [if_pos (by rw [goodB_bare]; exact hg)] at hR
  obtain ⟨rfl, hR⟩ := hR
  exact ⟨u, by rw [LT.val_eq u], hR, hi, hT⟩
theorem plainBad {p : Nat → Prop} {t : LT} {w : World} (ht : t.In p w) (hs : slim t) (hg : goodB t = false) :
    Calls Try.prog 81 #[.agg #[.int .i64 t.kind, .int .i64 t.n, .string t.name, .slice t.at_.1 t.args.length t.at_.2]] w fun e w' => ∃ (u : LT), e = .returned (.tuple #[.agg #[.int .i64 u.kind, .int .i64 u.n, .string u.name, .slice u.at_.1 u.args.length u.at_.2], .int .i64 1]) ∧ u.bare = Tm.V 0 ∧ u.In (fun _ => True) w' ∧ Turned (fun _ => False) w w' := by
  have h := plain81 ht hs
  rw [LT.val_eq] at h
  refine h.mono ?_
  rintro e w' ⟨u, er, rfl, hR, hi, hT⟩
  unfold PlainR at hR
  rw [if_neg (by rw [goodB_bare, hg]; simp)] at hR
  obtain ⟨rfl, hR⟩ := hR
  exact ⟨u, by rw [LT.val_eq u], hR, hi, hT⟩
theorem same_bares {α β : Type} (a : Tm α) (b : Tm β) : Tm.same a b = Tm.same a.bare b.bare := by
  rw [Bool.eq_iff_iff, Tm.same_iff, Tm.same_iff, Tm.bare_unit, Tm.bare_unit]
/-- Alike but for the variables' numbers. -/
def alikeB {α β : Type} (a : Tm α) (b : Tm β) : Bool := goodB a && (goodB b && Tm.same (Tm.plainT a.bare) (Tm.plainT b.bare))
set_option maxRecDepth 100000 in
set_option maxHeartbeats 3200000 in
theorem alike72 {p : Nat → Prop} {a b : LT} {w : World} (ha : a.In p w) (hb : b.In p w) (sa : slim a) (sb : slim b) :
    Calls Try.prog 72 #[a.val, b.val] w fun e w' => e = .returned (.bool (alikeB a b)) ∧ Turned (fun _ => False) w w' := by
  have h2 := twoBox w (.cells #[.int .i64 a.kind, .int .i64 a.n, .string a.name, .slice a.at_.1 a.args.length a.at_.2] 27) (.cells #[.int .i64 b.kind, .int .i64 b.n, .string b.name, .slice b.at_.1 b.args.length b.at_.2] 27)
  have ha1 := ha.turned0 h2.1
  have hb1 := hb.turned0 h2.1
  rw [LT.val_eq a, LT.val_eq b]
  have H2 := Lib.hid h2
  have HA := Lib.hid ha1
  have HB := Lib.hid hb1
  have SA := Lib.hid sa
  have SB := Lib.hid sb
  have hbx : ∀ W, Turned (fun _ => False) ((w.alloc (.cells #[.int .i64 a.kind, .int .i64 a.n, .string a.name, .slice a.at_.1 a.args.length a.at_.2] 27)).alloc (.cells #[.int .i64 b.kind, .int .i64 b.n, .string b.name, .slice b.at_.1 b.args.length b.at_.2] 27)) W → W.heap[w.heap.size + 1]? = some (.cells #[.int .i64 b.kind, .int .i64 b.n, .string b.name, .slice b.at_.1 b.args.length b.at_.2] 27 (0, 0)) := fun W h => (h.block _ (Array.getElem?_eq_some_iff.1 H2.out.2.2.2).1 (fun f => f)).trans H2.out.2.2.2
  have HBX := Lib.hid hbx
  clear ha hb sa sb ha1 hb1 h2 hbx
  cases ga : goodB a with
  | false =>
    have e1 : alikeB a b = false := by unfold alikeB; rw [ga]; rfl
    rw [e1]
    have h1 := plainBad HA.out SA.out ga
    have H1 := Lib.hid h1
    clear h1 e1 ga
    cases gb : goodB b with
    | false =>
      have h3 := fun W (h : Turned (fun _ => False) _ W) => plainBad (HB.out.turned0 h) SB.out gb
      have H3 := Lib.hid h3
      clear h3 gb
      go_enter Try.func72, Try.ntmps72
      go_wp2_with (first
        | (go_at_call 81; (with_reducible refine H1.out.mono ?_); rintro e w3 ⟨u, rfl, hub, hui, T3⟩; have TU := T3.alloc (.cells #[.int .i64 u.kind, .int .i64 u.n, .string u.name, .slice u.at_.1 u.args.length u.at_.2] 27); obtain ⟨d0, d1, d2, d3, _⟩ := cells4 (HBX.out _ TU))
        | (go_at_call 81; (with_reducible refine (H3.out _ TU).mono ?_); rintro e w4 ⟨v, rfl, hvb, hvi, T4⟩))
      go_ret
      exact ⟨rfl, H2.out.1.trans ((TU.trans T4).alloc _)⟩
    | true =>
      have h3 := fun W (h : Turned (fun _ => False) _ W) => plainGood (HB.out.turned0 h) gb
      have H3 := Lib.hid h3
      clear h3 gb
      go_enter Try.func72, Try.ntmps72
      go_wp2_with (first
        | (go_at_call 81; (with_reducible refine H1.out.mono ?_); rintro e w3 ⟨u, rfl, hub, hui, T3⟩; have TU := T3.alloc (.cells #[.int .i64 u.kind, .int .i64 u.n, .string u.name, .slice u.at_.1 u.args.length u.at_.2] 27); obtain ⟨d0, d1, d2, d3, _⟩ := cells4 (HBX.out _ TU))
        | (go_at_call 81; (with_reducible refine (H3.out _ TU).mono ?_); rintro e w4 ⟨v, rfl, hvb, hvi, T4⟩))
      go_ret
      exact ⟨rfl, H2.out.1.trans ((TU.trans T4).alloc _)⟩
  | true =>
    have h1 := plainGood HA.out ga
    have H1 := Lib.hid h1
    clear h1
    cases gb : goodB b with
    | false =>
      have e1 : alikeB a b = false := by unfold alikeB; rw [ga, gb]; rfl
      rw [e1]
      have h3 := fun W (h : Turned (fun _ => False) _ W) => plainBad (HB.out.turned0 h) SB.out gb
      have H3 := Lib.hid h3
      clear h3 gb ga e1
      go_enter Try.func72, Try.ntmps72
      go_wp2_with (first
        | (go_at_call 81; (with_reducible refine H1.out.mono ?_); rintro e w3 ⟨u, rfl, hub, hui, T3⟩; have TU := T3.alloc (.cells #[.int .i64 u.kind, .int .i64 u.n, .string u.name, .slice u.at_.1 u.args.length u.at_.2] 27); obtain ⟨d0, d1, d2, d3, _⟩ := cells4 (HBX.out _ TU))
        | (go_at_call 81; (with_reducible refine (H3.out _ TU).mono ?_); rintro e w4 ⟨v, rfl, hvb, hvi, T4⟩))
      go_ret
      exact ⟨rfl, H2.out.1.trans ((TU.trans T4).alloc _)⟩
    | true =>
      have h3 := fun W (h : Turned (fun _ => False) _ W) => plainGood (HB.out.turned0 h) gb
      have H3 := Lib.hid h3
      have GA := Lib.hid ga
      have GB := Lib.hid gb
      clear h3 ga gb
      go_enter Try.func72, Try.ntmps72
      go_wp2_with (first
        | (go_at_call 81; (with_reducible refine H1.out.mono ?_); rintro e w3 ⟨u, rfl, hub, hui, T3⟩; have TU := T3.alloc (.cells #[.int .i64 u.kind, .int .i64 u.n, .string u.name, .slice u.at_.1 u.args.length u.at_.2] 27); obtain ⟨d0, d1, d2, d3, _⟩ := cells4 (HBX.out _ TU); have HUB := Lib.hid hub; have HUI := Lib.hid hui; have hbu := heap_alloc_new w3 (.cells #[.int .i64 u.kind, .int .i64 u.n, .string u.name, .slice u.at_.1 u.args.length u.at_.2] 27); have HBU := Lib.hid hbu; clear hub hui hbu)
        | (go_at_call 81; (with_reducible refine (H3.out _ TU).mono ?_); rintro e w4 ⟨v, rfl, hvb, hvi, T4⟩; have HVB := Lib.hid hvb; have HVI := Lib.hid hvi; have T4v := T4.alloc (.cells #[.int .i64 v.kind, .int .i64 v.n, .string v.name, .slice v.at_.1 v.args.length v.at_.2] 27); obtain ⟨e0, e1, e2, e3, _⟩ := cells4 ((T4v.block _ (Array.getElem?_eq_some_iff.1 HBU.out).1 (fun f => f)).trans HBU.out); clear hvb hvi))
      have hsu : slim u := good_slim (by rw [← goodB_bare, HUB.out]; exact plain_good (by rw [goodB_bare]; exact GA.out))
      have hsv : slim v := good_slim (by rw [← goodB_bare, HVB.out]; exact plain_good (by rw [goodB_bare]; exact GB.out))
      have hgu : goodB u = true := by rw [← goodB_bare, HUB.out]; exact plain_good (by rw [goodB_bare]; exact GA.out)
      have hgv : goodB v = true := by rw [← goodB_bare, HVB.out]; exact plain_good (by rw [goodB_bare]; exact GB.out)
      have hsm := same52 (HUI.out.turned0 (((Turned.refl _ w3).alloc _).trans T4v)) (HVI.out.turned0 ((Turned.refl _ w4).alloc _)) hsu hsv
      have hal : sameB u v = alikeB a b := by
        unfold sameB alikeB
        rw [hgu, hgv, GA.out, GB.out, ← HUB.out, ← HVB.out, same_bares]
      rw [LT.val_eq u, LT.val_eq v, hal] at hsm
      (with_reducible refine hsm.mono ?_)
      rintro e w5 ⟨rfl, T5⟩
      have T5' := H2.out.1.trans ((TU.trans T4v).trans T5)
      go_wp2_with fail
      go_ret
      exact ⟨rfl, T5'⟩
set_option maxHeartbeats 1600000 in
theorem ground73 {p : Nat → Prop} {t : LT} {w : World} (ht : t.In p w) (hs : slim t) :
    Calls Try.prog 73 #[t.val] w fun e w' => e = .returned (.bool (goodB t && decide (t.vars = []))) ∧ Turned (fun _ => False) w w' := by
  have T1 := (Turned.refl (fun _ => False) w).alloc (.cells #[.int .i64 t.kind, .int .i64 t.n, .string t.name, .slice t.at_.1 t.args.length t.at_.2] 27)
  have hg := good38 (ht.turned0 T1) hs
  have hv := fun W (h : Turned (fun _ => False) w W) => vars34 (ht.turned0 h) hs
  have hc : ∀ W, Turned (fun _ => False) (w.alloc (.cells #[.int .i64 t.kind, .int .i64 t.n, .string t.name, .slice t.at_.1 t.args.length t.at_.2] 27)) W → W.cell? ⟨w.heap.size, 0, none⟩ = some (.int .i64 t.kind) ∧ W.cell? ⟨w.heap.size, 1, none⟩ = some (.int .i64 t.n) ∧ W.cell? ⟨w.heap.size, 2, none⟩ = some (.string t.name) ∧ W.cell? ⟨w.heap.size, 3, none⟩ = some (.slice t.at_.1 t.args.length t.at_.2) := fun W h => by
    obtain ⟨c0, c1, c2, c3, _⟩ := boxAt h
    exact ⟨c0, c1, c2, c3⟩
  rw [LT.val_eq] at hg hv ⊢
  have HC := Lib.hid hc
  have HT := Lib.hid T1
  clear hc T1 ht hs
  cases g : goodB t with
  | false =>
    rw [g] at hg
    have HG := Lib.hid hg
    clear hg hv g
    go_enter Try.func73, Try.ntmps73
    go_wp2_with (go_at_call 38; (with_reducible refine HG.out.mono ?_); rintro e w2 ⟨rfl, T2⟩)
    go_ret
    exact ⟨rfl, HT.out.trans T2⟩
  | true =>
    rw [g] at hg
    have HG := Lib.hid hg
    have ev : varsB t = t.vars := by unfold varsB; rw [if_pos g]
    rw [ev] at hv
    obtain ⟨vs, hvs⟩ : ∃ z, z = t.vars := ⟨_, rfl⟩
    rw [← hvs] at hv ⊢
    have HV := Lib.hid hv
    clear hg hv g ev hvs
    cases vs with
    | nil =>
      go_enter Try.func73, Try.ntmps73
      go_wp2_with (first
        | (go_at_call 38; (with_reducible refine HG.out.mono ?_); rintro e w2 ⟨rfl, T2⟩; obtain ⟨c0, c1, c2, c3⟩ := HC.out _ T2; have T2' := HT.out.trans T2)
        | (go_at_call 34; (with_reducible refine (HV.out _ T2').mono ?_); rintro e w3 ⟨v, rfl, hrow, _, T3⟩; obtain ⟨va, vc, rfl⟩ := hrow.shape; clear hrow))
      go_ret
      exact ⟨rfl, T2'.trans T3⟩
    | cons y ys =>
      obtain ⟨m, hm⟩ : ∃ z, z = ys.length := ⟨_, rfl⟩
      have hv := HV.out
      simp only [List.length_cons, ← hm] at hv
      have HV' := Lib.hid hv
      have z1 : ((m + 1 : Nat) : Int) ≠ 0 := by omega
      have z2 : (((m : Int) + 1) == 0) = false := by rw [beq_eq_false_iff_ne]; omega
      clear hv hm HV
      go_enter Try.func73, Try.ntmps73
      go_wp2_with (first
        | (go_at_call 38; (with_reducible refine HG.out.mono ?_); rintro e w2 ⟨rfl, T2⟩; obtain ⟨c0, c1, c2, c3⟩ := HC.out _ T2; have T2' := HT.out.trans T2)
        | (go_at_call 34; (with_reducible refine (HV'.out _ T2').mono ?_); rintro e w3 ⟨v, rfl, hrow, _, T3⟩; obtain ⟨va, vc, rfl⟩ := hrow.shape; clear hrow))
      go_ret
      exact ⟨by simp, T2'.trans T3⟩
end Go.Proofs.Ytoihjobdfjajfaa

/- alias.more, More: whether one term is another with terms in its variables' place. -/
namespace Go.Proofs.Ytoihjobdfjajfaa
set_option linter.unusedVariables false
set_option linter.unusedSimpArgs false
open Go.RowKit Go.Maps

def setG (g : Int → Option LT) (n : Int) (b : LT) : Int → Option LT := fun j => if j = n then some b else g j
theorem setG_vals (g : Int → Option LT) (n : Int) (b : LT) : upd (valsM g) n b.val = valsM (setG g n b) := by
  funext j; unfold upd valsM setG
  by_cases e : j = n
  · rw [if_pos e, if_pos e]; rfl
  · rw [if_neg e, if_neg e]
theorem setG_bares (g : Int → Option LT) (n : Int) (b : LT) : baresM (setG g n b) = Tm.setM (baresM g) n b.bare := by
  funext j; unfold Tm.setM baresM setG
  by_cases e : j = n
  · rw [if_pos e, if_pos e]; rfl
  · rw [if_neg e, if_neg e]
/-- What the map holds behind a call. -/
def MoreP (p : Nat → Prop) (mb N : Nat) (mo : Option Tm.MM) (W : World) : Prop :=
  ∀ m', mo = some m' → ∃ (mn : Nat) (g : Int → Option LT), mn ≤ N ∧ IMap Try.prog 2 W mb mn (valsM g) ∧ baresM g = m' ∧ ∀ i x, g i = some x → x.In p W ∧ goodB x = true
theorem MoreP.turned0 {p : Nat → Prop} {mb N : Nat} {mo : Option Tm.MM} {W W' : World} (h : MoreP p mb N mo W) (ht : Turned (fun _ => False) W W') : MoreP p mb N mo W' := by
  intro m' hm
  obtain ⟨mn, g, h1, h2, h3, h4⟩ := h m' hm
  exact ⟨mn, g, h1, h2.turned ht (fun f => f), h3, fun i x hx => ⟨(h4 i x hx).1.turned0 ht, (h4 i x hx).2⟩⟩
def MoreS (p : Nat → Prop) (mb mj : Nat) (gj : Int → Option LT) (x y : LT) (wr : World) (RB : Bool) : List Value → World → Prop
  | [], W => Turned (fun _ => False) wr W
  | [v], W => ∃ b : Bool, v = .bool b ∧ b = RB ∧ Turned (fun k => k = mb) wr W ∧ MoreP p mb (mj + x.size) (Tm.moreM x.bare y.bare (baresM gj)) W
  | _, _ => False
theorem MoreS.turned0 {p : Nat → Prop} {mb mj : Nat} {gj : Int → Option LT} {x y : LT} {wr : World} {RB : Bool} : ∀ (hs : List Value) (w w' : World), MoreS p mb mj gj x y wr RB hs w → Turned (fun _ => False) w w' → MoreS p mb mj gj x y wr RB hs w'
  | [], _, _, h, ht => Turned.trans h ht
  | [_], _, _, h, ht => by obtain ⟨b, h0, h1, h2, h3⟩ := h; exact ⟨b, h0, h1, h2.trans (ht.mono (fun _ _ f => f.elim)), h3.turned0 ht⟩
  | _ :: _ :: _, _, _, h, _ => h.elim
theorem more_nil {p : Nat → Prop} {mb mj : Nat} {gj : Int → Option LT} {x y : LT} {wr W : World} {RB : Bool} {hs : List Value} (hl : hs.length ≤ 0) (h : MoreS p mb mj gj x y wr RB hs W) : Turned (fun _ => False) wr W := by
  obtain rfl : hs = [] := List.eq_nil_of_length_eq_zero (by omega)
  exact h
theorem more_val {p : Nat → Prop} {mb mj : Nat} {gj : Int → Option LT} {x y : LT} {wr : World} {RB : Bool} (hs : List Value) (W : World) (h : MoreS p mb mj gj x y wr RB hs W) (v : Value) (hv : hs[0]? = some v) : v = .bool RB := by
  match hs, h, hv with
  | [_], h, hv => simp at hv; subst hv; obtain ⟨b, h0, h1, _⟩ := h; rw [h0, h1]
theorem moreM_eq (a b : Tm Unit) (m : Tm.MM) : Tm.moreM a b m = (if a.kind = 0 then (match m a.n with | none => some (Tm.setM m a.n b) | some x => if Tm.same x b = true then some m else none)
    else if a.kind = b.kind ∧ a.n = b.n ∧ a.name = b.name ∧ a.args.length = b.args.length then Tm.moresM a.args b.args m else none) := by
  cases a; rw [Tm.moreM]; rfl
theorem moresM_cons (x y : Tm Unit) (l r : List (Tm Unit)) (m : Tm.MM) : Tm.moresM (x :: l) (y :: r) m = (match Tm.moreM x y m with | none => none | some m => Tm.moresM l r m) := by
  rw [Tm.moresM]
  all_goals (cases Tm.moreM x y m <;> rfl)
theorem moresM_nil (r : List (Tm Unit)) (m : Tm.MM) : Tm.moresM [] r m = some m := by rw [Tm.moresM]
theorem goodB_arg {t x : LT} (h : goodB t = true) (hx : x ∈ t.args) : goodB x = true := by
  refine goodB_flat h ?_
  rw [Tm.flat_eq]
  exact List.mem_cons_of_mem _ (mem_flats_arg hx (by rw [Tm.flat_eq]; exact List.mem_cons_self ..))
theorem drop_bares {t : LT} {j : Nat} {x : LT} (h : t.args[j]? = some x) : (Tm.bares t.args).drop j = x.bare :: (Tm.bares t.args).drop (j + 1) := by
  have hl : j < (Tm.bares t.args).length := by rw [Tm.bares_length]; exact (List.getElem?_eq_some_iff.1 h).1
  rw [List.drop_eq_getElem_cons hl]
  congr 1
  have : (Tm.bares t.args)[j]? = some x.bare := by rw [Tm.bares_eq, List.getElem?_map, h]; rfl
  rw [List.getElem?_eq_getElem hl] at this
  injection this
/-- At the head of the loop. -/
structure MoreI (p : Nat → Prop) (mb : Nat) (a b : LT) (mn : Nat) (g : Int → Option LT) (j : Nat) (gj : Int → Option LT) (mj : Nat) (w2 W : World) : Prop where
  turned : Turned (fun k => k = mb) w2 W
  map : IMap Try.prog 2 W mb mj (valsM gj)
  ok : ∀ i x, gj i = some x → x.In p W ∧ goodB x = true
  rest : Tm.moresM (Tm.bares a.args) (Tm.bares b.args) (baresM g) = Tm.moresM ((Tm.bares a.args).drop j) ((Tm.bares b.args).drop j) (baresM gj)
  le : mj ≤ mn + Tm.sizes (a.args.take j)
set_option maxRecDepth 100000 in
set_option maxHeartbeats 6400000 in
theorem more139 {p : Nat → Prop} {mb : Nat} (hpm : ∀ k, p k → k ≠ mb) (n : Nat) : ∀ (a b : LT) (w : World) (mn : Nat) (g : Int → Option LT), a.depth ≤ n → a.In p w → b.In p w → goodB b = true → IMap Try.prog 2 w mb mn (valsM g) → (∀ i x, g i = some x → x.In p w ∧ goodB x = true) → mn + a.size ≤ 100000 →
    Calls Try.prog 139 #[a.val, b.val, .map (some mb)] w fun e w' => e = .returned (.bool (Tm.moreM a.bare b.bare (baresM g)).isSome) ∧ Turned (fun k => k = mb) w w' ∧ MoreP p mb (mn + a.size) (Tm.moreM a.bare b.bare (baresM g)) w' := by
  induction n with
  | zero => intro a b w mn g h; have := Tm.depth_pos a; omega
  | succ n ih =>
    intro a b w mn g hd ha hb hgb hm hg hsz
    have h2 := twoBox w (.cells #[.int .i64 a.kind, .int .i64 a.n, .string a.name, .slice a.at_.1 a.args.length a.at_.2] 27) (.cells #[.int .i64 b.kind, .int .i64 b.n, .string b.name, .slice b.at_.1 b.args.length b.at_.2] 27)
    have hmlt := hm.lt
    have hm2 := hm.turned h2.1 (fun f => f)
    have HB2 : Hid (((w.alloc (.cells #[.int .i64 a.kind, .int .i64 a.n, .string a.name, .slice a.at_.1 a.args.length a.at_.2] 27)).alloc (.cells #[.int .i64 b.kind, .int .i64 b.n, .string b.name, .slice b.at_.1 b.args.length b.at_.2] 27)).heap[w.heap.size + 1]? = some (.cells #[.int .i64 b.kind, .int .i64 b.n, .string b.name, .slice b.at_.1 b.args.length b.at_.2] 27 (0, 0))) := h2.2.2.2
    by_cases hk : a.kind = 0
    · have k0 : (a.kind == 0) = true := by simp [hk]
      have hn := ha.n
      have hlk := hm2.look_ok law2 Try.underlying151 (zero27 _) (key2 hn)
      have hmo : Tm.moreM a.bare b.bare (baresM g) = (match g a.n with | none => some (Tm.setM (baresM g) a.n b.bare) | some x => if Tm.same x.bare b.bare = true then some (baresM g) else none) := by
        rw [moreM_eq, Tm.bare_kind, if_pos hk, Tm.bare_n]
        unfold baresM
        cases g a.n <;> rfl
      have hkey := key2 hn
      rw [LT.val_eq a, LT.val_eq b]
      cases hga : g a.n with
      | none =>
        have hv0 : valsM g a.n = none := by unfold valsM; rw [hga]; rfl
        rw [hv0] at hlk
        simp only [Option.getD_none, Option.isSome_none] at hlk
        unfold zeroT at hlk
        rw [hga] at hmo
        simp only at hmo
        rw [hmo]
        have HMM := Lib.hid (And.intro hm2 (And.intro hm (And.intro hv0 h2)))
        have HIN := Lib.hid (And.intro hb (And.intro hgb (And.intro hg hsz)))
        have hc1 : ∀ o j u, ((w.alloc (.cells #[.int .i64 a.kind, .int .i64 a.n, .string a.name, .slice a.at_.1 a.args.length a.at_.2] 27)).alloc (.cells #[.int .i64 b.kind, .int .i64 b.n, .string b.name, .slice b.at_.1 b.args.length b.at_.2] 27)).cell? ⟨w.heap.size + 1, j, none⟩ = some u → (((w.alloc (.cells #[.int .i64 a.kind, .int .i64 a.n, .string a.name, .slice a.at_.1 a.args.length a.at_.2] 27)).alloc (.cells #[.int .i64 b.kind, .int .i64 b.n, .string b.name, .slice b.at_.1 b.args.length b.at_.2] 27)).alloc o).cell? ⟨w.heap.size + 1, j, none⟩ = some u := fun o j u h => cell_old h
        obtain ⟨d0, d1, d2, d3, _⟩ := cells4 HB2.out
        have HC1 := Lib.hid hc1
        have e0 := hc1 (.cells #[.int .i64 0, .int .i64 0, .string ByteArray.empty, .slice none 0 0] 27) _ _ d0
        have e1 := hc1 (.cells #[.int .i64 0, .int .i64 0, .string ByteArray.empty, .slice none 0 0] 27) _ _ d1
        have e2 := hc1 (.cells #[.int .i64 0, .int .i64 0, .string ByteArray.empty, .slice none 0 0] 27) _ _ d2
        have e3 := hc1 (.cells #[.int .i64 0, .int .i64 0, .string ByteArray.empty, .slice none 0 0] 27) _ _ d3
        clear hk hga hv0 hmo hb hgb hg hm hm2 h2 ih hd ha hc1 d0 d1 d2 d3
        go_enter Try.func139, Try.ntmps139
        go_wp2_with (at_mapUpdate; refine wpList_put rfl _ _ _ 151 rfl law2 Try.underlying151 rfl (HMM.out.1.alloc (.cells #[.int .i64 0, .int .i64 0, .string ByteArray.empty, .slice none 0 0] 27)) (by unfold maxLen; omega) rfl rfl hkey trivial ?_; intro w6 hm6 T6)
        go_ret
        have TW : Turned (fun k => k = mb) w w6 := ((HMM.out.2.2.2.1.alloc _).mono (fun _ _ f => f.elim)).trans T6
        refine ⟨rfl, TW, ?_⟩
        intro m' hm'
        injection hm' with hm'
        subst hm'
        have hm7 : IMap Try.prog 2 w6 mb (mn + 1) (valsM (setG g a.n b)) := by
          have h := hm6
          rw [HMM.out.2.2.1] at h
          rw [← setG_vals, LT.val_eq b]
          exact h
        obtain ⟨hb, hgb, hg, hsz⟩ := HIN.out
        have hp := Tm.size_pos a
        refine ⟨mn + 1, setG g a.n b, by omega, hm7, setG_bares g a.n b, fun i x hx => ?_⟩
        unfold setG at hx
        split at hx
        · injection hx with hx
          subst hx
          exact ⟨LT.In.turned TW (fun k _ hk e => hpm k hk e) (fun _ _ h => h) _ hb, hgb⟩
        · exact ⟨LT.In.turned TW (fun k _ hk e => hpm k hk e) (fun _ _ h => h) _ (hg i x hx).1, (hg i x hx).2⟩
      | some x =>
        have hv0 : valsM g a.n = some x.val := by unfold valsM; rw [hga]; rfl
        rw [hv0] at hlk
        simp only [Option.getD_some, Option.isSome_some] at hlk
        rw [LT.val_eq x] at hlk
        rw [hga] at hmo
        simp only at hmo
        obtain ⟨hxi, hxg⟩ := hg a.n x hga
        have TX := h2.1.alloc (.cells #[.int .i64 x.kind, .int .i64 x.n, .string x.name, .slice x.at_.1 x.args.length x.at_.2] 27)
        have hsm := same52 (hxi.turned0 TX) (hb.turned0 TX) (good_slim hxg) (good_slim hgb)
        have hsb : sameB x b = Tm.same x.bare b.bare := by unfold sameB; rw [hxg, hgb, same_bares]; rfl
        rw [LT.val_eq x, LT.val_eq b, hsb] at hsm
        obtain ⟨SM, hSM⟩ : ∃ z, z = Tm.same x.bare b.bare := ⟨_, rfl⟩
        rw [← hSM] at hsm hmo
        have hmo2 : Tm.moreM a.bare b.bare (baresM g) = if SM = true then some (baresM g) else none := hmo
        have HSM := Lib.hid hsm
        have HMO := Lib.hid hmo2
        have HG := Lib.hid (And.intro hm hg)
        have HTX := Lib.hid TX
        obtain ⟨d0, d1, d2, d3, _⟩ := cells4 HB2.out
        have e0 := cell_old (o := .cells #[.int .i64 x.kind, .int .i64 x.n, .string x.name, .slice x.at_.1 x.args.length x.at_.2] 27) d0
        have e1 := cell_old (o := .cells #[.int .i64 x.kind, .int .i64 x.n, .string x.name, .slice x.at_.1 x.args.length x.at_.2] 27) d1
        have e2 := cell_old (o := .cells #[.int .i64 x.kind, .int .i64 x.n, .string x.name, .slice x.at_.1 x.args.length x.at_.2] 27) d2
        have e3 := cell_old (o := .cells #[.int .i64 x.kind, .int .i64 x.n, .string x.name, .slice x.at_.1 x.args.length x.at_.2] 27) d3
        clear hk hga hv0 hmo hmo2 hb hgb hg hm hm2 h2 ih hd ha d0 d1 d2 d3 hsm hsb hSM TX hxi hxg
        go_enter Try.func139, Try.ntmps139
        go_wp2_with (go_at_call 52; (with_reducible refine HSM.out.mono ?_); rintro e w5 ⟨rfl, T5⟩)
        go_ret
        rw [HMO.out]
        have TW := HTX.out.trans T5
        refine ⟨by cases SM <;> rfl, TW.mono (fun _ _ f => f.elim), ?_⟩
        intro m' hm'
        cases SM with
        | true =>
          rw [if_pos rfl] at hm'
          injection hm' with hm'
          subst hm'
          exact ⟨mn, g, by omega, HG.out.1.turned TW (fun f => f), rfl, fun i y hy => ⟨(HG.out.2 i y hy).1.turned0 TW, (HG.out.2 i y hy).2⟩⟩
        | false => rw [if_neg (by simp)] at hm'; cases hm'
    · have k0 : (a.kind == 0) = false := by simp [hk]
      have hmo : Tm.moreM a.bare b.bare (baresM g) = (if a.kind = b.kind ∧ a.n = b.n ∧ a.name = b.name ∧ a.args.length = b.args.length then Tm.moresM (Tm.bares a.args) (Tm.bares b.args) (baresM g) else none) := by
        rw [moreM_eq, Tm.bare_kind, if_neg hk, Tm.bare_n, Tm.bare_name, Tm.bare_arity, Tm.bare_kind, Tm.bare_n, Tm.bare_name, Tm.bare_arity, Tm.bare_args, Tm.bare_args]
      have HTB := Lib.hid h2.1
      by_cases hc : a.kind = b.kind ∧ a.n = b.n ∧ a.name = b.name ∧ a.args.length = b.args.length
      · rw [if_pos hc] at hmo
        obtain ⟨c1, c2, c3, c4⟩ := hc
        have z1 : (a.kind != b.kind) = false := by simp [c1]
        have z2 : (a.n != b.n) = false := by simp [c2]
        have z3 : (a.name.toList == b.name.toList) = true := by simp [c3]
        obtain ⟨MO, hMO⟩ : ∃ z, z = Tm.moreM a.bare b.bare (baresM g) := ⟨_, rfl⟩
        rw [← hMO] at hmo ⊢
        have hal : a.args.length ≤ 9223372036854775807 := by have := ha.len; unfold maxLen at this; omega
        have HMO := Lib.hid hmo
        have HIH := Lib.hid ih
        have HAB := Lib.hid (And.intro ha (And.intro hb hgb))
        have hini : Hid (MoreI p mb a b mn g 0 g mn ((w.alloc (.cells #[.int .i64 a.kind, .int .i64 a.n, .string a.name, .slice a.at_.1 a.args.length a.at_.2] 27)).alloc (.cells #[.int .i64 b.kind, .int .i64 b.n, .string b.name, .slice b.at_.1 b.args.length b.at_.2] 27)) ((w.alloc (.cells #[.int .i64 a.kind, .int .i64 a.n, .string a.name, .slice a.at_.1 a.args.length a.at_.2] 27)).alloc (.cells #[.int .i64 b.kind, .int .i64 b.n, .string b.name, .slice b.at_.1 b.args.length b.at_.2] 27))) :=
          ⟨Turned.refl _ _, hm2, fun i x hx => ⟨(hg i x hx).1.turned0 h2.1, (hg i x hx).2⟩, rfl, by simp [Tm.sizes]⟩
        have HA0 : Hid (((w.alloc (.cells #[.int .i64 a.kind, .int .i64 a.n, .string a.name, .slice a.at_.1 a.args.length a.at_.2] 27)).alloc (.cells #[.int .i64 b.kind, .int .i64 b.n, .string b.name, .slice b.at_.1 b.args.length b.at_.2] 27)).heap[w.heap.size]? = some (.cells #[.int .i64 a.kind, .int .i64 a.n, .string a.name, .slice a.at_.1 a.args.length a.at_.2] 27 (0, 0))) := h2.2.2.1
        have HSZ := Lib.hid h2.2.1
        rw [LT.val_eq a, LT.val_eq b]
        rw [← c4] at HB2 HA0 HTB HSZ hini ⊢
        have HC4 := Lib.hid c4
        obtain ⟨ad, had⟩ : ∃ z, z = a.at_.1 := ⟨_, rfl⟩
        obtain ⟨ca, hca⟩ : ∃ z, z = a.at_.2 := ⟨_, rfl⟩
        obtain ⟨bd, hbd⟩ : ∃ z, z = b.at_.1 := ⟨_, rfl⟩
        obtain ⟨cb, hcb⟩ : ∃ z, z = b.at_.2 := ⟨_, rfl⟩
        rw [← had, ← hca, ← hbd, ← hcb] at HB2 HA0 HTB HSZ hini ⊢
        have HL : Hid ((∀ W, a.In p W → LT.Lies p W ad a.args) ∧ (∀ W, b.In p W → LT.Lies p W bd b.args)) := by
          rw [had, hbd]; exact ⟨fun W h => h.lies, fun W h => h.lies⟩
        have z4 : ((a.args.length : Int) != (a.args.length : Int)) = false := by simp
        clear hmo h2 hm2 hm hg ih hb ha hgb c1 c2 c3 c4 hMO had hca hbd hcb hk
        go_enter Try.func139, Try.ntmps139
        obtain ⟨_, _, _, aa3, _⟩ := cells4 HA0.out
        go_wp2_with fail
        have HTT := And.intro HB2 (And.intro HA0 (And.intro HTB (And.intro HSZ hini)))
        clear HB2 HA0 HTB HSZ hini aa3
        revert HTT
        generalize ((w.alloc (.cells #[.int .i64 a.kind, .int .i64 a.n, .string a.name, .slice ad a.args.length ca] 27)).alloc (.cells #[.int .i64 b.kind, .int .i64 b.n, .string b.name, .slice bd a.args.length cb] 27)) = w2
        intro HTT
        obtain ⟨HB2, HA0, HTB, HSZ, hini⟩ := HTT
        go_loopg [60] a.args.length (fun q i wr => ∃ (j mj : Nat) (gj : Int → Option LT), Hid (j + q = a.args.length) ∧ j ≤ a.args.length ∧ i = .int .i64 j ∧ Hid (MoreI p mb a b mn g j gj mj w2 wr))
        case atStart => exact ⟨0, mn, g, Nat.zero_add _, Nat.zero_le _, rfl, hini⟩
        case round =>
          obtain ⟨j, mj, gj, HG, hj, rfl, HI⟩ := hrel
          have TW : Turned (fun k => k = mb) w wr := (HTB.out.mono (fun _ _ f => f.elim)).trans HI.out.turned
          by_cases hjl : j < a.args.length
          · obtain ⟨x, hx⟩ : ∃ x : LT, a.args[j]? = some x := ⟨_, List.getElem?_eq_getElem hjl⟩
            obtain ⟨y, hy⟩ : ∃ y : LT, b.args[j]? = some y := ⟨_, List.getElem?_eq_getElem (by have := HC4.out; omega)⟩
            have ain := LT.In.turned TW (fun k _ hk e => hpm k hk e) (fun _ _ h => h) a HAB.out.1
            have bin := LT.In.turned TW (fun k _ hk e => hpm k hk e) (fun _ _ h => h) b HAB.out.2.1
            obtain ⟨ab, ao, rfl, _, x0, x1, x2, x3⟩ := (HL.out.1 _ ain).cell hx
            obtain ⟨bb, bo, rfl, _, y0, y1, y2, y3⟩ := (HL.out.2 _ bin).cell hy
            obtain ⟨_, _, _, a3, _⟩ := cells4 ((HI.out.turned.block _ (Array.getElem?_eq_some_iff.1 HA0.out).1 (by omega)).trans HA0.out)
            obtain ⟨_, _, _, b3, _⟩ := cells4 ((HI.out.turned.block _ (Array.getElem?_eq_some_iff.1 HB2.out).1 (by omega)).trans HB2.out)
            have hgy := goodB_arg HAB.out.2.2 (List.mem_of_getElem? hy)
            have hst := sizes_at hx
            have hst2 := sizes_take a.args (j + 1)
            have hsz2 := Tm.size_eq a
            have hle := HI.out.le
            have hcx := fun W (h : Turned (fun _ => False) wr W) => HIH.out x y W mj gj (by have := arg_depth (List.mem_of_getElem? hx); omega) ((LT.ins_iff _).1 (ain.turned0 h).args x (List.mem_of_getElem? hx)) ((LT.ins_iff _).1 (bin.turned0 h).args y (List.mem_of_getElem? hy)) hgy (HI.out.map.turned h (fun f => f)) (fun i z hz => ⟨(HI.out.ok i z hz).1.turned0 h, (HI.out.ok i z hz).2⟩) (by omega)
            rw [LT.val_eq x, LT.val_eq y] at hcx
            obtain ⟨RB, hRB⟩ : ∃ z, z = (Tm.moreM x.bare y.bare (baresM gj)).isSome := ⟨_, rfl⟩
            rw [← hRB] at hcx
            have HRB := Lib.hid hRB
            have HCX := Lib.hid hcx
            have HXY := Lib.hid (And.intro hx hy)
            have HN : Hid (mj + x.size ≤ mn + Tm.sizes (a.args.take (j + 1))) := show _ ≤ _ by omega
            have HTW := Lib.hid TW
            clear hx hy ain bin hgy hst hst2 hsz2 hle hcx hRB TW
            go_wp2_with fail
            obtain ⟨B75, HB75⟩ : ∃ B, Hid (B = (!RB)) := ⟨_, rfl⟩
            refine wp_region_hsW [63, 64, 65, 66, 67, 68, 69, 70, 71, 72, 73, 74, 75] [11] [0, 0, 0, 0, 0, 0, 0, 0, 0, 0, 0, 1, 1] [74] (fun d v => (match d with | 63 => v = .pointer (some ⟨w.heap.size, 3, none⟩) | 64 => v = .slice (some ⟨ab, ao, none⟩) a.args.length ca | 65 => v = .int .i64 (j : Int) | 66 => v = .pointer (some ⟨ab, ao + j * 4, none⟩) | 67 => v = .agg #[.int .i64 x.kind, .int .i64 x.n, .string x.name, .slice x.at_.1 x.args.length x.at_.2] | 68 => v = .pointer (some ⟨(w.heap.size + 1), 3, none⟩) | 69 => v = .slice (some ⟨bb, bo, none⟩) a.args.length cb | 70 => v = .int .i64 (j : Int) | 71 => v = .pointer (some ⟨bb, bo + j * 4, none⟩) | 72 => v = .agg #[.int .i64 y.kind, .int .i64 y.n, .string y.name, .slice y.at_.1 y.args.length y.at_.2] | 73 => v = .map (some mb) | 75 => v = .bool B75 | _ => True : Prop)) (MoreS p mb mj gj x y wr RB) (by kernel_rfl) rfl (by kernel_rfl) (by kernel_rfl) (by kernel_rfl) (by kernel_rfl) (fun _ h => h) (fun hs w w' h ht => MoreS.turned0 hs w w' h ht) ?hs ?hQ
            case hs =>
              refine ⟨?s0, ?s1, ?s2, ?s3, ?s4, ?s5, ?s6, ?s7, ?s8, ?s9, ?s10, ?s11, ?s12, trivial⟩
              case s0 =>
                refine fun hs hle => stepG_free [] [3] (by kernel_rfl) rfl ?_
                · intro ac W hT hI hO
                  have hle : hs.length ≤ 0 := hle
                  have h3 : ac.tmps.getD 3 undef = .pointer (some ⟨w.heap.size, 0, none⟩) := hO 3 (by simp)
                  show Brings Try.prog (fun v w' => Turned (fun _ => False) W w' ∧ v = .pointer (some ⟨w.heap.size, 3, none⟩)) _
                  simp only [execOp, Act.eval, h3]
                  go_simp
                  try exact ⟨Turned.refl _ _, rfl⟩
              case s1 =>
                refine fun hs hle => stepG_free [63] [] (by kernel_rfl) rfl ?_
                · intro ac W hT hI hO
                  have hle : hs.length ≤ 0 := hle
                  have h63 : ac.tmps.getD 63 undef = .pointer (some ⟨w.heap.size, 3, none⟩) := hI 63 (by simp)
                  show Brings Try.prog (fun v w' => Turned (fun _ => False) W w' ∧ v = .slice (some ⟨ab, ao, none⟩) a.args.length ca) _
                  have hT0 : Turned (fun _ => False) wr W := more_nil hle hT; have a3 := hT0.cell0 a3; have b3 := hT0.cell0 b3; have x0 := hT0.cell0 x0; have x1 := hT0.cell0 x1; have x2 := hT0.cell0 x2; have x3 := hT0.cell0 x3; have y0 := hT0.cell0 y0; have y1 := hT0.cell0 y1; have y2 := hT0.cell0 y2; have y3 := hT0.cell0 y3
                  simp only [execOp, Act.eval, h63]
                  go_simp
                  exact ⟨Turned.refl _ _, rfl⟩
              case s2 =>
                refine fun hs hle => stepG_free [] [9] (by kernel_rfl) rfl ?_
                · intro ac W hT hI hO
                  have hle : hs.length ≤ 0 := hle
                  have h9 : ac.tmps.getD 9 undef = .int .i64 (j : Int) := hO 9 (by simp)
                  show Brings Try.prog (fun v w' => Turned (fun _ => False) W w' ∧ v = .int .i64 (j : Int)) _
                  simp only [execOp, Act.eval, h9]
                  go_simp
                  try exact ⟨Turned.refl _ _, rfl⟩
              case s3 =>
                refine fun hs hle => stepG_free [64, 65] [] (by kernel_rfl) rfl ?_
                · intro ac W hT hI hO
                  have hle : hs.length ≤ 0 := hle
                  have h64 : ac.tmps.getD 64 undef = .slice (some ⟨ab, ao, none⟩) a.args.length ca := hI 64 (by simp)
                  have h65 : ac.tmps.getD 65 undef = .int .i64 (j : Int) := hI 65 (by simp)
                  show Brings Try.prog (fun v w' => Turned (fun _ => False) W w' ∧ v = .pointer (some ⟨ab, ao + j * 4, none⟩)) _
                  simp only [execOp, Act.eval, h64, h65]
                  go_simp
                  try rw [if_pos (by omega)]
                  try exact ⟨Turned.refl _ _, rfl⟩
              case s4 =>
                refine fun hs hle => stepG_free [66] [] (by kernel_rfl) rfl ?_
                · intro ac W hT hI hO
                  have hle : hs.length ≤ 0 := hle
                  have h66 : ac.tmps.getD 66 undef = .pointer (some ⟨ab, ao + j * 4, none⟩) := hI 66 (by simp)
                  show Brings Try.prog (fun v w' => Turned (fun _ => False) W w' ∧ v = .agg #[.int .i64 x.kind, .int .i64 x.n, .string x.name, .slice x.at_.1 x.args.length x.at_.2]) _
                  have hT0 : Turned (fun _ => False) wr W := more_nil hle hT; have a3 := hT0.cell0 a3; have b3 := hT0.cell0 b3; have x0 := hT0.cell0 x0; have x1 := hT0.cell0 x1; have x2 := hT0.cell0 x2; have x3 := hT0.cell0 x3; have y0 := hT0.cell0 y0; have y1 := hT0.cell0 y1; have y2 := hT0.cell0 y2; have y3 := hT0.cell0 y3
                  simp only [execOp, Act.eval, h66]
                  go_simp
                  exact ⟨Turned.refl _ _, rfl⟩
              case s5 =>
                refine fun hs hle => stepG_free [] [4] (by kernel_rfl) rfl ?_
                · intro ac W hT hI hO
                  have hle : hs.length ≤ 0 := hle
                  have h4 : ac.tmps.getD 4 undef = .pointer (some ⟨(w.heap.size + 1), 0, none⟩) := hO 4 (by simp)
                  show Brings Try.prog (fun v w' => Turned (fun _ => False) W w' ∧ v = .pointer (some ⟨(w.heap.size + 1), 3, none⟩)) _
                  simp only [execOp, Act.eval, h4]
                  go_simp
                  try exact ⟨Turned.refl _ _, rfl⟩
              case s6 =>
                refine fun hs hle => stepG_free [68] [] (by kernel_rfl) rfl ?_
                · intro ac W hT hI hO
                  have hle : hs.length ≤ 0 := hle
                  have h68 : ac.tmps.getD 68 undef = .pointer (some ⟨(w.heap.size + 1), 3, none⟩) := hI 68 (by simp)
                  show Brings Try.prog (fun v w' => Turned (fun _ => False) W w' ∧ v = .slice (some ⟨bb, bo, none⟩) a.args.length cb) _
                  have hT0 : Turned (fun _ => False) wr W := more_nil hle hT; have a3 := hT0.cell0 a3; have b3 := hT0.cell0 b3; have x0 := hT0.cell0 x0; have x1 := hT0.cell0 x1; have x2 := hT0.cell0 x2; have x3 := hT0.cell0 x3; have y0 := hT0.cell0 y0; have y1 := hT0.cell0 y1; have y2 := hT0.cell0 y2; have y3 := hT0.cell0 y3
                  simp only [execOp, Act.eval, h68]
                  go_simp
                  exact ⟨Turned.refl _ _, rfl⟩
              case s7 =>
                refine fun hs hle => stepG_free [] [9] (by kernel_rfl) rfl ?_
                · intro ac W hT hI hO
                  have hle : hs.length ≤ 0 := hle
                  have h9 : ac.tmps.getD 9 undef = .int .i64 (j : Int) := hO 9 (by simp)
                  show Brings Try.prog (fun v w' => Turned (fun _ => False) W w' ∧ v = .int .i64 (j : Int)) _
                  simp only [execOp, Act.eval, h9]
                  go_simp
                  try exact ⟨Turned.refl _ _, rfl⟩
              case s8 =>
                refine fun hs hle => stepG_free [69, 70] [] (by kernel_rfl) rfl ?_
                · intro ac W hT hI hO
                  have hle : hs.length ≤ 0 := hle
                  have h69 : ac.tmps.getD 69 undef = .slice (some ⟨bb, bo, none⟩) a.args.length cb := hI 69 (by simp)
                  have h70 : ac.tmps.getD 70 undef = .int .i64 (j : Int) := hI 70 (by simp)
                  show Brings Try.prog (fun v w' => Turned (fun _ => False) W w' ∧ v = .pointer (some ⟨bb, bo + j * 4, none⟩)) _
                  simp only [execOp, Act.eval, h69, h70]
                  go_simp
                  try rw [if_pos (by omega)]
                  try exact ⟨Turned.refl _ _, rfl⟩
              case s9 =>
                refine fun hs hle => stepG_free [71] [] (by kernel_rfl) rfl ?_
                · intro ac W hT hI hO
                  have hle : hs.length ≤ 0 := hle
                  have h71 : ac.tmps.getD 71 undef = .pointer (some ⟨bb, bo + j * 4, none⟩) := hI 71 (by simp)
                  show Brings Try.prog (fun v w' => Turned (fun _ => False) W w' ∧ v = .agg #[.int .i64 y.kind, .int .i64 y.n, .string y.name, .slice y.at_.1 y.args.length y.at_.2]) _
                  have hT0 : Turned (fun _ => False) wr W := more_nil hle hT; have a3 := hT0.cell0 a3; have b3 := hT0.cell0 b3; have x0 := hT0.cell0 x0; have x1 := hT0.cell0 x1; have x2 := hT0.cell0 x2; have x3 := hT0.cell0 x3; have y0 := hT0.cell0 y0; have y1 := hT0.cell0 y1; have y2 := hT0.cell0 y2; have y3 := hT0.cell0 y3
                  simp only [execOp, Act.eval, h71]
                  go_simp
                  exact ⟨Turned.refl _ _, rfl⟩
              case s10 =>
                refine fun hs hle => stepG_free [] [2] (by kernel_rfl) rfl ?_
                · intro ac W hT hI hO
                  have hle : hs.length ≤ 0 := hle
                  have h2 : ac.tmps.getD 2 undef = .map (some mb) := hO 2 (by simp)
                  show Brings Try.prog (fun v w' => Turned (fun _ => False) W w' ∧ v = .map (some mb)) _
                  simp only [execOp, Act.eval, h2]
                  go_simp
                  try exact ⟨Turned.refl _ _, rfl⟩
              case s11 =>
                refine fun hs hlen => stepG_free [67, 72, 73] [] (by kernel_rfl) rfl ?_
                · intro ac W hT hI hO
                  have h67 : ac.tmps.getD 67 undef = .agg #[.int .i64 x.kind, .int .i64 x.n, .string x.name, .slice x.at_.1 x.args.length x.at_.2] := hI 67 (by simp)
                  have h72 : ac.tmps.getD 72 undef = .agg #[.int .i64 y.kind, .int .i64 y.n, .string y.name, .slice y.at_.1 y.args.length y.at_.2] := hI 72 (by simp)
                  have h73 : ac.tmps.getD 73 undef = .map (some mb) := hI 73 (by simp)
                  show Brings Try.prog (fun v w' => MoreS p mb mj gj x y wr RB (hs ++ [v]) w') _
                  obtain rfl : hs = [] := List.eq_nil_of_length_eq_zero hlen
                  replace hT : Turned (fun _ => False) wr W := hT
                  simp only [execOp, Act.eval, h67, h72, h73]
                  go_simp
                  show Calls Try.prog 139 _ W _
                  (with_reducible refine (HCX.out W hT).mono ?_)
                  rintro e w' ⟨rfl, T', hP⟩
                  exact ⟨_, rfl, RB, rfl, rfl, (hT.mono (fun _ _ f => f.elim)).trans T', hP⟩
              case s12 =>
                refine fun hs hle => stepG_free [74] [] (by kernel_rfl) rfl ?_
                · intro ac W hT hI hO
                  have hle : hs.length ≤ 1 := hle
                  have h74 : hs[0]? = some (ac.tmps.getD 74 undef) := hI 74 (by simp)
                  replace h74 : ac.tmps.getD 74 undef = .bool RB := more_val hs W hT _ h74
                  show Brings Try.prog (fun v w' => Turned (fun _ => False) W w' ∧ v = .bool B75) _
                  rw [HB75.out]
                  simp only [execOp, Act.eval, h74]
                  go_simp
                  try exact ⟨Turned.refl _ _, rfl⟩
            case hQ =>
              intro hs vq w7 hlen hR hV
              obtain ⟨v, rfl⟩ := List.length_eq_one_iff.1 hlen
              obtain ⟨b', rfl, hbr, T7, hP⟩ := hR
              have q75 : vq 75 = .bool B75 := hV 75 (by simp)
              simp only [List.foldl_cons, List.foldl_nil, List.setIfInBounds_toArray, List.set_cons_zero, List.set_cons_succ, q75]
              have hrest := HI.out.rest
              rw [drop_bares HXY.out.1, drop_bares HXY.out.2, moresM_cons] at hrest
              have TW7 := HTW.out.trans T7
              cases hmx : Tm.moreM x.bare y.bare (baresM gj) with
              | none =>
                have hb75 : B75 = true := by rw [HB75.out, HRB.out, hmx]; rfl
                rw [hmx] at hrest
                have HMN : Hid (MO = none) := by show _ = _; rw [HMO.out]; exact hrest
                clear hV q75 hrest hP hmx
                subst hb75
                go_wp2_with fail
                go_ret
                rw [HMN.out]
                exact ⟨rfl, TW7, fun m' hm' => by cases hm'⟩
              | some m' =>
                have hb75 : B75 = false := by rw [HB75.out, HRB.out, hmx]; rfl
                rw [hmx] at hrest
                obtain ⟨mj', gj', h1, h3, h4, h5⟩ := hP m' hmx
                have HI' : Hid (MoreI p mb a b mn g (j + 1) gj' mj' w2 w7) := ⟨HI.out.turned.trans T7, h3, h5, by rw [h4]; exact hrest, Nat.le_trans h1 HN.out⟩
                clear hV q75 hrest hP hmx h1 h3 h4 h5
                subst hb75
                go_wp2_with fail
                go_roundg (gk - 1)
                case measure => have := HG.out; omega
                case rel => exact ⟨j + 1, mj', gj', show _ = _ by have := HG.out; omega, by omega, by go_num, HI'⟩
          · obtain rfl : j = a.args.length := by omega
            have hrest := HI.out.rest
            rw [show (Tm.bares a.args).drop a.args.length = [] from List.drop_of_length_le (by rw [Tm.bares_length]; omega), moresM_nil] at hrest
            have HMS : Hid (MO = some (baresM gj)) := by show _ = _; rw [HMO.out]; exact hrest
            clear hrest
            go_wp2_with fail
            go_ret
            rw [HMS.out]
            refine ⟨rfl, TW, fun m' hm' => ?_⟩
            injection hm' with hm'
            subst hm'
            have hle := HI.out.le
            rw [List.take_length] at hle
            have hsz2 := Tm.size_eq a
            exact ⟨mj, gj, by omega, HI.out.map, rfl, HI.out.ok⟩
      · rw [if_neg hc] at hmo
        rw [hmo]
        have fin : ∀ W, Turned (fun _ => False) ((w.alloc (.cells #[.int .i64 a.kind, .int .i64 a.n, .string a.name, .slice a.at_.1 a.args.length a.at_.2] 27)).alloc (.cells #[.int .i64 b.kind, .int .i64 b.n, .string b.name, .slice b.at_.1 b.args.length b.at_.2] 27)) W → Ending.returned (.bool false) = .returned (.bool (none : Option Tm.MM).isSome) ∧ Turned (fun k => k = mb) w W ∧ MoreP p mb (mn + a.size) none W := fun W h =>
          ⟨rfl, (HTB.out.trans h).mono (fun _ _ f => f.elim), fun m' hm' => by cases hm'⟩
        have FIN := Lib.hid fin
        rw [LT.val_eq a, LT.val_eq b]
        clear hmo h2 hm2 hm hg ih hb ha hgb fin
        by_cases c1 : a.kind = b.kind
        · have z1 : (a.kind != b.kind) = false := by simp [c1]
          by_cases c2 : a.n = b.n
          · have z2 : (a.n != b.n) = false := by simp [c2]
            by_cases c3 : a.name = b.name
            · have z3 : (a.name.toList == b.name.toList) = true := by simp [c3]
              have c4 : a.args.length ≠ b.args.length := fun h => hc ⟨c1, c2, c3, h⟩
              obtain ⟨la, hla⟩ : ∃ z, z = a.args.length := ⟨_, rfl⟩
              obtain ⟨lb, hlb⟩ : ∃ z, z = b.args.length := ⟨_, rfl⟩
              rw [← hla, ← hlb] at c4
              have z4 : ((la : Int) != (lb : Int)) = true := by simp; omega
              have z5 : (la != lb) = true := by simp; exact c4
              rw [← hla, ← hlb] at FIN HB2 HTB ⊢
              clear c1 c2 c3 c4 hc hla hlb
              go_enter Try.func139, Try.ntmps139
              go_wp2_with fail
              go_ret
              exact FIN.out _ (Turned.refl _ _)
            · have z3 : (a.name.toList == b.name.toList) = false := by
                rw [beq_eq_false_iff_ne]; exact fun h => c3 ((bytes_eq _ _).1 h)
              clear c1 c2 c3 hc
              go_enter Try.func139, Try.ntmps139
              go_wp2_with fail
              go_ret
              exact FIN.out _ (Turned.refl _ _)
          · have z2 : (a.n != b.n) = true := by simp [c2]
            clear c1 c2 hc
            go_enter Try.func139, Try.ntmps139
            go_wp2_with fail
            go_ret
            exact FIN.out _ (Turned.refl _ _)
        · have z1 : (a.kind != b.kind) = true := by simp [c1]
          clear c1 hc
          go_enter Try.func139, Try.ntmps139
          go_wp2_with fail
          go_ret
          exact FIN.out _ (Turned.refl _ _)
end Go.Proofs.Ytoihjobdfjajfaa

/- alias.More; sizarlaw13's awake. -/
namespace Go.Proofs.Ytoihjobdfjajfaa
set_option linter.unusedVariables false
set_option linter.unusedSimpArgs false
open Go.RowKit Go.Maps

/-- One says more than another. -/
def moreB {α β : Type} (a : Tm α) (b : Tm β) : Bool := goodB a && (goodB b && Tm.moreS a.bare b.bare)
theorem baresM_none' : baresM (fun _ => none) = fun _ => none := rfl
set_option maxRecDepth 100000 in
set_option maxHeartbeats 3200000 in
theorem more78 {p : Nat → Prop} {a b : LT} {w : World} (ha : a.In p w) (hb : b.In p w) (sa : slim a) (sb : slim b) :
    Calls Try.prog 78 #[a.val, b.val] w fun e w' => e = .returned (.bool (moreB a b)) ∧ Turned (fun _ => False) w w' := by
  have hmm := @run_makeMap Try.prog
  have h2 := twoBox w (.cells #[.int .i64 a.kind, .int .i64 a.n, .string a.name, .slice a.at_.1 a.args.length a.at_.2] 27) (.cells #[.int .i64 b.kind, .int .i64 b.n, .string b.name, .slice b.at_.1 b.args.length b.at_.2] 27)
  have hkp : ∀ W, Turned (fun _ => False) ((w.alloc (.cells #[.int .i64 a.kind, .int .i64 a.n, .string a.name, .slice a.at_.1 a.args.length a.at_.2] 27)).alloc (.cells #[.int .i64 b.kind, .int .i64 b.n, .string b.name, .slice b.at_.1 b.args.length b.at_.2] 27)) W →
      (W.cell? ⟨w.heap.size, 0, none⟩ = some (.int .i64 a.kind) ∧ W.cell? ⟨w.heap.size, 1, none⟩ = some (.int .i64 a.n) ∧ W.cell? ⟨w.heap.size, 2, none⟩ = some (.string a.name) ∧ W.cell? ⟨w.heap.size, 3, none⟩ = some (.slice a.at_.1 a.args.length a.at_.2)) ∧
      (W.cell? ⟨w.heap.size + 1, 0, none⟩ = some (.int .i64 b.kind) ∧ W.cell? ⟨w.heap.size + 1, 1, none⟩ = some (.int .i64 b.n) ∧ W.cell? ⟨w.heap.size + 1, 2, none⟩ = some (.string b.name) ∧ W.cell? ⟨w.heap.size + 1, 3, none⟩ = some (.slice b.at_.1 b.args.length b.at_.2)) := fun W h =>
    ⟨four_of ((h.block _ (Array.getElem?_eq_some_iff.1 h2.2.2.1).1 (fun f => f)).trans h2.2.2.1), four_of ((h.block _ (Array.getElem?_eq_some_iff.1 h2.2.2.2).1 (fun f => f)).trans h2.2.2.2)⟩
  have ga := good38 (ha.turned0 h2.1) sa
  have gb := fun W (h : Turned (fun _ => False) w W) => good38 (hb.turned0 h) sb
  rw [LT.val_eq a] at ga ⊢
  rw [LT.val_eq b] at gb ⊢
  have HKP := Lib.hid hkp
  have HT := Lib.hid h2.1
  have HSZ := Lib.hid h2.2.1
  have HAB := Lib.hid (And.intro ha hb)
  clear hkp h2 ha hb sa sb
  cases g1 : goodB a with
  | false =>
    have e1 : moreB a b = false := by unfold moreB; rw [g1]; rfl
    rw [e1]
    rw [g1] at ga
    have GA := Lib.hid ga
    clear ga gb g1 e1
    go_enter Try.func78, Try.ntmps78
    go_wp2_with (go_at_call 38; (with_reducible refine GA.out.mono ?_); rintro e w3 ⟨rfl, T3⟩)
    go_ret
    exact ⟨rfl, HT.out.trans T3⟩
  | true =>
    rw [g1] at ga
    have GA := Lib.hid ga
    clear ga
    cases g2 : goodB b with
    | false =>
      have e1 : moreB a b = false := by unfold moreB; rw [g1, g2]; rfl
      rw [e1]
      rw [g2] at gb
      have GB := Lib.hid gb
      clear gb g1 g2 e1
      go_enter Try.func78, Try.ntmps78
      go_wp2_with (first
        | (go_at_call 38; (with_reducible refine GA.out.mono ?_); rintro e w3 ⟨rfl, T3⟩; obtain ⟨⟨a0, a1, a2, a3⟩, ⟨b0, b1, b2, b3⟩⟩ := HKP.out _ T3; have S3 := HT.out.trans T3)
        | (go_at_call 38; (with_reducible refine (GB.out _ S3).mono ?_); rintro e w4 ⟨rfl, T4⟩))
      go_ret
      exact ⟨rfl, S3.trans T4⟩
    | true =>
      have e1 : moreB a b = Tm.moreS a.bare b.bare := by unfold moreB; rw [g1, g2]; rfl
      rw [e1]
      rw [g2] at gb
      have hle : a.size ≤ 2000 := by
        unfold goodB at g1
        simp only [Bool.and_eq_true, decide_eq_true_eq] at g1
        exact g1.1
      have GB := Lib.hid gb
      have HGB := Lib.hid g2
      clear gb g1 g2 e1
      go_enter Try.func78, Try.ntmps78
      go_wp2_with (first
        | (go_at_call 38; (with_reducible refine GA.out.mono ?_); rintro e w3 ⟨rfl, T3⟩; obtain ⟨⟨a0, a1, a2, a3⟩, ⟨b0, b1, b2, b3⟩⟩ := HKP.out _ T3; have S3 := HT.out.trans T3)
        | (go_at_call 38; (with_reducible refine (GB.out _ S3).mono ?_); rintro e w4 ⟨rfl, T4⟩; obtain ⟨⟨a4, a5, a6, a7⟩, ⟨b4, b5, b6, b7⟩⟩ := HKP.out _ (T3.trans T4); have S4 := S3.trans T4))
      have S5 := S4.alloc (.map #[] 0)
      have hm := more139 (p := fun k => k < w.heap.size) (mb := w4.heap.size) (fun k hk e => by have := S4.size; omega) a.depth a b (w4.alloc (.map #[] 0)) 0 (fun _ => none) (Nat.le_refl _)
        ((HAB.out.1.mono (q := fun k => k < w.heap.size) (fun k hk _ => hk)).turned0 S5) ((HAB.out.2.mono (q := fun k => k < w.heap.size) (fun k hk _ => hk)).turned0 S5) HGB.out (IMap.made w4 Try.prog 2) (fun i x hx => by cases hx) (by omega)
      rw [LT.val_eq a, LT.val_eq b, baresM_none'] at hm
      (with_reducible refine hm.mono ?_)
      rintro e w6 ⟨rfl, T6, _⟩
      have S6 := S5.step T6 (fun i hi e => by have := S4.size; omega)
      go_wp2_with fail
      go_ret
      exact ⟨rfl, S6⟩
end Go.Proofs.Ytoihjobdfjajfaa

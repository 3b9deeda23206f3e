/- Plain: terms with terms in their variables' place; other names; what says more. No program in sight. -/
import Derived.Test.YtoihjobdfjajfaaTL1
namespace Go.Proofs.Ytoihjobdfjajfaa
set_option linter.unusedVariables false
set_option linter.unusedSimpArgs false
namespace Tm
/-- A variable. -/
def V (n : Int) : Tm Unit := .mk 0 n ByteArray.empty () []
mutual
/-- Terms in the variables' place. -/
def subT (σ : Int → Tm Unit) : Tm Unit → Tm Unit
  | .mk k n s e aa => if k = 0 then σ n else .mk k n s e (subTs σ aa)
def subTs (σ : Int → Tm Unit) : List (Tm Unit) → List (Tm Unit)
  | [] => []
  | x :: l => subT σ x :: subTs σ l
end
theorem subTs_eq (σ : Int → Tm Unit) (l : List (Tm Unit)) : subTs σ l = l.map (subT σ) := by
  induction l with
  | nil => rfl
  | cons x l ih => simp only [subTs, List.map_cons, ih]
/-- Every variable in it is just that. -/
def leafy (t : Tm Unit) : Prop := ∀ x ∈ t.flat, x.kind = 0 → x = V x.n
theorem leafy_args {k n : Int} {s : ByteArray} {aa : List (Tm Unit)} (h : leafy (.mk k n s () aa)) : ∀ x ∈ aa, leafy x := by
  intro x hx y hy
  refine h y ?_
  rw [flat_eq]
  refine List.mem_cons_of_mem _ ?_
  clear h
  induction aa with
  | nil => cases hx
  | cons z aa ih =>
    simp only [args, flats, List.mem_append] at ih ⊢
    rcases List.mem_cons.1 hx with rfl | hx
    · exact .inl hy
    · exact .inr (ih hx)
theorem leafy_good {t : Tm Unit} (h : ∀ x ∈ t.flat, goodOneB x = true) : leafy t := by
  intro x hx hk
  have := h x hx
  rw [goodOneB_0 x hk] at this
  simp only [Bool.and_eq_true, decide_eq_true_eq] at this
  obtain ⟨_, _, h3, h4⟩ := this
  cases x with | mk k n s e aa =>
  simp only [kind] at hk
  simp only [name] at h3
  simp only [args] at h4
  have : aa = [] := List.eq_nil_of_length_eq_zero h4
  subst this
  have hs : s = ByteArray.empty := (bytes_nil s).1 h3
  subst hs hk
  rfl
/-- What is asked of the numbers in it. -/
def numsIn (t : Tm Unit) (n : Int) : Prop := ∃ x ∈ t.flat, x.kind = 0 ∧ x.n = n
mutual
theorem subT_congr {σ τ : Int → Tm Unit} : ∀ t : Tm Unit, (∀ x ∈ t.flat, x.kind = 0 → σ x.n = τ x.n) → subT σ t = subT τ t
  | .mk k n s e aa, h => by
    by_cases hk : k = 0
    · have := h (.mk k n s e aa) (by rw [flat_eq]; exact List.mem_cons_self ..) hk
      simp only [subT, if_pos hk]; exact this
    · simp only [subT, if_neg hk]
      rw [subTs_congr aa (fun x hx => h x (by rw [flat_eq]; exact List.mem_cons_of_mem _ hx))]
theorem subTs_congr {σ τ : Int → Tm Unit} : ∀ l : List (Tm Unit), (∀ x ∈ flats l, x.kind = 0 → σ x.n = τ x.n) → subTs σ l = subTs τ l
  | [], _ => rfl
  | x :: l, h => by
    simp only [subTs]
    rw [subT_congr x (fun y hy => h y (by simp only [flats]; exact List.mem_append_left _ hy)), subTs_congr l (fun y hy => h y (by simp only [flats]; exact List.mem_append_right _ hy))]
end
mutual
theorem subT_subT {σ τ : Int → Tm Unit} : ∀ t : Tm Unit, subT τ (subT σ t) = subT (fun n => subT τ (σ n)) t
  | .mk k n s e aa => by
    by_cases hk : k = 0
    · simp only [subT, if_pos hk]
    · simp only [subT, if_neg hk, subTs_subTs aa]
theorem subTs_subTs {σ τ : Int → Tm Unit} : ∀ l : List (Tm Unit), subTs τ (subTs σ l) = subTs (fun n => subT τ (σ n)) l
  | [] => rfl
  | x :: l => by simp only [subTs, subT_subT x, subTs_subTs l]
end
mutual
theorem subT_V : ∀ t : Tm Unit, leafy t → subT V t = t
  | .mk k n s e aa, h => by
    by_cases hk : k = 0
    · have := h (.mk k n s e aa) (by rw [flat_eq]; exact List.mem_cons_self ..) hk
      simp only [subT, if_pos hk]; exact this.symm
    · simp only [subT, if_neg hk]
      rw [subTs_V aa (fun x hx => h x (by rw [flat_eq]; exact List.mem_cons_of_mem _ hx))]
theorem subTs_V : ∀ l : List (Tm Unit), (∀ x ∈ flats l, x.kind = 0 → x = V x.n) → subTs V l = l
  | [], _ => rfl
  | x :: l, h => by
    simp only [subTs]
    rw [subT_V x (fun y hy => h y (by simp only [flats]; exact List.mem_append_left _ hy)), subTs_V l (fun y hy => h y (by simp only [flats]; exact List.mem_append_right _ hy))]
end

/-! ### Other names -/
/-- With variables for variables. -/
def ren (s : Int → Int) (t : Tm Unit) : Tm Unit := subT (fun n => V (s n)) t
def rens (s : Int → Int) (l : List (Tm Unit)) : List (Tm Unit) := subTs (fun n => V (s n)) l
theorem ren_kind (s : Int → Int) (t : Tm Unit) : (ren s t).kind = t.kind := by
  cases t with | mk k n nm e aa =>
  unfold ren
  by_cases hk : k = 0
  · simp only [subT, if_pos hk, V, kind]; exact hk.symm
  · simp only [subT, if_neg hk, kind]
theorem ren_n {s : Int → Int} {t : Tm Unit} (h : t.kind = 0) : (ren s t).n = s t.n := by
  cases t with | mk k n nm e aa =>
  unfold ren
  simp only [kind] at h
  simp only [subT, if_pos h, V, Tm.n]
mutual
theorem flat_ren (s : Int → Int) : ∀ t : Tm Unit, leafy t → (ren s t).flat = t.flat.map (ren s)
  | .mk k n nm e aa, h => by
    by_cases hk : k = 0
    · have := h (.mk k n nm e aa) (by rw [flat_eq]; exact List.mem_cons_self ..) hk
      rw [this]
      simp only [Tm.n, V, flat, flats, ren, subT, if_pos, List.map_cons, List.map_nil]
    · have hr : ren s (.mk k n nm e aa) = .mk k n nm e (rens s aa) := by unfold ren rens; simp only [subT, if_neg hk]
      rw [flat_eq (.mk k n nm e aa), List.map_cons, hr, flat]
      congr 1
      exact flats_ren s aa (fun x hx => h x (by rw [flat_eq]; exact List.mem_cons_of_mem _ hx))
theorem flats_ren (s : Int → Int) : ∀ l : List (Tm Unit), (∀ x ∈ flats l, x.kind = 0 → x = V x.n) → flats (rens s l) = (flats l).map (ren s)
  | [], _ => rfl
  | x :: l, h => by
    show flats (ren s x :: rens s l) = _
    simp only [flats, List.map_append]
    rw [flat_ren s x (fun y hy => h y (by simp only [flats]; exact List.mem_append_left _ hy)), flats_ren s l (fun y hy => h y (by simp only [flats]; exact List.mem_append_right _ hy))]
end
theorem size_ren (s : Int → Int) {t : Tm Unit} (h : leafy t) : (ren s t).size = t.size := by rw [← flat_length, flat_ren s t h, List.length_map, flat_length]
mutual
theorem depth_ren (s : Int → Int) : ∀ t : Tm Unit, leafy t → (ren s t).depth = t.depth
  | .mk k n nm e aa, h => by
    by_cases hk : k = 0
    · have := h (.mk k n nm e aa) (by rw [flat_eq]; exact List.mem_cons_self ..) hk
      rw [this]
      simp only [Tm.n, V, ren, subT, if_pos, depth, depths]
    · have hr : ren s (.mk k n nm e aa) = .mk k n nm e (rens s aa) := by unfold ren rens; simp only [subT, if_neg hk]
      rw [hr, depth, depth, depths_ren s aa (fun x hx => h x (by rw [flat_eq]; exact List.mem_cons_of_mem _ hx))]
theorem depths_ren (s : Int → Int) : ∀ l : List (Tm Unit), (∀ x ∈ flats l, x.kind = 0 → x = V x.n) → depths (rens s l) = depths l
  | [], _ => rfl
  | x :: l, h => by
    show depths (ren s x :: rens s l) = _
    simp only [depths]
    rw [depth_ren s x (fun y hy => h y (by simp only [flats]; exact List.mem_append_left _ hy)), depths_ren s l (fun y hy => h y (by simp only [flats]; exact List.mem_append_right _ hy))]
end
theorem leafy_ren (s : Int → Int) {t : Tm Unit} (h : leafy t) : leafy (ren s t) := by
  intro x hx hk
  rw [flat_ren s t h] at hx
  obtain ⟨y, hy, rfl⟩ := List.mem_map.1 hx
  rw [ren_kind] at hk
  rw [ren_n hk]
  have := h y hy hk
  rw [this]
  simp only [ren, V, subT, if_pos, Tm.n]
theorem vars_mem {t : Tm Unit} (n : Int) : n ∈ t.vars ↔ numsIn t n := by
  unfold vars numsIn
  generalize t.flat = l
  suffices h : ∀ (l : List (Tm Unit)) (vs : List Int), n ∈ l.foldl addVar vs ↔ n ∈ vs ∨ ∃ x ∈ l, x.kind = 0 ∧ x.n = n by
    rw [h]; simp
  intro l
  induction l with
  | nil => intro vs; simp
  | cons y l ih =>
    intro vs
    rw [List.foldl_cons, ih]
    unfold addVar
    by_cases h : y.kind = 0 ∧ y.n ∉ vs
    · rw [if_pos h]
      simp only [List.mem_append, List.mem_cons, List.not_mem_nil, or_false, exists_eq_or_imp]
      constructor
      · rintro ((h1 | h1) | h1)
        · exact .inl h1
        · exact .inr (.inl ⟨h.1, h1.symm⟩)
        · exact .inr (.inr h1)
      · rintro (h1 | h1 | h1)
        · exact .inl (.inl h1)
        · exact .inl (.inr h1.2.symm)
        · exact .inr h1
    · rw [if_neg h]
      simp only [List.mem_cons, exists_eq_or_imp]
      constructor
      · rintro (h1 | h1)
        · exact .inl h1
        · exact .inr (.inr h1)
      · rintro (h1 | h1 | h1)
        · exact .inl h1
        · refine .inl ?_
          by_cases hm : y.n ∈ vs
          · rw [← h1.2]; exact hm
          · exact absurd ⟨h1.1, hm⟩ h
        · exact .inr h1
theorem vars_nodup {α : Type} (t : Tm α) : t.vars.Nodup := by
  unfold vars
  suffices h : ∀ (l : List (Tm α)) (vs : List Int), vs.Nodup → (l.foldl addVar vs).Nodup from h _ _ List.nodup_nil
  intro l
  induction l with
  | nil => intro vs h; exact h
  | cons y l ih =>
    intro vs h
    rw [List.foldl_cons]
    apply ih
    unfold addVar
    split
    · rename_i hc
      rw [List.nodup_append]
      exact ⟨h, List.nodup_cons.2 ⟨List.not_mem_nil, List.nodup_nil⟩, fun a ha b hb => by simp at hb; subst hb; exact fun e => hc.2 (e ▸ ha)⟩
    · exact h
/-- Injective on what is in it. -/
def InjOn (s : Int → Int) (l : List Int) : Prop := ∀ a ∈ l, ∀ b ∈ l, s a = s b → a = b
theorem vars_ren {s : Int → Int} {t : Tm Unit} (h : leafy t) (hs : InjOn s t.vars) : (ren s t).vars = t.vars.map s := by
  have hs' : ∀ a b, numsIn t a → numsIn t b → s a = s b → a = b := fun a b ha hb => hs a ((vars_mem a).2 ha) b ((vars_mem b).2 hb)
  unfold vars
  rw [flat_ren s t h]
  unfold numsIn at hs'
  revert hs'
  clear hs h
  generalize t.flat = l
  intro hs'
  suffices hh : ∀ (r : List (Tm Unit)) (vs : List Int), (∀ x ∈ r, x ∈ l) → (∀ v ∈ vs, ∃ x ∈ l, x.kind = 0 ∧ x.n = v) → (r.map (ren s)).foldl addVar (vs.map s) = (r.foldl addVar vs).map s from
    hh l [] (fun _ h => h) (fun _ h => by cases h)
  intro r
  induction r with
  | nil => intro vs _ _; rfl
  | cons y r ih =>
    intro vs hr hv
    simp only [List.map_cons, List.foldl_cons]
    have hy := hr y (List.mem_cons_self ..)
    have e : addVar (vs.map s) (ren s y) = (addVar vs y).map s := by
      unfold addVar
      rw [ren_kind]
      by_cases hk : y.kind = 0
      · rw [ren_n hk]
        have hm : s y.n ∈ vs.map s ↔ y.n ∈ vs := by
          constructor
          · intro hm
            obtain ⟨v, hv1, hv2⟩ := List.mem_map.1 hm
            have := hs' v y.n (hv v hv1) ⟨y, hy, hk, rfl⟩ hv2
            rw [← this]; exact hv1
          · exact fun hm => List.mem_map_of_mem hm
        by_cases hn : y.n ∈ vs
        · rw [if_neg (fun c => c.2 (hm.2 hn)), if_neg (fun c => c.2 hn)]
        · rw [if_pos ⟨hk, fun c => hn (hm.1 c)⟩, if_pos ⟨hk, hn⟩, List.map_append]; rfl
      · rw [if_neg (fun c => hk c.1), if_neg (fun c => hk c.1)]
    rw [e]
    refine ih _ (fun x hx => hr x (List.mem_cons_of_mem _ hx)) ?_
    intro v hv'
    unfold addVar at hv'
    split at hv'
    · rename_i hc
      rcases List.mem_append.1 hv' with h1 | h1
      · exact hv v h1
      · simp at h1; exact ⟨y, hy, hc.1, h1.symm⟩
    · exact hv v hv'

/-- A variable's place among them. -/
def posOf (vs : List Int) (n : Int) : Nat := vs.idxOf n
theorem posOf_at {vs : List Int} (h : vs.Nodup) {i : Nat} {v : Int} (hi : vs[i]? = some v) : posOf vs v = i := by
  unfold posOf
  obtain ⟨hl, rfl⟩ := List.getElem?_eq_some_iff.1 hi
  exact List.Nodup.idxOf_getElem h i hl
theorem posOf_mem {vs : List Int} {n : Int} (h : n ∈ vs) : vs[posOf vs n]? = some n := by
  have hl := List.idxOf_lt_length_of_mem h
  unfold posOf
  rw [List.getElem?_eq_getElem hl, List.getElem_idxOf hl]
theorem posOf_map {vs : List Int} {s : Int → Int} (hs : InjOn s vs) (hnd : vs.Nodup) {n : Int} (h : n ∈ vs) : posOf (vs.map s) (s n) = posOf vs n := by
  have hnd' : (vs.map s).Nodup := by
    clear h
    induction vs with
    | nil => exact List.nodup_nil
    | cons v vs ih =>
      rw [List.map_cons, List.nodup_cons]
      rw [List.nodup_cons] at hnd
      refine ⟨fun hm => ?_, ih (fun a ha b hb => hs a (List.mem_cons_of_mem _ ha) b (List.mem_cons_of_mem _ hb)) hnd.2⟩
      obtain ⟨u, hu1, hu2⟩ := List.mem_map.1 hm
      have := hs u (List.mem_cons_of_mem _ hu1) v (List.mem_cons_self ..) hu2
      exact hnd.1 (this ▸ hu1)
  refine posOf_at hnd' ?_
  rw [List.getElem?_map, posOf_mem h]
  rfl
/-- Numbered from a first one on. -/
def fromS (vs : List Int) (first : Int) (n : Int) : Int := first + (posOf vs n : Nat)
theorem fromS_inj (vs : List Int) (first : Int) : InjOn (fromS vs first) vs := by
  intro a ha b hb e
  unfold fromS at e
  have e' : posOf vs a = posOf vs b := by omega
  have h1 := posOf_mem ha
  have h2 := posOf_mem hb
  rw [e', h2] at h1
  injection h1 with h1
  exact h1.symm
/-- Numbered anew from a first one on. -/
def fromT (t : Tm Unit) (first : Int) : Tm Unit := ren (fromS t.vars first) t
theorem vars_fromT {t : Tm Unit} (h : leafy t) (first : Int) : (fromT t first).vars = (List.range t.vars.length).map fun (i : Nat) => first + (i : Int) := by
  unfold fromT
  rw [vars_ren h (fromS_inj _ _)]
  apply List.ext_getElem?
  intro i
  rw [List.getElem?_map, List.getElem?_map]
  by_cases hi : i < t.vars.length
  · have h1 : t.vars[i]? = some t.vars[i] := List.getElem?_eq_getElem hi
    rw [h1, List.getElem?_range hi]
    simp only [Option.map_some]
    unfold fromS
    rw [posOf_at (vars_nodup t) h1]
  · rw [List.getElem?_eq_none (by omega), List.getElem?_eq_none (by rw [List.length_range]; omega)]
    rfl
theorem ren_ren (s r : Int → Int) (t : Tm Unit) : ren r (ren s t) = ren (fun n => r (s n)) t := by
  unfold ren
  rw [subT_subT]
  congr 1
theorem ren_congr {s r : Int → Int} {t : Tm Unit} (h : ∀ n ∈ t.vars, s n = r n) : ren s t = ren r t :=
  subT_congr t (fun x hx hk => by rw [h x.n ((vars_mem _).2 ⟨x, hx, hk, rfl⟩)])
theorem fromT_ren {s : Int → Int} {t : Tm Unit} (h : leafy t) (hs : InjOn s t.vars) (first : Int) : fromT (ren s t) first = fromT t first := by
  unfold fromT
  rw [vars_ren h hs, ren_ren]
  refine ren_congr (fun n hn => ?_)
  unfold fromS
  rw [posOf_map hs (vars_nodup t) hn]
end Tm
theorem good_leafy {t : Tm Unit} (h : goodB t = true) : Tm.leafy t := by
  unfold goodB at h
  simp only [Bool.and_eq_true, decide_eq_true_eq, List.all_eq_true] at h
  exact Tm.leafy_good h.2.2
theorem goodB_ren {s : Int → Int} {t : Tm Unit} (h : goodB t = true) (hs : ∀ n ∈ t.vars, 0 ≤ s n ∧ s n ≤ 2147483647) : goodB (Tm.ren s t) = true := by
  have hl := good_leafy h
  unfold goodB at h ⊢
  rw [Tm.size_ren s hl, Tm.depth_ren s t hl, Tm.flat_ren s t hl]
  simp only [Bool.and_eq_true, decide_eq_true_eq, List.all_eq_true] at h ⊢
  refine ⟨h.1, h.2.1, ?_⟩
  intro x hx
  obtain ⟨y, hy, rfl⟩ := List.mem_map.1 hx
  by_cases hk : y.kind = 0
  · have := hs y.n ((Tm.vars_mem _).2 ⟨y, hy, hk, rfl⟩)
    rw [hl y hy hk]
    simp only [Tm.V, Tm.n, Tm.ren, Tm.subT, if_pos]
    rw [goodOneB_0 _ rfl]
    show (decide (0 ≤ s y.n) && (decide (s y.n ≤ 2147483647) && (decide (ByteArray.empty.toList = []) && decide (0 = 0)))) = true
    rw [decide_eq_true this.1, decide_eq_true this.2, decide_eq_true ((bytes_nil _).2 rfl)]
    rfl
  · have hy' := h.2.2 y hy
    cases y with | mk k n nm e aa =>
    have hr : Tm.ren s (.mk k n nm e aa) = .mk k n nm e (Tm.rens s aa) := by unfold Tm.ren Tm.rens; simp only [Tm.kind] at hk; simp only [Tm.subT, if_neg hk]
    rw [hr]
    unfold goodOneB at hy' ⊢
    have e1 : (Tm.rens s aa).length = aa.length := by unfold Tm.rens; rw [Tm.subTs_eq, List.length_map]
    simp only [Tm.kind, Tm.n, Tm.name, Tm.args, e1] at hy' ⊢
    exact hy'
theorem goodB_fromT {t : Tm Unit} {first : Int} (h : goodB t = true) (h0 : 0 ≤ first) (h1 : first + t.vars.length ≤ 2147483648) : goodB (Tm.fromT t first) = true := by
  refine goodB_ren h (fun n hn => ?_)
  have := List.idxOf_lt_length_of_mem hn
  unfold Tm.fromS Tm.posOf
  omega
/-! ### One says more than another -/
namespace Tm
theorem same_unit (a b : Tm Unit) : same a b = true ↔ a = b := by rw [same_iff, bare_unit, bare_unit]
abbrev MM := Int → Option (Tm Unit)
def setM (m : MM) (n : Int) (b : Tm Unit) : MM := fun j => if j = n then some b else m j
mutual
/-- What stands for what, when the first is made the second; none: it can't be. -/
def moreM (a b : Tm Unit) (m : MM) : Option MM :=
  match a with
  | .mk k n s _ aa =>
    if k = 0 then (match m n with | none => some (setM m n b) | some x => if same x b = true then some m else none)
    else if k = b.kind ∧ n = b.n ∧ s = b.name ∧ aa.length = b.args.length then moresM aa b.args m else none
def moresM (l r : List (Tm Unit)) (m : MM) : Option MM :=
  match l with
  | [] => some m
  | x :: l => (match r with | [] => some m | y :: r => (match moreM x y m with | none => none | some m => moresM l r m))
end
/-- It has all that was there. -/
def Ext (m : MM) (σ : Int → Tm Unit) : Prop := ∀ n x, m n = some x → σ n = x
def Sub (m m' : MM) : Prop := ∀ n x, m n = some x → m' n = some x
theorem Sub.refl (m : MM) : Sub m m := fun _ _ h => h
theorem Sub.trans {a b c : MM} (h : Sub a b) (k : Sub b c) : Sub a c := fun n x e => k n x (h n x e)
theorem eq_mk (b : Tm Unit) : b = .mk b.kind b.n b.name () b.args := by cases b; rfl
mutual
theorem moreM_some : ∀ (a b : Tm Unit) (m m' : MM), moreM a b m = some m' → Sub m m' ∧ ∀ σ, Ext m' σ → subT σ a = b
  | .mk k n s e aa, b, m, m', h => by
    unfold moreM at h
    by_cases hk : k = 0
    · rw [if_pos hk] at h
      cases hm : m n with
      | none =>
        rw [hm] at h
        injection h with h; subst h
        refine ⟨fun j x hj => ?_, fun σ hσ => ?_⟩
        · unfold setM; by_cases e : j = n
          · subst e; rw [hm] at hj; cases hj
          · rw [if_neg e]; exact hj
        · simp only [subT, if_pos hk]
          exact hσ n b (by unfold setM; rw [if_pos rfl])
      | some x =>
        rw [hm] at h
        simp only at h
        by_cases hx : same x b = true
        · rw [if_pos hx] at h
          injection h with h; subst h
          exact ⟨Sub.refl _, fun σ hσ => by simp only [subT, if_pos hk]; rw [← (same_unit x b).1 hx]; exact hσ n x hm⟩
        · rw [if_neg hx] at h; cases h
    · rw [if_neg hk] at h
      by_cases hc : k = b.kind ∧ n = b.n ∧ s = b.name ∧ aa.length = b.args.length
      · rw [if_pos hc] at h
        obtain ⟨h1, h2⟩ := moresM_some aa b.args m m' hc.2.2.2 h
        refine ⟨h1, fun σ hσ => ?_⟩
        simp only [subT, if_neg hk]
        rw [h2 σ hσ, eq_mk b, ← hc.1, ← hc.2.1, ← hc.2.2.1]
        rfl
      · rw [if_neg hc] at h; cases h
theorem moresM_some : ∀ (l r : List (Tm Unit)) (m m' : MM), l.length = r.length → moresM l r m = some m' → Sub m m' ∧ ∀ σ, Ext m' σ → subTs σ l = r
  | [], [], m, m', _, h => by
    unfold moresM at h
    injection h with h; subst h
    exact ⟨Sub.refl _, fun _ _ => rfl⟩
  | [], _ :: _, _, _, hl, _ => by simp at hl
  | _ :: _, [], _, _, hl, _ => by simp at hl
  | x :: l, y :: r, m, m', hl, h => by
    unfold moresM at h
    simp only at h
    cases h1 : moreM x y m with
    | none => rw [h1] at h; cases h
    | some m1 =>
      rw [h1] at h
      simp only at h
      obtain ⟨a1, a2⟩ := moreM_some x y m m1 h1
      obtain ⟨b1, b2⟩ := moresM_some l r m1 m' (by simpa using hl) h
      refine ⟨a1.trans b1, fun σ hσ => ?_⟩
      simp only [subTs]
      rw [a2 σ (fun j z hz => hσ j z (b1 j z hz)), b2 σ hσ]
end
mutual
theorem moreM_of (σ : Int → Tm Unit) : ∀ (a b : Tm Unit) (m : MM), Ext m σ → subT σ a = b → ∃ m', moreM a b m = some m' ∧ Ext m' σ
  | .mk k n s e aa, b, m, hm, h => by
    unfold moreM
    by_cases hk : k = 0
    · simp only [subT, if_pos hk] at h
      rw [if_pos hk]
      cases hn : m n with
      | none =>
        refine ⟨_, rfl, fun j x hj => ?_⟩
        unfold setM at hj
        by_cases e : j = n
        · rw [if_pos e] at hj; injection hj with hj; rw [e, h, hj]
        · rw [if_neg e] at hj; exact hm j x hj
      | some x =>
        have := hm n x hn
        rw [h] at this
        simp only
        rw [if_pos ((same_unit x b).2 this.symm)]
        exact ⟨m, rfl, hm⟩
    · simp only [subT, if_neg hk] at h
      subst h
      rw [if_neg hk, if_pos ⟨rfl, rfl, rfl, by simp only [args]; rw [subTs_eq, List.length_map]⟩]
      exact moresM_of σ aa m hm
theorem moresM_of (σ : Int → Tm Unit) : ∀ (l : List (Tm Unit)) (m : MM), Ext m σ → ∃ m', moresM l (subTs σ l) m = some m' ∧ Ext m' σ
  | [], m, hm => ⟨m, by unfold moresM; rfl, hm⟩
  | x :: l, m, hm => by
    obtain ⟨m1, e1, h1⟩ := moreM_of σ x (subT σ x) m hm rfl
    obtain ⟨m2, e2, h2⟩ := moresM_of σ l m1 h1
    refine ⟨m2, ?_, h2⟩
    unfold moresM
    simp only [subTs]
    rw [e1]
    exact e2
end
/-- One says more than another: it is the other with terms in its variables' place. -/
def moreS (a b : Tm Unit) : Bool := (moreM a b fun _ => none).isSome
theorem moreS_iff (a b : Tm Unit) : moreS a b = true ↔ ∃ σ, subT σ a = b := by
  unfold moreS
  constructor
  · intro h
    obtain ⟨m, hm⟩ := Option.isSome_iff_exists.1 h
    refine ⟨fun n => (m n).getD b, (moreM_some a b _ m hm).2 _ (fun n x hx => by rw [hx]; rfl)⟩
  · rintro ⟨σ, hσ⟩
    obtain ⟨m, hm, _⟩ := moreM_of σ a b (fun _ => none) (fun _ _ h => by cases h) hσ
    rw [hm]; rfl
theorem moreS_refl {a : Tm Unit} (h : leafy a) : moreS a a = true := (moreS_iff a a).2 ⟨V, subT_V a h⟩
theorem moreS_trans {a b c : Tm Unit} (h : moreS a b = true) (k : moreS b c = true) : moreS a c = true := by
  obtain ⟨σ, hσ⟩ := (moreS_iff a b).1 h
  obtain ⟨τ, hτ⟩ := (moreS_iff b c).1 k
  exact (moreS_iff a c).2 ⟨_, by rw [← subT_subT, hσ, hτ]⟩
theorem subT_kind {σ : Int → Tm Unit} {t : Tm Unit} (h : t.kind ≠ 0) : (subT σ t).kind = t.kind := by
  cases t with | mk k n s e aa => simp only [kind] at h; simp only [subT, if_neg h, kind]
mutual
/-- What stands for a variable is in it. -/
theorem subT_mem (σ : Int → Tm Unit) (n : Int) : ∀ t : Tm Unit, (∃ x ∈ t.flat, x.kind = 0 ∧ x.n = n) → leafy t → σ n ∈ (subT σ t).flat
  | .mk k m s e aa, h, hl => by
    by_cases hk : k = 0
    · have hv := hl (.mk k m s e aa) (by rw [flat_eq]; exact List.mem_cons_self ..) hk
      rw [hv] at h ⊢
      obtain ⟨x, hx, _, hn⟩ := h
      simp only [V, Tm.n, flat, flats, List.mem_cons, List.not_mem_nil, or_false] at hx
      subst hx
      simp only [Tm.n] at hn
      subst hn
      simp only [V, subT, if_pos, Tm.n]
      rw [flat_eq]; exact List.mem_cons_self ..
    · simp only [subT, if_neg hk, flat]
      refine List.mem_cons_of_mem _ ?_
      refine subTs_mem σ n aa ?_ (fun x hx => hl x (by rw [flat_eq]; exact List.mem_cons_of_mem _ hx))
      obtain ⟨x, hx, h0, hn⟩ := h
      rw [flat_eq] at hx
      rcases List.mem_cons.1 hx with rfl | hx
      · exact absurd h0 hk
      · exact ⟨x, hx, h0, hn⟩
theorem subTs_mem (σ : Int → Tm Unit) (n : Int) : ∀ l : List (Tm Unit), (∃ x ∈ flats l, x.kind = 0 ∧ x.n = n) → (∀ x ∈ flats l, x.kind = 0 → x = V x.n) → σ n ∈ flats (subTs σ l)
  | [], h, _ => by obtain ⟨x, hx, _⟩ := h; cases hx
  | y :: l, h, hl => by
    simp only [subTs, flats]
    obtain ⟨x, hx, h0, hn⟩ := h
    simp only [flats] at hx
    rcases List.mem_append.1 hx with hx | hx
    · exact List.mem_append_left _ (subT_mem σ n y ⟨x, hx, h0, hn⟩ (fun z hz => hl z (by simp only [flats]; exact List.mem_append_left _ hz)))
    · exact List.mem_append_right _ (subTs_mem σ n l ⟨x, hx, h0, hn⟩ (fun z hz => hl z (by simp only [flats]; exact List.mem_append_right _ hz)))
end
mutual
/-- Made alike by two: in each variable's place. -/
theorem subT_eq {σ τ : Int → Tm Unit} {n : Int} : ∀ {t : Tm Unit}, subT σ t = subT τ t → leafy t → numsIn t n → σ n = τ n
  | .mk k m s e aa, h, hl, hn => by
    by_cases hk : k = 0
    · have hv := hl (.mk k m s e aa) (by rw [flat_eq]; exact List.mem_cons_self ..) hk
      rw [hv] at h hn
      obtain ⟨x, hx, _, hn⟩ := hn
      simp only [V, Tm.n, flat, flats, List.mem_cons, List.not_mem_nil, or_false] at hx
      subst hx
      simp only [Tm.n] at hn
      subst hn
      simpa only [V, subT, if_pos, Tm.n] using h
    · simp only [subT, if_neg hk, Tm.mk.injEq, true_and] at h
      obtain ⟨x, hx, h0, hn⟩ := hn
      rw [flat_eq] at hx
      rcases List.mem_cons.1 hx with rfl | hx
      · exact absurd h0 hk
      · exact subTs_eq' h (fun x hx => hl x (by rw [flat_eq]; exact List.mem_cons_of_mem _ hx)) ⟨x, hx, h0, hn⟩
theorem subTs_eq' {σ τ : Int → Tm Unit} {n : Int} : ∀ {l : List (Tm Unit)}, subTs σ l = subTs τ l → (∀ x ∈ flats l, x.kind = 0 → x = V x.n) → (∃ x ∈ flats l, x.kind = 0 ∧ x.n = n) → σ n = τ n
  | [], _, _, h => by obtain ⟨x, hx, _⟩ := h; cases hx
  | y :: l, h, hl, hn => by
    simp only [subTs, List.cons.injEq] at h
    obtain ⟨x, hx, h0, hn⟩ := hn
    simp only [flats] at hx
    rcases List.mem_append.1 hx with hx | hx
    · exact subT_eq h.1 (fun z hz => hl z (by simp only [flats]; exact List.mem_append_left _ hz)) ⟨x, hx, h0, hn⟩
    · exact subTs_eq' h.2 (fun z hz => hl z (by simp only [flats]; exact List.mem_append_right _ hz)) ⟨x, hx, h0, hn⟩
end
/-- Numbered from 0 on. -/
def plainT (t : Tm Unit) : Tm Unit := fromT t 0
theorem fromT_inv {t : Tm Unit} (h : leafy t) (first : Int) : subT (fun n => V (t.vars.getD (n - first).toNat 0)) (fromT t first) = t := by
  unfold fromT ren
  rw [subT_subT]
  have : subT (fun n => subT (fun n => V (t.vars.getD (n - first).toNat 0)) (V (fromS t.vars first n))) t = subT V t := by
    refine subT_congr t (fun x hx hk => ?_)
    have hm := (vars_mem x.n).2 ⟨x, hx, hk, rfl⟩
    simp only [V, subT, if_pos]
    unfold fromS
    have e : (first + (posOf t.vars x.n : Int) - first).toNat = posOf t.vars x.n := by omega
    rw [e, List.getD_eq_getElem?_getD, posOf_mem hm]
    rfl
  rw [this, subT_V t h]
theorem alike_more {a b : Tm Unit} (ha : leafy a) (hb : leafy b) (h : plainT a = plainT b) : moreS a b = true := by
  refine (moreS_iff a b).2 ⟨fun n => subT (fun n => V (b.vars.getD (n - 0).toNat 0)) (V (fromS a.vars 0 n)), ?_⟩
  rw [← subT_subT]
  show subT _ (plainT a) = b
  rw [h]
  exact fromT_inv hb 0
theorem more_alike {a b : Tm Unit} (ha : leafy a) (hb : leafy b) (h : moreS a b = true) (k : moreS b a = true) : plainT a = plainT b := by
  obtain ⟨σ, hσ⟩ := (moreS_iff a b).1 h
  obtain ⟨τ, hτ⟩ := (moreS_iff b a).1 k
  have hcomp : subT (fun n => subT τ (σ n)) a = subT V a := by rw [← subT_subT, hσ, hτ, subT_V a ha]
  have key : ∀ n ∈ a.vars, subT τ (σ n) = V n := by
    intro n hn
    have hn' := (vars_mem n).1 hn
    clear hn h k hσ hτ hb
    exact subT_eq hcomp ha hn'
  have hvar : ∀ n ∈ a.vars, σ n = V (σ n).n := by
    intro n hn
    have h0 : (σ n).kind = 0 := by
      by_cases hk : (σ n).kind = 0
      · exact hk
      · have := congrArg kind (key n hn)
        rw [subT_kind hk] at this
        exact absurd this hk
    exact hb _ (by rw [← hσ]; exact subT_mem σ n a ((vars_mem n).1 hn) ha) h0
  have e : b = ren (fun n => (σ n).n) a := by
    rw [← hσ]
    exact subT_congr a (fun x hx hk => hvar x.n ((vars_mem _).2 ⟨x, hx, hk, rfl⟩))
  have hinj : InjOn (fun n => (σ n).n) a.vars := by
    intro m hm n hn hmn
    have h1 := key m hm
    have h2 := key n hn
    rw [hvar m hm] at h1
    rw [hvar n hn] at h2
    simp only at hmn
    rw [hmn, h2] at h1
    exact (congrArg Tm.n h1).symm
  rw [e]
  exact (fromT_ren ha hinj 0).symm
end Tm
end Go.Proofs.Ytoihjobdfjajfaa

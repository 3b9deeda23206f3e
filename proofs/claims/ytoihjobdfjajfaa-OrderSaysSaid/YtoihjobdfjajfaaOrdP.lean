/- The order of terms that may be: just alike ones are alike; what is asked first tells apart. No program in sight. -/
import Derived.Test.YtoihjobdfjajfaaBare
import Derived.Test.YtoihjobdfjajfaaTV1
namespace Go.Proofs.Ytoihjobdfjajfaa
set_option linter.unusedVariables false
set_option linter.unusedSimpArgs false

theorem orI_zero {a b : Int} : orI a b = 0 ↔ a = 0 ∧ b = 0 := by
  unfold orI
  by_cases h : a = 0 <;> simp [h]
theorem cmpS_zero' {x y : ByteArray} : cmpS x y = 0 ↔ x = y := by
  unfold cmpS
  rw [cmpL_zero]
  constructor
  · intro h
    cases x; cases y
    simp at h
    rw [h]
  · rintro rfl; rfl
/-- Of a kind that there is. -/
def kinds {α : Type} (t : Tm α) : Prop := ∀ x ∈ t.flat, x.kind ≤ 2
theorem good_kinds {α : Type} {t : Tm α} (h : goodB t = true) : kinds t := by
  intro x hx
  have h1 := good_ones h x hx
  unfold goodOneB at h1
  by_cases h0 : x.kind = 0
  · omega
  · by_cases h2 : x.kind = 1
    · omega
    · by_cases h3 : x.kind = 2
      · omega
      · simp [h0, h2, h3] at h1
namespace Tm
variable {α β : Type}
theorem place_inj {a : Tm α} {b : Tm β} (ha : a.kind ≤ 2) (hb : b.kind ≤ 2) (hp : place a = place b) : a.kind = b.kind := by
  unfold place at hp
  split at hp <;> split at hp <;> omega
theorem place_eq {a : Tm α} {b : Tm β} (hk : a.kind = b.kind) (hl : a.args.length = b.args.length) : place a = place b := by
  unfold place
  rw [hk, hl]
mutual
theorem cmp_zero : ∀ (a : Tm α) (b : Tm β), kinds a → kinds b → (cmp a b = 0 ↔ a.bare = b.bare)
  | .mk k n s e aa, .mk k' n' s' e' bs, ha, hb => by
    have h1 := cmps_zero aa bs (fun x hx => ha x (by simp only [flat]; exact List.mem_cons_of_mem _ hx)) (fun x hx => hb x (by simp only [flat]; exact List.mem_cons_of_mem _ hx))
    have k1 : k ≤ 2 := ha (.mk k n s e aa) (by simp only [flat]; exact List.mem_cons_self ..)
    have k2 : k' ≤ 2 := hb (.mk k' n' s' e' bs) (by simp only [flat]; exact List.mem_cons_self ..)
    simp only [cmp, orI_zero, h1, bare, cmpHead, cmpI_zero, cmpS_zero']
    constructor
    · rintro ⟨⟨p, q, r, t⟩, u⟩
      have := place_inj (a := Tm.mk k n s e aa) (b := Tm.mk k' n' s' e' bs) k1 k2 p
      simp only [kind, Tm.n, name] at this q t
      subst this; subst q; subst t
      rw [u]
    · intro h
      injection h with h1 h2 h3 h4 h5
      have hl : aa.length = bs.length := by have := congrArg List.length h5; rwa [bares_length, bares_length] at this
      subst h1; subst h2; subst h3
      refine ⟨⟨?_, rfl, ?_, rfl⟩, h5⟩
      · exact place_eq rfl hl
      · simp only [args, hl]
theorem cmps_zero : ∀ (l : List (Tm α)) (m : List (Tm β)), (∀ x ∈ flats l, x.kind ≤ 2) → (∀ x ∈ flats m, x.kind ≤ 2) → (cmps l m = 0 ↔ bares l = bares m)
  | [], [], _, _ => by simp [cmps, bares]
  | [], _ :: _, _, _ => by simp [cmps, bares]
  | _ :: _, [], _, _ => by simp [cmps, bares]
  | x :: l, y :: m, ha, hb => by
    have h1 := cmp_zero x y (fun z hz => ha z (by simp only [flats]; exact List.mem_append_left _ hz)) (fun z hz => hb z (by simp only [flats]; exact List.mem_append_left _ hz))
    have h2 := cmps_zero l m (fun z hz => ha z (by simp only [flats]; exact List.mem_append_right _ hz)) (fun z hz => hb z (by simp only [flats]; exact List.mem_append_right _ hz))
    simp only [cmps, orI_zero, h1, h2, bares, List.cons.injEq]
end
theorem place_kind {t : Tm α} (h : goodB t = true) : (place t = 0 ∧ t.kind = 0 ∧ t.name = ByteArray.empty) ∨ (place t = 1 ∧ t.kind = 1 ∧ t.name = ByteArray.empty) ∨ (place t = 2 ∧ t.kind = 2 ∧ t.n = 0 ∧ t.args.length = 0) ∨ (place t = 3 ∧ t.kind = 2 ∧ t.n = 0 ∧ 0 < t.args.length) := by
  have h1 := good_ones h t (by rw [flat_eq]; exact List.mem_cons_self ..)
  unfold goodOneB at h1
  unfold place
  by_cases h0 : t.kind = 0
  · simp [h0] at h1 ⊢
    exact (bytes_nil _).1 h1.2.2.1
  · by_cases h2 : t.kind = 1
    · simp [h2] at h1 ⊢
      exact (bytes_nil _).1 h1.1
    · by_cases h3 : t.kind = 2
      · simp [h3] at h1 ⊢
        by_cases h4 : t.args.length = 0
        · have : t.args = [] := List.eq_nil_of_length_eq_zero h4
          simp [this, h1.1]
        · have : t.args ≠ [] := fun e => h4 (by rw [e]; rfl)
          simp [this, h1.1]
          omega
      · simp [h0, h2, h3] at h1
theorem cmpI_lt (x y : Int) : (cmpI x y < 0 ↔ x < y) ∧ (x ≠ y → cmpI x y ≠ 0) := by
  refine ⟨?_, fun h e => h (cmpI_zero.1 e)⟩
  unfold cmpI
  by_cases h : x < y
  · simp [h]
  · by_cases h' : y < x <;> simp [h, h']
theorem orI_first {a b : Int} (h : a ≠ 0) : orI a b = a := by unfold orI; rw [if_pos h]
theorem orI_next {a b : Int} (h : a = 0) : orI a b = b := by unfold orI; rw [if_neg (by simpa using h)]
/-- What OrderKeys asks. -/
theorem keys_1 {a : Tm α} {b : Tm β} (h : place a ≠ place b) : (cmp a b < 0 ↔ place a < place b) ∧ cmp a b ≠ 0 := by
  have h1 := cmpI_lt (place a) (place b)
  have h2 := h1.2 h
  rw [cmp_eq, cmpHead, orI_first (b := cmps a.args b.args) (by rw [orI_first h2]; exact h2), orI_first h2]
  exact ⟨h1.1, h2⟩
theorem keys_2 {a : Tm α} {b : Tm β} (ha : goodB a = true) (hb : goodB b = true) (h : place a = place b) (h3 : place a = 3) (hc : a.args.length ≠ b.args.length) : (cmp a b < 0 ↔ a.args.length < b.args.length) ∧ cmp a b ≠ 0 := by
  have ka := place_kind ha
  have kb := place_kind hb
  have e1 : cmpI (place a) (place b) = 0 := cmpI_zero.2 h
  have e2 : cmpI a.n b.n = 0 := cmpI_zero.2 (by omega)
  have h1 := cmpI_lt (a.args.length : Int) (b.args.length : Int)
  have h2 := h1.2 (by omega)
  have hh : cmpHead a b = cmpI (a.args.length : Int) (b.args.length : Int) := by
    rw [cmpHead, orI_next e1, orI_next e2, orI_first h2]
  rw [cmp_eq, orI_first (by rw [hh]; exact h2), hh]
  exact ⟨by rw [h1.1]; omega, h2⟩
theorem keys_3 {a : Tm α} {b : Tm β} (ha : goodB a = true) (hb : goodB b = true) (h : place a = place b) (hc : place a = 3 → a.args.length = b.args.length) (hn : a.name ≠ b.name) : cmp a b = cmpS a.name b.name ∧ cmp a b ≠ 0 := by
  have ka := place_kind ha
  have kb := place_kind hb
  have e1 : cmpI (place a) (place b) = 0 := cmpI_zero.2 h
  have e4 : cmpS a.name b.name ≠ 0 := fun e => hn (cmpS_zero'.1 e)
  have e2 : cmpI a.n b.n = 0 := by
    apply cmpI_zero.2
    rcases ka with ⟨p, q, r⟩ | ⟨p, q, r⟩ | ⟨p, q, r, s⟩ | ⟨p, q, r, s⟩ <;> rcases kb with ⟨p', q', r'⟩ | ⟨p', q', r'⟩ | ⟨p', q', r', s'⟩ | ⟨p', q', r', s'⟩ <;> first
      | omega
      | exact absurd (r.trans r'.symm) hn
  have e3 : cmpI (a.args.length : Int) (b.args.length : Int) = 0 := by
    apply cmpI_zero.2
    rcases ka with ⟨p, q, r⟩ | ⟨p, q, r⟩ | ⟨p, q, r, s⟩ | ⟨p, q, r, s⟩ <;> rcases kb with ⟨p', q', r'⟩ | ⟨p', q', r'⟩ | ⟨p', q', r', s'⟩ | ⟨p', q', r', s'⟩ <;> first
      | omega
      | exact absurd (r.trans r'.symm) hn
      | (have := hc p; omega)
  have hh : cmpHead a b = cmpS a.name b.name := by
    rw [cmpHead, orI_next e1, orI_next e2, orI_next e3]
  rw [cmp_eq, orI_first (by rw [hh]; exact e4), hh]
  exact ⟨rfl, e4⟩
theorem keys_4 {a : Tm α} {b : Tm β} (ha : goodB a = true) (hb : goodB b = true) (h : place a = place b) (hn : a.name = b.name) (h2 : place a = 2) : cmp a b = 0 := by
  have ka := place_kind ha
  have kb := place_kind hb
  have la : a.args.length = 0 := by omega
  have lb : b.args.length = 0 := by omega
  have e1 : a.args = [] := List.eq_nil_of_length_eq_zero la
  have e2 : b.args = [] := List.eq_nil_of_length_eq_zero lb
  rw [cmp_eq, orI_zero, cmpHead, orI_zero, orI_zero, orI_zero, e1, e2]
  exact ⟨⟨cmpI_zero.2 h, cmpI_zero.2 (by omega), cmpI_zero.2 rfl, cmpS_zero'.2 hn⟩, rfl⟩
/-- What OrderTotal asks. -/
theorem total {a b c : Tm α} (ha : goodB a = true) (hb : goodB b = true) (hc : goodB c = true) :
    cmp b a = - cmp a b ∧ ((cmp a b = 0) ↔ same a b = true) ∧ (cmp a b > 0 ∨ cmp b c > 0 ∨ cmp a c ≤ 0) ∧ (cmp a b ≥ 0 ∨ cmp b c > 0 ∨ cmp a c < 0) ∧ cmp a a = 0 := by
  refine ⟨cmp_anti a b, ?_, ?_, ?_, cmp_refl a⟩
  · rw [same_iff, cmp_zero a b (good_kinds ha) (good_kinds hb)]
  · have := cmp_le a b c
    omega
  · have := cmp_le a b c
    omega
end Tm
end Go.Proofs.Ytoihjobdfjajfaa

/- One ahead of another, plainly: the order of terms. No program in sight. -/
import Derived.Test.YtoihjobdfjajfaaTm
namespace Go.Proofs.Ytoihjobdfjajfaa
set_option linter.unusedVariables false
set_option linter.unusedSimpArgs false

/-- -1, 0, 1. -/
def cmpI (x y : Int) : Int := if x < y then -1 else if y < x then 1 else 0
/-- Texts, byte by byte. -/
def cmpL : List UInt8 → List UInt8 → Int
  | [], [] => 0
  | [], _ :: _ => -1
  | _ :: _, [] => 1
  | x :: l, y :: m => if x < y then -1 else if y < x then 1 else cmpL l m
def cmpS (x y : ByteArray) : Int := cmpL x.data.toList y.data.toList
/-- The first that is not 0. -/
def orI (a b : Int) : Int := if a ≠ 0 then a else b

/-- A three-way order on whatever is asked. -/
structure Three {α : Type} (P : α → Prop) (f : α → α → Int) : Prop where
  range : ∀ a b, f a b = -1 ∨ f a b = 0 ∨ f a b = 1
  anti : ∀ a b, P a → P b → f b a = - f a b
  refl : ∀ a, f a a = 0
  le : ∀ a b c, P a → P b → P c → f a b ≤ 0 → f b c ≤ 0 → f a c ≤ 0 ∧ (f a b < 0 ∨ f b c < 0 → f a c < 0)
theorem cmpI_three : Three (fun _ : Int => True) cmpI := by
  refine ⟨fun a b => ?_, fun a b _ _ => ?_, fun a => ?_, fun a b c _ _ _ => ?_⟩ <;> unfold cmpI
  · by_cases h : a < b
    · simp [h]
    · by_cases h' : b < a <;> simp [h, h']
  · by_cases h : a < b
    · have : ¬ b < a := by omega
      simp [h, this]
    · by_cases h' : b < a <;> simp [h, h']
  · simp
  · by_cases h1 : a < b <;> by_cases h2 : b < a <;> by_cases h3 : b < c <;> by_cases h4 : c < b <;> by_cases h5 : a < c <;> by_cases h6 : c < a <;> simp [h1, h2, h3, h4, h5, h6] <;> omega
theorem cmpI_zero {x y : Int} : cmpI x y = 0 ↔ x = y := by
  unfold cmpI
  by_cases h : x < y
  · simp [h]; omega
  · by_cases h' : y < x
    · simp [h, h']; omega
    · simp [h, h']; omega
theorem cmpL_range (x y : List UInt8) : cmpL x y = -1 ∨ cmpL x y = 0 ∨ cmpL x y = 1 := by
  induction x generalizing y with
  | nil => cases y <;> simp [cmpL]
  | cons a l ih =>
    cases y with
    | nil => simp [cmpL]
    | cons b m =>
      simp only [cmpL]
      by_cases h : a < b
      · simp [h]
      · by_cases h' : b < a
        · simp [h, h']
        · simp [h, h']; exact ih m
theorem cmpL_anti (x y : List UInt8) : cmpL y x = - cmpL x y := by
  induction x generalizing y with
  | nil => cases y <;> simp [cmpL]
  | cons a l ih =>
    cases y with
    | nil => simp [cmpL]
    | cons b m =>
      simp only [cmpL]
      by_cases h : a < b
      · have : ¬ b < a := by rw [UInt8.lt_iff_toNat_lt] at *; omega
        simp [h, this]
      · by_cases h' : b < a
        · simp [h, h']
        · simp [h, h']; exact ih m
theorem cmpL_zero {x y : List UInt8} : cmpL x y = 0 ↔ x = y := by
  induction x generalizing y with
  | nil => cases y <;> simp [cmpL]
  | cons a l ih =>
    cases y with
    | nil => simp [cmpL]
    | cons b m =>
      simp only [cmpL, List.cons.injEq]
      by_cases h : a < b
      · simp [h]; intro e; subst e; rw [UInt8.lt_iff_toNat_lt] at h; omega
      · by_cases h' : b < a
        · simp [h, h']; intro e; subst e; exact absurd h' h
        · have : a = b := by rw [UInt8.lt_iff_toNat_lt] at *; exact UInt8.toNat_inj.1 (by omega)
          simp [h, h', ih, this]
theorem cmpL_le (x y z : List UInt8) : cmpL x y ≤ 0 → cmpL y z ≤ 0 → cmpL x z ≤ 0 ∧ (cmpL x y < 0 ∨ cmpL y z < 0 → cmpL x z < 0) := by
  induction x generalizing y z with
  | nil => cases y <;> cases z <;> simp [cmpL]
  | cons a l ih =>
    cases y with
    | nil => simp [cmpL]
    | cons b m =>
      cases z with
      | nil => simp [cmpL]
      | cons c n =>
        simp only [cmpL, UInt8.lt_iff_toNat_lt]
        have := ih m n
        by_cases h1 : a.toNat < b.toNat <;> by_cases h2 : b.toNat < a.toNat <;> by_cases h3 : b.toNat < c.toNat <;> by_cases h4 : c.toNat < b.toNat <;> by_cases h5 : a.toNat < c.toNat <;> by_cases h6 : c.toNat < a.toNat <;> simp [h1, h2, h3, h4, h5, h6] <;> first | omega | exact this
theorem cmpS_three : Three (fun _ : ByteArray => True) cmpS :=
  ⟨fun a b => cmpL_range _ _, fun a b _ _ => cmpL_anti _ _, fun a => cmpL_zero.2 rfl, fun a b c _ _ _ => cmpL_le _ _ _⟩
theorem cmpS_zero {x y : ByteArray} : cmpS x y = 0 ↔ x = y := by
  unfold cmpS
  rw [cmpL_zero]
  constructor
  · intro h
    cases x; cases y
    congr 1
    exact Array.toList_inj.1 h
  · rintro rfl; rfl
theorem Three.pull {α β : Type} {P : β → Prop} {f : β → β → Int} (h : Three P f) (g : α → β) : Three (fun a => P (g a)) (fun a b => f (g a) (g b)) :=
  ⟨fun _ _ => h.range _ _, fun _ _ p q => h.anti _ _ p q, fun _ => h.refl _, fun _ _ _ p q r => h.le _ _ _ p q r⟩
theorem Three.or {α : Type} {P : α → Prop} {f g : α → α → Int} (h : Three P f) (k : Three P g) : Three P (fun a b => orI (f a b) (g a b)) := by
  refine ⟨fun a b => ?_, fun a b p q => ?_, fun a => ?_, fun a b c p q r => ?_⟩ <;> simp only [orI]
  · have := h.range a b; have := k.range a b
    split <;> omega
  · rw [h.anti a b p q, k.anti a b p q]
    by_cases e : f a b = 0 <;> simp [e]
  · rw [h.refl]; simp; exact k.refl a
  · have h1 := h.le a b c p q r; have h2 := k.le a b c p q r
    have h3 := h.le c b a r q p; have h4 := h.anti a b p q; have h5 := h.anti b c q r; have h6 := h.anti a c p r
    by_cases e1 : f a b = 0 <;> by_cases e2 : f b c = 0 <;> by_cases e3 : f a c = 0 <;> simp only [e1, e2, e3, ne_eq, not_true_eq_false, not_false_eq_true, if_true, if_false] <;> omega

namespace Tm
variable {α : Type}
def place (t : Tm α) : Int := if (t.kind = 2 ∧ t.args.length = 0) ∨ t.kind < 2 then t.kind else 3
/-- What tells two apart but for their args. -/
def cmpHead {β : Type} (a : Tm α) (b : Tm β) : Int := orI (cmpI (place a) (place b)) (orI (cmpI a.n b.n) (orI (cmpI a.args.length b.args.length) (cmpS a.name b.name)))
mutual
def cmp {β : Type} : Tm α → Tm β → Int
  | .mk k n s e as, .mk k' n' s' e' bs => orI (cmpHead (.mk k n s e as) (.mk k' n' s' e' bs)) (cmps as bs)
/-- As slices.CompareFunc. -/
def cmps {β : Type} : List (Tm α) → List (Tm β) → Int
  | [], [] => 0
  | [], _ :: _ => -1
  | _ :: _, [] => 1
  | x :: l, y :: m => orI (cmp x y) (cmps l m)
end
theorem cmp_eq {β : Type} (a : Tm α) (b : Tm β) : cmp a b = orI (cmpHead a b) (cmps a.args b.args) := by cases a; cases b; rfl
theorem cmpHead_three : Three (fun _ : Tm α => True) (cmpHead (α := α) (β := α)) :=
  (cmpI_three.pull place).or ((cmpI_three.pull n).or ((cmpI_three.pull (fun t : Tm α => (t.args.length : Int))).or (cmpS_three.pull name)))
mutual
theorem cmp_range : ∀ a b : Tm α, cmp a b = -1 ∨ cmp a b = 0 ∨ cmp a b = 1
  | .mk k n s e as, .mk k' n' s' e' bs => by
    have h := cmps_range as bs
    have h2 := cmpHead_three.range (Tm.mk k n s e as) (Tm.mk k' n' s' e' bs)
    simp only [cmp, orI]
    split <;> assumption
theorem cmps_range : ∀ a b : List (Tm α), cmps a b = -1 ∨ cmps a b = 0 ∨ cmps a b = 1
  | [], [] => by simp [cmps]
  | [], _ :: _ => by simp [cmps]
  | _ :: _, [] => by simp [cmps]
  | x :: l, y :: m => by
    have h := cmp_range x y
    have h2 := cmps_range l m
    simp only [cmps, orI]
    split <;> assumption
end
mutual
theorem cmp_refl : ∀ a : Tm α, cmp a a = 0
  | .mk k n s e as => by
    have h := cmps_refl as
    have h2 := cmpHead_three.refl (Tm.mk k n s e as)
    simp only [cmp, orI, h2, h]; simp
theorem cmps_refl : ∀ a : List (Tm α), cmps a a = 0
  | [] => by simp [cmps]
  | x :: l => by simp only [cmps, orI, cmp_refl x, cmps_refl l]; simp
end
mutual
theorem cmp_anti : ∀ a b : Tm α, cmp b a = - cmp a b
  | .mk k n s e as, .mk k' n' s' e' bs => by
    have h := cmps_anti as bs
    have h2 := cmpHead_three.anti (Tm.mk k n s e as) (Tm.mk k' n' s' e' bs) trivial trivial
    simp only [cmp, orI, h2, h]
    split <;> split <;> omega
theorem cmps_anti : ∀ a b : List (Tm α), cmps b a = - cmps a b
  | [], [] => by simp [cmps]
  | [], _ :: _ => by simp [cmps]
  | _ :: _, [] => by simp [cmps]
  | x :: l, y :: m => by
    have h := cmp_anti x y
    have h2 := cmps_anti l m
    simp only [cmps, orI, h, h2]
    split <;> split <;> omega
end
mutual
theorem cmp_le : ∀ a b c : Tm α, cmp a b ≤ 0 → cmp b c ≤ 0 → cmp a c ≤ 0 ∧ (cmp a b < 0 ∨ cmp b c < 0 → cmp a c < 0)
  | .mk k n s e as, .mk k' n' s' e' bs, .mk k'' n'' s'' e'' cs => by
    have i := cmps_le as bs cs
    have h1 := cmpHead_three.le (Tm.mk k n s e as) (Tm.mk k' n' s' e' bs) (Tm.mk k'' n'' s'' e'' cs) trivial trivial trivial
    have h3 := cmpHead_three.le (Tm.mk k'' n'' s'' e'' cs) (Tm.mk k' n' s' e' bs) (Tm.mk k n s e as) trivial trivial trivial
    have h4 := cmpHead_three.anti (Tm.mk k n s e as) (Tm.mk k' n' s' e' bs) trivial trivial
    have h5 := cmpHead_three.anti (Tm.mk k' n' s' e' bs) (Tm.mk k'' n'' s'' e'' cs) trivial trivial
    have h6 := cmpHead_three.anti (Tm.mk k n s e as) (Tm.mk k'' n'' s'' e'' cs) trivial trivial
    simp only [cmp, orI]
    generalize cmpHead (Tm.mk k n s e as) (Tm.mk k' n' s' e' bs) = u at *
    generalize cmpHead (Tm.mk k' n' s' e' bs) (Tm.mk k'' n'' s'' e'' cs) = v at *
    generalize cmpHead (Tm.mk k n s e as) (Tm.mk k'' n'' s'' e'' cs) = x at *
    by_cases e1 : u = 0 <;> by_cases e2 : v = 0 <;> by_cases e3 : x = 0 <;> simp only [e1, e2, e3, ne_eq, not_true_eq_false, not_false_eq_true, if_true, if_false] <;> omega
theorem cmps_le : ∀ a b c : List (Tm α), cmps a b ≤ 0 → cmps b c ≤ 0 → cmps a c ≤ 0 ∧ (cmps a b < 0 ∨ cmps b c < 0 → cmps a c < 0)
  | [], [], [] => by simp [cmps]
  | [], [], _ :: _ => by simp [cmps]
  | [], _ :: _, [] => by simp [cmps]
  | [], _ :: _, _ :: _ => by simp [cmps]
  | _ :: _, [], _ => by simp [cmps]
  | _ :: _, _ :: _, [] => by simp [cmps]
  | x :: l, y :: m, z :: o => by
    have i := cmps_le l m o
    have h1 := cmp_le x y z
    have h3 := cmp_le z y x
    have h4 := cmp_anti x y
    have h5 := cmp_anti y z
    have h6 := cmp_anti x z
    simp only [cmps, orI]
    generalize cmp x y = u at *
    generalize cmp y z = v at *
    generalize cmp x z = q at *
    by_cases e1 : u = 0 <;> by_cases e2 : v = 0 <;> by_cases e3 : q = 0 <;> simp only [e1, e2, e3, ne_eq, not_true_eq_false, not_false_eq_true, if_true, if_false] <;> omega
end
end Tm
end Go.Proofs.Ytoihjobdfjajfaa

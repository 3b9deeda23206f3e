/- Good: whether a term may be. -/
import Derived.Test.YtoihjobdfjajfaaDepth
namespace Go.Proofs.Ytoihjobdfjajfaa
set_option linter.unusedVariables false
set_option linter.unusedSimpArgs false
open Go.RowKit

theorem tell_all {α : Type} (f : α → Bool) (told l : List α) : (tell (fun _ x => f x) told l).1 = l.all f := by
  induction l generalizing told with
  | nil => rfl
  | cons x l ih =>
    rw [tell_cons]
    by_cases h : f x = true
    · rw [if_pos h, ih, List.all_cons, h, Bool.true_and]
    · rw [if_neg h, List.all_cons]
      simp [h]
def goodB {α : Type} (t : Tm α) : Bool := decide (t.size ≤ 2000) && (decide (t.depth ≤ 64) && t.flat.all goodOneB)
theorem enter129 (args : Array Value) (w : World) : (callFunc 129 args).run Try.prog w = .ok (.enter 129 args) w := by kernel_rfl
theorem told_good (p : Nat → Prop) (t : LT) : Told p 129 #[] t (fun _ => False) (fun M _ _ => ∀ k, ¬ M k) (fun _ x => goodOneB x) :=
  ⟨enter129, fun M l w k h hk => absurd hk (h k), fun M T l w w' h _ _ => h, fun M l x r w h _ hF hx => by
    rw [show #[x.val] ++ (#[] : Array Value) = #[x.val] from rfl]
    refine (goodOne129 x w hx).mono ?_
    rintro e w' ⟨rfl, ht⟩
    exact ⟨rfl, fun _ => False, fun _ f => f, ht.mono (fun _ _ f => False.elim f), fun _ f => False.elim f⟩⟩
theorem prefix_size {t : LT} {l r : List LT} {x : LT} (h : t.flat = l ++ x :: r) : l.length + 1 ≤ t.size := by
  have := congrArg List.length h
  rw [Tm.flat_length] at this
  simp at this; omega
theorem eachGood {p : Nat → Prop} {t : LT} {w : World} (ht : t.In p w) (hs : slim t) (h2 : t.size ≤ 2000) :
    Calls Try.prog 124 #[t.val, .func (.func 129) #[] #[]] w fun e w' => e = .returned (.bool (t.flat.all goodOneB)) ∧ Turned (fun _ => False) w w' := by
  refine (each124 (told_good p t) ht (fun _ _ f => f) (M := fun _ => False) (fun _ f => f) (fun _ f => f) hs (fun l x r h _ => by have := prefix_size h; omega)).mono ?_
  rintro e w' ⟨rfl, M', _, _, hT⟩
  exact ⟨by rw [tell_all], hT⟩

set_option maxHeartbeats 400000 in
theorem good38 {p : Nat → Prop} {t : LT} {w : World} (ht : t.In p w) (hs : slim t) :
    Calls Try.prog 38 #[t.val] w fun e w' => e = .returned (.bool (goodB t)) ∧ Turned (fun _ => False) w w' := by
  obtain ⟨bx, hbx⟩ : ∃ bx : Obj, bx = .cells #[.int .i64 t.kind, .int .i64 t.n, .string t.name, .slice t.at_.1 t.args.length t.at_.2] 27 := ⟨_, rfl⟩
  have T1 := (Turned.refl (fun _ => False) w).alloc bx
  have hin : ∀ W, Turned (fun _ => False) (w.alloc bx) W → t.In p W := fun W h => ht.turned0 (T1.trans h)
  have hc : ∀ W, Turned (fun _ => False) (w.alloc bx) W → W.cell? ⟨w.heap.size, 0, none⟩ = some (.int .i64 t.kind) ∧ W.cell? ⟨w.heap.size, 1, none⟩ = some (.int .i64 t.n) ∧ W.cell? ⟨w.heap.size, 2, none⟩ = some (.string t.name) ∧ W.cell? ⟨w.heap.size, 3, none⟩ = some (.slice t.at_.1 t.args.length t.at_.2) := by
    intro W h
    subst hbx
    obtain ⟨hb, _⟩ := box4 h
    obtain ⟨c0, c1, c2, c3, _⟩ := cells4 hb
    exact ⟨c0, c1, c2, c3⟩
  have h1 := fun W h => size35 (hin W h) hs
  have h2 := fun W h => depth36 (hin W h)
  have h3 := fun h2 W h => eachGood (hin W h) hs h2
  rw [LT.val_eq] at h1 h2 h3 ⊢
  have H1 := Lib.hid h1
  have H2 := Lib.hid h2
  have H3 := Lib.hid h3
  have HC := Lib.hid hc
  have HT := Lib.hid T1
  subst hbx
  clear h1 h2 h3 hc T1 hin
  by_cases s1 : t.size ≤ 2000
  · by_cases s2 : t.depth ≤ 64
    · have s1' : decide (((min t.size 2001 : Nat) : Int) ≤ 2000) = true := by simp; omega
      have s2' : decide (((min t.depth 65 : Nat) : Int) ≤ 64) = true := by simp; omega
      have HR : Hid (goodB t = t.flat.all goodOneB) := by show _ = _; unfold goodB; simp [s1, s2]
      go_enter Try.func38, Try.ntmps38
      go_wp2_with (first
        | (go_at_call 35; refine (H1.out _ (Turned.refl _ _)).mono ?_; rintro e w2 ⟨rfl, T2⟩; obtain ⟨c0, c1, c2, c3⟩ := HC.out _ T2)
        | (go_at_call 36; refine (H2.out _ T2).mono ?_; rintro e w3 ⟨rfl, T3⟩; obtain ⟨d0, d1, d2, d3⟩ := HC.out _ (T2.trans T3))
        | (go_at_call 124; refine (H3.out s1 _ (T2.trans T3)).mono ?_; rintro e w4 ⟨rfl, T4⟩))
      go_ret
      exact ⟨ret_bool HR.out.symm, HT.out.trans (T2.trans (T3.trans T4))⟩
    · have s1' : decide (((min t.size 2001 : Nat) : Int) ≤ 2000) = true := by simp; omega
      have s2' : decide (((min t.depth 65 : Nat) : Int) ≤ 64) = false := by simp; omega
      have HR : Hid (goodB t = false) := by show _ = _; unfold goodB; simp [s2]
      go_enter Try.func38, Try.ntmps38
      go_wp2_with (first
        | (go_at_call 35; refine (H1.out _ (Turned.refl _ _)).mono ?_; rintro e w2 ⟨rfl, T2⟩; obtain ⟨c0, c1, c2, c3⟩ := HC.out _ T2)
        | (go_at_call 36; refine (H2.out _ T2).mono ?_; rintro e w3 ⟨rfl, T3⟩; obtain ⟨d0, d1, d2, d3⟩ := HC.out _ (T2.trans T3)))
      go_ret
      exact ⟨ret_bool HR.out.symm, HT.out.trans (T2.trans T3)⟩
  · have s1' : decide (((min t.size 2001 : Nat) : Int) ≤ 2000) = false := by simp; omega
    have HR : Hid (goodB t = false) := by show _ = _; unfold goodB; simp [s1]
    go_enter Try.func38, Try.ntmps38
    go_wp2_with (go_at_call 35; refine (H1.out _ (Turned.refl _ _)).mono ?_; rintro e w2 ⟨rfl, T2⟩; obtain ⟨c0, c1, c2, c3⟩ := HC.out _ T2)
    go_ret
    exact ⟨ret_bool HR.out.symm, HT.out.trans T2⟩
end Go.Proofs.Ytoihjobdfjajfaa

/- Lemmas for the statements of tables: what a table in memory is, what its calls do to it. -/
import Derived.Test.YtifideminojgjaaTabsC
namespace Go.Proofs.Ytifideminojgjaa
set_option linter.unusedVariables false
set_option linter.unusedSimpArgs false
open Go.RowKit Go.Maps

theorem Turned.of_mine {w w1 w2 : World} {tb mb : Nat} {lv : Value} (h : Turned (fun _ => False) w w1) (ht : Turned (Mine tb mb lv) w1 w2) (hf : ∀ k, Mine tb mb lv k → w.heap.size ≤ k) : Turned (fun _ => False) w w2 :=
  h.step ht (fun i hi hm => by have := hf i hm; omega)

theorem Tab.fresh {K : Type} {P : Program} {kt tt size : TypeId} {enc : K → List Value} {kl : K → Lit} {w : World} {B tb mb room : Nat} {lv : Value} {l : List K} (h : Tab P kt tt size enc kl w B tb mb room lv l) : ∀ k, Mine tb mb lv k → B ≤ k := by
  rintro k (rfl | rfl | e)
  · exact h.base
  · exact h.baseM
  · exact h.baseR k e

theorem Tab.old {K : Type} {P : Program} {kt tt size : TypeId} {enc : K → List Value} {kl : K → Lit} {w : World} {B tb mb room : Nat} {lv : Value} {l : List K} (h : Tab P kt tt size enc kl w B tb mb room lv l) : ∀ k, Mine tb mb lv k → k < w.heap.size := by
  obtain ⟨D, ho, _⟩ := h.maps
  rintro k (rfl | rfl | e)
  · exact (Array.getElem?_eq_some_iff.1 h.blk).1
  · exact ho.lt
  · exact h.row.lt k e

/-- A row of the caller's stays apart from a table whose own row has moved. -/
theorem apart_moved {tb mb : Nat} {lv lv' v : Value} {w : World} (h : ∀ k, v.ownBlock = some k → ¬ Mine tb mb lv k) (hv : ∀ k, v.ownBlock = some k → k < w.heap.size)
    (hm : lv'.ownBlock = lv.ownBlock ∨ ∃ g, lv'.ownBlock = some g ∧ w.heap.size ≤ g) : ∀ k, v.ownBlock = some k → ¬ Mine tb mb lv' k := by
  rintro k e (rfl | rfl | e')
  · exact h k e (.inl rfl)
  · exact h k e (.inr (.inl rfl))
  · rcases hm with hm | ⟨g, hg, hle⟩
    · exact h k e (.inr (.inr (by rw [← hm]; exact e')))
    · have := hv k e
      rw [e'] at hg
      injection hg with hg
      omega

def sA : ByteArray := { data := #[97] }
def sB : ByteArray := { data := #[98] }

set_option maxHeartbeats 400000 in
theorem awake3 (w : World) : Calls Try.prog 12 #[] w fun e w' => e = .returned (.bool true) ∧ Turned (fun _ => False) w w' := by
  go_enter Try.func12, Try.ntmps12
  go_wp2_with fail
  refine (newS 9 w w.heap.size (Nat.le_refl _)).mono ?_
  rintro e w1 ⟨rfl, h1, T1⟩
  go_wp2_with fail
  refine (putS_new h1 sA (by decide) (by simp) (by decide) T1.size).mono ?_
  rintro e w2 ⟨rfl, lv2, h2, T2, _⟩
  go_wp2_with fail
  refine (putS_new h2 sB (by decide) (by simp [sA, sB]) (by decide) (by have := T1.size; have := T2.size; omega)).mono ?_
  rintro e w3 ⟨rfl, lv3, h3, T3, _⟩
  go_wp2_with fail
  refine (putS_hit h3 sA (by decide) 0 rfl).mono ?_
  rintro e w4 ⟨rfl, rfl⟩
  go_wp2_with fail
  refine (lenS h3).mono ?_
  rintro e w4 ⟨rfl, rfl⟩
  go_wp2
  go_ret
  exact ⟨rfl, (T1.of_mine T2 h1.fresh).of_mine T3 h2.fresh⟩
end Go.Proofs.Ytifideminojgjaa

/- What the calls of a stack do. -/
import Derived.Test.YtifideminojgjaaStks
import Derived.Test.YtifideminojgjaaProg
import Derived.LoopTactic
import Derived.BigRegion
namespace Go.Proofs.Ytifideminojgjaa
open Go.RowKit
set_option linter.unusedVariables false
set_option linter.unusedSimpArgs false

theorem stkInfoI : (Try.prog.info? 3).map (fun i => (i.zero, i.size, i.bytes)) = some (some (.int .i64 0), 1, 8) := by kernel_rfl

/-- What stands at place p when k rounds of the reversing are over. -/
def revAtI (xs : List Int) (k p : Nat) : Option Int := if p < k ∨ xs.length - k ≤ p then xs[xs.length - 1 - p]? else xs[p]?

theorem rev_stepI {xs ys : List Int} {k y : Nat} {p q : Int} (hl : ys.length = xs.length) (hy : y + k + 1 = xs.length) (hky : k < y) (hys : ∀ r, r < xs.length → ys[r]? = revAtI xs k r) (hp : ys[k]? = some p) (hq : ys[y]? = some q) :
    ∀ r, r < xs.length → ((ys.set k q).set y p)[r]? = revAtI xs (k + 1) r := by
  intro r hr
  have hk := hys k (by omega)
  have hy' := hys y (by omega)
  rw [hp] at hk
  rw [hq] at hy'
  unfold revAtI at hk hy' ⊢
  rw [if_neg (by omega)] at hk hy'
  by_cases e1 : r = y
  · subst e1
    rw [List.getElem?_set_self (by simp; omega), if_pos (by omega), show xs.length - 1 - r = k from by omega]
    exact hk
  · rw [List.getElem?_set_ne (by omega)]
    by_cases e2 : r = k
    · subst e2
      rw [List.getElem?_set_self (by omega), if_pos (by omega), show xs.length - 1 - r = y from by omega]
      exact hy'
    · rw [List.getElem?_set_ne (by omega), hys r hr]
      unfold revAtI
      by_cases hc : r < k ∨ xs.length - k ≤ r
      · rw [if_pos hc, if_pos (by omega)]
      · rw [if_neg hc, if_neg (by omega)]

theorem rev_endI {xs ys : List Int} {k : Nat} (hl : ys.length = xs.length) (hk1 : 2 * k ≤ xs.length + 1) (hk2 : xs.length ≤ 2 * k + 1) (hys : ∀ r, r < xs.length → ys[r]? = revAtI xs k r) : ys = xs.reverse := by
  apply List.ext_getElem?
  intro r
  by_cases hr : r < xs.length
  · rw [hys r hr, List.getElem?_reverse hr]
    unfold revAtI
    split
    · rfl
    · rw [show xs.length - 1 - r = r from by omega]
  · rw [List.getElem?_eq_none (by omega), List.getElem?_eq_none (by simp; omega)]

set_option maxHeartbeats 1000000 in
theorem revI {w : World} {v : Value} {xs : List Int} (h : Row w 3 1 v xs.length (xs.map (Value.int .i64))) (hn : xs.length ≤ 65536) :
    Calls Try.prog 42 #[v] w fun e w' => e = .returned (.tuple #[]) ∧ Row w' 3 1 v xs.length (xs.map (Value.int .i64)).reverse ∧ Turned (fun k => v.ownBlock = some k) w w' := by
  obtain ⟨a, cap, rfl⟩ := h.shape
  go_enter Try.func42, Try.ntmps42
  go_wp2
  go_loopw [2, 3] (fun i j wr => ∃ (k : Nat) (x : Int), 2 * k ≤ xs.length + 1 ∧ i = .int .i64 k ∧ j = .int .i64 x ∧ x + k + 1 ≤ xs.length ∧ (xs.length : Int) ≤ x + k + 1 ∧ (∃ ys : List Int, Row wr 3 1 (.slice a xs.length cap) xs.length (ys.map (Value.int .i64)) ∧ ∀ p, p < xs.length → ys[p]? = revAtI xs k p) ∧ Turned (fun k => (Value.slice a xs.length cap).ownBlock = some k) w wr) (fun i j _ => (intOf j - intOf i + 1).toNat)
  case atStart => exact ⟨0, _, by omega, rfl, rfl, by omega, by omega, ⟨xs, h, fun p hp => by simp [revAtI]; omega⟩, Turned.refl _ _⟩
  case round =>
    obtain ⟨k, x, hk, rfl, rfl, hx1, hx2, ⟨ys, hrow, hys⟩, hT⟩ := hrel
    have hl : ys.length = xs.length := by have := hrow.1; simpa using this
    by_cases hlt : 2 * k + 1 < xs.length
    · obtain ⟨y, rfl⟩ : ∃ y : Nat, x = y := ⟨x.toNat, by omega⟩
      have hky : k < y := by omega
      have hne : ¬ k = y := by omega
      have hne2 : ¬ y = k := by omega
      have hyn : y < xs.length := by omega
      have hkn : k < xs.length := by omega
      obtain ⟨p, hp⟩ : ∃ p, ys[k]? = some p := ⟨_, List.getElem?_eq_getElem (by omega)⟩
      obtain ⟨q, hq⟩ : ∃ q, ys[y]? = some q := ⟨_, List.getElem?_eq_getElem (by omega)⟩
      obtain ⟨g, cap3, hgc⟩ := hrow.shape_pos (by omega)
      injection hgc with q1 _ q2
      subst q1; subst q2
      have cp := hrow.cells rfl k ((Value.int .i64) p) (by rw [List.getElem?_map, hp]; rfl)
      have cq := hrow.cells rfl y ((Value.int .i64) q) (by rw [List.getElem?_map, hq]; rfl)
      have fk := hrow.free rfl k
      have fy := hrow.free rfl y
      have hst := Lib.hid (rev_stepI hl (y := y) (by omega) hky hys hp hq)
      have hr2 := (hrow.stored (i := k) hkn ((Value.int .i64) q)).stored (i := y) hyn ((Value.int .i64) p)
      rw [← List.map_set, ← List.map_set] at hr2
      have HR2 := Lib.hid hr2
      clear hp hq hys hr2
      go_wp2_with fail
      go_region
      all_goals
        go_wp2_with fail
        go_roundw
        case rel => exact ⟨k + 1, (y : Int) - 1, by omega, by go_num, rfl, by omega, by omega, ⟨_, HR2.out, hst.out⟩, ((hT.setCell (p := ⟨g, k, none⟩) (.inr rfl) _).setCell (p := ⟨g, y, none⟩) (.inr rfl) _).drew⟩
        case measure => (simp [intOf]; try omega)
    · have hge : ¬ ((k : Int) < x) := by omega
      have he := rev_endI hl hk (by omega) hys
      clear hys
      have HE := Lib.hid he
      clear he
      go_wp2
      go_end0
      exact ⟨rfl, by rw [← List.map_reverse, ← HE.out]; exact hrow, hT⟩

theorem stkInfoS : (Try.prog.info? 9).map (fun i => (i.zero, i.size, i.bytes)) = some (some (.string ByteArray.empty), 1, 16) := by kernel_rfl

/-- What stands at place p when k rounds of the reversing are over. -/
def revAtS (xs : List ByteArray) (k p : Nat) : Option ByteArray := if p < k ∨ xs.length - k ≤ p then xs[xs.length - 1 - p]? else xs[p]?

theorem rev_stepS {xs ys : List ByteArray} {k y : Nat} {p q : ByteArray} (hl : ys.length = xs.length) (hy : y + k + 1 = xs.length) (hky : k < y) (hys : ∀ r, r < xs.length → ys[r]? = revAtS xs k r) (hp : ys[k]? = some p) (hq : ys[y]? = some q) :
    ∀ r, r < xs.length → ((ys.set k q).set y p)[r]? = revAtS xs (k + 1) r := by
  intro r hr
  have hk := hys k (by omega)
  have hy' := hys y (by omega)
  rw [hp] at hk
  rw [hq] at hy'
  unfold revAtS at hk hy' ⊢
  rw [if_neg (by omega)] at hk hy'
  by_cases e1 : r = y
  · subst e1
    rw [List.getElem?_set_self (by simp; omega), if_pos (by omega), show xs.length - 1 - r = k from by omega]
    exact hk
  · rw [List.getElem?_set_ne (by omega)]
    by_cases e2 : r = k
    · subst e2
      rw [List.getElem?_set_self (by omega), if_pos (by omega), show xs.length - 1 - r = y from by omega]
      exact hy'
    · rw [List.getElem?_set_ne (by omega), hys r hr]
      unfold revAtS
      by_cases hc : r < k ∨ xs.length - k ≤ r
      · rw [if_pos hc, if_pos (by omega)]
      · rw [if_neg hc, if_neg (by omega)]

theorem rev_endS {xs ys : List ByteArray} {k : Nat} (hl : ys.length = xs.length) (hk1 : 2 * k ≤ xs.length + 1) (hk2 : xs.length ≤ 2 * k + 1) (hys : ∀ r, r < xs.length → ys[r]? = revAtS xs k r) : ys = xs.reverse := by
  apply List.ext_getElem?
  intro r
  by_cases hr : r < xs.length
  · rw [hys r hr, List.getElem?_reverse hr]
    unfold revAtS
    split
    · rfl
    · rw [show xs.length - 1 - r = r from by omega]
  · rw [List.getElem?_eq_none (by omega), List.getElem?_eq_none (by simp; omega)]

set_option maxHeartbeats 1000000 in
theorem revS {w : World} {v : Value} {xs : List ByteArray} (h : Row w 9 1 v xs.length (xs.map Value.string)) (hn : xs.length ≤ 65536) :
    Calls Try.prog 40 #[v] w fun e w' => e = .returned (.tuple #[]) ∧ Row w' 9 1 v xs.length (xs.map Value.string).reverse ∧ Turned (fun k => v.ownBlock = some k) w w' := by
  obtain ⟨a, cap, rfl⟩ := h.shape
  go_enter Try.func40, Try.ntmps40
  go_wp2
  go_loopw [2, 3] (fun i j wr => ∃ (k : Nat) (x : Int), 2 * k ≤ xs.length + 1 ∧ i = .int .i64 k ∧ j = .int .i64 x ∧ x + k + 1 ≤ xs.length ∧ (xs.length : Int) ≤ x + k + 1 ∧ (∃ ys : List ByteArray, Row wr 9 1 (.slice a xs.length cap) xs.length (ys.map Value.string) ∧ ∀ p, p < xs.length → ys[p]? = revAtS xs k p) ∧ Turned (fun k => (Value.slice a xs.length cap).ownBlock = some k) w wr) (fun i j _ => (intOf j - intOf i + 1).toNat)
  case atStart => exact ⟨0, _, by omega, rfl, rfl, by omega, by omega, ⟨xs, h, fun p hp => by simp [revAtS]; omega⟩, Turned.refl _ _⟩
  case round =>
    obtain ⟨k, x, hk, rfl, rfl, hx1, hx2, ⟨ys, hrow, hys⟩, hT⟩ := hrel
    have hl : ys.length = xs.length := by have := hrow.1; simpa using this
    by_cases hlt : 2 * k + 1 < xs.length
    · obtain ⟨y, rfl⟩ : ∃ y : Nat, x = y := ⟨x.toNat, by omega⟩
      have hky : k < y := by omega
      have hne : ¬ k = y := by omega
      have hne2 : ¬ y = k := by omega
      have hyn : y < xs.length := by omega
      have hkn : k < xs.length := by omega
      obtain ⟨p, hp⟩ : ∃ p, ys[k]? = some p := ⟨_, List.getElem?_eq_getElem (by omega)⟩
      obtain ⟨q, hq⟩ : ∃ q, ys[y]? = some q := ⟨_, List.getElem?_eq_getElem (by omega)⟩
      obtain ⟨g, cap3, hgc⟩ := hrow.shape_pos (by omega)
      injection hgc with q1 _ q2
      subst q1; subst q2
      have cp := hrow.cells rfl k (Value.string p) (by rw [List.getElem?_map, hp]; rfl)
      have cq := hrow.cells rfl y (Value.string q) (by rw [List.getElem?_map, hq]; rfl)
      have fk := hrow.free rfl k
      have fy := hrow.free rfl y
      have hst := Lib.hid (rev_stepS hl (y := y) (by omega) hky hys hp hq)
      have hr2 := (hrow.stored (i := k) hkn (Value.string q)).stored (i := y) hyn (Value.string p)
      rw [← List.map_set, ← List.map_set] at hr2
      have HR2 := Lib.hid hr2
      clear hp hq hys hr2
      go_wp2_with fail
      go_region
      all_goals
        go_wp2_with fail
        go_roundw
        case rel => exact ⟨k + 1, (y : Int) - 1, by omega, by go_num, rfl, by omega, by omega, ⟨_, HR2.out, hst.out⟩, ((hT.setCell (p := ⟨g, k, none⟩) (.inr rfl) _).setCell (p := ⟨g, y, none⟩) (.inr rfl) _).drew⟩
        case measure => (simp [intOf]; try omega)
    · have hge : ¬ ((k : Int) < x) := by omega
      have he := rev_endS hl hk (by omega) hys
      clear hys
      have HE := Lib.hid he
      clear he
      go_wp2
      go_end0
      exact ⟨rfl, by rw [← List.map_reverse, ← HE.out]; exact hrow, hT⟩

end Go.Proofs.Ytifideminojgjaa

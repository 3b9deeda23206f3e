/- nums: two rows of numbers alike? -/
import Derived.Test.YtoihjobdfjajfaaVars
namespace Go.Proofs.Ytoihjobdfjajfaa
set_option linter.unusedVariables false
set_option linter.unusedSimpArgs false
open Go.RowKit

theorem take_snoc' {α : Type} (l : List α) (j : Nat) (x : α) (h : l[j]? = some x) : l.take (j + 1) = l.take j ++ [x] := by
  have hj := (List.getElem?_eq_some_iff.1 h)
  rw [List.take_succ_eq_append_getElem hj.1, hj.2]
theorem Row.int_at {w : World} {e : TypeId} {g cap n : Nat} {xs : List Int} (h : Row w e 1 (.slice (some ⟨g, 0, none⟩) n cap) n (xs.map (Value.int .i64))) {j : Nat} {x : Int} (hx : xs[j]? = some x) : w.cell? ⟨g, j, none⟩ = some (.int .i64 x) :=
  h.cells rfl j _ (by rw [List.getElem?_map, hx]; rfl)
theorem Row.len {w : World} {e : TypeId} {v : Value} {n : Nat} {xs : List Int} (h : Row w e 1 v n (xs.map (Value.int .i64))) : n = xs.length := by have := h.1; simp at this; omega
theorem Row.max {w : World} {e : TypeId} {a : Option Addr} {n c size : Nat} {xs : List Value} (h : Row w e size (.slice a n c) n xs) : n ≤ c ∧ c ≤ 9223372036854775807 := by
  rcases h.2 with ⟨e, rfl⟩ | ⟨g, cap, cur, e, _, h1, h2, _⟩
  · injection e with _ _ e; omega
  · injection e with _ _ e; subst e; unfold maxLen at h2; omega

theorem Row.addr_pos {w : World} {e : TypeId} {a : Option Addr} {n c size : Nat} {xs : List Value} (h : Row w e size (.slice a n c) n xs) (hn : 0 < n) : ∃ g, a = some ⟨g, 0, none⟩ := by
  obtain ⟨g, q, e⟩ := h.shape_pos hn
  injection e with e _ _
  exact ⟨g, e⟩

set_option maxHeartbeats 800000 in
theorem nums39 {w : World} {v1 v2 : Value} {xs ys : List Int} (h1 : Row w 2 1 v1 xs.length (xs.map (Value.int .i64))) (h2 : Row w 2 1 v2 ys.length (ys.map (Value.int .i64))) :
    Calls Try.prog 39 #[v1, v2] w fun e w' => e = .returned (.bool (decide (xs = ys))) ∧ Turned (fun _ => False) w w' := by
  obtain ⟨a1, c1, rfl⟩ := h1.shape
  obtain ⟨a2, c2, rfl⟩ := h2.shape
  obtain ⟨m1, m2⟩ := h1.max
  obtain ⟨m3, m4⟩ := h2.max
  by_cases hl : xs.length = ys.length
  · have hlb : ((xs.length : Int) != (ys.length : Int)) = false := by simp; omega
    have HL := Lib.hid hl
    have hl1 : xs.length ≤ ys.length := by omega
    have hl2 : ys.length ≤ xs.length := by omega
    clear hl
    have H1 := Lib.hid h1
    have H2 := Lib.hid h2
    clear h1 h2
    go_enter Try.func39, Try.ntmps39
    go_wp2_with fail
    go_loopg [5] xs.length (fun g i wr => ∃ j : Nat, Hid (j + g = xs.length) ∧ j ≤ xs.length ∧ i = .int .i64 j ∧ Hid (xs.take j = ys.take j) ∧ Turned (fun _ => False) w wr)
    case atStart => exact ⟨0, Nat.zero_add _, Nat.zero_le _, rfl, rfl, Turned.refl _ _⟩
    case round =>
      obtain ⟨j, HG, hj, rfl, HE, Tr⟩ := hrel
      by_cases hjl : j < xs.length
      · have hx : xs[j]? = some xs[j] := List.getElem?_eq_getElem hjl
        have hy : ys[j]? = some (ys[j]'(by omega)) := List.getElem?_eq_getElem (by omega)
        obtain ⟨x, hxe⟩ : ∃ x, x = xs[j] := ⟨_, rfl⟩
        obtain ⟨y, hye⟩ : ∃ y, y = ys[j]'(by omega) := ⟨_, rfl⟩
        rw [← hxe] at hx
        rw [← hye] at hy
        obtain ⟨g1, rfl⟩ := H1.out.addr_pos (by omega)
        obtain ⟨g2, rfl⟩ := H2.out.addr_pos (by omega)
        have k1 := (H1.out.turned0 Tr).int_at hx
        have k2 := (H2.out.turned0 Tr).int_at hy
        have HX := Lib.hid hx
        have HY := Lib.hid hy
        clear hxe hye hx hy
        have z1 : (0 : Int) ≤ (j : Int) := by omega
        have z2 : (j : Int) < (ys.length : Int) := by omega
        by_cases hxy : x = y
        · subst hxy
          have hne : (x != x) = false := by simp
          go_wp2_with fail
          go_quiet (fail)
          go_wp2_with fail
          go_roundg (gk - 1)
          case measure => have := HG.out; omega
          case rel =>
            refine ⟨j + 1, show _ = _ by have := HG.out; omega, by omega, by go_num, ?_, Tr.trans ((Turned.refl _ _).drewN _)⟩
            show _ = _
            rw [take_snoc' _ _ _ HX.out, take_snoc' _ _ _ HY.out, HE.out]
        · have hne : (x != y) = true := by simp [hxy]
          have HN := Lib.hid hxy
          clear hxy
          go_wp2_with fail
          go_quiet (fail)
          go_wp2_with fail
          go_ret
          refine ⟨ret_bool ?_, Tr.trans ((Turned.refl _ _).drewN _)⟩
          symm
          rw [decide_eq_false_iff_not]
          intro e
          have hx := HX.out
          rw [e, HY.out] at hx
          injection hx with hx
          exact HN.out hx.symm
      · go_wp2_with fail
        go_ret
        refine ⟨ret_bool ?_, Tr⟩
        symm
        rw [decide_eq_true_eq]
        have h := HE.out
        rwa [List.take_of_length_le (by omega), List.take_of_length_le (by omega)] at h
  · have hlb : ((xs.length : Int) != (ys.length : Int)) = true := by simp; omega
    have HL := Lib.hid hl
    clear hl h1 h2
    go_enter Try.func39, Try.ntmps39
    go_wp2_with fail
    go_ret
    refine ⟨ret_bool ?_, Turned.refl _ _⟩
    symm
    rw [decide_eq_false_iff_not]
    intro e
    exact HL.out (by rw [e])
end Go.Proofs.Ytoihjobdfjajfaa

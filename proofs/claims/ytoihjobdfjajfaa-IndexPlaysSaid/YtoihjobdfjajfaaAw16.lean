/- ints; sizarlaw16's awake. -/
import Derived.Test.YtoihjobdfjajfaaPick
namespace Go.Proofs.Ytoihjobdfjajfaa
set_option linter.unusedVariables false
set_option linter.unusedSimpArgs false
open Go.RowKit
attribute [local go_sem ↓] Go.wp_at_zero Go.wp_at_succ

set_option maxHeartbeats 800000 in
theorem ints58 {w : World} {v1 v2 : Value} {xs ys : List Int} (h1 : Row w 3 1 v1 xs.length (xs.map (Value.int .i64))) (h2 : Row w 3 1 v2 ys.length (ys.map (Value.int .i64))) :
    Calls Try.prog 58 #[v1, v2] w fun e w' => e = .returned (.bool (decide (xs = ys))) ∧ Turned (fun _ => False) w w' := by
  obtain ⟨a1, c1, rfl⟩ := h1.shape
  obtain ⟨a2, c2, rfl⟩ := h2.shape
  obtain ⟨m1, m2⟩ := h1.max
  obtain ⟨m3, m4⟩ := h2.max
  by_cases hl : xs.length = ys.length
  · have hlb : ((xs.length : Int) != (ys.length : Int)) = false := by simp; omega
    have HL := Lib.hid hl
    have hl1 : xs.length ≤ ys.length := by omega
    have hl2 : ys.length ≤ xs.length := by omega
    clear hl
    have H1 := Lib.hid h1
    have H2 := Lib.hid h2
    clear h1 h2
    go_enter Try.func58, Try.ntmps58
    go_wp2_with fail
    go_loopg [5] xs.length (fun g i wr => ∃ j : Nat, Hid (j + g = xs.length) ∧ j ≤ xs.length ∧ i = .int .i64 j ∧ Hid (xs.take j = ys.take j) ∧ Turned (fun _ => False) w wr)
    case atStart => exact ⟨0, Nat.zero_add _, Nat.zero_le _, rfl, rfl, Turned.refl _ _⟩
    case round =>
      obtain ⟨j, HG, hj, rfl, HE, Tr⟩ := hrel
      by_cases hjl : j < xs.length
      · have hx : xs[j]? = some xs[j] := List.getElem?_eq_getElem hjl
        have hy : ys[j]? = some (ys[j]'(by omega)) := List.getElem?_eq_getElem (by omega)
        obtain ⟨x, hxe⟩ : ∃ x, x = xs[j] := ⟨_, rfl⟩
        obtain ⟨y, hye⟩ : ∃ y, y = ys[j]'(by omega) := ⟨_, rfl⟩
        rw [← hxe] at hx
        rw [← hye] at hy
        obtain ⟨g1, rfl⟩ := H1.out.addr_pos (by omega)
        obtain ⟨g2, rfl⟩ := H2.out.addr_pos (by omega)
        have k1 := (H1.out.turned0 Tr).int_at hx
        have k2 := (H2.out.turned0 Tr).int_at hy
        have HX := Lib.hid hx
        have HY := Lib.hid hy
        clear hxe hye hx hy
        have z1 : (0 : Int) ≤ (j : Int) := by omega
        have z2 : (j : Int) < (ys.length : Int) := by omega
        by_cases hxy : x = y
        · subst hxy
          have hne : (x != x) = false := by simp
          go_wp2_with fail
          go_quiet (fail)
          go_wp2_with fail
          go_roundg (gk - 1)
          case measure => have := HG.out; omega
          case rel =>
            refine ⟨j + 1, show _ = _ by have := HG.out; omega, by omega, by go_num, ?_, Tr.trans ((Turned.refl _ _).drewN _)⟩
            show _ = _
            rw [take_snoc' _ _ _ HX.out, take_snoc' _ _ _ HY.out, HE.out]
        · have hne : (x != y) = true := by simp [hxy]
          have HN := Lib.hid hxy
          clear hxy
          go_wp2_with fail
          go_quiet (fail)
          go_wp2_with fail
          go_ret
          refine ⟨ret_bool ?_, Tr.trans ((Turned.refl _ _).drewN _)⟩
          symm
          rw [decide_eq_false_iff_not]
          intro e
          have hx := HX.out
          rw [e, HY.out] at hx
          injection hx with hx
          exact HN.out hx.symm
      · go_wp2_with fail
        go_ret
        refine ⟨ret_bool ?_, Tr⟩
        symm
        rw [decide_eq_true_eq]
        have h := HE.out
        rwa [List.take_of_length_le (by omega), List.take_of_length_le (by omega)] at h
  · have hlb : ((xs.length : Int) != (ys.length : Int)) = true := by simp; omega
    have HL := Lib.hid hl
    clear hl h1 h2
    go_enter Try.func58, Try.ntmps58
    go_wp2_with fail
    go_ret
    refine ⟨ret_bool ?_, Turned.refl _ _⟩
    symm
    rw [decide_eq_false_iff_not]
    intro e
    exact HL.out (by rw [e])

def kA : Key := ⟨2, 0, ⟨#[97]⟩, 0⟩
def kB : Key := ⟨2, 0, ⟨#[98]⟩, 0⟩
theorem pick_aw : pickB kA [Key.zero, kA, kB] 0 = [0, 1] := by decide
theorem keyOf_aw (a5 : Option Addr) (c5 : Nat) : keyOf (α := Option Addr × Nat) (.mk 2 0 ⟨#[112]⟩ (a5, c5) [leaf 2 0 ⟨#[97]⟩]) = kA := by kernel_rfl
theorem ofAw {w : World} {a5 : Option Addr} {c5 : Nat} (h : LT.In (fun _ => True) w (.mk 2 0 ⟨#[112]⟩ (a5, c5) [leaf 2 0 ⟨#[97]⟩])) :
    Calls Try.prog 42 #[.agg #[.int .i64 2, .int .i64 0, .string ⟨#[112]⟩, .slice a5 1 c5]] w fun e w' => e = .returned (.agg #[.int .i64 2, .int .i64 0, .string ⟨#[97]⟩, .int .i64 0]) ∧ Turned (fun _ => False) w w' := by
  refine (of42 (t := .mk 2 0 ⟨#[112]⟩ (a5, c5) [leaf 2 0 ⟨#[97]⟩]) h (slim_mk (by simp) (fun x hx => by rw [List.mem_singleton.1 hx]; intro y hy; simp [leaf, Tm.flat, Tm.flats] at hy; subst hy; simp [Tm.args]))).mono ?_
  rintro e w' ⟨rfl, ht⟩
  rw [keyOf_aw]
  exact ⟨rfl, ht⟩
set_option maxRecDepth 100000 in
set_option maxHeartbeats 3200000 in
theorem awake40 (w : World) : Calls Try.prog 40 #[] w fun e w' => e = .returned (.bool true) ∧ Turned (fun _ => False) w w' := by
  have hk : KSl (w.alloc (.cells #[.int .i64 0, .int .i64 0, .string ⟨#[]⟩, .int .i64 0, .int .i64 2, .int .i64 0, .string ⟨#[97]⟩, .int .i64 0, .int .i64 2, .int .i64 0, .string ⟨#[98]⟩, .int .i64 0] 35)) (some ⟨w.heap.size, 0, none⟩) 3 [Key.zero, kA, kB] := by
    refine ⟨(fun e => by cases e), fun _ => ⟨_, _, rfl, fun j u hu => ?_⟩, Nat.le_refl _, by simp⟩
    rw [Nat.zero_add, boxed]
    have : (#[.int .i64 0, .int .i64 0, .string ⟨#[]⟩, .int .i64 0, .int .i64 2, .int .i64 0, .string ⟨#[97]⟩, .int .i64 0, .int .i64 2, .int .i64 0, .string ⟨#[98]⟩, .int .i64 0] : Array Value)[j]? = ([Key.zero, kA, kB].flatMap Key.cells)[j]? := by
      rw [← Array.getElem?_toList]; rfl
    rw [this, hu]
  have HK := Lib.hid hk
  have T0 := (Turned.refl (fun _ => False) w).alloc (.cells #[.int .i64 0, .int .i64 0, .string ⟨#[]⟩, .int .i64 0, .int .i64 2, .int .i64 0, .string ⟨#[97]⟩, .int .i64 0, .int .i64 2, .int .i64 0, .string ⟨#[98]⟩, .int .i64 0] 35)
  have HT0 := Lib.hid T0
  clear hk T0
  go_enter Try.func40, Try.ntmps40
  go_wp2_with fail
  revert HK HT0
  generalize w.alloc (.cells #[.int .i64 0, .int .i64 0, .string ⟨#[]⟩, .int .i64 0, .int .i64 2, .int .i64 0, .string ⟨#[97]⟩, .int .i64 0, .int .i64 2, .int .i64 0, .string ⟨#[98]⟩, .int .i64 0] 35) = w1
  intro HK HT0
  have hkeep : ∀ W, Turned (fun _ => False) w1 W → (Turned (fun _ => False) w1 W ∧ W.cell? ⟨w.heap.size, 4, none⟩ = some (.int .i64 2) ∧ W.cell? ⟨w.heap.size, 5, none⟩ = some (.int .i64 0) ∧ W.cell? ⟨w.heap.size, 6, none⟩ = some (.string ⟨#[97]⟩) ∧ W.cell? ⟨w.heap.size, 7, none⟩ = some (.int .i64 0)) := by
    intro W h
    have := (HK.out.turned0 h).at (i := 1) (x := kA) rfl
    simp only [Nat.zero_add, Nat.one_mul, Nat.reduceAdd] at this
    exact ⟨h, this⟩
  have HKP := Lib.hid hkeep
  clear hkeep
  have hq : ∀ W, (binOp .eql 35 (.agg #[.int .i64 2, .int .i64 0, .string ⟨#[97]⟩, .int .i64 0]) (.agg #[.int .i64 2, .int .i64 0, .string ⟨#[97]⟩, .int .i64 0])).run Try.prog W = .ok (.bool true) W := fun W => by have := key_eql kA kA W; simpa [kA] using this
  go_region_held3 (fun W => Turned (fun _ => False) w1 W ∧ W.cell? ⟨w.heap.size, 4, none⟩ = some (.int .i64 2) ∧ W.cell? ⟨w.heap.size, 5, none⟩ = some (.int .i64 0) ∧ W.cell? ⟨w.heap.size, 6, none⟩ = some (.string ⟨#[97]⟩) ∧ W.cell? ⟨w.heap.size, 7, none⟩ = some (.int .i64 0))
    (first
      | exact HKP.out _ (Turned.refl _ _).drew
      | exact HKP.out _ ((Turned.refl _ _).drew.alloc _)
      | exact HKP.out _ ((show Turned (fun _ => False) w1 _ ∧ _ from by assumption).1.alloc _)
      | exact HKP.out _ (Turned.trans (show Turned (fun _ => False) w1 _ ∧ _ from by assumption).1 T6)
      | exact HKP.out _ (Turned.trans (show Turned (fun _ => False) w1 _ ∧ _ from by assumption).1 T5)
      | exact HKP.out _ (Turned.trans (show Turned (fun _ => False) w1 _ ∧ _ from by assumption).1 T4)
      | exact HKP.out _ (Turned.trans (show Turned (fun _ => False) w1 _ ∧ _ from by assumption).1 T3)
      | exact HKP.out _ (Turned.trans (show Turned (fun _ => False) w1 _ ∧ _ from by assumption).1 T2))
    (first
      | (go_at_call 60; refine (pick60 (ks := [Key.zero, kA, kB]) kA (HK.out.turned0 (by first | exact (Turned.refl _ _).drew | exact (Turned.refl _ _).drew.alloc _)) (by decide)).mono ?_; rintro e w2 ⟨v2, rfl, r2, n2, T2⟩)
      | (go_at_call 58; refine (ints58 (xs := [0, 1]) (ys := [0, 1]) (show Row _ 3 1 v2 2 [.int .i64 0, .int .i64 1] from by first | exact r2.alloc _ | exact r2) (show Row _ 3 1 _ 2 [.int .i64 0, .int .i64 1] from by first | exact Row.made _ 3 1 #[.int .i64 0, .int .i64 1] 2 rfl (by decide) | exact (Row.made w1.drew 3 1 #[.int .i64 0, .int .i64 1] 2 rfl (by decide)).turned0 T2)).mono ?_; rintro e w3 ⟨rfl, T3⟩)
      | (go_at_call 63; refine (atomV ⟨#[97]⟩ (by unfold maxLen; decide) _).mono ?_; rintro e w4 ⟨rfl, i4, T4⟩)
      | (go_at_call 37; refine (compV ⟨#[112]⟩ (by unfold maxLen; decide) 1 (by decide) rfl (sl_made (l := [leaf 2 0 ⟨#[97]⟩]) ⟨i4, trivial⟩ 1 (by decide) rfl _ rfl)).mono ?_; rintro e w5 ⟨a5, c5, rfl, i5, T5⟩)
      | (go_at_call 42; refine (ofAw i5).mono ?_; rintro e w6 ⟨rfl, T6⟩))
  all_goals
    go_wp2_with fail
    go_ret
    exact ⟨rfl, HT0.out.trans (show Turned (fun _ => False) w1 w6 ∧ _ from by assumption).1⟩
end Go.Proofs.Ytoihjobdfjajfaa

/- What the calls of a stack do. -/
import Derived.Test.YtifideminojgjaaStksU
import Derived.Test.YtifideminojgjaaProg
import Derived.LoopTactic
import Derived.BigRegion
namespace Go.Proofs.Ytifideminojgjaa
open Go.RowKit
set_option linter.unusedVariables false
set_option linter.unusedSimpArgs false

/-- A slice of one-cell elements, wherever it comes from. -/
structure Src {α : Type} (enc : α → Value) (w : World) (a : Option Addr) (cap : Nat) (xs : List α) : Prop where
  nil : a = Option.none → xs = [] ∧ cap = 0
  at0 : 0 < xs.length → ∃ b o, a = some ⟨b, o, none⟩
  cell : ∀ b o, a = some ⟨b, o, none⟩ → ∀ (i : Nat) (x : α), xs[i]? = some x → w.cell? ⟨b, o + i, none⟩ = some (enc x)

section
variable {α : Type} {enc : α → Value} {w : World} {a : Option Addr} {cap : Nat} {xs : List α}
theorem Src.turned0 {w' : World} (h : Src enc w a cap xs) (ht : Turned (fun _ => False) w w') : Src enc w' a cap xs :=
  ⟨h.nil, h.at0, fun b o e i x hx => ht.cell0 (h.cell b o e i x hx)⟩
theorem Src.hnone (h : Src enc w a cap xs) : a = Option.none → xs.length = 0 ∧ cap = 0 := fun e => ⟨by rw [(h.nil e).1]; rfl, (h.nil e).2⟩
theorem Src.hsrc (h : Src enc w a cap xs) : ∀ ad, a = some ad → ∀ j u, (xs.map enc)[j]? = some u → w.cell? (ad.add j) = some u := by
  intro ad e j u hu
  rw [List.getElem?_map] at hu
  obtain ⟨x, hx, rfl⟩ := Option.map_eq_some_iff.1 hu
  obtain ⟨b, o, e'⟩ := h.at0 (by have := (List.getElem?_eq_some_iff.1 hx).1; omega)
  rw [e'] at e
  injection e with e
  subst e
  rw [Addr.add_lit]
  exact h.cell b o e' j x hx
theorem Row.src {e : TypeId} (h : Row w e 1 (.slice a xs.length cap) xs.length (xs.map enc)) : Src enc w a cap xs := by
  refine ⟨fun e => ?_, fun hp => ?_, fun b o e i x hx => ?_⟩
  · have := (h.source h).1 e; exact ⟨List.eq_nil_of_length_eq_zero this.1, this.2⟩
  · obtain ⟨g, c, hg⟩ := h.shape_pos hp
    injection hg with hg
    exact ⟨g, 0, hg⟩
  · subst e
    have := (h.source h).2 _ rfl i (enc x) (by rw [List.getElem?_map, hx]; rfl)
    rw [Addr.add_lit] at this
    exact this
end

/-- A block of literal cells just laid, as a source. -/
theorem src_new {α : Type} {enc : α → Value} (w : World) (e : TypeId) (xs : List α) (hp : 0 < xs.length) : Src enc (w.alloc (.cells (xs.map enc).toArray e)) (some ⟨w.heap.size, 0, none⟩) xs.length xs := by
  refine ⟨(fun e => by cases e), fun _ => ⟨_, _, rfl⟩, fun b o e' i x hx => ?_⟩
  injection e' with e'; injection e' with e1 e2; subst e1; subst e2
  rw [cell_of_row _ w.heap.size (0 + i) (xs.map enc).toArray e (0, 0) (heap_alloc_new w _)]
  simp [hx]

set_option maxHeartbeats 400000 in
theorem ints_any {w : World} {va vb : Option Addr} {ca cb : Nat} {xs ys : List Int} (hx : Src (Value.int .i64) w va ca xs) (hy : Src (Value.int .i64) w vb cb ys) (hl1 : xs.length ≤ 9223372036854775807) (hl2 : ys.length ≤ 9223372036854775807) :
    Calls Try.prog 37 #[.slice va xs.length ca, .slice vb ys.length cb] w fun e w' => e = .returned (.bool (decide (xs = ys))) ∧ Turned (fun _ => False) w w' := by
  by_cases hl : xs.length = ys.length
  · have ht : ((xs.length : Int) != (ys.length : Int)) = false := by rw [bne_eq_false_iff_eq]; omega
    have HL := Lib.hid hl
    clear hl
    go_enter Try.func37, Try.ntmps37
    go_wp2
    go_loopw [5] (fun i wr => ∃ k : Nat, k ≤ xs.length ∧ i = .int .i64 k ∧ xs.take k = ys.take k ∧ Turned (fun _ => False) w wr) (fun i _ => xs.length - (intOf i).toNat)
    case atStart => exact ⟨0, Nat.zero_le _, rfl, rfl, Turned.refl _ _⟩
    case round =>
      obtain ⟨k, hk, rfl, hpre, hT⟩ := hrel
      by_cases hlt : k < xs.length
      · have hlt2 : k < ys.length := by have := HL.out; omega
        obtain ⟨x, hx1⟩ : ∃ x, xs[k]? = some x := ⟨_, List.getElem?_eq_getElem hlt⟩
        obtain ⟨y, hy1⟩ : ∃ y, ys[k]? = some y := ⟨_, List.getElem?_eq_getElem hlt2⟩
        obtain ⟨b1, o1, rfl⟩ := hx.at0 (by omega)
        obtain ⟨b2, o2, rfl⟩ := hy.at0 (by omega)
        have cx := hT.cell0 (hx.cell b1 o1 rfl k x hx1)
        have cy := hT.cell0 (hy.cell b2 o2 rfl k y hy1)
        have HP := Lib.hid hpre
        have HX := Lib.hid hx1
        have HY := Lib.hid hy1
        clear hpre hx1 hy1
        by_cases hxy : x = y
        · subst hxy
          go_wp2_with fail
          go_quiet (fail)
          go_wp2_with fail
          go_roundw
          case rel => exact ⟨k + 1, by omega, by go_num, by rw [List.take_add_one, List.take_add_one, HX.out, HY.out, HP.out], hT.drewN _⟩
          case measure => (simp [intOf]; try omega)
        · have hb : (x != y) = true := by rw [bne_iff_ne]; exact hxy
          have hne : ¬ xs = ys := fun e => hxy (by have h1 := HX.out; have h2 := HY.out; rw [e, h2] at h1; injection h1 with h1; exact h1.symm)
          have HN := Lib.hid (decide_eq_false hne)
          clear hxy hne
          go_wp2_with fail
          go_quiet (fail)
          go_wp2_with fail
          go_ret
          exact ⟨by rw [HN.out]; rfl, hT.drewN _⟩
      · obtain rfl : k = xs.length := by omega
        have he : xs = ys := by have hl := HL.out; rw [List.take_length, hl, List.take_length] at hpre; exact hpre
        have HE := Lib.hid (decide_eq_true he)
        clear hpre he
        go_wp2
        go_ret
        exact ⟨by rw [HE.out]; rfl, hT⟩
  · have ht : ((xs.length : Int) != (ys.length : Int)) = true := by rw [bne_iff_ne]; omega
    have hne : ¬ xs = ys := fun e => hl (by rw [e])
    have HN := Lib.hid (decide_eq_false hne)
    clear hl hne
    go_enter Try.func37, Try.ntmps37
    go_wp2
    go_ret
    exact ⟨by rw [HN.out]; rfl, Turned.refl _ _⟩

set_option maxHeartbeats 1000000 in
theorem awake4 (w : World) : Calls Try.prog 23 #[] w fun e w' => e = .returned (.bool true) ∧ Turned (fun _ => False) w w' := by
  go_enter Try.func23, Try.ntmps23
  go_wp2_with fail
  refine (stkNewI 9 w).mono ?_
  rintro e w1 ⟨rfl, h1, T1⟩
  rw [show (min (max (9 : Int) 1) 65536).toNat = 9 from by decide] at h1
  go_wp2_with fail
  have TA := (Turned.refl (fun _ => False) w1).alloc (.cells (([1, 2, 3] : List Int).map (Value.int .i64)).toArray 3)
  have S1 := src_new (enc := Value.int .i64) w1 3 [1, 2, 3] (by decide)
  refine (stkPushI (ys := [1, 2, 3]) (h1.turned0 TA) _ 3 3 rfl (by simp) (by have := T1.size; simp; omega) (by simp) S1.hsrc).mono ?_
  rintro e w2 ⟨rfl, lv2, h2, T2, _⟩
  have T02 := ((T1.trans TA).of_mine2 T2 h1.fresh)
  simp only [List.nil_append] at h2
  go_wp2_with fail
  refine (stkUndoI h2 1 (by decide)).mono ?_
  rintro e w3 ⟨v, lv3, rfl, hv, hfr, h3, hl3, T3⟩
  have T03 := T02.of_mine2 T3 h2.fresh
  have hv' : Row w3 3 1 v ([3, 2] : List Int).length (([3, 2] : List Int).map (Value.int .i64)) := hv
  obtain ⟨va, ca, rfl⟩ := hv'.shape
  have h3' : StkI w3 w.heap.size w.heap.size 9 lv3 [1] := h3
  clear h1 h2 hv h3 T1 T2 T3 TA S1
  go_wp2_with fail
  have TB := (Turned.refl (fun _ => False) w3).alloc (.cells (([3, 2] : List Int).map (Value.int .i64)).toArray 3)
  have S2 := src_new (enc := Value.int .i64) w3 3 [3, 2] (by decide)
  refine (ints_any (xs := [3, 2]) (ys := [3, 2]) ((hv'.src).turned0 TB) S2 (by decide) (by decide)).mono ?_
  rintro e w4 ⟨rfl, T4⟩
  have T34 := TB.trans T4
  have h4 := h3'.turned0 T34
  go_wp2_with fail
  refine (stkMarkI h4).mono ?_
  rintro e w5 ⟨rfl, rfl⟩
  go_wp2_with fail
  refine (stkAllI h4).mono ?_
  rintro e w5 ⟨v5, rfl, hv5, _, T5⟩
  obtain ⟨a5, c5, rfl⟩ := hv5.shape
  go_wp2_with fail
  have TC := (Turned.refl (fun _ => False) w5).alloc (.cells (([1] : List Int).map (Value.int .i64)).toArray 3)
  have S3 := src_new (enc := Value.int .i64) w5 3 [1] (by decide)
  refine (ints_any (xs := [1]) (ys := [1]) ((hv5.src).turned0 TC) S3 (by decide) (by decide)).mono ?_
  rintro e w6 ⟨rfl, T6⟩
  go_wp2
  go_ret
  exact ⟨rfl, (((T03.trans T34).trans T5).trans TC).trans T6⟩

set_option maxHeartbeats 1000000 in
theorem stackTexts (a : Option Addr) (cap : Nat) (ss : List ByteArray) (w : World) (h : Src Value.string w a cap ss) (hlen : ss.length ≤ maxLen) :
    Calls Try.prog 11 #[.slice a ss.length cap] w fun e w' => e = .returned (.bool true) ∧ Turned (fun _ => False) w w' := by
  unfold maxLen at hlen
  by_cases hbig : 100 < ss.length
  · go_enter Try.func11, Try.ntmps11
    go_wp2_with fail
    refine (awake4 w).mono ?_
    rintro e w1 ⟨rfl, T0⟩
    go_wp2_with fail
    go_ret
    exact ⟨rfl, T0⟩
  · have hd : decide (100 < (ss.length : Int)) = false := by simp; omega
    go_enter Try.func11, Try.ntmps11
    go_wp2_with fail
    refine (awake4 w).mono ?_
    rintro e w0 ⟨rfl, T0⟩
    go_wp2_with fail
    refine (stkNewS 100 w0).mono ?_
    rintro e w1 ⟨rfl, h1, T1⟩
    rw [show (min (max (100 : Int) 1) 65536).toNat = 100 from by decide] at h1
    have h01 := h.turned0 (T0.trans T1)
    go_wp2_with fail
    refine (stkPushS (ys := ss) h1 a _ cap rfl (by simp; omega) T1.size h01.hnone h01.hsrc).mono ?_
    rintro e w2 ⟨rfl, lv2, h2, T2, _⟩
    have T02 := T1.of_mine2 T2 h1.fresh
    simp only [List.nil_append] at h2
    clear h1 T1 T2 h01
    go_wp2_with fail
    go_loopw [4] (fun i wr => ∃ (k : Nat) (x : Int), k ≤ ss.length ∧ i = .int .i64 x ∧ x + 1 ≤ k ∧ (k : Int) ≤ x + 1 ∧ (∃ lv, StkS wr w0.heap.size w0.heap.size 100 lv (ss.take k)) ∧ Turned (fun _ => False) w0 wr) (fun i _ => (intOf i + 1).toNat)
    case atStart => exact ⟨ss.length, _, Nat.le_refl _, rfl, by omega, by omega, ⟨_, by rw [List.take_length]; exact h2⟩, T02⟩
    case round =>
      obtain ⟨k, x, hk, rfl, hx1, hx2, ⟨lv, ht⟩, hT⟩ := hrel
      by_cases hlt : 0 < k
      · obtain ⟨y, rfl⟩ : ∃ y : Nat, x = y := ⟨x.toNat, by omega⟩
        obtain ⟨s, hs⟩ : ∃ s, ss[y]? = some s := ⟨_, List.getElem?_eq_getElem (by omega)⟩
        have htk : ss.take k = ss.take y ++ [s] := by
          have : k = y + 1 := by omega
          rw [this, List.take_add_one, hs]; rfl
        rw [htk] at ht
        obtain ⟨b, o, rfl⟩ := h.at0 (by omega)
        have hc := ((h.turned0 T0).turned0 hT).cell b o rfl y s hs
        have hyl : y < ss.length := by omega
        have HS := Lib.hid hs
        clear hs htk
        go_wp2_with fail
        refine (stkTopS_hit ht).mono ?_
        rintro e w3 ⟨rfl, rfl⟩
        go_wp2_with fail
        refine (stkPopS ht).mono ?_
        rintro e w3 ⟨rfl, lv3, h3, hl3, T3⟩
        have hT3 := hT.of_mine2 T3 ht.fresh
        have hc3 := ((h.turned0 T0).turned0 hT3).cell b o rfl y s HS.out
        clear hc
        go_wp2
        go_roundw
        case rel => exact ⟨y, (y : Int) - 1, by omega, rfl, by omega, by omega, ⟨_, h3⟩, hT3⟩
        case measure => (simp [intOf]; try omega)
      · obtain rfl : k = 0 := by omega
        have hneg : x < 0 := by omega
        rw [List.take_zero] at ht
        go_wp2_with fail
        refine (stkPopS_none ht).mono ?_
        rintro e w3 ⟨rfl, rfl⟩
        go_wp2_with fail
        refine (stkMarkS ht).mono ?_
        rintro e w3 ⟨rfl, rfl⟩
        go_wp2
        go_ret
        exact ⟨rfl, T0.trans hT⟩
end Go.Proofs.Ytifideminojgjaa

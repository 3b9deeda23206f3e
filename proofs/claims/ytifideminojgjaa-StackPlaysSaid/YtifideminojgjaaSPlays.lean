/- StackPlays: the walk of the law. -/
import Derived.Test.YtifideminojgjaaStksM
import Derived.Test.YtifideminojgjaaMore
import Derived.Deep.DeepCutAuto
import Derived.Deep.CutBlock
import Derived.Deep.RegionHeld3
namespace Go.Proofs.Ytifideminojgjaa
open Go.RowKit
set_option linter.unusedVariables false
set_option linter.unusedSimpArgs false

/-- A call on a stack: what it does, its mark, its list. -/
structure SAct where
  op : Int
  n : Int
  a : Option Addr
  cap : Nat
  xs : List Int

/-- A slice of calls that came in. -/
structure SActSl (w : World) (a : Option Addr) (l : List SAct) : Prop where
  at0 : 0 < l.length → ∃ b o, a = some ⟨b, o, none⟩
  cell : ∀ b o, a = some ⟨b, o, none⟩ → ∀ (i : Nat) (x : SAct), l[i]? = some x → w.cell? ⟨b, o + i * 3, none⟩ = some (.int .i64 x.op) ∧ w.cell? ⟨b, o + i * 3 + 1, none⟩ = some (.int .i64 x.n) ∧ w.cell? ⟨b, o + i * 3 + 2, none⟩ = some (.slice x.a x.xs.length x.cap)
  src : ∀ x ∈ l, Src (Value.int .i64) w x.a x.cap x.xs ∧ x.xs.length ≤ maxLen

theorem SActSl.turned {w w' : World} {a : Option Addr} {l : List SAct} (h : SActSl w a l) (ht : Turned (fun _ => False) w w') : SActSl w' a l :=
  ⟨h.at0, fun b o e i p hp => ⟨ht.cell0 (h.cell b o e i p hp).1, ht.cell0 (h.cell b o e i p hp).2.1, ht.cell0 (h.cell b o e i p hp).2.2⟩, fun x hx => ⟨(h.src x hx).1.turned0 ht, (h.src x hx).2⟩⟩

theorem rowI_cut {w : World} {a : Option Addr} {n cap m : Nat} {t : List Int} (h : Row w 3 1 (.slice a n cap) n (t.map (Value.int .i64))) (hm : m ≤ n) :
    (a = none ∧ n = 0 ∧ cap = 0 ∧ m = 0) ∨ ∃ g, a = some ⟨g, 0, none⟩ ∧ (m ≤ cap ∧ Row w 3 1 (.slice (some ⟨g, 0, none⟩) m cap) m ((t.take m).map (Value.int .i64))) := by
  rcases h.2 with ⟨e, hn⟩ | ⟨g, c, cur, e, hg, hc, _⟩
  · injection e with e1 e2 e3
    exact .inl ⟨e1, e2, e3, by omega⟩
  · injection e with e1 _ e3
    subst e1; subst e3
    refine .inr ⟨g, rfl, by omega, ?_⟩
    have := h.take hm (c := cap) (by omega) (Nat.le_refl _)
    rw [Nat.mul_one, ← List.map_take] at this
    exact this

set_option maxRecDepth 100000 in
set_option maxHeartbeats 16000000 in
theorem stackPlays (most : Int) (a : Option Addr) (cap : Nat) (l : List SAct) (w : World) (h : SActSl w a l) (hlen : l.length ≤ maxLen) :
    Calls Try.prog 9 #[.int .i64 most, .slice a l.length cap] w fun e w' => e = .returned (.bool true) ∧ Turned (fun _ => False) w w' := by
  unfold maxLen at hlen
  by_cases hbig : 150 < l.length
  · go_enter Try.func9, Try.ntmps9
    go_wp2_with fail
    refine (awake4 w).mono ?_
    rintro e w1 ⟨rfl, T0⟩
    go_wp2_with fail
    go_ret
    exact ⟨rfl, T0⟩
  · have hd : decide (150 < (l.length : Int)) = false := by simp; omega
    go_enter Try.func9, Try.ntmps9
    go_wp2_with fail
    refine (awake4 w).mono ?_
    rintro e w0 ⟨rfl, T0⟩
    go_wp2_with fail
    refine (stkNewI most w0).mono ?_
    rintro e w1 ⟨rfl, h1, T1⟩
    obtain ⟨room, hroom⟩ : ∃ r : Nat, (min (max most 1) 65536).toNat = r := ⟨_, rfl⟩
    have hr1 := h1.room1
    have hr2 := h1.room2
    rw [hroom] at h1 hr1 hr2
    have HR := Lib.hid hroom
    clear hroom
    go_upto_if 27 with fail
    go_cut [6] (fun s6 wx => s6 = .int .i64 (max most 1) ∧ w1 = wx)
    case first =>
      go_wp2_with fail
      all_goals (go_meet; exact ⟨by congr 1; omega, rfl⟩)
    case rest =>
      obtain ⟨rfl, rfl⟩ := hcut
      go_upto_if 29 with fail
      go_cut [6] (fun s6 wx => s6 = .int .i64 room ∧ w1 = wx)
      case first =>
        go_wp2_with fail
        all_goals (go_meet; exact ⟨by have := HR.out; congr 1; omega, rfl⟩)
      case rest =>
        obtain ⟨rfl, rfl⟩ := hcut
        go_wp2_with fail
        go_loopw [7, 8] (fun v i wr => ∃ k : Nat, k ≤ l.length ∧ i = .int .i64 k ∧ (∃ lv t, StkI wr w0.heap.size w0.heap.size room lv t ∧ Row wr 3 1 v t.length (t.map (Value.int .i64)) ∧ (∀ k, v.ownBlock = some k → ¬ Mine2 w0.heap.size lv k) ∧ (∀ k, v.ownBlock = some k → w0.heap.size ≤ k)) ∧ Turned (fun _ => False) w0 wr) (fun _ i _ => l.length - (intOf i).toNat)
        case atStart => exact ⟨0, Nat.zero_le _, rfl, ⟨_, _, h1, Row.nil _ _ _, by simp [Value.ownBlock], by simp [Value.ownBlock]⟩, T1⟩
        case round =>
          obtain ⟨k, hkl, rfl, ⟨lv, t, ht, hrow, hap, hfr⟩, hT⟩ := hrel
          obtain ⟨a2, cap2, rfl⟩ := hrow.shape
          have htl := ht.len
          by_cases hlt : k < l.length
          · obtain ⟨⟨op, n, xa, xc, xs⟩, hx⟩ : ∃ x, l[k]? = some x := ⟨_, List.getElem?_eq_getElem hlt⟩
            obtain ⟨b, o, rfl⟩ := h.at0 (by omega)
            obtain ⟨hc0, hc1, hc2⟩ := ((h.turned T0).turned hT).cell b o rfl k _ hx
            obtain ⟨hsx, hml⟩ := ((h.turned T0).turned hT).src _ (List.mem_of_getElem? hx)
            simp only at hc0 hc1 hc2 hsx hml
            unfold maxLen at hml
            have HX := Lib.hid hx
            clear hx
            go_upto_if 43 with fail
            go_cut [9] (fun s9 wx => xs.length ≤ 50 ∧ ∃ g, s9 = .pointer (some ⟨g, 0, none⟩) ∧ wr.heap.size ≤ g ∧ wx.cell? ⟨g, 0, none⟩ = some (.int .i64 op) ∧ wx.cell? ⟨g, 1, none⟩ = some (.int .i64 n) ∧ wx.cell? ⟨g, 2, none⟩ = some (.slice xa xs.length xc) ∧ Turned (fun _ => False) wr wx)
            case first =>
              by_cases hbx : 50 < xs.length
              · go_wp2_with fail
                go_ret
                exact ⟨rfl, T0.trans (hT.alloc _)⟩
              · have hbx2 : xs.length ≤ 50 := by omega
                clear hbx
                go_wp2_with fail
                go_meet
                exact ⟨hbx2, wr.heap.size, rfl, Nat.le_refl _, by rw [cell_of_row _ wr.heap.size 0 _ 57 (0, 0) (heap_alloc_new wr _)]; rfl, by rw [cell_of_row _ wr.heap.size 1 _ 57 (0, 0) (heap_alloc_new wr _)]; rfl, by rw [cell_of_row _ wr.heap.size 2 _ 57 (0, 0) (heap_alloc_new wr _)]; rfl, (Turned.refl _ _).alloc _⟩
            case rest =>
              obtain ⟨hx50, g, rfl, hgl, e0, e1, e2, TX⟩ := hcut
              have hgm : ¬ Mine2 w0.heap.size lv g := fun hm => by have := ht.old g hm; omega
              have hs0 := (h.src _ (List.mem_of_getElem? HX.out)).1
              simp only at hs0
              have ht := ht.turned0 TX
              have hrow := hrow.turned0 TX
              have hT := hT.trans TX
              have hsx := hsx.turned0 TX
              have HTL := Lib.hid htl
              clear hc0 hc1 hc2 TX
              go_upto_block 2 with fail
              go_cut [7, 45] (fun s7 s45 wx => ∃ lv t, StkI wx w0.heap.size w0.heap.size room lv t ∧ Row wx 3 1 s7 t.length (t.map (Value.int .i64)) ∧ (∀ k, s7.ownBlock = some k → ¬ Mine2 w0.heap.size lv k) ∧ (∀ k, s7.ownBlock = some k → w0.heap.size ≤ k) ∧ Turned (fun _ => False) w0 wx)
              case first =>
                by_cases hop0 : op = 0
                · by_cases hnf : room < t.length + xs.length
                  · have hfit : ¬ (t.length + xs.length ≤ room) := by omega
                    clear hnf
                    have hb1 : decide ((t.length : Int) + (xs.length : Int) ≤ (room : Int)) = false := by simp; omega
                    have hb2 : decide (t.length + xs.length ≤ room) = false := by simp; omega
                    have HF := Lib.hid hfit
                    clear hfit
                    go_wp2_with fail
                    refine (stkPushI_no ht xa _ xc (by omega) (by have := HF.out; omega)).mono ?_
                    rintro e w7 ⟨rfl, ht7, T7⟩
                    have f0 := T7.cell0 e0
                    have f1 := T7.cell0 e1
                    have f2 := T7.cell0 e2
                    clear e0 e1 e2
                    go_wp2_with fail
                    go_meet
                    exact ⟨lv, t, ht7, hrow.turned0 T7, hap, hfr, hT.trans T7⟩
                  · as_aux_lemma =>
                    have hfit : t.length + xs.length ≤ room := by omega
                    clear hnf
                    have hb1 : decide ((t.length : Int) + (xs.length : Int) ≤ (room : Int)) = true := by simp; omega
                    have hb2 : decide (t.length + xs.length ≤ room) = true := by simp; omega
                    have HF := Lib.hid hfit
                    clear hfit
                    go_wp2_with fail
                    refine (stkPushI (ys := xs) ht xa _ xc rfl HF.out hT.size hsx.hnone hsx.hsrc).mono ?_
                    rintro e w7 ⟨rfl, lv7, ht7, T7, hmv⟩
                    have hrow7 := hrow.turned T7 hap
                    have hap7 := apart_moved2 hap hrow.lt hmv
                    have T07 := hT.of_mine2 T7 ht.fresh
                    have f2 := T7.cell e2 hgm
                    have hsx7 := (hs0.turned0 T0).turned0 T07
                    have hsrc7 := hrow7.source hrow7
                    obtain ⟨i0, hi0, hz0, hz1, hz2⟩ := info_parts stkInfoI
                    have hone : ∀ u ∈ t.map (Value.int .i64), u.oneCell' = true := by intro u hu; obtain ⟨_, _, rfl⟩ := List.mem_map.1 hu; rfl
                    have hone2 : ∀ u ∈ xs.map (Value.int .i64), u.oneCell' = true := by intro u hu; obtain ⟨_, _, rfl⟩ := List.mem_map.1 hu; rfl
                    have hsz7 := T07.size
                    clear e0 e1 e2
                    go_wp2_with fail
                    have hs1 : a2 = none → t.length = 0 ∧ cap2 = 0 := hsrc7.1
                    have hown0 : ∀ g k, w7.heap.size ≤ g → (Value.slice (some ⟨g, 0, none⟩) 0 0).ownBlock = some k → w7.heap.size ≤ k := by intro g k hg e; simp [Value.ownBlock] at e; omega
                    go_region_held3 (fun w' => Turned (fun _ => False) w7 w' ∧ w'.cell? ⟨g, 2, none⟩ = some (.slice xa xs.length xc))
                      (first | exact ⟨tB, tB.cell0 f2⟩ | exact ⟨tA, tA.cell0 f2⟩ | exact held_alloc (by assumption) | exact held_drew f2)
                      (first
                        | (refine step_append_any _ rfl (.tmp 115) (.tmp 116) 55 rfl 3 i0 (.int .i64 0) 1 8 Try.underlying55 hi0 hz0 hz1 hz2 rfl (by decide) (.slice (some ⟨w7.heap.size, 0, none⟩) 0 0) 0 [] rfl (Row.emptyAt (by first | exact heap_alloc_new w7.drew _ | exact alloc2_at0 w7.drew _ _)) a2 t.length cap2 (t.map (Value.int .i64)) rfl hs1 (by simp) (fun ad e j u hu => (show Turned (fun _ => False) w7 _ ∧ _ from by assumption).1.cell0 (hsrc7.2 ad e j u hu)) hone (by unfold maxLen; omega) (by omega) ?_; intro vA wA hownA hgA hlocA; have tA := held_step (by assumption) hgA (hown0 _ · (Nat.le_refl _)); have hoA := held_own (by assumption) hlocA (hown0 _ · (Nat.le_refl _)))
                        | (refine step_append_any _ rfl (.tmp 117) (.tmp 119) 55 rfl 3 i0 (.int .i64 0) 1 8 Try.underlying55 hi0 hz0 hz1 hz2 rfl (by decide) vA (0 + t.length) ([] ++ t.map (Value.int .i64)) rfl hownA xa xs.length xc (xs.map (Value.int .i64)) rfl hsx7.hnone (by simp) (fun ad e j u hu => tA.cell0 (hsx7.hsrc ad e j u hu)) hone2 (by unfold maxLen; omega) (by omega) ?_; intro vB wB hownB hgB hlocB; have tB := held_step (by assumption) hgB hoA; have hoB := held_own (by assumption) hlocB hoA))
                    all_goals
                      go_wp2_with fail
                      go_meet
                      refine ⟨lv7, t ++ xs, ht7.turned0 tB, by simpa using hownB, fun k e hm => ?_, fun k e => ?_, T07.trans tB⟩
                      · have := ht7.old _ hm
                        have := hoB _ e
                        omega
                      · have := hoB _ e
                        omega
                · by_cases hop1 : op = 1
                  · rcases List.eq_nil_or_concat t with rfl | ⟨t', x, hcc⟩
                    · as_aux_lemma =>
                      clear HTL
                      go_wp2_with fail
                      refine (stkPopI_none ht).mono ?_
                      rintro e w7 ⟨rfl, rfl⟩
                      go_wp2_with fail
                      go_meet
                      exact ⟨lv, [], ht, hrow, hap, hfr, hT⟩
                    · as_aux_lemma =>
                      rw [List.concat_eq_append] at hcc
                      obtain ⟨q, hq⟩ : ∃ q, t'.length = q := ⟨_, rfl⟩
                      have hql : t.length = q + 1 := by rw [hcc]; simp [hq]
                      have hsub : (t.length : Int) - 1 = (q : Int) := by omega
                      have hq1 : q < t.length := by omega
                      have hpos1 : decide (0 < (t.length : Int)) = true := by simp; omega
                      have hpos2 : decide (0 < t.length) = true := by simp; omega
                      have htq : t[q]? = some x := by rw [hcc, ← hq]; simp
                      have htk : t.take q = t' := by rw [hcc, ← hq]; simp
                      obtain ⟨g7, c7, hg7⟩ := hrow.shape_pos (by omega)
                      injection hg7 with p1 _ p2
                      subst p1; subst p2
                      have htop := stkPopI (l := t') (x := x) (by rw [← hcc]; exact ht)
                      have HT := Lib.hid htop
                      have HQ := Lib.hid htq
                      have HK := Lib.hid htk
                      have HL := Lib.hid hq
                      clear hcc hql hq htop htq htk
                      go_wp2_with fail
                      refine HT.out.mono ?_
                      rintro e w7 ⟨rfl, lv7, ht7, hl7, T7⟩
                      have hrow7 := hrow.turned T7 hap
                      have hap7 := apart_moved2 hap hrow.lt (.inl hl7)
                      have T07 := hT.of_mine2 T7 ht.fresh
                      have hcq := hrow7.cells rfl q (.int .i64 x) (by rw [List.getElem?_map, HQ.out]; rfl)
                      rcases rowI_cut hrow7 (Nat.le_of_lt hq1) with ⟨hx, _⟩ | ⟨g8, hx, hcut2⟩
                      · cases hx
                      · injection hx with hx
                        injection hx with hx
                        subst hx
                        have hmc : q ≤ cap2 := hcut2.1
                        have HC := Lib.hid hcut2
                        clear hcut2
                        clear e0 e1 e2
                        go_wp2_with fail
                        go_meet
                        exact ⟨lv7, t', ht7, by have := HC.out.2; rw [HK.out] at this; rw [HL.out]; exact this, hap7, hfr, T07⟩
                  · by_cases hn1 : n < 0
                    · as_aux_lemma =>
                      go_wp2_with fail
                      refine (stkUndoI_no ht n (.inl hn1)).mono ?_
                      rintro e w7 ⟨rfl, rfl⟩
                      go_wp2_with fail
                      go_meet
                      exact ⟨lv, t, ht, hrow, hap, hfr, hT⟩
                    · have hn0 : 0 ≤ n := by omega
                      by_cases hn2 : (t.length : Int) < n
                      · as_aux_lemma =>
                        go_wp2_with fail
                        refine (stkUndoI_no ht n (.inr hn2)).mono ?_
                        rintro e w7 ⟨rfl, rfl⟩
                        go_wp2_with fail
                        go_meet
                        exact ⟨lv, t, ht, hrow, hap, hfr, hT⟩
                      · as_aux_lemma =>
                        obtain ⟨m, rfl⟩ : ∃ m : Nat, n = m := ⟨n.toNat, by omega⟩
                        have hml2 : m ≤ t.length := by omega
                        clear hn0 hn1 hn2
                        have hb1 : decide ((m : Int) ≤ (t.length : Int)) = true := by simp; omega
                        have hb2 : decide (m ≤ t.length) = true := by simp; omega
                        have hqq : (((t.length - m : Nat) : Int) != (t.length : Int) - (m : Int)) = false := by rw [bne_eq_false_iff_eq]; omega
                        have hlm : (t.take m).length = m := by rw [List.length_take]; omega
                        have HLM := Lib.hid hlm
                        clear hlm
                        go_wp2_with fail
                        refine (stkUndoI ht m hml2).mono ?_
                        rintro e w7 ⟨v7, lv7, rfl, hv7, hf7, ht7, hl7, T7⟩
                        obtain ⟨a7, c7, rfl⟩ := hv7.shape
                        have hrow7 := hrow.turned T7 hap
                        have hap7 := apart_moved2 hap hrow.lt (.inl hl7)
                        have T07 := hT.of_mine2 T7 ht.fresh
                        have f0 := T7.cell e0 hgm
                        have f1 := T7.cell e1 hgm
                        have f2 := T7.cell e2 hgm
                        clear e0 e1 e2
                        go_wp2_with fail
                        obtain ⟨wo, rfl⟩ : ∃ wo : World, wo = w7 := ⟨_, rfl⟩
                        go_loopw [15] (fun j wr => ∃ i : Nat, i ≤ t.length - m ∧ j = .int .i64 i ∧ Turned (fun _ => False) wo wr) (fun j _ => (t.length - m) - (intOf j).toNat)
                        case atStart => exact ⟨0, Nat.zero_le _, rfl, Turned.refl _ _⟩
                        case round =>
                          obtain ⟨i, hik, rfl, hT5⟩ := hrel
                          by_cases hil : i < t.length - m
                          · as_aux_lemma =>
                            obtain ⟨q, hq⟩ : ∃ q, t.length = q + 1 := ⟨t.length - 1, by omega⟩
                            have hsub : (t.length : Int) - 1 = (q : Int) := by omega
                            obtain ⟨j, hj⟩ : ∃ j : Nat, j = q - i := ⟨_, rfl⟩
                            have hsub2 : (q : Int) - (i : Int) = (j : Int) := by omega
                            have hjl : j < t.length := by omega
                            obtain ⟨z, hz⟩ : ∃ z, t[j]? = some z := ⟨_, List.getElem?_eq_getElem hjl⟩
                            have hzx : ((t.drop m).map (Value.int .i64)).reverse[i]? = some (.int .i64 z) := by
                              rw [List.getElem?_reverse (by simp; omega)]
                              simp only [List.length_map, List.length_drop, List.getElem?_map, List.getElem?_drop]
                              rw [show m + (t.length - m - 1 - i) = j from by omega, hz]; rfl
                            obtain ⟨g2, c2, hgc⟩ := hrow7.shape_pos (by omega)
                            injection hgc with q1 _ q2
                            subst q1; subst q2
                            obtain ⟨g8, c8, hgc8⟩ := hv7.shape_pos (by omega)
                            injection hgc8 with q1 _ q2
                            subst q1; subst q2
                            have hcz := hT5.cell0 (hrow7.cells rfl j (.int .i64 z) (by rw [List.getElem?_map, hz]; rfl))
                            have hcz8 := hT5.cell0 (hv7.cells rfl i (.int .i64 z) hzx)
                            clear hq hj hz hzx f0 f1 f2
                            go_wp2_with fail
                            go_quiet (fail)
                            go_wp2_with fail
                            go_roundw
                            case rel => exact ⟨i + 1, by omega, by go_num, hT5.drewN _⟩
                            case measure => (simp [intOf]; try omega)
                          · obtain rfl : i = t.length - m := by omega
                            have q0 := hT5.cell0 f0
                            have q1 := hT5.cell0 f1
                            have q2 := hT5.cell0 f2
                            have hrow8 := hrow7.turned0 hT5
                            clear f0 f1 f2
                            rcases rowI_cut hrow8 hml2 with ⟨rfl, hnil, rfl, rfl⟩ | ⟨g8, rfl, hcut2⟩
                            · as_aux_lemma =>
                              obtain rfl : t = [] := List.eq_nil_of_length_eq_zero hnil
                              go_wp2_with fail
                              go_meet
                              exact ⟨lv7, _, ht7.turned0 hT5, by simpa using hrow8, hap7, hfr, T07.trans hT5⟩
                            · as_aux_lemma =>
                              have HC := Lib.hid hcut2
                              clear hcut2
                              have hmc : m ≤ cap2 := HC.out.1
                              go_wp2_with fail
                              go_meet
                              exact ⟨lv7, _, ht7.turned0 hT5, by rw [HLM.out]; exact HC.out.2, hap7, hfr, T07.trans hT5⟩
              case rest =>
                as_aux_lemma =>
                obtain ⟨lv, t, ht, hrow, hap, hfr, hT⟩ := hcut
                obtain ⟨a2, cap2, rfl⟩ := hrow.shape
                have htl := ht.len
                have HTL := Lib.hid htl
                rcases List.eq_nil_or_concat t with rfl | ⟨t', x, hcc⟩
                · as_aux_lemma =>
                  clear HTL
                  go_wp2_with fail
                  refine (stkTopI_miss ht).mono ?_
                  rintro e w8 ⟨rfl, rfl⟩
                  go_wp2_with fail
                  refine (stkMarkI ht).mono ?_
                  rintro e w8 ⟨rfl, rfl⟩
                  go_wp2_with fail
                  refine (stkAllI ht).mono ?_
                  rintro e w8 ⟨v8, rfl, hv8, _, T8⟩
                  obtain ⟨a8, c8, rfl⟩ := hv8.shape
                  go_wp2_with fail
                  refine (ints_any (xs := []) (ys := []) hv8.src (hrow.turned0 T8).src (by simp) (by simp)).mono ?_
                  rintro e w9 ⟨rfl, T9⟩
                  rw [decide_eq_true (rfl : ([] : List Int) = [])]
                  go_wp2_with fail
                  go_roundw
                  case rel => exact ⟨k + 1, by omega, by go_num, ⟨lv, [], ht.turned0 (T8.trans T9), hrow.turned0 (T8.trans T9), hap, hfr⟩, hT.trans (T8.trans T9)⟩
                  case measure => (simp [intOf]; try omega)
                · as_aux_lemma =>
                  rw [List.concat_eq_append] at hcc
                  obtain ⟨q, hq⟩ : ∃ q, t'.length = q := ⟨_, rfl⟩
                  have hql : t.length = q + 1 := by rw [hcc]; simp [hq]
                  have hsub : (t.length : Int) - 1 = (q : Int) := by omega
                  have hq1 : q < t.length := by omega
                  have hpos1 : decide (0 < (t.length : Int)) = true := by simp; omega
                  have hpos2 : decide (0 < t.length) = true := by simp; omega
                  have htq : t[q]? = some x := by rw [hcc, ← hq]; simp
                  have HC := Lib.hid hcc
                  obtain ⟨g7, c7, hg7⟩ := hrow.shape_pos (by omega)
                  injection hg7 with p1 _ p2
                  subst p1; subst p2
                  have htop := stkTopI_hit (l := t') (x := x) (by rw [← hcc]; exact ht)
                  have HT := Lib.hid htop
                  have HQ := Lib.hid htq
                  clear hcc hql hq htop htq
                  go_wp2_with fail
                  refine HT.out.mono ?_
                  rintro e w8 ⟨rfl, rfl⟩
                  go_wp2_with fail
                  refine (stkMarkI ht).mono ?_
                  rintro e w8 ⟨rfl, rfl⟩
                  go_wp2_with fail
                  refine (stkAllI ht).mono ?_
                  rintro e w8 ⟨v8, rfl, hv8, _, T8⟩
                  obtain ⟨a8, c8, rfl⟩ := hv8.shape
                  go_wp2_with fail
                  refine (ints_any (xs := t) (ys := t) hv8.src (hrow.turned0 T8).src (by omega) (by omega)).mono ?_
                  rintro e w9 ⟨rfl, T9⟩
                  rw [decide_eq_true (rfl : t = t)]
                  have hcq := (T8.trans T9).cell0 (hrow.cells rfl q (.int .i64 x) (by rw [List.getElem?_map, HQ.out]; rfl))
                  go_wp2_with fail
                  go_roundw
                  case rel => exact ⟨k + 1, by omega, by go_num, ⟨lv, t, ht.turned0 (T8.trans T9), hrow.turned0 (T8.trans T9), hap, hfr⟩, hT.trans (T8.trans T9)⟩
                  case measure => (simp [intOf]; try omega)
          · obtain rfl : k = l.length := by omega
            go_wp2
            go_ret
            exact ⟨rfl, T0.trans hT⟩
end Go.Proofs.Ytifideminojgjaa

/- TablePlays: the walk of the law. -/
import Derived.Test.YtifideminojgjaaMore
import Derived.Deep.RegionHeld3
import Derived.Deep.DeepCutAuto
namespace Go.Proofs.Ytifideminojgjaa
open Go.RowKit Go.Maps
set_option linter.unusedVariables false
set_option linter.unusedSimpArgs false

/-- A call: what it does, its number, its key. -/
structure TAct where
  op : Int
  n : Int
  k : ByteArray

/-- A slice of calls that came in. -/
structure ActSl (w : World) (a : Option Addr) (l : List TAct) : Prop where
  at0 : 0 < l.length → ∃ b o, a = some ⟨b, o, none⟩
  cell : ∀ b o, a = some ⟨b, o, none⟩ → ∀ (i : Nat) (x : TAct), l[i]? = some x → w.cell? ⟨b, o + i * 3, none⟩ = some (.int .i64 x.op) ∧ w.cell? ⟨b, o + i * 3 + 1, none⟩ = some (.int .i64 x.n) ∧ w.cell? ⟨b, o + i * 3 + 2, none⟩ = some (.string x.k)
  small : ∀ x ∈ l, x.k.size ≤ maxLen

theorem ActSl.turned {w w' : World} {a : Option Addr} {l : List TAct} (h : ActSl w a l) (ht : Turned (fun _ => False) w w') : ActSl w' a l :=
  ⟨h.at0, fun b o e i p hp => ⟨ht.cell0 (h.cell b o e i p hp).1, ht.cell0 (h.cell b o e i p hp).2.1, ht.cell0 (h.cell b o e i p hp).2.2⟩, h.small⟩

theorem row_cut {w : World} {a : Option Addr} {n cap m : Nat} {t : List ByteArray} (h : Row w 9 1 (.slice a n cap) n (t.map Value.string)) (hm : m ≤ n) :
    (a = none ∧ n = 0 ∧ cap = 0 ∧ m = 0) ∨ ∃ g, a = some ⟨g, 0, none⟩ ∧ (m ≤ cap ∧ Row w 9 1 (.slice (some ⟨g, 0, none⟩) m cap) m ((t.take m).map Value.string)) := by
  rcases h.2 with ⟨e, hn⟩ | ⟨g, c, cur, e, hg, hc, _⟩
  · injection e with e1 e2 e3
    exact .inl ⟨e1, e2, e3, by omega⟩
  · injection e with e1 _ e3
    subst e1; subst e3
    refine .inr ⟨g, rfl, by omega, ?_⟩
    have := h.take hm (c := cap) (by omega) (Nat.le_refl _)
    rw [Nat.mul_one, ← List.map_take] at this
    exact this

set_option maxRecDepth 100000 in
set_option maxHeartbeats 16000000 in
theorem tablePlays (most : Int) (a : Option Addr) (cap : Nat) (l : List TAct) (w : World) (h : ActSl w a l) (hlen : l.length ≤ maxLen) :
    Calls Try.prog 7 #[.int .i64 most, .slice a l.length cap] w fun e w' => e = .returned (.bool true) ∧ Turned (fun _ => False) w w' := by
  unfold maxLen at hlen
  by_cases hbig : 150 < l.length
  · go_enter Try.func7, Try.ntmps7
    go_wp2_with fail
    refine (awake3 w).mono ?_
    rintro e w1 ⟨rfl, T0⟩
    go_wp2_with fail
    go_ret
    exact ⟨rfl, T0⟩
  · have hd : decide (150 < (l.length : Int)) = false := by simp; omega
    go_enter Try.func7, Try.ntmps7
    go_wp2_with fail
    refine (awake3 w).mono ?_
    rintro e w0 ⟨rfl, T0⟩
    go_wp2_with fail
    refine (newS most w0 w0.heap.size (Nat.le_refl _)).mono ?_
    rintro e w1 ⟨rfl, h1, T1⟩
    obtain ⟨room, hroom⟩ : ∃ r : Nat, (roomOf most).toNat = r := ⟨_, rfl⟩
    have hr1 := h1.room1
    have hr2 := h1.room2
    rw [hroom] at h1 hr1 hr2
    have HR := Lib.hid hroom
    clear hroom
    go_upto_if 29 with fail
    go_cut [6] (fun s6 wx => s6 = .int .i64 (max most 1) ∧ w1 = wx)
    case first =>
      go_wp2_with fail
      all_goals (go_meet; exact ⟨by congr 1; omega, rfl⟩)
    case rest =>
      obtain ⟨rfl, rfl⟩ := hcut
      go_upto_if 31 with fail
      go_cut [6] (fun s6 wx => s6 = .int .i64 room ∧ w1 = wx)
      case first =>
        go_wp2_with fail
        all_goals (go_meet; exact ⟨by have := HR.out; unfold roomOf at this; congr 1; omega, rfl⟩)
      case rest =>
        obtain ⟨rfl, rfl⟩ := hcut
        go_wp2_with fail
        go_loopw [7, 8] (fun v i wr => ∃ k : Nat, k ≤ l.length ∧ i = .int .i64 k ∧ (∃ lv t, TabS wr w0.heap.size (w0.heap.size + 1) w0.heap.size room lv t ∧ Row wr 9 1 v t.length (t.map Value.string) ∧ (∀ k, v.ownBlock = some k → ¬ Mine (w0.heap.size + 1) w0.heap.size lv k) ∧ (∀ k, v.ownBlock = some k → w0.heap.size ≤ k) ∧ ∀ s ∈ t, s.size ≤ maxLen) ∧ Turned (fun _ => False) w0 wr) (fun _ i _ => l.length - (intOf i).toNat)
        case atStart => exact ⟨0, Nat.zero_le _, rfl, ⟨_, _, h1, Row.nil _ _ _, by simp [Value.ownBlock], by simp [Value.ownBlock], by simp⟩, T1⟩
        case round =>
          obtain ⟨k, hkl, rfl, ⟨lv, t, ht, hrow, hap, hfr, hts⟩, hT⟩ := hrel
          obtain ⟨a2, cap2, rfl⟩ := hrow.shape
          have htl := ht.len
          by_cases hlt : k < l.length
          · obtain ⟨⟨op, n, s⟩, hx⟩ : ∃ x, l[k]? = some x := ⟨_, List.getElem?_eq_getElem hlt⟩
            obtain ⟨b, o, rfl⟩ := h.at0 (by omega)
            obtain ⟨hc0, hc1, hc2⟩ := ((h.turned T0).turned hT).cell b o rfl k _ hx
            have hsz := h.small _ (List.mem_of_getElem? hx)
            simp only at hc0 hc1 hc2 hsz
            have hx := Lib.hid hx
            go_wp2_with fail
            obtain ⟨wo, rfl⟩ : ∃ wo : World, wo = wr := ⟨_, rfl⟩
            go_loopw [9, 10] (fun c j wr => ∃ m : Nat, m ≤ t.length ∧ j = .int .i64 m ∧ (∃ y : Int, c = .int .i64 y ∧ ((y = -1 ∧ s ∉ t.take m) ∨ ∃ i : Nat, y = i ∧ i < m ∧ t[i]? = some s)) ∧ Turned (fun _ => False) wo wr) (fun _ j _ => t.length - (intOf j).toNat)
            case atStart => exact ⟨0, Nat.zero_le _, rfl, ⟨_, rfl, .inl ⟨rfl, by simp⟩⟩, Turned.refl _ _⟩
            case round =>
              obtain ⟨m, hmk, rfl, ⟨y, rfl, hy⟩, hT5⟩ := hrel
              by_cases hlm : m < t.length
              · as_aux_lemma =>
                obtain ⟨z, hz⟩ : ∃ z, t[m]? = some z := ⟨_, List.getElem?_eq_getElem (by omega)⟩
                obtain ⟨g, cap4, hgc⟩ := hrow.shape_pos (by omega)
                injection hgc with q1 _ q2
                subst q1; subst q2
                have hcz := hT5.cell0 (hrow.cells rfl m (.string z) (by rw [List.getElem?_map, hz]; rfl))
                have hc2' := hT5.cell0 hc2
                have HZ := Lib.hid hz
                have HY := Lib.hid hy
                clear hz hy hc0 hc1 hc2
                by_cases hzx : z = s
                · subst hzx
                  go_wp2_with fail
                  go_quiet (fail)
                  go_wp2_with fail
                  go_roundw
                  case rel => exact ⟨m + 1, by omega, by go_num, ⟨_, rfl, .inr ⟨m, rfl, by omega, HZ.out⟩⟩, hT5.drewN _⟩
                  case measure => (simp [intOf]; try omega)
                · have hb := str_neq hzx
                  have HN := Lib.hid hzx
                  clear hzx
                  go_wp2_with fail
                  go_quiet (fail)
                  go_wp2_with fail
                  go_roundw
                  case rel => exact ⟨m + 1, by omega, by go_num, ⟨_, rfl, by
                    rcases HY.out with ⟨h1, h2⟩ | ⟨i, h1, h2, h3⟩
                    · exact .inl ⟨h1, by rw [List.take_add_one, HZ.out]; simp; exact ⟨h2, fun e => HN.out e.symm⟩⟩
                    · exact .inr ⟨i, h1, by omega, h3⟩⟩, hT5.drewN _⟩
                  case measure => (simp [intOf]; try omega)
              · obtain rfl : m = t.length := by omega
                have ht5 := ht.turned0 hT5
                have hrow5 := hrow.turned0 hT5
                have hT6 := hT.trans hT5
                have d0 := hT5.cell0 hc0
                have d1 := hT5.cell0 hc1
                have d2 := hT5.cell0 hc2
                have hmem : (y = -1 ∧ s ∉ t) ∨ ∃ i : Nat, y = i ∧ i < t.length ∧ t[i]? = some s := by
                  rcases hy with ⟨h1, h2⟩ | h2
                  · exact .inl ⟨h1, by rw [List.take_length] at h2; exact h2⟩
                  · exact .inr h2
                clear hc0 hc1 hc2 hy ht hrow hT hT5
                rcases hmem with ⟨rfl, hm⟩ | ⟨i, rfl, hil, hi⟩
                · as_aux_lemma =>
                  go_wp2_with fail
                  refine (findS_miss ht5 s hsz hm).mono ?_
                  rintro e w6 ⟨rfl, rfl⟩
                  go_upto_if 82 with fail
                  go_cut [7] (fun s7 wx => ∃ lv t, TabS wx w0.heap.size (w0.heap.size + 1) w0.heap.size room lv t ∧ Row wx 9 1 s7 t.length (t.map Value.string) ∧ (∀ k, s7.ownBlock = some k → ¬ Mine (w0.heap.size + 1) w0.heap.size lv k) ∧ (∀ k, s7.ownBlock = some k → w0.heap.size ≤ k) ∧ (∀ s ∈ t, s.size ≤ maxLen) ∧ Turned (fun _ => False) w0 wx)
                  case first =>
                    by_cases hop : op = 0
                    · by_cases hfull : t.length = room
                      · have hb1 : decide ((t.length : Int) < (room : Int)) = false := by simp; omega
                        have hb2 : decide (t.length < room) = false := by simp; omega
                        have HF := Lib.hid hfull
                        clear hfull
                        go_wp2_with fail
                        refine (putS_full ht5 s hsz hm HF.out).mono ?_
                        rintro e w7 ⟨rfl, ht7, T7⟩
                        have hrow7 := hrow5.turned0 T7
                        have T07 := hT6.trans T7
                        have e0 := T7.cell0 d0
                        have e1 := T7.cell0 d1
                        have e2 := T7.cell0 d2
                        clear d0 d1 d2
                        go_wp2_with fail
                        go_meet
                        exact ⟨lv, t, ht7, hrow7, hap, hfr, hts, T07⟩
                      · as_aux_lemma =>
                        have hb1 : decide ((t.length : Int) < (room : Int)) = true := by simp; omega
                        have hb2 : decide (t.length < room) = true := by simp; omega
                        have hsz6 := hT6.size
                        go_wp2_with fail
                        refine (putS_new ht5 s hsz hm (by omega) hsz6).mono ?_
                        rintro e w7 ⟨rfl, lv7, ht7, T7, hmv⟩
                        have hrow7 := hrow5.turned T7 hap
                        have hap7 := apart_moved hap hrow5.lt hmv
                        have T07 := hT6.of_mine T7 ht5.fresh
                        obtain ⟨e0, e1, e2⟩ := ((h.turned T0).turned T07).cell b o rfl k _ hx.out
                        simp only at e0 e1 e2
                        have hb7 := World.block_lt_of_cell? _ _ e2
                        obtain ⟨i0, hi0, hz0, hz1, hz2⟩ := info_parts infoS
                        have hone : ∀ u ∈ t.map Value.string, u.oneCell' = true := by intro u hu; obtain ⟨_, _, rfl⟩ := List.mem_map.1 hu; rfl
                        have hrl := hrow7.lt
                        have hsrc7 := hrow7.source hrow7
                        have hsz7 := T07.size
                        clear d0 d1 d2
                        go_wp2_with fail
                        have hs1 : a2 = none → t.length = 0 ∧ cap2 = 0 := hsrc7.1
                        have hown0 : ∀ g k, w7.heap.size ≤ g → (Value.slice (some ⟨g, 0, none⟩) 0 0).ownBlock = some k → w7.heap.size ≤ k := by intro g k hg e; simp [Value.ownBlock] at e; omega
                        go_region_held3 (fun w' => Turned (fun _ => False) w7 w' ∧ w'.cell? ⟨b, o + k * 3 + 2, none⟩ = some (.string s))
                          (first | exact ⟨tB, tB.cell0 e2⟩ | exact ⟨tA, tA.cell0 e2⟩ | exact held_alloc (by assumption) | exact held_drew e2)
                          (first
                            | (refine step_append_any _ rfl (.tmp 101) (.tmp 102) 31 rfl 9 i0 (.string ByteArray.empty) 1 16 Try.underlying31 hi0 hz0 hz1 hz2 rfl (by decide) (.slice (some ⟨w7.heap.size, 0, none⟩) 0 0) 0 [] rfl (Row.emptyAt (by first | exact heap_alloc_new w7.drew _ | exact alloc2_at0 w7.drew _ _)) a2 t.length cap2 (t.map Value.string) rfl hs1 (by simp) (fun ad e j u hu => (show Turned (fun _ => False) w7 _ ∧ _ from by assumption).1.cell0 (hsrc7.2 ad e j u hu)) hone (by unfold maxLen; omega) (by omega) ?_; intro vA wA hownA hgA hlocA; have tA := held_step (by assumption) hgA (hown0 _ · (Nat.le_refl _)); have hoA := held_own (by assumption) hlocA (hown0 _ · (Nat.le_refl _)))
                            | (refine step_append_any _ rfl (.tmp 101) (.tmp 102) 31 rfl 9 i0 (.string ByteArray.empty) 1 16 Try.underlying31 hi0 hz0 hz1 hz2 rfl (by decide) (.slice (some ⟨w7.heap.size + 1, 0, none⟩) 0 0) 0 [] rfl (Row.emptyAt (alloc2_at w7.drew _ _)) a2 t.length cap2 (t.map Value.string) rfl hs1 (by simp) (fun ad e j u hu => (show Turned (fun _ => False) w7 _ ∧ _ from by assumption).1.cell0 (hsrc7.2 ad e j u hu)) hone (by unfold maxLen; omega) (by omega) ?_; intro vA wA hownA hgA hlocA; have tA := held_step (by assumption) hgA (hown0 _ · (Nat.le_succ _)); have hoA := held_own (by assumption) hlocA (hown0 _ · (Nat.le_succ _)))
                            | (refine step_append_some _ rfl (.tmp 103) (.tmp 109) 31 rfl 9 i0 (.string ByteArray.empty) 1 16 Try.underlying31 hi0 hz0 hz1 hz2 rfl (by decide) vA (0 + t.length) ([] ++ t.map Value.string) rfl (hownA.turned0 ((Turned.refl _ _).alloc _)) ⟨wA.heap.size, 0, none⟩ 1 1 [.string s] rfl rfl (World.news_of_block (heap_alloc_new wA _)) (by simp [Value.oneCell']) (by omega) (by unfold maxLen; omega) (by omega) ?_; intro gB capB wB hownB hgB hlocB; have tB := held_step (by assumption) hgB hoA; have hoB := held_own2 (by assumption) hlocB hoA)
                            | (refine step_append_some _ rfl (.tmp 103) (.tmp 109) 31 rfl 9 i0 (.string ByteArray.empty) 1 16 Try.underlying31 hi0 hz0 hz1 hz2 rfl (by decide) vA (0 + t.length) ([] ++ t.map Value.string) rfl hownA ⟨w7.heap.size + 1, 0, none⟩ 1 1 [.string s] rfl rfl (World.news_of_block (heap_kept (alloc2_at w7.drew _ _) hgA (by simp [Value.ownBlock]))) (by simp [Value.oneCell']) (by omega) (by unfold maxLen; omega) (by omega) ?_; intro gB capB wB hownB hgB hlocB; have tB := held_step (by assumption) hgB hoA; have hoB := held_own2 (by assumption) hlocB hoA)
                            | (refine step_append_some _ rfl (.tmp 103) (.tmp 109) 31 rfl 9 i0 (.string ByteArray.empty) 1 16 Try.underlying31 hi0 hz0 hz1 hz2 rfl (by decide) vA (0 + t.length) ([] ++ t.map Value.string) rfl hownA ⟨w7.heap.size, 0, none⟩ 1 1 [.string s] rfl rfl (World.news_of_block (heap_kept (alloc2_at0 w7.drew _ _) hgA (by simp [Value.ownBlock]))) (by simp [Value.oneCell']) (by omega) (by unfold maxLen; omega) (by omega) ?_; intro gB capB wB hownB hgB hlocB; have tB := held_step (by assumption) hgB hoA; have hoB := held_own2 (by assumption) hlocB hoA))
                        all_goals
                          as_aux_lemma =>
                          go_wp2_with fail
                          go_meet
                          refine ⟨lv7, t ++ [s], ht7.turned0 tB, by simpa using hownB, fun k e hm => ?_, fun k e => ?_, fun x hx => ?_, T07.trans tB⟩
                          · simp [Value.ownBlock] at e
                            have := ht7.old _ hm
                            omega
                          · simp [Value.ownBlock] at e
                            omega
                          · rcases List.mem_append.1 hx with h | h
                            · exact hts x h
                            · simp at h; subst h; exact hsz
                    · by_cases hn0 : n < 0
                      · as_aux_lemma =>
                        go_wp2_with fail
                        refine (cutS_no ht5 n (.inl hn0)).mono ?_
                        rintro e w7 ⟨rfl, rfl⟩
                        go_wp2_with fail
                        go_meet
                        exact ⟨lv, t, ht5, hrow5, hap, hfr, hts, hT6⟩
                      · by_cases hn1 : (t.length : Int) < n
                        · as_aux_lemma =>
                          have hnp : 0 ≤ n := by omega
                          clear hn0
                          go_wp2_with fail
                          refine (cutS_no ht5 n (.inr hn1)).mono ?_
                          rintro e w7 ⟨rfl, rfl⟩
                          go_wp2_with fail
                          go_meet
                          exact ⟨lv, t, ht5, hrow5, hap, hfr, hts, hT6⟩
                        · as_aux_lemma =>
                          obtain ⟨m, rfl⟩ : ∃ m : Nat, n = m := ⟨n.toNat, by omega⟩
                          have hml : m ≤ t.length := by omega
                          have hlm : (t.take m).length = m := by rw [List.length_take]; omega
                          clear hn0 hn1
                          go_wp2_with fail
                          refine (cutS ht5 m hml hts).mono ?_
                          rintro e w7 ⟨rfl, lv7, ht7, T7, hl7⟩
                          have hrow7 := hrow5.turned T7 hap
                          have hap7 := apart_moved hap hrow5.lt (.inl hl7)
                          have T07 := hT6.of_mine T7 ht5.fresh
                          obtain ⟨e0, e1, e2⟩ := ((h.turned T0).turned T07).cell b o rfl k _ hx.out
                          simp only at e0 e1 e2
                          clear d0 d1 d2
                          have HLM := Lib.hid hlm
                          clear hlm
                          rcases row_cut hrow7 hml with ⟨rfl, hnil, rfl, rfl⟩ | ⟨g, rfl, hcut2⟩
                          · as_aux_lemma =>
                            obtain rfl : t = [] := List.eq_nil_of_length_eq_zero hnil
                            go_wp2_with fail
                            go_meet
                            exact ⟨lv7, _, ht7, by simpa using hrow7, hap7, hfr, by simp, T07⟩
                          · as_aux_lemma =>
                            have hHC := Lib.hid hcut2
                            clear hcut2
                            have hmc : m ≤ cap2 := hHC.out.1
                            go_wp2_with fail
                            go_meet
                            exact ⟨lv7, _, ht7, by rw [HLM.out]; exact hHC.out.2, hap7, hfr, fun s hs => hts s (List.mem_of_mem_take hs), T07⟩
                  case rest =>
                    as_aux_lemma =>
                    clear ht5 hrow5 hT6 d0 d1 d2 hap hfr hts hx hsz
                    obtain ⟨lv, t, ht, hrow, hap, hfr, hts, hT⟩ := hcut
                    obtain ⟨a7, cap7, rfl⟩ := hrow.shape
                    have htl := ht.len
                    go_wp2_with fail
                    refine (allS ht).mono ?_
                    rintro e w8 ⟨v8, rfl, hvf, hrow8, T8⟩
                    obtain ⟨a8, cap8, rfl⟩ := hrow8.shape
                    have ht8 := ht.turned0 T8
                    have hrow7 := hrow.turned0 T8
                    have hT8 := hT.trans T8
                    clear ht hrow T8 hT
                    go_wp2_with fail
                    refine (lenS ht8).mono ?_
                    rintro e w9 ⟨rfl, rfl⟩
                    go_wp2_with fail
                    obtain ⟨wo, rfl⟩ : ∃ wo : World, wo = w8 := ⟨_, rfl⟩
                    go_loopw [17] (fun j wr => ∃ m : Nat, m ≤ t.length ∧ j = .int .i64 m ∧ Turned (fun _ => False) wo wr) (fun j _ => t.length - (intOf j).toNat)
                    case atStart => exact ⟨0, Nat.zero_le _, rfl, Turned.refl _ _⟩
                    case round =>
                      obtain ⟨m, hmk, rfl, hT5⟩ := hrel
                      by_cases hlm : m < t.length
                      · as_aux_lemma =>
                        obtain ⟨z, hz⟩ : ∃ z, t[m]? = some z := ⟨_, List.getElem?_eq_getElem (by omega)⟩
                        obtain ⟨g, cap4, hgc⟩ := hrow7.shape_pos (by omega)
                        injection hgc with q1 _ q2
                        subst q1; subst q2
                        obtain ⟨g8, cap48, hgc8⟩ := hrow8.shape_pos (by omega)
                        injection hgc8 with q1 _ q2
                        subst q1; subst q2
                        have hcz := hT5.cell0 (hrow7.cells rfl m (.string z) (by rw [List.getElem?_map, hz]; rfl))
                        have hcz8 := hT5.cell0 (hrow8.cells rfl m (.string z) (by rw [List.getElem?_map, hz]; rfl))
                        go_wp2_with fail
                        refine (atS_hit (ht8.turned0 hT5) z m hz).mono ?_
                        rintro e w9 ⟨rfl, rfl⟩
                        have HZ := Lib.hid hz
                        clear hz
                        go_wp2_with fail
                        go_quiet (fail)
                        go_wp2_with fail
                        go_roundw
                        case rel => exact ⟨m + 1, by omega, by go_num, hT5.drewN _⟩
                        case measure => (simp [intOf]; try omega)
                      · obtain rfl : m = t.length := by omega
                        go_wp2_with fail
                        go_roundw
                        case rel => exact ⟨k + 1, by omega, by go_num, ⟨lv, t, ht8.turned0 hT5, hrow7.turned0 hT5, hap, hfr, hts⟩, hT8.trans hT5⟩
                        case measure => (simp [intOf]; try omega)
                · as_aux_lemma =>
                  go_wp2_with fail
                  refine (findS_hit ht5 s hsz i hi).mono ?_
                  rintro e w6 ⟨rfl, rfl⟩
                  go_upto_if 82 with fail
                  go_cut [7] (fun s7 wx => ∃ lv t, TabS wx w0.heap.size (w0.heap.size + 1) w0.heap.size room lv t ∧ Row wx 9 1 s7 t.length (t.map Value.string) ∧ (∀ k, s7.ownBlock = some k → ¬ Mine (w0.heap.size + 1) w0.heap.size lv k) ∧ (∀ k, s7.ownBlock = some k → w0.heap.size ≤ k) ∧ (∀ s ∈ t, s.size ≤ maxLen) ∧ Turned (fun _ => False) w0 wx)
                  case first =>
                    by_cases hop : op = 0
                    · go_wp2_with fail
                      refine (putS_hit ht5 s hsz i hi).mono ?_
                      rintro e w7 ⟨rfl, rfl⟩
                      go_wp2_with fail
                      go_meet
                      exact ⟨lv, t, ht5, hrow5, hap, hfr, hts, hT6⟩
                    · by_cases hn0 : n < 0
                      · as_aux_lemma =>
                        go_wp2_with fail
                        refine (cutS_no ht5 n (.inl hn0)).mono ?_
                        rintro e w7 ⟨rfl, rfl⟩
                        go_wp2_with fail
                        go_meet
                        exact ⟨lv, t, ht5, hrow5, hap, hfr, hts, hT6⟩
                      · by_cases hn1 : (t.length : Int) < n
                        · as_aux_lemma =>
                          have hnp : 0 ≤ n := by omega
                          clear hn0
                          go_wp2_with fail
                          refine (cutS_no ht5 n (.inr hn1)).mono ?_
                          rintro e w7 ⟨rfl, rfl⟩
                          go_wp2_with fail
                          go_meet
                          exact ⟨lv, t, ht5, hrow5, hap, hfr, hts, hT6⟩
                        · as_aux_lemma =>
                          obtain ⟨m, rfl⟩ : ∃ m : Nat, n = m := ⟨n.toNat, by omega⟩
                          have hml : m ≤ t.length := by omega
                          have hlm : (t.take m).length = m := by rw [List.length_take]; omega
                          clear hn0 hn1
                          go_wp2_with fail
                          refine (cutS ht5 m hml hts).mono ?_
                          rintro e w7 ⟨rfl, lv7, ht7, T7, hl7⟩
                          have hrow7 := hrow5.turned T7 hap
                          have hap7 := apart_moved hap hrow5.lt (.inl hl7)
                          have T07 := hT6.of_mine T7 ht5.fresh
                          obtain ⟨e0, e1, e2⟩ := ((h.turned T0).turned T07).cell b o rfl k _ hx.out
                          simp only at e0 e1 e2
                          clear d0 d1 d2
                          have HLM := Lib.hid hlm
                          clear hlm
                          rcases row_cut hrow7 hml with ⟨rfl, hnil, rfl, rfl⟩ | ⟨g, rfl, hcut2⟩
                          · omega
                          · as_aux_lemma =>
                            have hHC := Lib.hid hcut2
                            clear hcut2
                            have hmc : m ≤ cap2 := hHC.out.1
                            go_wp2_with fail
                            go_meet
                            exact ⟨lv7, _, ht7, by rw [HLM.out]; exact hHC.out.2, hap7, hfr, fun s hs => hts s (List.mem_of_mem_take hs), T07⟩
                  case rest =>
                    as_aux_lemma =>
                    clear ht5 hrow5 hT6 d0 d1 d2 hap hfr hts hx hsz
                    obtain ⟨lv, t, ht, hrow, hap, hfr, hts, hT⟩ := hcut
                    obtain ⟨a7, cap7, rfl⟩ := hrow.shape
                    have htl := ht.len
                    go_wp2_with fail
                    refine (allS ht).mono ?_
                    rintro e w8 ⟨v8, rfl, hvf, hrow8, T8⟩
                    obtain ⟨a8, cap8, rfl⟩ := hrow8.shape
                    have ht8 := ht.turned0 T8
                    have hrow7 := hrow.turned0 T8
                    have hT8 := hT.trans T8
                    clear ht hrow T8 hT
                    go_wp2_with fail
                    refine (lenS ht8).mono ?_
                    rintro e w9 ⟨rfl, rfl⟩
                    go_wp2_with fail
                    obtain ⟨wo, rfl⟩ : ∃ wo : World, wo = w8 := ⟨_, rfl⟩
                    go_loopw [17] (fun j wr => ∃ m : Nat, m ≤ t.length ∧ j = .int .i64 m ∧ Turned (fun _ => False) wo wr) (fun j _ => t.length - (intOf j).toNat)
                    case atStart => exact ⟨0, Nat.zero_le _, rfl, Turned.refl _ _⟩
                    case round =>
                      obtain ⟨m, hmk, rfl, hT5⟩ := hrel
                      by_cases hlm : m < t.length
                      · as_aux_lemma =>
                        obtain ⟨z, hz⟩ : ∃ z, t[m]? = some z := ⟨_, List.getElem?_eq_getElem (by omega)⟩
                        obtain ⟨g, cap4, hgc⟩ := hrow7.shape_pos (by omega)
                        injection hgc with q1 _ q2
                        subst q1; subst q2
                        obtain ⟨g8, cap48, hgc8⟩ := hrow8.shape_pos (by omega)
                        injection hgc8 with q1 _ q2
                        subst q1; subst q2
                        have hcz := hT5.cell0 (hrow7.cells rfl m (.string z) (by rw [List.getElem?_map, hz]; rfl))
                        have hcz8 := hT5.cell0 (hrow8.cells rfl m (.string z) (by rw [List.getElem?_map, hz]; rfl))
                        go_wp2_with fail
                        refine (atS_hit (ht8.turned0 hT5) z m hz).mono ?_
                        rintro e w9 ⟨rfl, rfl⟩
                        have HZ := Lib.hid hz
                        clear hz
                        go_wp2_with fail
                        go_quiet (fail)
                        go_wp2_with fail
                        go_roundw
                        case rel => exact ⟨m + 1, by omega, by go_num, hT5.drewN _⟩
                        case measure => (simp [intOf]; try omega)
                      · obtain rfl : m = t.length := by omega
                        go_wp2_with fail
                        go_roundw
                        case rel => exact ⟨k + 1, by omega, by go_num, ⟨lv, t, ht8.turned0 hT5, hrow7.turned0 hT5, hap, hfr, hts⟩, hT8.trans hT5⟩
                        case measure => (simp [intOf]; try omega)
          · obtain rfl : k = l.length := by omega
            go_wp2
            go_ret
            exact ⟨rfl, T0.trans hT⟩
end Go.Proofs.Ytifideminojgjaa

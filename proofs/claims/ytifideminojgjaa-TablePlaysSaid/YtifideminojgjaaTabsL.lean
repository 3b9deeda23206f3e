/- Lemmas for the statements of tables: what a table in memory is, what its calls do to it. -/
import Derived.Test.YtifideminojgjaaTabsK
namespace Go.Proofs.Ytifideminojgjaa
set_option linter.unusedVariables false
set_option linter.unusedSimpArgs false
open Go.RowKit Go.Maps

/-- A slice of strings that came in. -/
structure StrSl (w : World) (a : Option Addr) (ss : List ByteArray) : Prop where
  at0 : 0 < ss.length → ∃ b o, a = some ⟨b, o, none⟩
  cell : ∀ b o, a = some ⟨b, o, none⟩ → ∀ (i : Nat) (s : ByteArray), ss[i]? = some s → w.cell? ⟨b, o + i, none⟩ = some (.string s)
  small : ∀ s ∈ ss, s.size ≤ maxLen

theorem StrSl.turned {w w' : World} {a : Option Addr} {ss : List ByteArray} (h : StrSl w a ss) (ht : Turned (fun _ => False) w w') : StrSl w' a ss :=
  ⟨h.at0, fun b o e i s hs => ht.cell0 (h.cell b o e i s hs), h.small⟩

set_option maxHeartbeats 1000000 in
theorem tableBack (a : Option Addr) (cap : Nat) (ss : List ByteArray) (w : World) (h : StrSl w a ss) (hlen : ss.length ≤ maxLen) :
    Calls Try.prog 5 #[.slice a ss.length cap] w fun e w' => e = .returned (.bool true) ∧ Turned (fun _ => False) w w' := by
  unfold maxLen at hlen
  by_cases hbig : 100 < ss.length
  · go_enter Try.func5, Try.ntmps5
    go_wp2_with fail
    refine (awake3 w).mono ?_
    rintro e w1 ⟨rfl, T0⟩
    go_wp2_with fail
    go_ret
    exact ⟨rfl, T0⟩
  · have hd : decide (100 < (ss.length : Int)) = false := by simp; omega
    go_enter Try.func5, Try.ntmps5
    go_wp2_with fail
    refine (awake3 w).mono ?_
    rintro e w0 ⟨rfl, T0⟩
    go_wp2_with fail
    refine (newS 200 w0 w0.heap.size (Nat.le_refl _)).mono ?_
    rintro e w1 ⟨rfl, h1, T1⟩
    have hr : (roomOf 200).toNat = 200 := by decide
    rw [hr] at h1
    clear hr
    go_wp2_with fail
    go_loopw [4] (fun i wr => ∃ k : Nat, k ≤ ss.length ∧ i = .int .i64 k ∧ (∃ lv t, TabS wr w0.heap.size (w0.heap.size + 1) w0.heap.size 200 lv t ∧ t.length ≤ k ∧ ∀ s ∈ t, s.size ≤ maxLen) ∧ Turned (fun _ => False) w0 wr) (fun i _ => ss.length - (intOf i).toNat)
    case atStart => exact ⟨0, Nat.zero_le _, rfl, ⟨_, _, h1, Nat.zero_le _, by simp⟩, T1⟩
    case round =>
      obtain ⟨k, hkl, rfl, ⟨lv, t, ht, htk, hts⟩, hT⟩ := hrel
      by_cases hlt : k < ss.length
      · obtain ⟨s, hs⟩ : ∃ s, ss[k]? = some s := ⟨_, List.getElem?_eq_getElem hlt⟩
        obtain ⟨b, o, rfl⟩ := h.at0 (by omega)
        have hc := ((h.turned T0).turned hT).cell b o rfl k s hs
        have hsz := h.small s (List.mem_of_getElem? hs)
        have hs := Lib.hid hs
        by_cases hm : s ∈ t
        · obtain ⟨i, hi⟩ := List.getElem?_of_mem hm
          go_wp2_with fail
          refine (putS_hit ht s hsz i hi).mono ?_
          rintro e wr ⟨rfl, rfl⟩
          go_wp2_with fail
          refine (atS_hit ht s i hi).mono ?_
          rintro e wr ⟨rfl, rfl⟩
          go_wp2_with fail
          refine (findS_hit ht s hsz i hi).mono ?_
          rintro e wr ⟨rfl, rfl⟩
          go_wp2
          go_roundw
          case rel => exact ⟨k + 1, by omega, by go_num, ⟨_, _, ht, by omega, hts⟩, hT⟩
          case measure => simp [intOf]; omega
        · have hsz0 := hT.size
          go_wp2_with fail
          refine (putS_new ht s hsz hm (by omega) hsz0).mono ?_
          rintro e w2 ⟨rfl, lv2, ht2, hT2, _⟩
          have hT3 := hT.of_mine hT2 ht.fresh
          have hc2 := ((h.turned T0).turned hT3).cell b o rfl k s hs.out
          have hi : (t ++ [s])[t.length]? = some s := by simp
          have HI := Lib.hid hi
          clear hi hc
          go_wp2_with fail
          refine (atS_hit ht2 s t.length HI.out).mono ?_
          rintro e w2 ⟨rfl, rfl⟩
          go_wp2_with fail
          refine (findS_hit ht2 s hsz t.length HI.out).mono ?_
          rintro e w2 ⟨rfl, rfl⟩
          go_wp2
          go_roundw
          case rel => exact ⟨k + 1, by omega, by go_num, ⟨_, _, ht2, by simp; omega, by intro x hx; simp at hx; rcases hx with hx | rfl; exact hts x hx; exact hsz⟩, hT3⟩
          case measure => simp [intOf]; omega
      · obtain rfl : k = ss.length := by omega
        have htl := ht.room2
        go_wp2_with fail
        refine (allS ht).mono ?_
        rintro e w2 ⟨v, rfl, hv, hrow, hT2⟩
        obtain ⟨a2, cap2, rfl⟩ := hrow.shape
        have hT3 := hT.trans hT2
        have ht2 := ht.turned0 hT2
        clear ht hT hT2
        go_wp2_with fail
        obtain ⟨D, hD, hrep⟩ := ht2.maps
        have hnd := hrep.nodup
        clear hD hrep D
        go_loopw [12] (fun i wr => ∃ k : Nat, k ≤ t.length ∧ i = .int .i64 k ∧ Turned (fun _ => False) w2 wr) (fun i _ => t.length - (intOf i).toNat)
        case atStart => exact ⟨0, Nat.zero_le _, rfl, Turned.refl _ _⟩
        case round =>
          obtain ⟨k, hkl, rfl, hT4⟩ := hrel
          by_cases hlt : k < t.length
          · obtain ⟨g, cap3, hgc⟩ := hrow.shape_pos (by omega)
            injection hgc with e1 _ e2
            subst e1; subst e2
            go_wp2_with fail
            obtain ⟨wo, rfl⟩ : ∃ wo : World, wo = wr := ⟨_, rfl⟩
            go_loopw [13] (fun j wr => ∃ m : Nat, m ≤ k ∧ j = .int .i64 m ∧ Turned (fun _ => False) w2 wr) (fun j _ => k - (intOf j).toNat)
            case atStart => exact ⟨0, Nat.zero_le _, rfl, hT4⟩
            case round =>
              obtain ⟨m, hmk, rfl, hT5⟩ := hrel
              by_cases hlm : m < k
              · obtain ⟨x, hx⟩ : ∃ x, t[m]? = some x := ⟨_, List.getElem?_eq_getElem (by omega)⟩
                obtain ⟨y, hy⟩ : ∃ y, t[k]? = some y := ⟨_, List.getElem?_eq_getElem (by omega)⟩
                have hne : x ≠ y := fun e => by subst e; have := nodup_at hnd hx hy; omega
                have hcx := hT5.cell0 (hrow.cells rfl m _ (by rw [List.getElem?_map, hx]; rfl))
                have hcy := hT5.cell0 (hrow.cells rfl k _ (by rw [List.getElem?_map, hy]; rfl))
                have hb := str_neq hne
                clear hx hy hne
                go_wp2_with fail
                go_quiet (fail)
                go_wp2
                go_roundw
                case rel => exact ⟨m + 1, by omega, by go_num, hT5.drewN _⟩
                case measure => simp [intOf]; omega
              · obtain rfl : m = k := by omega
                go_wp2
                go_roundw
                case rel => exact ⟨m + 1, by omega, by go_num, hT5⟩
                case measure => simp [intOf]; omega
          · obtain rfl : k = t.length := by omega
            have hb1 : decide ((t.length : Int) ≤ (ss.length : Int)) = true := by simp; omega
            go_wp2_with fail
            refine (lenS (ht2.turned0 hT4)).mono ?_
            rintro e w4 ⟨rfl, rfl⟩
            go_wp2
            go_ret
            exact ⟨rfl, (T0.trans hT3).trans hT4⟩
end Go.Proofs.Ytifideminojgjaa

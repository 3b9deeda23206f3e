/- TablePairs: the walk of the law. -/
import Derived.Test.YtifideminojgjaaPairs
import Derived.LoopTactic
namespace Go.Proofs.Ytifideminojgjaa
set_option linter.unusedVariables false
set_option linter.unusedSimpArgs false
open Go.RowKit Go.Maps

theorem cellsOf3 : Try.prog.cellsOf 3 = 1 := by kernel_rfl
theorem info3x : ∃ i, Try.prog.info? 3 = some i := ⟨_, rfl⟩
theorem neqP (p q : I2) (w : World) : (binOp .neq 26 (.agg #[.int .i64 p.1.1, .int .i64 p.1.2]) (.agg #[.int .i64 q.1.1, .int .i64 q.1.2])).run Try.prog w = .ok (.bool (decide (p ≠ q))) w := by
  obtain ⟨i, hi⟩ := info3x
  have h3 := Try.underlying3
  have a3 := Try.isAgg3
  have z3 := Try.sizeOf3
  rw [run_neq_struct, show (10000 : Nat) = 9999 + 1 from rfl, run_equalIn_array w 9999 _ _ Try.underlying26 hi, cellsOf3]
  simp only [show List.range 2 = [0, 1] from rfl, Op.eqItems]
  go_simp
  by_cases h : p = q
  · subst h; simp
  · have hn : ¬ (p.1.1 = q.1.1 ∧ p.1.2 = q.1.2) := fun e => h (Subtype.ext (Prod.ext e.1 e.2))
    by_cases h1 : p.1.1 = q.1.1
    · have h2 : ¬ p.1.2 = q.1.2 := fun e => hn ⟨h1, e⟩
      simp [h, h1, h2]
    · simp [h, h1]

/-- A slice of pairs that came in. -/
structure PairSl (w : World) (a : Option Addr) (ps : List I2) : Prop where
  at0 : 0 < ps.length → ∃ b o, a = some ⟨b, o, none⟩
  cell : ∀ b o, a = some ⟨b, o, none⟩ → ∀ (i : Nat) (p : I2), ps[i]? = some p → w.cell? ⟨b, o + i * 2, none⟩ = some (.int .i64 p.1.1) ∧ w.cell? ⟨b, o + i * 2 + 1, none⟩ = some (.int .i64 p.1.2)

theorem PairSl.turned {w w' : World} {a : Option Addr} {ps : List I2} (h : PairSl w a ps) (ht : Turned (fun _ => False) w w') : PairSl w' a ps :=
  ⟨h.at0, fun b o e i p hp => ⟨ht.cell0 (h.cell b o e i p hp).1, ht.cell0 (h.cell b o e i p hp).2⟩⟩

set_option maxHeartbeats 1000000 in
theorem tablePairs (a : Option Addr) (cap : Nat) (ps : List I2) (w : World) (h : PairSl w a ps) (hlen : ps.length ≤ maxLen) :
    Calls Try.prog 3 #[.slice a ps.length cap] w fun e w' => e = .returned (.bool true) ∧ Turned (fun _ => False) w w' := by
  unfold maxLen at hlen
  by_cases hbig : 100 < ps.length
  · go_enter Try.func3, Try.ntmps3
    go_wp2_with fail
    refine (awake3 w).mono ?_
    rintro e w1 ⟨rfl, T0⟩
    go_wp2_with fail
    go_ret
    exact ⟨rfl, T0⟩
  · have hd : decide (100 < (ps.length : Int)) = false := by simp; omega
    go_enter Try.func3, Try.ntmps3
    go_wp2_with fail
    refine (awake3 w).mono ?_
    rintro e w0 ⟨rfl, T0⟩
    go_wp2_with fail
    refine (newP 200 w0 w0.heap.size (Nat.le_refl _)).mono ?_
    rintro e w1 ⟨rfl, h1, T1⟩
    have hr : (roomOf 200).toNat = 200 := by decide
    rw [hr] at h1
    clear hr
    go_wp2_with fail
    go_loopw [4, 5] (fun n i wr => ∃ k : Nat, k ≤ ps.length ∧ i = .int .i64 k ∧ (∃ lv t, TabP wr w0.heap.size (w0.heap.size + 1) w0.heap.size 200 lv t ∧ t.length ≤ k ∧ n = .int .i64 t.length ∧ ∀ p, p ∈ t ↔ p ∈ ps.take k) ∧ Turned (fun _ => False) w0 wr) (fun _ i _ => ps.length - (intOf i).toNat)
    case atStart => exact ⟨0, Nat.zero_le _, rfl, ⟨_, _, h1, Nat.zero_le _, rfl, by simp⟩, T1⟩
    case round =>
      obtain ⟨k, hkl, rfl, ⟨lv, t, ht, htk, rfl, hts⟩, hT⟩ := hrel
      by_cases hlt : k < ps.length
      · obtain ⟨p, hp⟩ : ∃ p, ps[k]? = some p := ⟨_, List.getElem?_eq_getElem hlt⟩
        obtain ⟨b, o, rfl⟩ := h.at0 (by omega)
        have hS := (h.turned T0).turned hT
        have hcp := hS.cell b o rfl k p hp
        have hc0 := hcp.1
        have hc1 := hcp.2
        have hs := Lib.hid hp
        clear hp hcp
        go_wp2_with fail
        obtain ⟨wo, rfl⟩ : ∃ wo : World, wo = wr := ⟨_, rfl⟩

        go_loopw [6, 7] (fun f j wr => ∃ m : Nat, m ≤ k ∧ j = .int .i64 m ∧ (∃ c : Bool, f = .bool c ∧ (c = true ↔ p ∉ ps.take m)) ∧ Turned (fun _ => False) wo wr) (fun _ j _ => k - (intOf j).toNat)
        case atStart => exact ⟨0, Nat.zero_le _, rfl, ⟨true, rfl, by simp⟩, Turned.refl _ _⟩
        case round =>
          obtain ⟨m, hmk, rfl, ⟨c, rfl, hc⟩, hT5⟩ := hrel
          by_cases hlm : m < k
          · obtain ⟨q, hq⟩ : ∃ q, ps[m]? = some q := ⟨_, List.getElem?_eq_getElem (by omega)⟩
            have hcq := (hS.turned hT5).cell b o rfl m q hq
            have g0 := hcq.1
            have g1 := hcq.2
            have hc0' := hT5.cell0 hc0
            have hc1' := hT5.cell0 hc1
            have hQ := Lib.hid hq
            have HC := Lib.hid hc
            clear hq hcq hc hc0 hc1
            have hlp : p ∉ ps.take (m + 1) ↔ (p ∉ ps.take m ∧ q ≠ p) := by
              rw [List.take_add_one, hQ.out]
              simp
              intro _
              exact ⟨fun e e' => e e'.symm, fun e e' => e e'.symm⟩
            have HL := Lib.hid hlp
            clear hlp
            cases c
            · go_wp2_with fail
              go_quiet (fail)
              go_wp2_with fail
              go_roundw
              case rel => exact ⟨m + 1, by omega, by go_num, ⟨false, rfl, by rw [HL.out, ← HC.out]; simp⟩, hT5.drewN _⟩
              case measure => simp [intOf]; omega
            · by_cases hqp : q = p
              · have hr : ∀ w, (binOp .neq 26 (.agg #[.int .i64 q.1.1, .int .i64 q.1.2]) (.agg #[.int .i64 p.1.1, .int .i64 p.1.2])).run Try.prog w = .ok (.bool false) w := fun w => by rw [neqP]; simp [hqp]
                have HQP := Lib.hid hqp
                clear hqp
                go_wp2_with fail
                go_quiet (fail)
                go_wp2_with fail
                go_roundw
                case rel => exact ⟨m + 1, by omega, by go_num, ⟨false, rfl, by rw [HL.out]; simp [HQP.out]⟩, hT5.drewN _⟩
                case measure => simp [intOf]; omega
              · have hr : ∀ w, (binOp .neq 26 (.agg #[.int .i64 q.1.1, .int .i64 q.1.2]) (.agg #[.int .i64 p.1.1, .int .i64 p.1.2])).run Try.prog w = .ok (.bool true) w := fun w => by rw [neqP]; simp [hqp]
                have HQP := Lib.hid hqp
                clear hqp
                go_wp2_with fail
                go_quiet (fail)
                go_wp2_with fail
                go_roundw
                case rel => exact ⟨m + 1, by omega, by go_num, ⟨true, rfl, by rw [HL.out, ← HC.out]; simp [HQP.out]⟩, hT5.drewN _⟩
                case measure => simp [intOf]; omega
          · obtain rfl : m = k := by omega
            have hTm := hT.trans hT5
            have ht' := ht.turned0 hT5
            have hc0' := hT5.cell0 hc0
            have hc1' := hT5.cell0 hc1
            have HC := Lib.hid hc
            have htm : p ∈ t ↔ c = false := by
              rw [hts p]
              cases c
              · simp; exact Decidable.not_not.1 (fun h => by have := hc.2 h; cases this)
              · simp; exact hc.1 rfl
            clear hc hc0 hc1 ht
            cases c
            · have hm := htm.2 rfl
              obtain ⟨i, hi⟩ := List.getElem?_of_mem hm
              go_wp2_with fail
              refine (putP_hit ht' p i hi).mono ?_
              rintro e w2 ⟨rfl, hT6⟩
              go_wp2_with fail
              go_roundw
              case rel => exact ⟨m + 1, by omega, by go_num, ⟨_, _, ht'.turned0 hT6, by omega, rfl, fun x => by rw [hts x, List.take_add_one, hs.out]; simp; intro e; subst e; exact (hts x).1 hm⟩, hTm.trans hT6⟩
              case measure => simp [intOf]; omega
            · have hm : p ∉ t := fun h => by have := htm.1 h; cases this
              have hsz := hTm.size
              go_wp2_with fail
              refine (putP_new ht' p hm (by omega) hsz).mono ?_
              rintro e w2 ⟨rfl, lv2, ht2, hT6, _⟩
              have hT7 := hTm.of_mine hT6 ht'.fresh
              go_wp2
              go_roundw
              case rel => exact ⟨m + 1, by omega, by go_num, ⟨_, _, ht2, by simp; omega, by simp, fun x => by simp [hts x, List.take_add_one, hs.out]⟩, hT7⟩
              case measure => simp [intOf]; omega
      · obtain rfl : k = ps.length := by omega
        go_wp2_with fail
        refine (lenP ht).mono ?_
        rintro e w4 ⟨rfl, rfl⟩
        go_wp2
        go_ret
        exact ⟨rfl, T0.trans hT⟩
end Go.Proofs.Ytifideminojgjaa

/- TermVars: the walk. -/
import Derived.Test.YtoihjobdfjajfaaTV1
namespace Go.Proofs.Ytoihjobdfjajfaa
set_option linter.unusedVariables false
set_option linter.unusedSimpArgs false
open Go.RowKit

theorem LT.Lies.at {p : Nat → Prop} {w : World} {b o : Nat} {l : List LT} (h : LT.Lies p w (some ⟨b, o, none⟩) l) {i : Nat} {x : LT} (hi : l[i]? = some x) :
    w.cell? ⟨b, o + i * 4, none⟩ = some (.int .i64 x.kind) ∧ w.cell? ⟨b, o + i * 4 + 1, none⟩ = some (.int .i64 x.n) ∧ w.cell? ⟨b, o + i * 4 + 2, none⟩ = some (.string x.name) ∧ w.cell? ⟨b, o + i * 4 + 3, none⟩ = some (.slice x.at_.1 x.args.length x.at_.2) := by
  obtain ⟨b', o', e, _, h⟩ := h.cell hi
  injection e with e
  injection e with e1 e2
  subst e1 e2
  exact h
theorem LT.Sl.mem {p : Nat → Prop} {w : World} {a : Option Addr} {c : Nat} {l : List LT} (h : LT.Sl p w a c l) {i : Nat} {x : LT} (hi : l[i]? = some x) : x.In p w := (LT.ins_iff _).1 h.ins x (List.mem_of_getElem? hi)

/-- At the head of the outer loop. -/
def TVR (w0 : World) (l : List LT) (g : Nat) (v3 n d i : Value) (wr : World) : Prop :=
  ∃ j N D : Nat, Hid (j + g = l.length) ∧ j ≤ l.length ∧ i = .int .i64 j ∧ n = .int .i64 N ∧ Hid (N = tvSize (l.take j)) ∧ N ≤ 1 + 2001 * j ∧ d = .int .i64 D ∧ Hid (D = tvDepth (l.take j)) ∧ D ≤ 65 ∧
    Row wr 2 1 v3 (tvVars (l.take j)).length ((tvVars (l.take j)).map (Value.int .i64)) ∧ (∀ k, v3.ownBlock = some k → w0.heap.size ≤ k) ∧ Turned (fun _ => False) w0 wr ∧ (∀ x ∈ l.take j, slim x)
/-- At the head of the middle loop: k of the numbers ns (in the row of v7) have been looked at; there were vs. -/
def TVM (w0 : World) (ns vs : List Int) (v7 : Value) (g : Nat) (v3 k : Value) (wr : World) : Prop :=
  ∃ j : Nat, Hid (j + g = ns.length) ∧ j ≤ ns.length ∧ k = .int .i64 j ∧ Row wr 2 1 v3 ((ns.take j).foldl addNew vs).length (((ns.take j).foldl addNew vs).map (Value.int .i64)) ∧ (∀ k, v3.ownBlock = some k → w0.heap.size ≤ k ∧ v7.ownBlock ≠ some k) ∧
    Row wr 2 1 v7 ns.length (ns.map (Value.int .i64)) ∧ Turned (fun _ => False) w0 wr
/-- At the head of the inner loop. -/
def TVQ (wb : World) (us : List Int) (y : Int) (g : Nat) (there q : Value) (wr : World) : Prop :=
  ∃ (j : Nat) (t : Bool), Hid (j + g = us.length) ∧ j ≤ us.length ∧ q = .int .i64 j ∧ there = .bool t ∧ Hid (t = decide (y ∈ us.take j)) ∧ Turned (fun _ => False) wb wr

theorem compP {p : Nat → Prop} {w : World} {a : Option Addr} {c : Nat} {l : List LT} (s : ByteArray) (hs : s.size ≤ maxLen) (hl : l.length ≤ 65536) (h : LT.Sl p w a c l) :
    Calls Try.prog 37 #[.string s, .slice a l.length c] w fun e w' => ∃ a' c', e = .returned (.agg #[.int .i64 2, .int .i64 0, .string s, .slice a' l.length c']) ∧ LT.In (fun _ => True) w' (.mk 2 0 s (a', c') l) ∧ Turned (fun _ => False) w w' := by
  refine (comp37 s hs h hl).mono ?_
  rintro e w' ⟨d, rfl, hi, ht⟩
  exact ⟨d.1, d.2, rfl, hi.mono (fun _ _ _ => trivial), ht⟩

set_option maxRecDepth 100000 in
set_option maxHeartbeats 3200000 in
theorem termVars {p : Nat → Prop} {w : World} {a : Option Addr} {c : Nat} {l : List LT} (h : LT.Sl p w a c l) :
    Calls Try.prog 3 #[.slice a l.length c] w fun e w' => e = .returned (.bool true) ∧ Turned (fun _ => False) w w' := by
  have hmx : l.length ≤ 9223372036854775807 := by have := h.cap; have := h.max; unfold maxLen at this; omega
  by_cases h8 : 1 ≤ l.length ∧ l.length ≤ 8
  · obtain ⟨h1, h8⟩ := h8
    obtain ⟨b, o, rfl, _⟩ := h.lies (by omega)
    have H := Lib.hid h
    clear h
    go_enter Try.func3, Try.ntmps3
    go_wp2_with (go_at_call 32; refine (awake32 _).mono ?_; rintro e w1 ⟨rfl, T1⟩)
    go_loopg [3, 4, 5, 6] l.length (fun g v3 n d i wr => TVR w l g v3 n d i wr)
    case atStart =>
      exact ⟨0, 1, 0, Nat.zero_add _, Nat.zero_le _, rfl, rfl, rfl, by omega, rfl, rfl, by omega, Row.nil _ _ _, fun k hk => by simp [Value.ownBlock] at hk, T1, fun x hx => by simp at hx⟩
    case round =>
      obtain ⟨j, N, D, HG, hj, rfl, rfl, HN, hN, rfl, HD, hD, hrow, hown, Tr, hslim⟩ := hrel
      obtain ⟨wo, rfl⟩ : ∃ wo : World, wo = wr := ⟨_, rfl⟩
      obtain ⟨go, rfl⟩ : ∃ go : Nat, go = gk := ⟨_, rfl⟩
      obtain ⟨v3, rfl⟩ : ∃ v3 : Value, v3 = u3 := ⟨_, rfl⟩
      by_cases hjl : j < l.length
      · have hx : l[j]? = some l[j] := List.getElem?_eq_getElem hjl
        obtain ⟨x, hxe⟩ : ∃ x : LT, x = l[j] := ⟨_, rfl⟩
        rw [← hxe] at hx
        clear hxe
        have hcell := fun W (hW : Turned (fun _ => False) w W) => (H.out.turned0 hW).lies.at hx
        have hxin := fun W (hW : Turned (fun _ => False) w W) => (H.out.turned0 hW).mem hx
        have HX := Lib.hid hx
        have HC := Lib.hid hcell
        have HI := Lib.hid hxin
        obtain ⟨c0, c1, c2, c3⟩ := hcell _ Tr
        clear hx hcell hxin
        have hdeep := fun W (hW : Turned (fun _ => False) w W) => deep33 p 30 x W (by omega) (HI.out W hW)
        rw [LT.val_eq] at hdeep
        have HDP := Lib.hid hdeep
        clear hdeep
        cases hdp : deepB 30 x with
        | true =>
          rw [hdp] at HDP
          go_wp2_with (go_at_call 33; refine (HDP.out _ Tr).mono ?_; rintro e w2 ⟨rfl, T2⟩)
          go_ret
          exact ⟨rfl, Tr.trans T2⟩
        | false =>
          rw [hdp] at HDP
          have hsx := deep_slim 30 x hdp
          have hvars := fun W (hW : Turned (fun _ => False) w W) => vars34 (HI.out W hW) hsx
          have hsize := fun W (hW : Turned (fun _ => False) w W) => size35 (HI.out W hW) hsx
          have hdepth := fun W (hW : Turned (fun _ => False) w W) => depth36 (HI.out W hW)
          rw [LT.val_eq] at hvars hsize hdepth
          have HV := Lib.hid hvars
          have HS := Lib.hid hsize
          have HDE := Lib.hid hdepth
          have HSX := Lib.hid hsx
          have HROW := Lib.hid hrow
          have HSL := Lib.hid hslim
          clear hvars hsize hdepth hdp hsx hrow hslim
          go_wp2_with (first
            | (go_at_call 33; refine (HDP.out _ Tr).mono ?_; rintro e w2 ⟨rfl, T2⟩; obtain ⟨d0, d1, d2, d3⟩ := HC.out _ (Tr.trans T2))
            | (go_at_call 34; refine (HV.out _ (Tr.trans T2)).mono ?_; rintro e w3 ⟨v7, rfl, r7, n7, T3⟩))
          obtain ⟨a7, c7, rfl⟩ := r7.shape
          have hvl := varsB_le x
          have hr7 := r7.max
          have hr71 := hr7.1
          have hr72 := hr7.2
          have hvs := tvVars_le (l.take j)
          have hvs2 : (tvVars (l.take j)).length ≤ 16000 := by rw [List.length_take] at hvs; omega
          have hT3 : Turned (fun _ => False) w w3 := Tr.trans (T2.trans T3)
          have HR7 := Lib.hid r7
          clear r7 hr7 hvs
          go_loopg [3, 8] (varsB x).length (fun g v3 k wr => TVM w (varsB x) (tvVars (l.take j)) (.slice a7 (varsB x).length c7) g v3 k wr)
          case atStart =>
            refine ⟨0, Nat.zero_add _, Nat.zero_le _, rfl, HROW.out.turned0 (T2.trans T3), fun k hk => ⟨hown k hk, fun e => ?_⟩, HR7.out, hT3⟩
            have := n7 k e
            have h1 := HROW.out.lt k hk
            have h2 := T2.size
            omega
          case round =>
            obtain ⟨k, HK, hk, rfl, r3, o3, r7, Tm⟩ := hrel
            obtain ⟨wm, rfl⟩ : ∃ wm : World, wm = wr := ⟨_, rfl⟩
            obtain ⟨gm, rfl⟩ : ∃ gm : Nat, gm = gk := ⟨_, rfl⟩
            obtain ⟨v4, rfl⟩ : ∃ v4 : Value, v4 = u3 := ⟨_, rfl⟩
            obtain ⟨us, hus⟩ : ∃ us, us = ((varsB x).take k).foldl addNew (tvVars (l.take j)) := ⟨_, rfl⟩
            rw [← hus] at r3
            have HU := Lib.hid hus
            have hul : us.length ≤ 18000 := by
              have h1 := foldNew_le ((varsB x).take k) (tvVars (l.take j))
              rw [← hus, List.length_take] at h1
              omega
            obtain ⟨a4, c4, rfl⟩ := r3.shape
            have hr3 := r3.max
            have hr31 := hr3.1
            have hr32 := hr3.2
            have R3 := Lib.hid r3
            have R7 := Lib.hid r7
            clear hus r3 r7 hr3
            by_cases hkl : k < (varsB x).length
            · have hy : (varsB x)[k]? = some (varsB x)[k] := List.getElem?_eq_getElem hkl
              obtain ⟨y, hye⟩ : ∃ y, y = (varsB x)[k] := ⟨_, rfl⟩
              rw [← hye] at hy
              obtain ⟨g7, rfl⟩ := R7.out.addr_pos (by omega)
              have hyc := fun W (hW : Turned (fun _ => False) wm W) => (R7.out.turned0 hW).int_at hy
              have HYC := Lib.hid hyc
              have HY := Lib.hid hy
              clear hye hy hyc
              have z1 : (0 : Int) ≤ (k : Int) := by omega
              have z2 : (k : Int) < ((varsB x).length : Int) := by omega
              go_wp2_with fail
              go_loopg [9, 10] us.length (fun g t q wr => TVQ wm us y g t q wr)
              case atStart => exact ⟨0, false, Nat.zero_add _, Nat.zero_le _, rfl, rfl, show _ = _ by simp, Turned.refl _ _⟩
              case round =>
                obtain ⟨q, t, HQ, hq, rfl, rfl, HTT, Tq⟩ := hrel
                by_cases hql : q < us.length
                · have hu : us[q]? = some us[q] := List.getElem?_eq_getElem hql
                  obtain ⟨u, hue⟩ : ∃ u, u = us[q] := ⟨_, rfl⟩
                  rw [← hue] at hu
                  obtain ⟨g4, rfl⟩ := R3.out.addr_pos (by omega)
                  have k1 := (R3.out.turned0 Tq).int_at hu
                  have k2 := HYC.out _ Tq
                  have HUU := Lib.hid hu
                  clear hue hu
                  have z3 : (0 : Int) ≤ (q : Int) := by omega
                  have z4 : (q : Int) < (us.length : Int) := by omega
                  cases t with
                  | true =>
                    go_wp2_with fail
                    go_quiet (fail)
                    go_wp2_with fail
                    go_roundg (gk - 1)
                    case measure => have := HQ.out; omega
                    case rel =>
                      refine ⟨q + 1, true, show _ = _ by have := HQ.out; omega, by omega, by go_num, rfl, ?_, Tq.trans ((Turned.refl _ _).drewN _)⟩
                      show _ = _
                      have hm := of_decide_eq_true HTT.out.symm
                      rw [take_snoc' _ _ _ HUU.out]
                      symm
                      rw [decide_eq_true_eq]
                      exact List.mem_append_left _ hm
                  | false =>
                    go_wp2_with fail
                    go_quiet (fail)
                    go_wp2_with fail
                    go_roundg (gk - 1)
                    case measure => have := HQ.out; omega
                    case rel =>
                      refine ⟨q + 1, u == y, show _ = _ by have := HQ.out; omega, by omega, by go_num, rfl, ?_, Tq.trans ((Turned.refl _ _).drewN _)⟩
                      show _ = _
                      have hm := of_decide_eq_false HTT.out.symm
                      rw [take_snoc' _ _ _ HUU.out, Bool.eq_iff_iff, beq_iff_eq, decide_eq_true_eq, List.mem_append, List.mem_singleton]
                      exact ⟨fun e => .inr e.symm, fun e => by rcases e with e | e; exact absurd e hm; exact e.symm⟩
                · have hqe : q = us.length := by omega
                  have htt := HTT.out
                  rw [hqe, List.take_length] at htt
                  have k2 := HYC.out _ Tq
                  have HT2 := Lib.hid htt
                  clear hqe htt HTT
                  cases t with
                  | true =>
                    go_wp2_with fail
                    go_roundg (gm - 1)
                    case measure => have := HK.out; omega
                    case rel =>
                      have hm := of_decide_eq_true HT2.out.symm
                      have hn : ((varsB x).take (k + 1)).foldl addNew (tvVars (l.take j)) = us := by
                        rw [take_snoc' _ _ _ HY.out, List.foldl_append, ← HU.out]
                        exact addNew_yes hm
                      refine ⟨k + 1, show _ = _ by have := HK.out; omega, by omega, by go_num, ?_, o3, R7.out.turned0 Tq, Tm.trans Tq⟩
                      rw [hn]
                      exact R3.out.turned0 Tq
                  | false =>
                    obtain ⟨i0, hi0, hz0, hz1, hz2⟩ := info_parts infoI
                    have hrow := (R3.out.turned0 Tq)
                    go_wp2_with (at_builtin; refine append_some _ rfl _ _ 24 rfl 2 i0 (.int .i64 0) 1 8 Try.underlying24 hi0 hz0 hz1 hz2 rfl (by decide) _ _ _ rfl (hrow.alloc _) ⟨wr.heap.size, 0, none⟩ 1 1 [.int .i64 y] rfl rfl (cell_one_new _ _ _) (by simp [Value.oneCell']) (by omega) (by unfold maxLen; omega) (by omega) ?_; intro g5 cap5 w5 hown5 T5 hloc5)
                    go_roundg (gm - 1)
                    case measure => have := HK.out; omega
                    case rel =>
                      have hm := of_decide_eq_false HT2.out.symm
                      have hn : ((varsB x).take (k + 1)).foldl addNew (tvVars (l.take j)) = us ++ [y] := by
                        rw [take_snoc' _ _ _ HY.out, List.foldl_append, ← HU.out]
                        exact addNew_no hm
                      have hsz := Tq.size
                      have hsz0 := Tm.size
                      refine ⟨k + 1, show _ = _ by have := HK.out; omega, by omega, by go_num, ?_, fun k' hk' => ?_, ?_, ?_⟩
                      · rw [hn, List.length_append, List.length_singleton, List.map_append]
                        exact hown5
                      · rcases hloc5 with e | e
                        · exact o3 k' (e.symm.trans hk')
                        · simp [Value.ownBlock] at hk'
                          simp at e
                          refine ⟨by omega, fun e7 => ?_⟩
                          have := R7.out.lt k' e7
                          omega
                      · refine ((R7.out.turned0 Tq).alloc _).turned T5 (fun k' h7 h3 => (o3 k' h3).2 h7)
                      · refine (Tm.trans (Tq.trans ((Turned.refl _ wr).alloc _))).step T5 (fun i hi h3 => ?_)
                        have := (o3 i h3).1
                        omega
            · have hke : k = (varsB x).length := by omega
              have hus := HU.out
              rw [hke, List.take_length, ← tvVars_snoc, ← take_snoc' _ _ _ HX.out] at hus
              have HU2 := Lib.hid hus
              obtain ⟨d0, d1, d2, d3⟩ := HC.out _ Tm
              clear hke hus HU
              by_cases hDx : D < min x.depth 65
              · have hDt : decide ((D : Int) < ((min x.depth 65 : Nat) : Int)) = true := by simp; omega
                go_wp2_with (first
                  | (go_at_call 35; refine (HS.out _ Tm).mono ?_; rintro e w5 ⟨rfl, T5⟩; obtain ⟨e0, e1, e2, e3⟩ := HC.out _ (Tm.trans T5))
                  | (go_at_call 36; refine (HDE.out _ (Tm.trans T5)).mono ?_; rintro e w6 ⟨rfl, T6⟩; obtain ⟨f0, f1, f2, f3⟩ := HC.out _ (Tm.trans (T5.trans T6)))
                  | (go_at_call 36; refine (HDE.out _ (Tm.trans (T5.trans T6))).mono ?_; rintro e w7 ⟨rfl, T7⟩))
                go_roundg (go - 1)
                case measure => have := HG.out; omega
                case rel =>
                  have TT := T5.trans (T6.trans T7)
                  have hN2 := HN.out
                  have hD2 := HD.out
                  refine ⟨j + 1, N + min x.size 2001, min x.depth 65, show _ = _ by have := HG.out; omega, by omega, by go_num, by go_num, ?_, by omega, rfl, ?_, by omega, ?_, fun k hk => (o3 k hk).1, Tm.trans TT, ?_⟩
                  · show _ = _; rw [take_snoc' _ _ _ HX.out, tvSize_snoc]; omega
                  · show _ = _; rw [take_snoc' _ _ _ HX.out, tvDepth_snoc]; omega
                  · rw [← HU2.out]; exact R3.out.turned0 TT
                  · rw [take_snoc' _ _ _ HX.out]
                    intro z hz
                    rcases List.mem_append.1 hz with hz | hz
                    · exact HSL.out z hz
                    · rw [List.mem_singleton.1 hz]; exact HSX.out
              · have hDt : decide ((D : Int) < ((min x.depth 65 : Nat) : Int)) = false := by simp; omega
                go_wp2_with (first
                  | (go_at_call 35; refine (HS.out _ Tm).mono ?_; rintro e w5 ⟨rfl, T5⟩; obtain ⟨e0, e1, e2, e3⟩ := HC.out _ (Tm.trans T5))
                  | (go_at_call 36; refine (HDE.out _ (Tm.trans T5)).mono ?_; rintro e w6 ⟨rfl, T6⟩))
                go_roundg (go - 1)
                case measure => have := HG.out; omega
                case rel =>
                  have TT := T5.trans T6
                  have hN2 := HN.out
                  have hD2 := HD.out
                  refine ⟨j + 1, N + min x.size 2001, D, show _ = _ by have := HG.out; omega, by omega, by go_num, by go_num, ?_, by omega, rfl, ?_, by omega, ?_, fun k hk => (o3 k hk).1, Tm.trans TT, ?_⟩
                  · show _ = _; rw [take_snoc' _ _ _ HX.out, tvSize_snoc]; omega
                  · show _ = _; rw [take_snoc' _ _ _ HX.out, tvDepth_snoc]; omega
                  · rw [← HU2.out]; exact R3.out.turned0 TT
                  · rw [take_snoc' _ _ _ HX.out]
                    intro z hz
                    rcases List.mem_append.1 hz with hz | hz
                    · exact HSL.out z hz
                    · rw [List.mem_singleton.1 hz]; exact HSX.out
      · have hje : j = l.length := by omega
        subst hje
        rw [List.take_length] at HN HD hrow hslim
        have HROW := Lib.hid hrow
        have hsl : ∀ a' c', slim (Tm.mk 2 0 ⟨#[102]⟩ (a', c') l) := fun a' c' => slim_mk (by omega) hslim
        have hSlf := H.out.turned0 Tr
        have HSL := Lib.hid hsl
        have HSF := Lib.hid hSlf
        clear hrow hsl hslim hSlf
        go_wp2_with (first
          | (go_at_call 37; refine (compP ⟨#[102]⟩ (by unfold maxLen; decide) (by omega) HSF.out).mono ?_; rintro e w3 ⟨a3, c3, rfl, i3, T3⟩)
          | (go_at_call 38; have T4 := (Turned.refl (fun _ => False) w3).alloc (.cells #[.int .i64 2, .int .i64 0, .string ⟨#[102]⟩, .slice a3 l.length c3] 27); refine (good38 (t := .mk 2 0 ⟨#[102]⟩ (a3, c3) l) (i3.turned0 T4) (HSL.out _ _)).mono ?_; rintro e w5 ⟨rfl, T5⟩; obtain ⟨b0, b1, b2, b3, bl⟩ := boxAt T5)
          | (go_at_call 34; have hg : goodB (Tm.mk 2 0 ⟨#[102]⟩ (a3, c3) l) = true := (by assumption); obtain ⟨q1, q2, q3⟩ := tv_good hg; have hs2 := good_size hg; have hd2 := good_depth hg; refine (vars34 (t := .mk 2 0 ⟨#[102]⟩ (a3, c3) l) (i3.turned0 (T4.trans T5)) (HSL.out _ _)).mono ?_; rintro e w6 ⟨v6, rfl, r6, n6, T6⟩; rw [q1] at r6; have HR6 := Lib.hid r6; have hN2 := HN.out; have hD2 := HD.out; have hsz : (((min (Tm.mk 2 0 ⟨#[102]⟩ (a3, c3) l).size 2001 : Nat) : Int) == (N : Int)) = true := (by rw [beq_iff_eq]; omega); have hdz : (((min (Tm.mk 2 0 ⟨#[102]⟩ (a3, c3) l).depth 65 : Nat) : Int) == (D : Int) + 1) = true := (by rw [beq_iff_eq]; omega); clear r6 q1 q2 q3 hN2 hD2 hs2 hd2 hg; obtain ⟨b4, b5, b6, b7, bl1⟩ := boxAt (T5.trans T6))
          | (go_at_call 39; refine (nums39 HR6.out (HROW.out.turned0 (T3.trans (T4.trans (T5.trans T6))))).mono ?_; rintro e w7 ⟨rfl, T7⟩; obtain ⟨g0, g1, g2, g3, gl⟩ := boxAt (T5.trans (T6.trans T7)))
          | (go_at_call 35; refine (size35 (t := .mk 2 0 ⟨#[102]⟩ (a3, c3) l) (i3.turned0 (T4.trans (T5.trans (T6.trans T7)))) (HSL.out _ _)).mono ?_; rintro e w8 ⟨rfl, T8⟩; obtain ⟨k0, k1, k2, k3, kl⟩ := boxAt (T5.trans (T6.trans (T7.trans T8))))
          | (go_at_call 36; refine (depth36 (t := .mk 2 0 ⟨#[102]⟩ (a3, c3) l) (i3.turned0 (T4.trans (T5.trans (T6.trans (T7.trans T8)))))).mono ?_; rintro e w9 ⟨rfl, T9⟩))
        · go_ret
          exact ⟨rfl, Tr.trans (T3.trans (T4.trans (T5.trans (T6.trans (T7.trans (T8.trans T9))))))⟩
        · go_ret
          exact ⟨rfl, Tr.trans (T3.trans (T4.trans T5))⟩
  · clear h
    by_cases h1 : l.length < 1
    · have hd : decide ((l.length : Int) < 1) = true := by simp; omega
      go_enter Try.func3, Try.ntmps3
      go_wp2_with (go_at_call 32; refine (awake32 _).mono ?_; rintro e w1 ⟨rfl, T1⟩)
      go_ret
      exact ⟨rfl, T1⟩
    · have h9 : 8 < l.length := by omega
      have hd : decide ((l.length : Int) < 1) = false := by simp; omega
      have hd2 : decide (8 < (l.length : Int)) = true := by simp; omega
      clear h1 h8
      go_enter Try.func3, Try.ntmps3
      go_wp2_with (go_at_call 32; refine (awake32 _).mono ?_; rintro e w1 ⟨rfl, T1⟩)
      go_ret
      exact ⟨rfl, T1⟩
end Go.Proofs.Ytoihjobdfjajfaa

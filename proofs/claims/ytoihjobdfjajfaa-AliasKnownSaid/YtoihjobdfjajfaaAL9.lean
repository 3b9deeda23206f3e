/- AliasFrom: the walk. -/
import Derived.Test.YtoihjobdfjajfaaAL8
namespace Go.Proofs.Ytoihjobdfjajfaa
set_option linter.unusedVariables false
set_option linter.unusedSimpArgs false
open Go.RowKit Go.Maps

theorem fromOk {p : Nat → Prop} {t : LT} {w : World} {first : Int} (ht : t.In p w) (hg : goodB t = true) (h0 : 0 ≤ first) (h1 : first ≤ 2147483647) (h2 : first + (t.vars.length : Int) ≤ 2147483648) :
    Calls Try.prog 71 #[.agg #[.int .i64 t.kind, .int .i64 t.n, .string t.name, .slice t.at_.1 t.args.length t.at_.2], .int .i64 first] w fun e w' => ∃ u : LT, e = .returned (.tuple #[.agg #[.int .i64 u.kind, .int .i64 u.n, .string u.name, .slice u.at_.1 u.args.length u.at_.2], .int .i64 (first + (t.vars.length : Int)), .int .i64 0]) ∧ u.bare = Tm.fromT t.bare first ∧ u.In (fun _ => True) w' ∧ Turned (fun _ => False) w w' := by
  have h := from71 ht (good_slim hg) (first := first) (by unfold I64; omega)
  rw [LT.val_eq] at h
  refine h.mono ?_
  rintro e w' ⟨u, m, er, rfl, hR, hi, hT⟩
  unfold FromR at hR
  rw [if_pos ⟨by rw [goodB_bare]; exact hg, h0, h1⟩, Tm.vars_bare, if_pos h2] at hR
  obtain ⟨rfl, rfl, hu⟩ := hR
  exact ⟨u, by rw [LT.val_eq u], hu, hi.mono (fun _ _ _ => trivial), hT⟩
theorem fromNo {p : Nat → Prop} {t : LT} {w : World} {first : Int} (ht : t.In p w) (hs : slim t) (hf : I64 first) (hno : ¬ (goodB t = true ∧ 0 ≤ first ∧ first ≤ 2147483647 ∧ first + (t.vars.length : Int) ≤ 2147483648)) :
    Calls Try.prog 71 #[.agg #[.int .i64 t.kind, .int .i64 t.n, .string t.name, .slice t.at_.1 t.args.length t.at_.2], .int .i64 first] w fun e w' => ∃ (u : LT) (er : Int), e = .returned (.tuple #[.agg #[.int .i64 u.kind, .int .i64 u.n, .string u.name, .slice u.at_.1 u.args.length u.at_.2], .int .i64 0, .int .i64 er]) ∧ (er != 0) = true ∧ Turned (fun _ => False) w w' := by
  have h := from71 ht hs hf
  rw [LT.val_eq] at h
  refine h.mono ?_
  rintro e w' ⟨u, m, er, rfl, hR, hi, hT⟩
  have key : (er = 1 ∨ er = 3) ∧ m = 0 := by
    unfold FromR at hR
    split at hR
    · rename_i hc
      split at hR
      · rename_i hc2
        rw [goodB_bare] at hc
        rw [Tm.vars_bare] at hc2
        exact absurd ⟨hc.1, hc.2.1, hc.2.2, hc2⟩ hno
      · exact ⟨.inr hR.1, hR.2.1⟩
    · exact ⟨.inl hR.1, hR.2.1⟩
  obtain ⟨h1, rfl⟩ := key
  refine ⟨u, er, by rw [LT.val_eq u], ?_, hT⟩
  rcases h1 with rfl | rfl <;> rfl
set_option maxRecDepth 100000 in
set_option maxHeartbeats 6400000 in
theorem aliasFrom {t : LT} {w : World} {first : Int} (ht : t.In (fun _ => True) w) (hf : I64 first) :
    Calls Try.prog 12 #[t.val, .int .i64 first] w fun e w' => e = .returned (.bool true) ∧ Turned (fun _ => False) w w' := by
  obtain ⟨w1, hw1⟩ : ∃ z, z = w.alloc (.cells #[.int .i64 t.kind, .int .i64 t.n, .string t.name, .slice t.at_.1 t.args.length t.at_.2] 27) := ⟨_, rfl⟩
  have T1 : Turned (fun _ => False) w w1 := by rw [hw1]; exact (Turned.refl _ w).alloc _
  have hkp : ∀ W, Turned (fun _ => False) w1 W → (W.cell? ⟨w.heap.size, 0, none⟩ = some (.int .i64 t.kind) ∧ W.cell? ⟨w.heap.size, 1, none⟩ = some (.int .i64 t.n) ∧ W.cell? ⟨w.heap.size, 2, none⟩ = some (.string t.name) ∧ W.cell? ⟨w.heap.size, 3, none⟩ = some (.slice t.at_.1 t.args.length t.at_.2)) := fun W h => by
    rw [hw1] at h
    obtain ⟨c0, c1, c2, c3, _⟩ := boxAt h
    exact ⟨c0, c1, c2, c3⟩
  have HIN := Lib.hid (ht.turned0 T1)
  have hd := fun W (h : Turned (fun _ => False) w1 W) => deepVal 40 t W 40 rfl (by omega) (HIN.out.turned0 h)
  rw [LT.val_eq]
  have HKP := Lib.hid hkp
  have HT1 := Lib.hid T1
  have HW := Lib.hid hw1
  have HF := Lib.hid hf
  obtain ⟨hf1, hf2⟩ := hf
  clear ht T1 hw1 hkp
  cases dt : deepB 40 t with
  | true =>
    rw [dt] at hd
    have HD := Lib.hid hd
    clear hd dt
    go_enter Try.func12, Try.ntmps12
    go_wp2_with (first
      | (go_at_call 70; have := S0; (with_reducible refine (HD.out _ S0).mono ?_); rintro e W1 ⟨rfl, T1⟩; have S1 := S0.trans T1)
      | (go_at_call 69; refine (awake69 _).mono ?_; rintro e W0 ⟨rfl, T0⟩; rw [← HW.out] at T0; have S0 := T0; obtain ⟨c0, c1, c2, c3⟩ := HKP.out _ S0))
    go_ret
    exact ⟨rfl, HT1.out.trans S1⟩
  | false =>
  rw [dt] at hd
  have HD := Lib.hid hd
  have HS := Lib.hid (deep_slim 40 t dt)
  clear hd dt
  have hv := fun W (h : Turned (fun _ => False) w1 W) => vars34 (HIN.out.turned0 h) HS.out
  by_cases hall : goodB t = true ∧ 0 ≤ first ∧ first ≤ 2147483647 ∧ first + (t.vars.length : Int) ≤ 2147483648
  · obtain ⟨hg, h0, h1, h2⟩ := hall
    have ev : varsB t = t.vars := by unfold varsB; rw [if_pos hg]
    rw [ev, LT.val_eq] at hv
    have hle : t.vars.length ≤ 2000 := by have := varsB_le t; rw [ev] at this; exact this
    have hfr := fun W (h : Turned (fun _ => False) w1 W) => fromOk (HIN.out.turned0 h) hg h0 h1 h2
    have hgr := fun W (h : Turned (fun _ => False) w1 W) => groundVal (r := decide (t.vars = [])) (HIN.out.turned0 h) HS.out (by rw [hg]; rfl)
    obtain ⟨L, hL⟩ : ∃ z, z = t.vars.length := ⟨_, rfl⟩
    rw [← hL] at hfr hle h2
    have hv' : ∀ W, Turned (fun _ => False) w1 W → Calls Try.prog 34 #[.agg #[.int .i64 t.kind, .int .i64 t.n, .string t.name, .slice t.at_.1 t.args.length t.at_.2]] W fun e w' => ∃ (va : Option Addr) (vc : Nat), e = .returned (.slice va L vc) ∧ Turned (fun _ => False) W w' := fun W h => by
      refine (hv W h).mono ?_
      rintro e w' ⟨v, rfl, hr, _, hT⟩
      obtain ⟨va, vc, rfl⟩ := hr.shape
      rw [← hL]
      exact ⟨va, vc, rfl, hT⟩
    have HV := Lib.hid hv'
    have HFR := Lib.hid hfr
    have HG := Lib.hid hg
    have HLL := Lib.hid hL
    have hdec : decide (t.vars = []) = decide (L = 0) := by
      rw [hL]
      cases t.vars with
      | nil => rfl
      | cons y l => simp
    rw [hdec] at hgr
    have HGR := Lib.hid hgr
    clear hv hv' hfr hgr hg ev hdec hL
    have hfin : first + (L : Int) ≤ 9223372036854775807 := by omega
    go_enter Try.func12, Try.ntmps12
    go_wp2_with (first
      | (go_at_call 71; have := S1; (with_reducible refine (HFR.out _ S1).mono ?_); rintro e W2 ⟨x, rfl, hxb, hxi, T2⟩)
      | (go_at_call 70; have := S0; (with_reducible refine (HD.out _ S0).mono ?_); rintro e W1 ⟨rfl, T1⟩; have S1 := S0.trans T1; obtain ⟨c4, c5, c6, c7⟩ := HKP.out _ S1)
      | (go_at_call 69; refine (awake69 _).mono ?_; rintro e W0 ⟨rfl, T0⟩; rw [← HW.out] at T0; have S0 := T0; obtain ⟨c0, c1, c2, c3⟩ := HKP.out _ S0))
    have TZ := (S1.trans T2).alloc (.cells #[.int .i64 x.kind, .int .i64 x.n, .string x.name, .slice x.at_.1 x.args.length x.at_.2] 27)
    have hx2 := hxi.turned0 ((Turned.refl (fun _ => False) W2).alloc (.cells #[.int .i64 x.kind, .int .i64 x.n, .string x.name, .slice x.at_.1 x.args.length x.at_.2] 27))
    have hbx := boxAt (Turned.refl (fun _ => False) (W2.alloc (.cells #[.int .i64 x.kind, .int .i64 x.n, .string x.name, .slice x.at_.1 x.args.length x.at_.2] 27)))
    have HTB := And.intro (Lib.hid TZ) (And.intro hbx (Lib.hid hx2))
    clear TZ hx2 hbx hxi T2 T1 T0 S0 S1 c0 c1 c2 c3 c4 c5 c6 c7 HFR HD
    revert HTB
    generalize (W2.alloc (.cells #[.int .i64 x.kind, .int .i64 x.n, .string x.name, .slice x.at_.1 x.args.length x.at_.2] 27)) = wz
    generalize W2.heap.size = BX
    intro HTB
    obtain ⟨HTZ, ⟨x0, x1, x2, x3, _⟩, HX⟩ := HTB
    have hgb : goodB t.bare = true := by rw [goodB_bare]; exact HG.out
    have hly := good_leafy hgb
    have hgx : goodB x = true := by
      rw [← goodB_bare, hxb]
      exact goodB_fromT hgb h0 (by rw [Tm.vars_bare, ← HLL.out]; exact h2)
    have hvx : varsB x = (List.range L).map fun (i : Nat) => first + (i : Int) := by
      unfold varsB
      rw [if_pos hgx, ← Tm.vars_bare, hxb, Tm.vars_fromT hly, Tm.vars_bare, ← HLL.out]
    have hal : alikeB x t = true := by
      rw [alikeB_eq hgx HG.out, Tm.same_unit, hxb]
      exact Tm.fromT_ren hly (Tm.fromS_inj _ _) 0
    have hsx := good_slim hgx
    have hvv := vars34 HX.out hsx
    rw [LT.val_eq, hvx, List.length_map, List.length_range, List.map_map] at hvv
    have HAL := Lib.hid (fun W (h : Turned (fun _ => False) wz W) => alikeVal (HX.out.turned0 h) (HIN.out.turned0 (HTZ.out.trans h)) hsx HS.out hal)
    have HVV := Lib.hid hvv
    have HXC : Hid (wz.cell? ⟨BX, 0, none⟩ = some (.int .i64 x.kind) ∧ wz.cell? ⟨BX, 1, none⟩ = some (.int .i64 x.n) ∧ wz.cell? ⟨BX, 2, none⟩ = some (.string x.name) ∧ wz.cell? ⟨BX, 3, none⟩ = some (.slice x.at_.1 x.args.length x.at_.2)) := ⟨x0, x1, x2, x3⟩
    clear hgb hly hgx hvx hal hsx hvv hxb x0 x1 x2 x3
    (with_reducible refine HVV.out.mono ?_)
    rintro e w4 ⟨v, rfl, hrow, _, T4⟩
    obtain ⟨va, vc, rfl⟩ := hrow.shape
    have HR := Lib.hid hrow
    clear hrow
    go_wp2_with fail
    go_loopg [9] L (fun q i wr => ∃ j : Nat, Hid (j + q = L) ∧ j ≤ L ∧ i = .int .i64 j ∧ Turned (fun _ => False) w4 wr)
    case atStart => exact ⟨0, Nat.zero_add _, Nat.zero_le _, rfl, Turned.refl _ _⟩
    case round =>
      obtain ⟨j, HJ, hj, rfl, Tr⟩ := hrel
      by_cases hjl : j < L
      · have hrow := HR.out.turned0 Tr
        obtain ⟨gv, cap, he⟩ := hrow.shape_pos (by omega)
        injection he with e1 _ e3
        subst e1 e3
        have hcv := hrow.cells rfl j (.int .i64 (first + (j : Int))) (by rw [List.getElem?_map, List.getElem?_range hjl]; rfl)
        have hm2 := hrow.max.2
        clear hrow
        go_wp2_with fail
        go_roundg (gk - 1)
        case measure => have := HJ.out; omega
        case rel => exact ⟨j + 1, show _ = _ by have := HJ.out; omega, by omega, by go_num, Tr⟩
      · obtain rfl : j = L := by omega
        have TF := HTZ.out.trans (T4.trans Tr)
        obtain ⟨c0, c1, c2, c3⟩ := HKP.out _ TF
        obtain ⟨G, hG⟩ : ∃ z, z = decide (j = 0) := ⟨_, rfl⟩
        have hgr := HGR.out
        rw [← hG] at hgr
        have HGR' := Lib.hid hgr
        have zt : (G == ((j : Int) == 0)) = true := by
          rw [hG]
          cases j with
          | zero => rfl
          | succ q =>
            have e1 : decide (q + 1 = 0) = false := by simp
            have e2 : (((q + 1 : Nat) : Int) == 0) = false := by rw [beq_eq_false_iff_ne]; omega
            rw [e1, e2]; rfl
        clear hgr hG HGR
        go_wp2_with (first
          | (go_at_call 73; have := T6; (with_reducible refine (HGR'.out _ S6).mono ?_); rintro e W7 ⟨rfl, T7⟩)
          | (go_at_call 72; have := T5; (with_reducible refine (HAL.out _ (T4.trans (Tr.trans T5))).mono ?_); rintro e W6 ⟨rfl, T6⟩; have S6 := S5.trans T6; obtain ⟨c8, c9, c10, c11⟩ := HKP.out _ S6)
          | (go_at_call 34; (with_reducible refine (HV.out _ TF).mono ?_); rintro e W5 ⟨vb, vd, rfl, T5⟩; have S5 := TF.trans T5; obtain ⟨c4, c5, c6, c7⟩ := HKP.out _ S5; have TX5 := T4.trans (Tr.trans T5); have x0 := TX5.cell0 HXC.out.1; have x1 := TX5.cell0 HXC.out.2.1; have x2 := TX5.cell0 HXC.out.2.2.1; have x3 := TX5.cell0 HXC.out.2.2.2))
        go_ret
        exact ⟨rfl, HT1.out.trans (S6.trans T7)⟩
  · have hfr := fun W (h : Turned (fun _ => False) w1 W) => fromNo (HIN.out.turned0 h) HS.out HF.out hall
    have hgo := fun W (h : Turned (fun _ => False) w1 W) => good38 (HIN.out.turned0 h) HS.out
    rw [LT.val_eq] at hgo
    have HFR := Lib.hid hfr
    clear hfr
    cases hg : goodB t with
    | false =>
      rw [hg] at hgo
      have HGO := Lib.hid hgo
      clear hgo hg hv hall
      go_enter Try.func12, Try.ntmps12
      go_wp2_with (first
        | (go_at_call 38; have := S2; (with_reducible refine (HGO.out _ S2).mono ?_); rintro e W3 ⟨rfl, T3⟩; have S3 := S2.trans T3; obtain ⟨b4, b5, b6, b7⟩ := HKP.out _ S3)
        | (go_at_call 71; have := S1; (with_reducible refine (HFR.out _ S1).mono ?_); rintro e W2 ⟨x, er, rfl, zer, T2⟩; have S2 := S1.trans (T2.alloc (.cells #[.int .i64 x.kind, .int .i64 x.n, .string x.name, .slice x.at_.1 x.args.length x.at_.2] 27)); obtain ⟨b0, b1, b2, b3⟩ := HKP.out _ S2)
        | (go_at_call 70; have := S0; (with_reducible refine (HD.out _ S0).mono ?_); rintro e W1 ⟨rfl, T1⟩; have S1 := S0.trans T1; obtain ⟨c4, c5, c6, c7⟩ := HKP.out _ S1)
        | (go_at_call 69; refine (awake69 _).mono ?_; rintro e W0 ⟨rfl, T0⟩; rw [← HW.out] at T0; have S0 := T0; obtain ⟨c0, c1, c2, c3⟩ := HKP.out _ S0))
      go_ret
      exact ⟨rfl, HT1.out.trans S3⟩
    | true =>
      rw [hg] at hgo
      have HGO := Lib.hid hgo
      have ev : varsB t = t.vars := by unfold varsB; rw [if_pos hg]
      rw [ev, LT.val_eq] at hv
      have hle : t.vars.length ≤ 2000 := by have := varsB_le t; rw [ev] at this; exact this
      obtain ⟨L, hL⟩ : ∃ z, z = t.vars.length := ⟨_, rfl⟩
      rw [← hL] at hle hall
      have hv' : ∀ W, Turned (fun _ => False) w1 W → Calls Try.prog 34 #[.agg #[.int .i64 t.kind, .int .i64 t.n, .string t.name, .slice t.at_.1 t.args.length t.at_.2]] W fun e w' => ∃ (va : Option Addr) (vc : Nat), e = .returned (.slice va L vc) ∧ Turned (fun _ => False) W w' := fun W h => by
        refine (hv W h).mono ?_
        rintro e w' ⟨v, rfl, hr, _, hT⟩
        obtain ⟨va, vc, rfl⟩ := hr.shape
        rw [← hL]
        exact ⟨va, vc, rfl, hT⟩
      have HV := Lib.hid hv'
      have hcase : first < 0 ∨ (0 ≤ first ∧ 2147483647 - (L : Int) < first) := by
        rcases Int.lt_or_le first 0 with h | h
        · exact .inl h
        · refine .inr ⟨h, ?_⟩
          rcases Int.lt_or_le (2147483647 - (L : Int)) first with h' | h'
          · exact h'
          · exact absurd ⟨hg, h, by omega, by omega⟩ hall
      clear hgo hg hv hv' hall ev hL
      rcases hcase with hc | ⟨hc, hd2⟩
      · have d1 : decide (first < 0) = true := decide_eq_true hc
        go_enter Try.func12, Try.ntmps12
        go_wp2_with (first
          | (go_at_call 38; have := S2; (with_reducible refine (HGO.out _ S2).mono ?_); rintro e W3 ⟨rfl, T3⟩; have S3 := S2.trans T3; obtain ⟨b4, b5, b6, b7⟩ := HKP.out _ S3)
          | (go_at_call 71; have := S1; (with_reducible refine (HFR.out _ S1).mono ?_); rintro e W2 ⟨x, er, rfl, zer, T2⟩; have S2 := S1.trans (T2.alloc (.cells #[.int .i64 x.kind, .int .i64 x.n, .string x.name, .slice x.at_.1 x.args.length x.at_.2] 27)); obtain ⟨b0, b1, b2, b3⟩ := HKP.out _ S2)
          | (go_at_call 70; have := S0; (with_reducible refine (HD.out _ S0).mono ?_); rintro e W1 ⟨rfl, T1⟩; have S1 := S0.trans T1; obtain ⟨c4, c5, c6, c7⟩ := HKP.out _ S1)
          | (go_at_call 69; refine (awake69 _).mono ?_; rintro e W0 ⟨rfl, T0⟩; rw [← HW.out] at T0; have S0 := T0; obtain ⟨c0, c1, c2, c3⟩ := HKP.out _ S0))
        go_ret
        exact ⟨rfl, HT1.out.trans S3⟩
      · have d1 : decide (first < 0) = false := decide_eq_false (by omega)
        have d2 : decide (2147483647 - (L : Int) < first) = true := decide_eq_true hd2
        go_enter Try.func12, Try.ntmps12
        go_wp2_with (first
          | (go_at_call 34; have := S3; (with_reducible refine (HV.out _ S3).mono ?_); rintro e W4 ⟨vb, vd, rfl, T4⟩)
          | (go_at_call 38; have := S2; (with_reducible refine (HGO.out _ S2).mono ?_); rintro e W3 ⟨rfl, T3⟩; have S3 := S2.trans T3; obtain ⟨b4, b5, b6, b7⟩ := HKP.out _ S3)
          | (go_at_call 71; have := S1; (with_reducible refine (HFR.out _ S1).mono ?_); rintro e W2 ⟨x, er, rfl, zer, T2⟩; have S2 := S1.trans (T2.alloc (.cells #[.int .i64 x.kind, .int .i64 x.n, .string x.name, .slice x.at_.1 x.args.length x.at_.2] 27)); obtain ⟨b0, b1, b2, b3⟩ := HKP.out _ S2)
          | (go_at_call 70; have := S0; (with_reducible refine (HD.out _ S0).mono ?_); rintro e W1 ⟨rfl, T1⟩; have S1 := S0.trans T1; obtain ⟨c4, c5, c6, c7⟩ := HKP.out _ S1)
          | (go_at_call 69; refine (awake69 _).mono ?_; rintro e W0 ⟨rfl, T0⟩; rw [← HW.out] at T0; have S0 := T0; obtain ⟨c0, c1, c2, c3⟩ := HKP.out _ S0))
        go_ret
        exact ⟨rfl, HT1.out.trans (S3.trans T4)⟩
end Go.Proofs.Ytoihjobdfjajfaa

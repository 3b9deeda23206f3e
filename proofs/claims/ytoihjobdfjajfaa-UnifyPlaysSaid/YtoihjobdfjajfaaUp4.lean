/- Merged texts: DW1, DL2, BE2, BT1, DB9, BT2, BT3, DW2, DW3, DP2, BU1. -/
import Derived.Test.YtoihjobdfjajfaaUp3
import Derived.Lib.SliceRun
import Derived.LoopTactic
import Derived.BigRegion
namespace Go.Proofs.Ytoihjobdfjajfaa
open Go.RowKit Go.Maps
set_option linter.unusedVariables false
set_option linter.unusedSimpArgs false
theorem DO.parts {p O : Nat → Prop} {wb m : Nat} {l : Tm.Trail} {w : World} (h : DO p wb O m l w) :
    ∃ (ta ia ra : Option Addr) (tc ic rc : Nat) (us : List LT) (is : List Bool), DB p wb (.slice ta m tc) (.slice ia m ic) (.slice ra l.length rc) us is (Tm.dom l).reverse w ∧ DT m l us is (Tm.dom l).reverse ∧ us.length = m ∧ is.length = m ∧ (∀ k, ownD wb (.slice ta m tc) (.slice ia m ic) (.slice ra l.length rc) k → O k) := by
  obtain ⟨tv, iv, rv, us, is, tr, D, R, hO⟩ := h.db
  obtain ⟨ta, tc, rfl⟩ := D.row.shape
  obtain ⟨ia, ic, rfl⟩ := D.bools.shape
  obtain ⟨ra, rc, rfl⟩ := D.trail.shape
  have h1 := R.len
  have h2 : is.length = m := D.same.trans h1
  have h3 := R.tr
  subst h3
  have h4 : (Tm.dom l).reverse.length = l.length := by unfold Tm.dom; rw [List.length_reverse, List.length_map]
  rw [h1, h2, h4] at D
  rw [h1, h2, h4] at hO
  exact ⟨ta, ia, ra, tc, ic, rc, us, is, D, R, h1, h2, hO⟩
structure WalkD (p : Nat → Prop) (l : Tm.Trail) (t : LT) (w0 : World) (x : LT) : Prop where
  inn : x.In p w0
  ones : ∀ z ∈ x.bare.flat, goodOneB z = true
  on : Tm.walkT l x.bare = Tm.walkT l t.bare
theorem WalkD.step {p : Nat → Prop} {m : Nat} {l : Tm.Trail} {w : World} {t x y : LT} {b : Tm Unit} (ho : Tm.okT m l) (h : WalkD p l t w x) (hk : x.kind = 0) (hl : Tm.look l x.n = some b) (hy : y.In p w) (hb : y.bare = b) : WalkD p l t w y ∧ Tm.walkG l y.bare < Tm.walkG l x.bare := by
  subst hb
  have hm := Tm.okT_mem ho (Tm.look_mem hl)
  rw [← Tm.bare_n x] at hl
  have hk' : x.bare.kind = 0 := by rw [Tm.bare_kind]; exact hk
  exact ⟨⟨hy, Tm.good_ones' hm.2.2.1, by rw [← Tm.walkT_step ho hk' hl]; exact h.on⟩, Tm.walkG_lt ho hk' hl⟩
theorem WalkD.done {p : Nat → Prop} {l : Tm.Trail} {w : World} {t x : LT} (h : WalkD p l t w x) (hk : x.kind = 0 → x.n ∉ Tm.dom l) : x.bare = Tm.walkT l t.bare := by
  rw [← h.on, Tm.walkT_stop (fun e => ?_)]
  rw [Tm.bare_kind] at e
  rw [Tm.bare_n]
  exact Tm.look_none.2 (hk e)
def WalkDR (p : Nat → Prop) (l : Tm.Trail) (t : LT) (B : Nat) (w0 : World) (k : Nat) (wr : World) : Prop :=
  ∃ x : LT, Hid (Tm.walkG l x.bare = k) ∧ Hid (WalkD p l t w0 x) ∧ wr.heap[B]? = some (.cells #[.int .i64 x.kind, .int .i64 x.n, .string x.name, .slice x.at_.1 x.args.length x.at_.2] 41 (0, 0)) ∧ wr.heap[B + 1]? = some (.cells #[.int .i64 0, .int .i64 0, .string ⟨#[]⟩, .slice none 0 0] 41 (0, 0)) ∧ Turned (fun _ => False) w0 wr
set_option maxRecDepth 100000 in
set_option maxHeartbeats 3200000 in
theorem walk170 {p O : Nat → Prop} {wb m : Nat} {l : Tm.Trail} {w : World} {t : LT} (h : DO p wb O m l w) (ht : t.In p w) (hg : ∀ z ∈ t.bare.flat, goodOneB z = true) :
    Calls Try.prog 170 #[.pointer (some ⟨wb, 0, none⟩), t.val] w fun e w' => ∃ x : LT, e = .returned x.val ∧ x.In p w' ∧ x.bare = Tm.walkT l t.bare ∧ Turned (fun _ => False) w w' := by
  have h2 := twoBox w (.cells #[.int .i64 t.kind, .int .i64 t.n, .string t.name, .slice t.at_.1 t.args.length t.at_.2] 41) (.cells #[.int .i64 0, .int .i64 0, .string ⟨#[]⟩, .slice none 0 0] 41)
  have hst : Hid (WalkD p l t w t) := ⟨ht, hg, rfl⟩
  obtain ⟨ta, ia, ra, tc, ic, rc, us, is, D0, R, hlu, hli, hO⟩ := h.parts
  have HD0 := Lib.hid D0
  have HR := Lib.hid R
  have hm65 := h.most
  have H := Lib.hid h
  have H2 := Lib.hid h2
  clear h ht hg h2 D0 R hO
  rw [LT.val_eq]
  go_enter Try.func170, Try.ntmps170
  go_wp2_with fail
  revert H2
  generalize ((w.alloc (.cells #[.int .i64 t.kind, .int .i64 t.n, .string t.name, .slice t.at_.1 t.args.length t.at_.2] 41)).alloc (.cells #[.int .i64 0, .int .i64 0, .string ⟨#[]⟩, .slice none 0 0] 41)) = w2
  intro H2
  go_loopg [] (Tm.walkG l t.bare) (fun k wr => WalkDR p l t w.heap.size w k wr)
  case atStart => exact ⟨t, rfl, hst, H2.out.2.2.1, H2.out.2.2.2, H2.out.1⟩
  case round =>
    obtain ⟨x, HG, HI, hb0, hb1, hT⟩ := hrel
    obtain ⟨x0, x1, x2, x3, _⟩ := cells4 hb0
    obtain ⟨z0, z1, z2, z3, f0, f1, f2, f3⟩ := cells4 hb1
    have HB0 := Lib.hid hb0
    have HB1 := Lib.hid hb1
    clear hb0 hb1
    by_cases hk : x.kind = 0
    · have hkx : (x.kind == 0) = true := by simp [hk]
      have h0 : 0 ≤ x.n := by
        have := HI.out.ones x.bare (by rw [Tm.flat_eq]; exact List.mem_cons_self ..)
        rw [goodOneB_bare, goodOneB_0 x hk] at this
        simp only [Bool.and_eq_true, decide_eq_true_eq] at this
        exact this.1
      have hge : decide (0 ≤ x.n) = true := decide_eq_true h0
      have HK := Lib.hid hk
      clear hk
      have D := HD0.out.turned0 hT
      have R := HR.out
      obtain ⟨b0, b1, b2, _⟩ := rec3b D.b
      by_cases hm : x.n < (m : Int)
      · have hlt : decide (x.n < (m : Int)) = true := decide_eq_true hm
        have hset := R.set x.n.toNat (by omega)
        rw [Int.toNat_of_nonneg h0] at hset
        have hbs := D.bools
        have hts := D.row
        rw [hli] at hbs
        rw [hlu] at hts
        obtain ⟨gi, ci, hie⟩ := hbs.shape_pos (by omega)
        injection hie with e1 _ e3
        subst e1 e3
        have hrow := hbs.cells rfl x.n.toNat (.bool (decide (x.n ∈ Tm.dom l))) (by rw [List.getElem?_map, hset]; rfl)
        cases hlk0 : Tm.look l x.n with
        | none =>
          rw [decide_eq_false (Tm.look_none.1 hlk0)] at hrow
          have hdone := HI.out.done (fun _ => Tm.look_none.1 hlk0)
          have HD := Lib.hid hdone
          clear hlk0 hdone D R hset hbs hts
          go_wp2_with fail
          go_quiet (fail)
          go_wp2_with fail
          have hbq : (wr.drewN nq).heap[w.heap.size + 1]? = _ := HB1.out
          have hset := set4 (a' := .int .i64 x.kind) (b' := .int .i64 x.n) (c' := .string x.name) (d' := .slice x.at_.1 x.args.length x.at_.2) hbq
          have T4 := turned4 (a := .int .i64 x.kind) (b := .int .i64 x.n) (c := .string x.name) (d := .slice x.at_.1 x.args.length x.at_.2) (hT.drewN nq) (g := w.heap.size + 1) (by omega)
          refine bodyPost_ret (v := .agg #[.int .i64 x.kind, .int .i64 x.n, .string x.name, .slice x.at_.1 x.args.length x.at_.2]) (results_cell_row Try.results170 _ _ (w.heap.size + 1) 41 _ (0, 0) _ rfl hset Try.underlying41 rfl (by kernel_rfl)) rfl ⟨x, by rw [LT.val_eq], HI.out.inn.turned0 T4, HD.out, T4⟩
        | some b =>
          rw [decide_eq_true (show x.n ∈ Tm.dom l from Classical.not_not.1 (fun c => by rw [Tm.look_none.2 c] at hlk0; cases hlk0))] at hrow
          obtain ⟨y, hy, hyb⟩ := R.val x.n b hlk0
          have hyl := (LT.ins_iff _).1 HD0.out.ins y (List.mem_of_getElem? hy)
          have HS := Lib.hid (HI.out.step (y := y) H.out.ok HK.out hlk0 hyl hyb)
          obtain ⟨gt, hgt, y0, y1, y2, y3⟩ := row_at hts hy
          subst hgt
          clear hlk0 hset hy hyb D R hyl hbs hts
          go_wp2_with fail
          go_quiet (fail)
          go_wp2_with fail
          refine region_tail 8 (by kernel_rfl) (by kernel_rfl) ?_
          simp only [List.take_succ_cons, List.take_zero, List.drop_succ_cons, List.drop_zero]
          repeat still_step
          refine wpStill_nil ?_
          go_wp2_with fail
          have hbq : ((wr.drewN nq).drew).heap[w.heap.size]? = _ := HB0.out
          have hset := set4 (a' := .int .i64 y.kind) (b' := .int .i64 y.n) (c' := .string y.name) (d' := .slice y.at_.1 y.args.length y.at_.2) hbq
          have T4 := turned4 (a := .int .i64 y.kind) (b := .int .i64 y.n) (c := .string y.name) (d := .slice y.at_.1 y.args.length y.at_.2) (((hT.drewN nq)).drew) (g := w.heap.size) (by omega)
          have T5 := turned_store4 ((wr.drewN nq).drew) w.heap.size (.int .i64 y.kind) (.int .i64 y.n) (.string y.name) (.slice y.at_.1 y.args.length y.at_.2)
          go_roundg (Tm.walkG l y.bare)
          case measure => have := HG.out; have := HS.out.2; omega
          case rel => exact ⟨y, rfl, HS.out.1, hset, (T5.block _ (Array.getElem?_eq_some_iff.1 HB1.out).1 (by omega)).trans HB1.out, T4⟩
      · have hlt : decide (x.n < (m : Int)) = false := decide_eq_false hm
        have hdone := HI.out.done (fun _ e => by
          obtain ⟨b, hb, e2⟩ := List.mem_map.1 e
          have := (Tm.okT_mem H.out.ok hb).2.1
          omega)
        have HD := Lib.hid hdone
        clear hdone D R
        go_wp2_with fail
        go_quiet (fail)
        go_wp2_with fail
        have hbq : (wr.drewN nq).heap[w.heap.size + 1]? = _ := HB1.out
        have hset := set4 (a' := .int .i64 x.kind) (b' := .int .i64 x.n) (c' := .string x.name) (d' := .slice x.at_.1 x.args.length x.at_.2) hbq
        have T4 := turned4 (a := .int .i64 x.kind) (b := .int .i64 x.n) (c := .string x.name) (d := .slice x.at_.1 x.args.length x.at_.2) (hT.drewN nq) (g := w.heap.size + 1) (by omega)
        refine bodyPost_ret (v := .agg #[.int .i64 x.kind, .int .i64 x.n, .string x.name, .slice x.at_.1 x.args.length x.at_.2]) (results_cell_row Try.results170 _ _ (w.heap.size + 1) 41 _ (0, 0) _ rfl hset Try.underlying41 rfl (by kernel_rfl)) rfl ⟨x, by rw [LT.val_eq], HI.out.inn.turned0 T4, HD.out, T4⟩
    · have hkx : (x.kind == 0) = false := by simp [hk]
      have hdone := HI.out.done (fun e => absurd e hk)
      have HD := Lib.hid hdone
      clear hk hdone
      go_wp2_with fail
      go_quiet (fail)
      go_wp2_with fail
      have hbq : (wr.drewN nq).heap[w.heap.size + 1]? = _ := HB1.out
      have hset := set4 (a' := .int .i64 x.kind) (b' := .int .i64 x.n) (c' := .string x.name) (d' := .slice x.at_.1 x.args.length x.at_.2) hbq
      have T4 := turned4 (a := .int .i64 x.kind) (b := .int .i64 x.n) (c := .string x.name) (d := .slice x.at_.1 x.args.length x.at_.2) (hT.drewN nq) (g := w.heap.size + 1) (by omega)
      refine bodyPost_ret (v := .agg #[.int .i64 x.kind, .int .i64 x.n, .string x.name, .slice x.at_.1 x.args.length x.at_.2]) (results_cell_row Try.results170 _ _ (w.heap.size + 1) 41 _ (0, 0) _ rfl hset Try.underlying41 rfl (by kernel_rfl)) rfl ⟨x, by rw [LT.val_eq], HI.out.inn.turned0 T4, HD.out, T4⟩
set_option maxRecDepth 100000 in
set_option maxHeartbeats 1600000 in
theorem known99 {p p0 O : Nat → Prop} {wb m : Nat} {l : Tm.Trail} {w : World} {t : LT} (h : DO p wb O m l w) (ht : t.In p0 w) :
    Calls Try.prog 99 #[.pointer (some ⟨wb, 0, none⟩), t.val] w fun e w' => e = .returned (.bool (Tm.ownB m t)) ∧ Turned (fun _ => False) w w' := by
  obtain ⟨bx, hbx⟩ : ∃ bx : Obj, bx = .cells #[.int .i64 t.kind, .int .i64 t.n, .string t.name, .slice t.at_.1 t.args.length t.at_.2] 41 := ⟨_, rfl⟩
  have T1 := (Turned.refl (fun _ => False) w).alloc bx
  have hc : ∀ W, Turned (fun _ => False) (w.alloc bx) W → W.heap[w.heap.size]? = some bx := fun W hW => (hW.block _ (by simp) (fun f => f)).trans (heap_alloc_new w bx)
  have hgo := rGood45 (ht.turned0 T1)
  have hvs := fun W (hW : Turned (fun _ => False) w W) => varsV51 (ht.turned0 hW)
  rw [LT.val_eq t] at hgo hvs ⊢
  obtain ⟨ta, ia, ra, tc, ic, rc, us, is, D0, R, hlu, hli, hO⟩ := h.parts
  have HD0 := Lib.hid D0
  have hmm := h.most
  subst hbx
  have HC := Lib.hid hc
  have HT := Lib.hid T1
  clear h hc T1 ht D0 R hO
  cases hg : goodB t with
  | false =>
    have e1 : Tm.ownB m t = false := by unfold Tm.ownB; rw [hg]; rfl
    rw [e1]
    rw [hg] at hgo
    have HGO := Lib.hid hgo
    clear hgo hvs hg e1
    go_enter Try.func99, Try.ntmps99
    go_wp2_with (go_at_call 45; (with_reducible refine HGO.out.mono ?_); rintro e w3 ⟨rfl, T3⟩)
    go_ret
    exact ⟨rfl, HT.out.trans T3⟩
  | true =>
    have ev : varsB t = t.vars := by unfold varsB; rw [if_pos hg]
    have e1 : Tm.ownB m t = t.vars.all (fun v => decide (v < (m : Int))) := by unfold Tm.ownB; rw [hg]; rfl
    rw [e1]
    rw [hg] at hgo
    rw [ev] at hvs
    obtain ⟨vs, hv⟩ : ∃ z, z = t.vars := ⟨_, rfl⟩
    rw [← hv] at hvs ⊢
    have HGO := Lib.hid hgo
    have HVS := Lib.hid hvs
    clear hgo hvs hg ev e1 hv
    go_enter Try.func99, Try.ntmps99
    go_wp2_with (first
      | (go_at_call 45; (with_reducible refine HGO.out.mono ?_); rintro e w3 ⟨rfl, T3⟩; obtain ⟨c0, c1, c2, c3, _⟩ := cells4 (HC.out _ T3))
      | (go_at_call 51; (with_reducible refine (HVS.out _ (HT.out.trans T3)).mono ?_); rintro e w4 ⟨v, rfl, hrow, T4⟩; obtain ⟨va, vc, rfl⟩ := hrow.shape; have hmx := hrow.max; have TT := HT.out.trans (T3.trans T4); have HROW := Lib.hid hrow; clear hrow))
    have HTT := Lib.hid TT
    clear TT c0 c1 c2 c3 T3 T4 HGO HVS HC HT
    go_loopg [6] vs.length (fun q i wr => OwnL vs m w4 q i wr)
    case atStart => exact ⟨0, Nat.zero_add _, Nat.zero_le _, rfl, rfl, Turned.refl _ _⟩
    case round =>
      obtain ⟨j, HG, hj, rfl, HA, hT⟩ := hrel
      by_cases hjl : j < vs.length
      · obtain ⟨x, hx⟩ : ∃ x, vs[j]? = some x := ⟨_, List.getElem?_eq_getElem hjl⟩
        have hrw := HROW.out.turned0 hT
        obtain ⟨gv, cap, he⟩ := hrw.shape_pos (by omega)
        injection he with q1 _ q3
        subst q1 q3
        have hcv := hrw.cells rfl j (.int .i64 x) (by rw [List.getElem?_map, hx]; rfl)
        have D := HD0.out.turned0 (HTT.out.trans hT)
        obtain ⟨b0, b1, b2, _⟩ := rec3b D.b
        have HX := Lib.hid hx
        by_cases hxm : x < (m : Int)
        · have hge : decide ((m : Int) ≤ x) = false := decide_eq_false (by omega)
          have hst : (vs.take (j + 1)).all (fun v => decide (v < (m : Int))) = true := by rw [all_snoc _ _ _ x hx, HA.out, decide_eq_true hxm]; rfl
          have HST := Lib.hid hst
          clear hx hrw hst hxm D
          go_wp2_with fail
          go_quiet (fail)
          go_wp2_with fail
          go_roundg (gk - 1)
          case measure => have := HG.out; omega
          case rel => exact ⟨j + 1, show _ = _ by have := HG.out; omega, by omega, by go_num, HST.out, hT.drewN nq⟩
        · have hge : decide ((m : Int) ≤ x) = true := decide_eq_true (by omega)
          have hno : vs.all (fun v => decide (v < (m : Int))) = false := all_no _ _ j x hx (decide_eq_false hxm)
          have HNO := Lib.hid hno
          clear hx hrw hno hxm D
          go_wp2_with fail
          go_quiet (fail)
          go_wp2_with fail
          go_ret
          exact ⟨by rw [HNO.out]; rfl, HTT.out.trans (hT.drewN nq)⟩
      · obtain rfl : j = vs.length := by omega
        have ha := HA.out
        rw [List.take_length] at ha
        have HA' := Lib.hid ha
        clear ha
        go_wp2_with fail
        go_ret
        exact ⟨by rw [HA'.out]; rfl, HTT.out.trans hT⟩
end Go.Proofs.Ytoihjobdfjajfaa
namespace Go.Proofs.Ytoihjobdfjajfaa
open Go.RowKit Go.Maps
set_option linter.unusedVariables false
set_option linter.unusedSimpArgs false
theorem DT.bound {m : Nat} {l : Tm.Trail} {us : List LT} {is : List Bool} {n : Int} {N : Nat} {t : LT} (R : DT m l us is (Tm.dom l).reverse) (hn : n = (N : Int)) (hN : N < m) (hi : is.length = m) (hE : Tm.okT m ((n, t.bare) :: l)) :
    DT m ((n, t.bare) :: l) (us.set N t) (is.set N true) ((Tm.dom l).reverse ++ [(N : Int)]) := by
  subst hn
  refine ⟨hE, by rw [List.length_set]; exact R.len, fun i hi' => ?_, fun i b hb => ?_, by simp [Tm.dom]⟩
  · by_cases he : N = i
    · subst he
      rw [List.getElem?_set_self (by omega), decide_eq_true (by simp [Tm.dom])]
    · rw [List.getElem?_set_ne he, R.set i hi']
      have : ((i : Int) ∈ Tm.dom (((N : Int), t.bare) :: l)) ↔ ((i : Int) ∈ Tm.dom l) := by
        simp only [Tm.dom, List.map_cons, List.mem_cons]
        exact ⟨fun h => h.elim (fun h => by omega) id, .inr⟩
      simp only [this]
  · unfold Tm.look at hb
    by_cases he : (N : Int) = i
    · rw [if_pos he] at hb
      injection hb with hb
      subst he
      refine ⟨t, ?_, hb⟩
      rw [Int.toNat_natCast, List.getElem?_set_self (by have := R.len; omega)]
    · rw [if_neg he] at hb
      obtain ⟨u, hu, hb2⟩ := R.val i b hb
      have h0 := (Tm.okT_mem R.ok (Tm.look_mem hb)).1
      refine ⟨u, ?_, hb2⟩
      rw [List.getElem?_set_ne (by intro c; apply he; simp only [] at h0; omega)]
      exact hu
theorem bindD {p O : Nat → Prop} {wb m : Nat} {l : Tm.Trail} {w : World} {t : LT} {n : Int} (h : DO p wb O m l w) (ht : t.In p w) (hE : Tm.okT m ((n, t.bare) :: l)) :
    Calls Try.prog 175 #[.pointer (some ⟨wb, 0, none⟩), .int .i64 n, t.val] w fun e w' => e = .returned (.tuple #[]) ∧ AfterD p wb O m ((n, t.bare) :: l) w w' := by
  obtain ⟨ta, ia, ra, tc, ic, rc, us, is, D, R, hlu, hli, hO⟩ := h.parts
  have h0 : 0 ≤ n := hE.2.1
  have h1 : n < (m : Int) := hE.2.2.1
  obtain ⟨N, rfl⟩ : ∃ N : Nat, n = N := ⟨n.toNat, by omega⟩
  have hbs := D.bools
  have hts := D.row
  rw [hli] at hbs
  rw [hlu] at hts
  obtain ⟨gi, ci, hie⟩ := hbs.shape_pos (by omega)
  obtain ⟨gt, ct, hte⟩ := hts.shape_pos (by omega)
  injection hie with e1 _ e3
  injection hte with e4 _ e6
  subst e1 e3 e4 e6
  have hlen : (Tm.dom l).reverse.length = l.length := by unfold Tm.dom; rw [List.length_reverse, List.length_map]
  refine (bind175 D hlu hli (by rw [hlen]; exact Tm.okT_length h.ok) ht (by omega)).mono ?_
  rintro e w' ⟨rfl, rv', D', T, ho⟩
  refine ⟨rfl, fun k => ownD wb (.slice (some ⟨gt, 0, none⟩) m tc) (.slice (some ⟨gi, 0, none⟩) m ic) rv' k ∨ (O k ∧ k < w.heap.size), ⟨⟨_, _, rv', _, _, _, D', R.bound rfl (by omega) hli hE, fun k hk => .inl hk⟩, fun k hk => hk.elim (D'.own_lt k) (fun e => Nat.lt_of_lt_of_le e.2 T.size), fun k hk c => ?_⟩, fun k hk hl => ?_, T.mono (fun k _ e => hO k (by
    rcases e with (e | e) | e | e
    · exact .inr (.inl (by rw [e]; rfl))
    · exact .inr (.inr (.inl (by rw [e]; rfl)))
    · exact .inl e
    · exact .inr (.inr (.inr e))))⟩
  · rcases c with c | c
    · exact (D'.sep k hk).2 c
    · exact h.sep k hk c.1
  · rcases hk with hk | hk
    · rcases hk with e | e | e | e
      · exact hO k (.inl e)
      · exact hO k (.inr (.inl e))
      · exact hO k (.inr (.inr (.inl e)))
      · rcases ho with ho | ho
        · exact hO k (.inr (.inr (.inr (ho ▸ e))))
        · have := ho k e; omega
    · exact hk.1
end Go.Proofs.Ytoihjobdfjajfaa
namespace Go.Proofs.Ytoihjobdfjajfaa
set_option linter.unusedVariables false
set_option linter.unusedSimpArgs false
open Go.RowKit Go.Maps
structure BO (p : Nat → Prop) (bb : Nat) (O : Nat → Prop) (m : Nat) (l : TL) (w : World) : Prop where
  bi : ∃ sb lv tv, BI p bb sb lv tv m l w ∧ ∀ k, ownK bb sb lv tv k → O k
  box : ∀ b ∈ l, O b.2.1
  lt : ∀ k, O k → k < w.heap.size
  sep : ∀ k, p k → ¬ O k
section
variable {p q O O' S : Nat → Prop} {bb m : Nat} {l : TL} {w w' : World} {t : LT}
theorem BO.ok (h : BO p bb O m l w) : Tm.okT m (bt l) := by obtain ⟨sb, lv, tv, B, _⟩ := h.bi; exact B.ok
theorem BO.most (h : BO p bb O m l w) : m ≤ 65536 := by obtain ⟨sb, lv, tv, B, _⟩ := h.bi; exact B.most
theorem BO.plt (h : BO p bb O m l w) : ∀ k, p k → k < w.heap.size := by obtain ⟨sb, lv, tv, B, _⟩ := h.bi; exact fun k hk => (B.sep k hk).1
theorem BO.turned (h : BO p bb O m l w) (T : Turned S w w') (hS : ∀ k, k < w.heap.size → S k → ¬ O k ∧ ¬ p k) : BO p bb O m l w' := by
  obtain ⟨sb, lv, tv, B, hO⟩ := h.bi
  refine ⟨⟨sb, lv, tv, B.turned T (fun k hk e => ⟨fun c => (hS k hk e).1 (hO k c), fun b hb c => (hS k hk e).1 (c ▸ h.box b hb), (hS k hk e).2⟩), hO⟩, h.box, fun k hk => Nat.lt_of_lt_of_le (h.lt k hk) T.size, h.sep⟩
theorem BO.turned0 (h : BO p bb O m l w) (T : Turned (fun _ => False) w w') : BO p bb O m l w' := h.turned T (fun _ _ f => f.elim)
theorem BO.more (h : BO p bb O m l w) (hO : ∀ k, O k → O' k) (hl : ∀ k, O' k → k < w.heap.size) (hs : ∀ k, p k → ¬ O' k) : BO p bb O' m l w := by
  obtain ⟨sb, lv, tv, B, h1⟩ := h.bi
  exact ⟨⟨sb, lv, tv, B, fun k hk => hO k (h1 k hk)⟩, fun b hb => hO _ (h.box b hb), hl, hs⟩
theorem BO.wide (h : BO p bb O m l w) (hp : ∀ k, p k → q k) (hq : ∀ k, q k → k < w.heap.size ∧ ¬ O k) : BO q bb O m l w := by
  obtain ⟨sb, lv, tv, B, h1⟩ := h.bi
  exact ⟨⟨sb, lv, tv, B.wide hp (fun k hk => ⟨(hq k hk).1, fun c => (hq k hk).2 (h1 k c)⟩), h1⟩, h.box, h.lt, fun k hk => (hq k hk).2⟩
def After (p : Nat → Prop) (bb : Nat) (O : Nat → Prop) (m : Nat) (l : TL) (w w' : World) : Prop :=
  ∃ O' : Nat → Prop, BO p bb O' m l w' ∧ (∀ k, O' k → k < w.heap.size → O k) ∧ Turned O w w'
theorem After.turned0 {w2 : World} (h : After p bb O m l w w') (T : Turned (fun _ => False) w' w2) : After p bb O m l w w2 := by
  obtain ⟨O', h1, h2, h3⟩ := h
  exact ⟨O', h1.turned0 T, h2, h3.trans (T.mono (fun _ _ f => f.elim))⟩
theorem After.trans {m' m2 : Nat} {l' l2 : TL} {w2 : World} (h : After p bb O m' l' w w') (h2 : ∀ O', BO p bb O' m' l' w' → After p bb O' m2 l2 w' w2) : After p bb O m2 l2 w w2 := by
  obtain ⟨O', a1, a2, a3⟩ := h
  obtain ⟨O2, b1, b2, b3⟩ := h2 O' a1
  refine ⟨O2, b1, fun k hk hl => a2 k (b2 k hk (Nat.lt_of_lt_of_le hl a3.size)) hl, a3.step b3 (fun i hi e => a2 i e hi)⟩
theorem newO86 {p : Nat → Prop} (w : World) (hp : ∀ k, p k → k < w.heap.size) :
    Calls Try.prog 86 #[] w fun e w' => ∃ bb, e = .returned (.pointer (some ⟨bb, 0, none⟩)) ∧ BO p bb (fun k => w.heap.size ≤ k ∧ k < w'.heap.size) 0 [] w' ∧ w.heap.size ≤ bb ∧ Turned (fun _ => False) w w' := by
  refine (newB86 w hp).mono ?_
  rintro e w' ⟨rfl, B, T⟩
  refine ⟨_, rfl, ⟨⟨_, _, _, B, fun k hk => ⟨?_, B.own_lt k hk⟩⟩, fun b hb => (by cases hb), fun k hk => hk.2, fun k hk c => by have := hp k hk; omega⟩, by omega, T⟩
  rcases hk with e | e | e | e
  · omega
  · omega
  · simp [Value.ownBlock] at e
  · simp [Value.ownBlock] at e
theorem freshO87 (h : BO p bb O m l w) (hm : m < 65536) :
    Calls Try.prog 87 #[.pointer (some ⟨bb, 0, none⟩)] w fun e w' => e = .returned (.tuple #[.agg #[.int .i64 0, .int .i64 (m : Int), .string ByteArray.empty, .slice none 0 0], .bool true]) ∧ After p bb O (m + 1) l w w' := by
  obtain ⟨sb, lv, tv, B, hO⟩ := h.bi
  refine (fresh87 B hm).mono ?_
  rintro e w' ⟨rfl, ⟨lv', B', ho⟩, T⟩
  have hold : ∀ k, ownK bb sb lv' tv k → k < w.heap.size → ownK bb sb lv tv k := fun k hk hl => by
    rcases hk with e | e | e | e
    · exact .inl e
    · exact .inr (.inl e)
    · rcases ho with ho | ho
      · exact .inr (.inr (.inl (ho ▸ e)))
      · have := ho k e; omega
    · exact .inr (.inr (.inr e))
  refine ⟨rfl, fun k => ownK bb sb lv' tv k ∨ (O k ∧ k < w.heap.size), ⟨⟨sb, lv', tv, B', fun k hk => .inl hk⟩, fun b hb => .inr ⟨h.box b hb, h.lt _ (h.box b hb)⟩, fun k hk => hk.elim (B'.own_lt k) (fun e => Nat.lt_of_lt_of_le e.2 T.size), fun k hk c => ?_⟩, fun k hk hl => hk.elim (fun c => hO k (hold k c hl)) (fun e => e.1), T.mono (fun k _ e => hO k (e.elim .inl (fun e => .inr (.inr (.inl e)))))⟩
  rcases c with c | c
  · exact (B'.sep k hk).2 c
  · exact h.sep k hk c.1
theorem setO88 (h : BO p bb O m l w) (ht : t.In p w) (hs : slim t) (n : Int) (h64 : I64 n) :
    Calls Try.prog 88 #[.pointer (some ⟨bb, 0, none⟩), .int .i64 n, t.val] w fun e w' => e = .returned (.int .i64 (Tm.setE m (bt l) n t.bare)) ∧ ∃ l', bt l' = (if Tm.setE m (bt l) n t.bare = 0 then (n, t.bare) :: bt l else bt l) ∧ After p bb O m l' w w' := by
  obtain ⟨sb, lv, tv, B, hO⟩ := h.bi
  refine (set88 B ht hs n h64).mono ?_
  rintro e w' ⟨rfl, ⟨tv', l', B', hbt, ho, hb⟩, T⟩
  have hold : ∀ k, ownK bb sb lv tv' k → k < w.heap.size → ownK bb sb lv tv k := fun k hk hl => by
    rcases hk with e | e | e | e
    · exact .inl e
    · exact .inr (.inl e)
    · exact .inr (.inr (.inl e))
    · rcases ho with ho | ho
      · exact .inr (.inr (.inr (ho ▸ e)))
      · have := ho k e; omega
  refine ⟨rfl, l', hbt, fun k => ownK bb sb lv tv' k ∨ (O k ∧ k < w.heap.size) ∨ (w.heap.size ≤ k ∧ k < w'.heap.size), ⟨⟨sb, lv, tv', B', fun k hk => .inl hk⟩, fun b hbl => ?_, fun k hk => ?_, fun k hk c => ?_⟩, fun k hk hl => ?_, T.mono (fun k _ e => hO k (e.elim (fun e => .inr (.inl e)) (fun e => .inr (.inr e))))⟩
  · rcases hb b hbl with e | e
    · exact .inr (.inl ⟨h.box b e, h.lt _ (h.box b e)⟩)
    · exact .inr (.inr ⟨e, (Array.getElem?_eq_some_iff.1 (B'.terms b hbl).1).1⟩)
  · rcases hk with e | e | e
    · exact B'.own_lt k e
    · exact Nat.lt_of_lt_of_le e.2 T.size
    · exact e.2
  · rcases c with c | c | c
    · exact (B'.sep k hk).2 c
    · exact h.sep k hk c.1
    · have := (B.sep k hk).1; omega
  · rcases hk with e | e | e
    · exact hO k (hold k e hl)
    · exact e.1
    · omega
theorem walkO90 (h : BO p bb O m l w) (ht : t.In p w) (hg : ∀ z ∈ t.bare.flat, goodOneB z = true) :
    Calls Try.prog 90 #[.pointer (some ⟨bb, 0, none⟩), t.val] w fun e w' => ∃ x : LT, e = .returned x.val ∧ x.In p w' ∧ x.bare = Tm.walkT (bt l) t.bare ∧ Turned (fun _ => False) w w' := by
  obtain ⟨sb, lv, tv, B, hO⟩ := h.bi
  exact walk90 B ht hg
theorem wholeO89 (h : BO p bb O m l w) (ht : t.In p w) (hs : slim t) :
    Calls Try.prog 89 #[.pointer (some ⟨bb, 0, none⟩), t.val] w fun e w' => ∃ u : LT, e = .returned (.tuple #[u.val, .int .i64 (wholeE m (bt l) t.bare)]) ∧ u.bare = wholeT m (bt l) t.bare ∧ u.In (fun k => p k ∨ w.heap.size ≤ k) w' ∧ Turned (fun _ => False) w w' := by
  obtain ⟨sb, lv, tv, B, hO⟩ := h.bi
  exact whole89 B ht hs
theorem markO111 (h : BO p bb O m l w) : Calls Try.prog 111 #[.pointer (some ⟨bb, 0, none⟩)] w fun e w' => e = .returned (.int .i64 l.length) ∧ Turned (fun _ => False) w w' := by
  obtain ⟨sb, lv, tv, B, hO⟩ := h.bi
  exact mark111 B
theorem lenO107 (h : BO p bb O m l w) : Calls Try.prog 107 #[.pointer (some ⟨bb, 0, none⟩)] w fun e w' => e = .returned (.int .i64 m) ∧ Turned (fun _ => False) w w' := by
  obtain ⟨sb, lv, tv, B, hO⟩ := h.bi
  exact len107 B
end
end Go.Proofs.Ytoihjobdfjajfaa
namespace Go.Proofs.Ytoihjobdfjajfaa
open Go.RowKit
set_option linter.unusedVariables false
set_option linter.unusedSimpArgs false
theorem Row.stored {w : World} {e : TypeId} {n g cap : Nat} {xs : List Value} (h : Row w e 1 (.slice (some ⟨g, 0, none⟩) n cap) n xs) {i : Nat} (hi : i < n) (u : Value) :
    Row (w.setCell ⟨g, i, none⟩ u) e 1 (.slice (some ⟨g, 0, none⟩) n cap) n (xs.set i u) := by
  refine ⟨by simpa using h.1, .inr ?_⟩
  rcases h.2 with ⟨e, _⟩ | ⟨g', c, cur, e, hg, h1, h2, h3, h4⟩
  · cases e
  · injection e with e1 _ e3; injection e1 with e1; injection e1 with e1; subst e1; subst e3
    refine ⟨g, cap, cur.setIfInBounds i u, rfl, ?_, h1, h2, by simpa using h3, ?_⟩
    · simp only [World.setCell, Array.getElem?_modify]
      simp [hg]
    · simp only [Array.toList_setIfInBounds]
      rw [← h4, Nat.mul_one, List.take_set]
theorem Row.over {w w' : World} {e : TypeId} {n g cap m : Nat} {xs : List Value} (h : Row w e 1 (.slice (some ⟨g, 0, none⟩) n cap) n xs) (hm : m ≤ n)
    (hw : ∃ cur cur' : Array Value, w.heap[g]? = some (.cells cur e (0, 0)) ∧ w'.heap[g]? = some (.cells cur' e (0, 0)) ∧ cur'.size = cur.size ∧ cur'.toList.take m = cur.toList.take m) :
    Row w' e 1 (.slice (some ⟨g, 0, none⟩) m cap) m (xs.take m) := by
  obtain ⟨cur, cur', q1, q2, q3, q4⟩ := hw
  rcases h.2 with ⟨e, _⟩ | ⟨g', c, cu, e, hg, h1, h2, h3, h4⟩
  · cases e
  · injection e with e1 _ e3; injection e1 with e1; injection e1 with e1; subst e1; subst e3
    rw [q1] at hg; injection hg with hg; injection hg with hg; subst hg
    refine ⟨?_, .inr ⟨g, cap, cur', rfl, q2, by omega, h2, by rw [q3]; exact h3, ?_⟩⟩
    · rw [List.length_take, h.1]; omega
    · rw [Nat.mul_one, q4, ← h4, List.take_take, Nat.mul_one, Nat.min_eq_left hm]
structure Stk {α : Type} (st e : TypeId) (enc : α → Value) (w : World) (B sb room : Nat) (lv : Value) (l : List α) : Prop where
  base : B ≤ sb
  baseR : ∀ k, lv.ownBlock = some k → B ≤ k
  blk : w.heap[sb]? = some (.cells #[.int .i64 room, lv] st (0, 0))
  row : Row w e 1 lv l.length (l.map enc)
  apart : lv.ownBlock ≠ some sb
  room1 : 1 ≤ room
  room2 : room ≤ 65536
  len : l.length ≤ room
def Mine2 (sb : Nat) (lv : Value) (k : Nat) : Prop := k = sb ∨ lv.ownBlock = some k
theorem rec2_cells {w : World} {sb : Nat} {r : Int} {lv : Value} {st : TypeId} (h : w.heap[sb]? = some (.cells #[.int .i64 r, lv] st (0, 0))) :
    w.cell? ⟨sb, 0, none⟩ = some (.int .i64 r) ∧ w.cell? ⟨sb, 1, none⟩ = some lv ∧ w.frozen? ⟨sb, 1, none⟩ = false :=
  ⟨by rw [cell_of_row w sb 0 _ st (0, 0) h]; rfl, by rw [cell_of_row w sb 1 _ st (0, 0) h]; rfl, frozen_of_row w sb 1 _ st h⟩
theorem rec2_set {w : World} {sb : Nat} {r : Int} {lv : Value} {st : TypeId} (h : w.heap[sb]? = some (.cells #[.int .i64 r, lv] st (0, 0))) (u : Value) :
    (w.setCell ⟨sb, 1, none⟩ u).heap[sb]? = some (.cells #[.int .i64 r, u] st (0, 0)) := by
  simp only [World.setCell, Array.getElem?_modify]
  simp [h]
section
variable {α : Type} {st e : TypeId} {enc : α → Value} {w : World} {B sb room : Nat} {lv : Value} {l : List α}
theorem Stk.turned {S : Nat → Prop} {w' : World} (h : Stk st e enc w B sb room lv l) (ht : Turned S w w') (hS : ∀ k, S k → ¬ Mine2 sb lv k) : Stk st e enc w' B sb room lv l :=
  ⟨h.base, h.baseR, (ht.block sb (Array.getElem?_eq_some_iff.1 h.blk).1 (fun s => hS sb s (.inl rfl))).trans h.blk, h.row.turned ht (fun k e s => hS k s (.inr e)), h.apart, h.room1, h.room2, h.len⟩
theorem Stk.turned0 {w' : World} (h : Stk st e enc w B sb room lv l) (ht : Turned (fun _ => False) w w') : Stk st e enc w' B sb room lv l := h.turned ht (fun _ x => False.elim x)
theorem Stk.fresh (h : Stk st e enc w B sb room lv l) : ∀ k, Mine2 sb lv k → B ≤ k := by
  rintro k (rfl | e)
  · exact h.base
  · exact h.baseR k e
theorem Stk.old (h : Stk st e enc w B sb room lv l) : ∀ k, Mine2 sb lv k → k < w.heap.size := by
  rintro k (rfl | e)
  · exact (Array.getElem?_eq_some_iff.1 h.blk).1
  · exact h.row.lt k e
end
abbrev StkI := Stk (α := Int) 209 2 (Value.int .i64)
theorem onesI (l : List Int) : ∀ x ∈ l.map (Value.int .i64), x.oneCell' = true := by intro x hx; obtain ⟨_, _, rfl⟩ := List.mem_map.1 hx; rfl
theorem stkInfoI : (Try.prog.info? 2).map (fun i => (i.zero, i.size, i.bytes)) = some (some (.int .i64 0), 1, 8) := by kernel_rfl
def revAtI (xs : List Int) (k p : Nat) : Option Int := if p < k ∨ xs.length - k ≤ p then xs[xs.length - 1 - p]? else xs[p]?
theorem rev_stepI {xs ys : List Int} {k y : Nat} {p q : Int} (hl : ys.length = xs.length) (hy : y + k + 1 = xs.length) (hky : k < y) (hys : ∀ r, r < xs.length → ys[r]? = revAtI xs k r) (hp : ys[k]? = some p) (hq : ys[y]? = some q) :
    ∀ r, r < xs.length → ((ys.set k q).set y p)[r]? = revAtI xs (k + 1) r := by
  intro r hr
  have hk := hys k (by omega)
  have hy' := hys y (by omega)
  rw [hp] at hk
  rw [hq] at hy'
  unfold revAtI at hk hy' ⊢
  rw [if_neg (by omega)] at hk hy'
  by_cases e1 : r = y
  · subst e1
    rw [List.getElem?_set_self (by simp; omega), if_pos (by omega), show xs.length - 1 - r = k from by omega]
    exact hk
  · rw [List.getElem?_set_ne (by omega)]
    by_cases e2 : r = k
    · subst e2
      rw [List.getElem?_set_self (by omega), if_pos (by omega), show xs.length - 1 - r = y from by omega]
      exact hy'
    · rw [List.getElem?_set_ne (by omega), hys r hr]
      unfold revAtI
      by_cases hc : r < k ∨ xs.length - k ≤ r
      · rw [if_pos hc, if_pos (by omega)]
      · rw [if_neg hc, if_neg (by omega)]
theorem rev_endI {xs ys : List Int} {k : Nat} (hl : ys.length = xs.length) (hk1 : 2 * k ≤ xs.length + 1) (hk2 : xs.length ≤ 2 * k + 1) (hys : ∀ r, r < xs.length → ys[r]? = revAtI xs k r) : ys = xs.reverse := by
  apply List.ext_getElem?
  intro r
  by_cases hr : r < xs.length
  · rw [hys r hr, List.getElem?_reverse hr]
    unfold revAtI
    split
    · rfl
    · rw [show xs.length - 1 - r = r from by omega]
  · rw [List.getElem?_eq_none (by omega), List.getElem?_eq_none (by simp; omega)]
set_option maxHeartbeats 1000000 in
theorem revI {w : World} {v : Value} {xs : List Int} (h : Row w 2 1 v xs.length (xs.map (Value.int .i64))) (hn : xs.length ≤ 65536) :
    Calls Try.prog 172 #[v] w fun e w' => e = .returned (.tuple #[]) ∧ Row w' 2 1 v xs.length (xs.map (Value.int .i64)).reverse ∧ Turned (fun k => v.ownBlock = some k) w w' := by
  obtain ⟨a, cap, rfl⟩ := h.shape
  go_enter Try.func172, Try.ntmps172
  go_wp2
  go_loopw [2, 3] (fun i j wr => ∃ (k : Nat) (x : Int), 2 * k ≤ xs.length + 1 ∧ i = .int .i64 k ∧ j = .int .i64 x ∧ x + k + 1 ≤ xs.length ∧ (xs.length : Int) ≤ x + k + 1 ∧ (∃ ys : List Int, Row wr 2 1 (.slice a xs.length cap) xs.length (ys.map (Value.int .i64)) ∧ ∀ p, p < xs.length → ys[p]? = revAtI xs k p) ∧ Turned (fun k => (Value.slice a xs.length cap).ownBlock = some k) w wr) (fun i j _ => (intOf j - intOf i + 1).toNat)
  case atStart => exact ⟨0, _, by omega, rfl, rfl, by omega, by omega, ⟨xs, h, fun p hp => by simp [revAtI]; omega⟩, Turned.refl _ _⟩
  case round =>
    obtain ⟨k, x, hk, rfl, rfl, hx1, hx2, ⟨ys, hrow, hys⟩, hT⟩ := hrel
    have hl : ys.length = xs.length := by have := hrow.1; simpa using this
    by_cases hlt : 2 * k + 1 < xs.length
    · obtain ⟨y, rfl⟩ : ∃ y : Nat, x = y := ⟨x.toNat, by omega⟩
      have hky : k < y := by omega
      have hne : ¬ k = y := by omega
      have hne2 : ¬ y = k := by omega
      have hyn : y < xs.length := by omega
      have hkn : k < xs.length := by omega
      obtain ⟨p, hp⟩ : ∃ p, ys[k]? = some p := ⟨_, List.getElem?_eq_getElem (by omega)⟩
      obtain ⟨q, hq⟩ : ∃ q, ys[y]? = some q := ⟨_, List.getElem?_eq_getElem (by omega)⟩
      obtain ⟨g, cap3, hgc⟩ := hrow.shape_pos (by omega)
      injection hgc with q1 _ q2
      subst q1; subst q2
      have cp := hrow.cells rfl k ((Value.int .i64) p) (by rw [List.getElem?_map, hp]; rfl)
      have cq := hrow.cells rfl y ((Value.int .i64) q) (by rw [List.getElem?_map, hq]; rfl)
      have fk := hrow.free rfl k
      have fy := hrow.free rfl y
      have hst := Lib.hid (rev_stepI hl (y := y) (by omega) hky hys hp hq)
      have hr2 := (hrow.stored (i := k) hkn ((Value.int .i64) q)).stored (i := y) hyn ((Value.int .i64) p)
      rw [← List.map_set, ← List.map_set] at hr2
      have HR2 := Lib.hid hr2
      clear hp hq hys hr2
      go_wp2_with fail
      go_region
      all_goals
        go_wp2_with fail
        go_roundw
        case rel => exact ⟨k + 1, (y : Int) - 1, by omega, by go_num, rfl, by omega, by omega, ⟨_, HR2.out, hst.out⟩, ((hT.setCell (p := ⟨g, k, none⟩) (.inr rfl) _).setCell (p := ⟨g, y, none⟩) (.inr rfl) _).drew⟩
        case measure => (simp [intOf]; try omega)
    · have hge : ¬ ((k : Int) < x) := by omega
      have he := rev_endI hl hk (by omega) hys
      clear hys
      have HE := Lib.hid he
      clear he
      go_wp2
      go_end0
      exact ⟨rfl, by rw [← List.map_reverse, ← HE.out]; exact hrow, hT⟩
theorem setCells_blk (b : Nat) (e : TypeId) (m : Nat) : ∀ (vs : List Value) (o : Nat) (w : World) (cur : Array Value), m ≤ o → w.heap[b]? = some (.cells cur e (0, 0)) → ∃ cur' : Array Value, (w.setCells b o vs).heap[b]? = some (.cells cur' e (0, 0)) ∧ cur'.size = cur.size ∧ cur'.toList.take m = cur.toList.take m
  | [], o, w, cur, _, h => ⟨cur, h, rfl, rfl⟩
  | v :: r, o, w, cur, ho, h => by
    have h1 : (w.setCell ⟨b, o, none⟩ v).heap[b]? = some (.cells (cur.setIfInBounds o v) e (0, 0)) := by
      simp only [World.setCell, Array.getElem?_modify]; simp [h]
    obtain ⟨cur', q1, q2, q3⟩ := setCells_blk b e m r (o + 1) _ _ (by omega) h1
    refine ⟨cur', q1, by rw [q2]; simp, ?_⟩
    rw [q3, Array.toList_setIfInBounds, List.take_set_of_le ho]
theorem setCells_turned (b : Nat) : ∀ (vs : List Value) (o : Nat) (w : World), Turned (· = b) w (w.setCells b o vs)
  | [], _, w => Turned.refl _ _
  | v :: r, o, w => ((Turned.refl (· = b) w).setCell (p := ⟨b, o, none⟩) (.inr rfl) v).trans (setCells_turned b r (o + 1) _)
theorem run_clear_row {P : Program} {w : World} {t e ty : TypeId} {z : Value} (ht : P.underlying t = some (.slice e)) (hv : ∀ w, (zeroValue e).run P w = .ok z w) (hz : z.cells = #[z]) (h1 : z.oneCell' = true)
    {g n cap m c k : Nat} {xs : List Value} (h : Row w e 1 (.slice (some ⟨g, 0, none⟩) n cap) n xs) (hk : m + k = n) :
    ∃ w', (Builtin.clear_ #[t] ty #[.slice (some ⟨g, m, none⟩) k c]).run P w = .ok (.tuple #[]) w' ∧ Row w' e 1 (.slice (some ⟨g, 0, none⟩) m cap) m (xs.take m) ∧ Turned (· = g) w w' := by
  rcases h.2 with ⟨e, _⟩ | ⟨g', cp, cur, e, hg, q1, q2, q3, q4⟩
  · cases e
  · injection e with e1 _ e3; injection e1 with e1; injection e1 with e1; subst e1; subst e3
    by_cases h0 : k = 0
    · subst h0
      refine ⟨w, ?_, ?_, Turned.refl _ _⟩
      · simp [Builtin.clear_, run_underlying ht]
      · exact h.over (by omega) ⟨cur, cur, hg, hg, rfl, rfl⟩
    · obtain ⟨cur', r1, r2, r3⟩ := setCells_blk g e m (List.replicate k z) m w cur (Nat.le_refl _) hg
      have hc : ∀ j, j < k → (w.cell? ⟨g, m + j, none⟩).isSome = true := by
        intro j hj
        rw [cell_of_row w g (m + j) cur e (0, 0) hg]
        simp
        omega
      refine ⟨_, Lib.run_clear_slice w t e ty z ht hv hz h1 g m k c (by omega) hc (fun j _ => frozen_of_row w g _ cur e hg), ?_, setCells_turned g _ _ w⟩
      exact h.over (by omega) ⟨cur, cur', hg, r1, r2, r3⟩
theorem clear_row {P : Program} (w : World) {ops : Array Oper} {rest : List Oper} {o : Oper} {a : Act} {Q : Exit → Act → World → Prop} (hgd : o.guard = none) (s : Operand) (t : TypeId)
    (ho : o.op = .call { callee := .builtin .clear, args := #[s], argTypes := #[t] })
    (e : TypeId) (z : Value) (ht : P.underlying t = some (.slice e)) (hv : ∀ w, (zeroValue e).run P w = .ok z w) (hz : z.cells = #[z]) (h1 : z.oneCell' = true)
    (g n cap m c k : Nat) (xs : List Value) (h : Row w e 1 (.slice (some ⟨g, 0, none⟩) n cap) n xs) (hk : m + k = n) (hs : a.eval s = .slice (some ⟨g, m, none⟩) k c)
    (hK : ∀ w', Row w' e 1 (.slice (some ⟨g, 0, none⟩) m cap) m (xs.take m) → Turned (· = g) w w' → wpList P ops Q rest (a.put o.dst (.tuple #[])) w') : wpList P ops Q (o :: rest) a w := by
  refine wpList_plain hgd fun K hK' => ?_
  obtain ⟨w', hr, h2, h3⟩ := run_clear_row (P := P) (ty := o.type) ht hv hz h1 (c := c) h hk
  unfold Oper.wp execOp
  simp only [ho, resolve, invoke, builtin, Sem.run_bind, Sem.run_pure, Result.andThen_ok, List.map_toArray, List.map_cons, List.map_nil, hs, hr]
  exact hK' _ _ (hK w' h2 h3)
theorem clear_none {P : Program} (w : World) {ops : Array Oper} {rest : List Oper} {o : Oper} {a : Act} {Q : Exit → Act → World → Prop} (hgd : o.guard = none) (s : Operand) (t : TypeId)
    (ho : o.op = .call { callee := .builtin .clear, args := #[s], argTypes := #[t] }) (e : TypeId) (ht : P.underlying t = some (.slice e)) (ao : Option Addr) (k c : Nat) (hk0 : k = 0) (hs : a.eval s = .slice ao k c)
    (hK : wpList P ops Q rest (a.put o.dst (.tuple #[])) w) : wpList P ops Q (o :: rest) a w := by
  subst hk0
  refine wpList_plain hgd fun K hK' => ?_
  have hr : (Builtin.clear_ #[t] o.type #[.slice ao 0 c]).run P w = .ok (.tuple #[]) w := by
    cases ao <;> simp [Builtin.clear_, run_underlying ht]
  unfold Oper.wp execOp
  simp only [ho, resolve, invoke, builtin, Sem.run_bind, Sem.run_pure, Result.andThen_ok, List.map_toArray, List.map_cons, List.map_nil, hs, hr]
  exact hK' _ _ hK
theorem zeroVI (w : World) : (zeroValue 2).run Try.prog w = .ok (.int .i64 0) w := by kernel_rfl
set_option maxHeartbeats 400000 in
theorem stkCloneI_some {w : World} {ad : Addr} {n cap : Nat} {xs : List Value} (hl : xs.length = n * 1) (hcells : ∀ j u, xs[j]? = some u → w.cell? (ad.add j) = some u) (hx : ∀ x ∈ xs, x.oneCell' = true) (hn : n ≤ 65536) :
    Calls Try.prog 171 #[.slice (some ad) n cap] w fun e w' => ∃ v, e = .returned v ∧ Row w' 2 1 v n xs ∧ (∀ k, v.ownBlock = some k → w.heap.size ≤ k) ∧ Turned (fun _ => False) w w' := by
  obtain ⟨i0, hi0, hz0, hz1, hz2⟩ := info_parts stkInfoI
  have hnil := fun (w : World) (a : Option Addr) (n c : Nat) => Lib.run_eql_slice_nil (P := Try.prog) w 24 2 a n c 0 0 Try.underlying24
  have hc' : ∀ o : Obj, ∀ j u, xs[j]? = some u → (w.alloc o).cell? (ad.add j) = some u := fun o j u h => cell_old (hcells j u h)
  have HC := Lib.hid hc'
  clear hcells hc'
  go_enter Try.func171, Try.ntmps171
  go_wp2_with (first
    | (at_builtin; refine append_row _ rfl _ _ 24 rfl 2 i0 (.int .i64 0) 1 8 Try.underlying24 hi0 hz0 hz1 hz2 rfl (by decide) _ _ _ rfl (Row.made _ 2 1 #[] 0 rfl (by simp)) ad n cap xs rfl hl (HC.out _) hx (by unfold maxLen; omega) (by omega) ?_; intro v2 w2 hown2 hg2 hl2 _))
  go_ret
  refine ⟨_, rfl, by simpa using hown2, ?_, ((Turned.refl (fun _ => False) w).alloc (.cells #[] 2)).step hg2 ?_⟩
  · intro k hk
    change v2.ownBlock = some k at hk
    rcases hl2 with e | e
    · rw [hk] at e; simp [Value.ownBlock, Act.eval] at e; omega
    · rw [hk] at e; simp at e; omega
  · intro k hk1 hk
    simp [Value.ownBlock, Act.eval] at hk
    omega
set_option maxHeartbeats 400000 in
theorem stkCloneI_nil (w : World) :
    Calls Try.prog 171 #[.slice none 0 0] w fun e w' => e = .returned (.slice none 0 0) ∧ w = w' := by
  have hnil := fun (w : World) (a : Option Addr) (n c : Nat) => Lib.run_eql_slice_nil (P := Try.prog) w 24 2 a n c 0 0 Try.underlying24
  go_enter Try.func171, Try.ntmps171
  go_wp2
  go_ret
  exact ⟨rfl, rfl⟩
theorem stkCloneI {w : World} {ao : Option Addr} {n cap : Nat} {xs : List Value} (hnone : ao = none → n = 0 ∧ cap = 0) (hl : xs.length = n) (hcells : ∀ ad, ao = some ad → ∀ j u, xs[j]? = some u → w.cell? (ad.add j) = some u) (hx : ∀ x ∈ xs, x.oneCell' = true) (hn : n ≤ 65536) :
    Calls Try.prog 171 #[.slice ao n cap] w fun e w' => ∃ v, e = .returned v ∧ Row w' 2 1 v n xs ∧ (∀ k, v.ownBlock = some k → w.heap.size ≤ k) ∧ Turned (fun _ => False) w w' := by
  cases ao with
  | some ad => exact stkCloneI_some (by rw [Nat.mul_one]; exact hl) (hcells ad rfl) hx hn
  | none =>
    obtain ⟨rfl, rfl⟩ := hnone rfl
    have : xs = [] := List.eq_nil_of_length_eq_zero hl
    subst this
    exact (stkCloneI_nil w).mono fun e w' ⟨he, hw⟩ => hw ▸ ⟨_, he, Row.nil _ _ _, by simp [Value.ownBlock], Turned.refl _ _⟩
theorem undo_closeI {w w1 w2 : World} {B sb room cap g n : Nat} {l : List Int} (h : StkI w B sb room (.slice (some ⟨g, 0, none⟩) l.length cap) l) (hn : n ≤ l.length)
    (T1 : Turned (fun _ => False) w w1) (T2 : Turned (· = g) w1 w2) (hrow : Row w2 2 1 (.slice (some ⟨g, 0, none⟩) n cap) n ((l.map (Value.int .i64)).take n)) :
    StkI (w2.setCell ⟨sb, 1, none⟩ (.slice (some ⟨g, 0, none⟩) n cap)) B sb room (.slice (some ⟨g, 0, none⟩) n cap) (l.take n) ∧ Turned (Mine2 sb (.slice (some ⟨g, 0, none⟩) l.length cap)) w (w2.setCell ⟨sb, 1, none⟩ (.slice (some ⟨g, 0, none⟩) n cap)) := by
  have hgs : g ≠ sb := fun e => h.apart (by rw [e]; rfl)
  have lsb := (Array.getElem?_eq_some_iff.1 h.blk).1
  have hl := h.len
  have hlen : (l.take n).length = n := by rw [List.length_take]; omega
  have blk2 := (T2.block sb (Nat.lt_of_lt_of_le lsb T1.size) (fun e => hgs e.symm)).trans ((T1.block sb lsb (fun f => f)).trans h.blk)
  refine ⟨⟨h.base, fun k hk => h.baseR k hk, rec2_set blk2 _, ?_, by simp [Value.ownBlock]; exact hgs, h.room1, h.room2, by omega⟩, ?_⟩
  · rw [hlen, List.map_take]
    exact hrow.setCell (p := ⟨sb, 1, none⟩) (by simp [Value.ownBlock]; exact hgs) _
  · exact Turned.setCell (((T1.mono (fun _ _ f => f.elim))).step (T := (· = g)) T2 (fun i _ e => .inr (by rw [e]; rfl))) (.inr (.inl rfl)) _
set_option maxHeartbeats 1000000 in
theorem stkUndoI_some {w : World} {B sb room g cap : Nat} {l : List Int} (h : StkI w B sb room (.slice (some ⟨g, 0, none⟩) l.length cap) l) (n : Nat) (hn : n ≤ l.length) :
    Calls Try.prog 151 #[.pointer (some ⟨sb, 0, none⟩), .int .i64 n] w fun e w' => ∃ v lv', e = .returned (.tuple #[v, .bool true]) ∧ Row w' 2 1 v (l.length - n) ((l.drop n).map (Value.int .i64)).reverse ∧ (∀ k, v.ownBlock = some k → w.heap.size ≤ k) ∧
      StkI w' B sb room lv' (l.take n) ∧ lv'.ownBlock = some g ∧ Turned (Mine2 sb (.slice (some ⟨g, 0, none⟩) l.length cap)) w w' := by
  have hk := Lib.hid h
  have hr := h.room2
  have hl := h.len
  obtain ⟨c0, c1, f1⟩ := rec2_cells h.blk
  have lsb := (Array.getElem?_eq_some_iff.1 h.blk).1
  have lg := h.row.lt g rfl
  have hcl : l.length ≤ cap := by
    rcases h.row.2 with ⟨e, _⟩ | ⟨_, _, _, e, _, hh, _⟩
    · cases e
    · injection e with _ _ e; omega
  have hd : decide ((n : Int) < 0) = false := by simp
  have hd2 : decide (l.length < n) = false := by simp; omega
  have hgs : ¬ sb = g := fun e => h.apart (by rw [e]; rfl)
  have hcells : ∀ c, (¬ cap = n → c = n) → ∀ ad, some (⟨g, c, none⟩ : Addr) = some ad → ∀ j u, ((l.drop n).map (Value.int .i64))[j]? = some u → w.cell? (ad.add j) = some u := by
    intro c hc ad e j u hu
    injection e with e; subst e
    have hj := (List.getElem?_eq_some_iff.1 hu).1
    simp at hj
    rw [hc (by omega), Addr.add_lit]
    refine hk.out.row.cells rfl _ _ ?_
    rw [List.getElem?_map, List.getElem?_drop] at hu
    rw [List.getElem?_map]
    exact hu
  have hrl : (l.drop n).length = l.length - n := List.length_drop
  by_cases hcn : cap = n
  · have hcn2 := hcn.symm
    subst hcn2
    have hcl' := stkCloneI (w := w) (ao := some ⟨g, 0, none⟩) (n := 0) (cap := 0) (xs := []) (by simp) (by simp) (by simp) (by simp) (by omega)
    have HCL := Lib.hid hcl'
    have HZ := Lib.hid (show l.length - n = 0 from by omega)
    have HD := Lib.hid (show l.drop n = [] from List.drop_eq_nil_of_le (by omega))
    clear hcells h hcl'
    go_enter Try.func151, Try.ntmps151
    go_wp2_with fail
    refine HCL.out.mono ?_
    rintro e w1 ⟨v, rfl, hv, hfr, T1⟩
    have hrv := revI (w := w1) (v := v) (xs := []) hv (by simp)
    have HRV := Lib.hid hrv
    obtain ⟨av, capv, rfl⟩ := hv.shape
    clear hrv
    go_wp2_with fail
    refine HRV.out.mono ?_
    rintro e w2 ⟨rfl, hv2, T2⟩
    have T12 := T1.step T2 (fun i hi e => by have := hfr i e; omega)
    have d1 := T12.cell0 c1
    have f2 := T12.frozen lsb f1 (fun f => f)
    have hrow2 := hk.out.row.turned0 T12
    clear c0 c1 f1
    go_wp2_with (first
      | (refine clear_none _ rfl (.tmp 32) 24 rfl 2 Try.underlying24 _ _ _ rfl rfl ?_))
    go_ret2
    have hrow3 := hrow2.take (m := n) (c := n) hn (Nat.le_refl _) (Nat.le_refl _)
    rw [Nat.mul_one] at hrow3
    obtain ⟨r1, r2⟩ := undo_closeI hk.out hn T12 (Turned.refl _ _) hrow3
    refine ⟨_, _, rfl, ?_, hfr, r1, rfl, r2⟩
    rw [HZ.out, HD.out]
    exact hv2.setCell (p := ⟨sb, 1, none⟩) (fun e => by have q : w.heap.size ≤ sb := hfr _ e; omega) _
  · have hcl' := stkCloneI (w := w) (ao := some ⟨g, n, none⟩) (n := l.length - n) (cap := cap - n) (xs := (l.drop n).map (Value.int .i64)) (by simp) (by simp) (hcells n (fun _ => rfl)) (onesI _) (by omega)
    have HCL := Lib.hid hcl'
    clear hcells h hcl'
    go_enter Try.func151, Try.ntmps151
    go_wp2_with fail
    refine HCL.out.mono ?_
    rintro e w1 ⟨v, rfl, hv, hfr, T1⟩
    have hrv := revI (w := w1) (v := v) (xs := l.drop n) (by rw [hrl]; exact hv) (by omega)
    rw [hrl] at hrv
    have HRV := Lib.hid hrv
    obtain ⟨av, capv, rfl⟩ := hv.shape
    clear hrv
    go_wp2_with fail
    refine HRV.out.mono ?_
    rintro e w2 ⟨rfl, hv2, T2⟩
    have T12 := T1.step T2 (fun i hi e => by have := hfr i e; omega)
    have d1 := T12.cell0 c1
    have f2 := T12.frozen lsb f1 (fun f => f)
    have hrow2 := hk.out.row.turned0 T12
    have lsb2 : sb < w2.heap.size := by have := T12.size; omega
    clear c0 c1 f1
    go_wp2_with (first
      | (refine clear_row _ rfl (.tmp 32) 24 rfl 2 (.int .i64 0) Try.underlying24 zeroVI rfl rfl g l.length cap n _ (l.length - n) _ hrow2 (by omega) rfl ?_; intro w3 hrow3 T3; have e1 := T3.cell d1 hgs; have f3 := T3.frozen lsb2 f2 hgs; clear d1 f2))
    go_ret2
    obtain ⟨r1, r2⟩ := undo_closeI hk.out hn T12 T3 hrow3
    refine ⟨_, _, rfl, ?_, hfr, r1, rfl, r2⟩
    exact (hv2.turned T3 (fun k e s => by have := hfr k e; have s : k = g := s; omega)).setCell (p := ⟨sb, 1, none⟩) (fun e => by have q : w.heap.size ≤ sb := hfr _ e; omega) _
set_option maxHeartbeats 1000000 in
theorem stkUndoI_nil {w : World} {B sb room : Nat} (h : StkI w B sb room (.slice none 0 0) []) :
    Calls Try.prog 151 #[.pointer (some ⟨sb, 0, none⟩), .int .i64 0] w fun e w' => e = .returned (.tuple #[.slice none 0 0, .bool true]) ∧ StkI w' B sb room (.slice none 0 0) [] ∧ Turned (Mine2 sb (.slice none 0 0)) w w' := by
  have hk := Lib.hid h
  obtain ⟨c0, c1, f1⟩ := rec2_cells h.blk
  have HCL := Lib.hid (stkCloneI_nil w)
  have hrv := revI (w := w) (v := .slice none 0 0) (xs := []) (Row.nil _ _ _) (by simp)
  have HRV := Lib.hid hrv
  have lsb := (Array.getElem?_eq_some_iff.1 h.blk).1
  clear h hrv
  go_enter Try.func151, Try.ntmps151
  go_wp2_with fail
  refine HCL.out.mono ?_
  rintro e w1 ⟨rfl, rfl⟩
  go_wp2_with fail
  refine HRV.out.mono ?_
  rintro e w2 ⟨rfl, hv2, T2⟩
  have T3 : Turned (fun _ => False) w w2 := T2.mono (fun i _ e => by simp [Value.ownBlock] at e)
  have d1 := T3.cell0 c1
  have f2 := T3.frozen lsb f1 (fun f => f)
  clear c0 c1 f1
  go_wp2_with (first
    | (refine clear_none _ rfl (.tmp 32) 24 rfl 2 Try.underlying24 _ _ _ rfl rfl ?_))
  go_ret2
  have h2 := hk.out.turned0 T3
  exact ⟨rfl, ⟨h2.base, h2.baseR, rec2_set h2.blk _, Row.nil _ _ _, h2.apart, h2.room1, h2.room2, h2.len⟩, (T3.mono (fun _ _ f => f.elim)).setCell (.inr (.inl rfl)) _⟩
theorem stkUndoI {w : World} {B sb room : Nat} {lv : Value} {l : List Int} (h : StkI w B sb room lv l) (n : Nat) (hn : n ≤ l.length) :
    Calls Try.prog 151 #[.pointer (some ⟨sb, 0, none⟩), .int .i64 n] w fun e w' => ∃ v lv', e = .returned (.tuple #[v, .bool true]) ∧ Row w' 2 1 v (l.length - n) ((l.drop n).map (Value.int .i64)).reverse ∧ (∀ k, v.ownBlock = some k → w.heap.size ≤ k) ∧
      StkI w' B sb room lv' (l.take n) ∧ lv'.ownBlock = lv.ownBlock ∧ Turned (Mine2 sb lv) w w' := by
  rcases h.row.2 with ⟨rfl, hl⟩ | ⟨g, cap, cur, rfl, _⟩
  · obtain rfl : l = [] := List.eq_nil_of_length_eq_zero hl
    obtain rfl : n = 0 := by simpa using hn
    refine (stkUndoI_nil h).mono fun e w' ⟨he, h1, h2⟩ => ⟨_, _, he, by simpa using Row.nil _ _ _, by simp [Value.ownBlock], by simpa using h1, rfl, h2⟩
  · exact stkUndoI_some h n hn
end Go.Proofs.Ytoihjobdfjajfaa
namespace Go.Proofs.Ytoihjobdfjajfaa
open Go.RowKit Go.Maps
set_option linter.unusedVariables false
set_option linter.unusedSimpArgs false
theorem dom_take {l : Tm.Trail} {n : Nat} (hn : n ≤ l.length) : (Tm.dom l).reverse.take n = (Tm.dom (l.drop (l.length - n))).reverse := by
  rw [List.take_reverse]
  unfold Tm.dom
  rw [List.length_map, List.map_drop]
theorem DT.undone {m : Nat} {l : Tm.Trail} {us : List LT} {is is' : List Bool} {n : Nat} (R : DT m l us is (Tm.dom l).reverse) (hn : n ≤ l.length) (hs : ∀ i : Nat, i < m → is'[i]? = some (decide ((i : Int) ∈ (Tm.dom l).reverse.take n))) :
    DT m (l.drop (l.length - n)) us is' ((Tm.dom l).reverse.take n) := by
  refine ⟨Tm.okT_drop _ R.ok, R.len, fun i hi => ?_, fun i b hb => ?_, dom_take hn⟩
  · rw [hs i hi, dom_take hn]
    simp only [List.mem_reverse]
  · exact R.val i b (Tm.look_of_mem R.ok (b := (i, b)) (List.mem_of_mem_drop (Tm.look_mem hb)))
def UndoLD (tr : List Int) (m n : Nat) (ia : Option Addr) (ic : Nat) (w : World) (k : Nat) (i : Value) (wr : World) : Prop :=
  ∃ (j : Nat) (is' : List Bool), Hid (j + k = tr.length) ∧ j ≤ tr.length ∧ n ≤ j ∧ i = .int .i64 j ∧ Hid (Row wr 4 1 (.slice ia m ic) m (is'.map Value.bool)) ∧ Hid (is'.length = m) ∧ Hid (∀ i : Nat, i < m → is'[i]? = some (decide ((i : Int) ∈ tr.take n ∨ (i : Int) ∈ tr.drop j))) ∧ Hid (Turned (fun k => (Value.slice ia m ic).ownBlock = some k) w wr)
theorem undo_step {tr : List Int} {m n j X : Nat} {is' : List Bool} (hnd : tr.Nodup) (hnj : n ≤ j) (hx : tr[j]? = some (X : Int)) (hX : X < m) (hl : is'.length = m) (h : ∀ i : Nat, i < m → is'[i]? = some (decide ((i : Int) ∈ tr.take n ∨ (i : Int) ∈ tr.drop j))) :
    ∀ i : Nat, i < m → (is'.set X false)[i]? = some (decide ((i : Int) ∈ tr.take n ∨ (i : Int) ∈ tr.drop (j + 1))) := by
  intro i hi
  obtain ⟨hjl, hxe⟩ := List.getElem?_eq_some_iff.1 hx
  have hd : tr.drop j = (X : Int) :: tr.drop (j + 1) := by rw [List.drop_eq_getElem_cons hjl, hxe]
  by_cases he : X = i
  · subst he
    rw [List.getElem?_set_self (by omega)]
    congr 1
    symm
    refine decide_eq_false ?_
    rintro (c | c)
    · have h1 := List.nodup_append.1 ((List.take_append_drop j tr).symm ▸ hnd)
      refine h1.2.2 (X : Int) ?_ (X : Int) (by rw [hd]; exact List.mem_cons_self ..) rfl
      have h2 : tr.take n = (tr.take j).take n := by rw [List.take_take]; congr 1; omega
      rw [h2] at c
      exact List.mem_of_mem_take c
    · have h1 := List.nodup_append.1 ((List.take_append_drop j tr).symm ▸ hnd)
      have h2 := h1.2.1
      rw [hd] at h2
      exact (List.nodup_cons.1 h2).1 c
  · rw [List.getElem?_set_ne he, h i hi, hd]
    have : ((i : Int) ∈ (X : Int) :: tr.drop (j + 1)) ↔ (i : Int) ∈ tr.drop (j + 1) := by
      rw [List.mem_cons]
      exact ⟨fun c => c.elim (fun c => by omega) id, .inr⟩
    simp only [this]
set_option maxRecDepth 100000 in
set_option maxHeartbeats 6400000 in
theorem undoD {p O : Nat → Prop} {wb m : Nat} {l : Tm.Trail} {w : World} (h : DO p wb O m l w) (n : Nat) (hn : n ≤ l.length) :
    Calls Try.prog 102 #[.pointer (some ⟨wb, 0, none⟩), .int .i64 n] w fun e w' => e = .returned (.bool true) ∧ AfterD p wb O m (l.drop (l.length - n)) w w' := by
  obtain ⟨i0, hi0, hz0, hz1, hz2⟩ := info_parts infoN3
  obtain ⟨ta, ia, ra, tc, ic, rc, us, is, D, R, hlu, hli, hO⟩ := h.parts
  have hnd : (Tm.dom l).reverse.Nodup := (List.reverse_perm (Tm.dom l)).symm.nodup (Tm.okT_nodup h.ok)
  have hlen : (Tm.dom l).reverse.length = l.length := by unfold Tm.dom; rw [List.length_reverse, List.length_map]
  have hin : ∀ x ∈ (Tm.dom l).reverse, 0 ≤ x ∧ x < (m : Int) := fun x hx => by
    obtain ⟨b, hb, rfl⟩ := List.mem_map.1 (List.mem_reverse.1 hx)
    have := Tm.okT_mem h.ok hb
    exact ⟨this.1, this.2.1⟩
  have hlm := Tm.okT_length h.ok
  have hm65 := h.most
  have hDT := fun is' hs => R.undone (is' := is') hn hs
  have hset := R.set
  have HA : Hid (∀ (is' : List Bool) (v2 : Value) (w' : World), is'.length = m → Row w' 4 1 (.slice ia m ic) m (is'.map Value.bool) → Row w' 2 1 v2 n (((Tm.dom l).reverse.take n).map (Value.int .i64)) → (∀ k, v2.ownBlock = some k → w.heap.size ≤ k) → w'.heap[wb]? = some (.cells #[.slice ta m tc, .slice ia m ic, v2] 113 (0, 0)) → Turned (fun k => (Value.slice ia m ic).ownBlock = some k ∨ k = wb) w w' → (∀ i : Nat, i < m → is'[i]? = some (decide ((i : Int) ∈ (Tm.dom l).reverse.take n))) → AfterD p wb O m (l.drop (l.length - n)) w w') := by
    intro is' v2 w' h1 h2 h3 h4 h5 h6 h7
    have hne := D.ne
    have hTk : (((Tm.dom l).reverse.take n).length = n) := by rw [List.length_take, hlen]; omega
    have hsep : ∀ k, k < w.heap.size → ¬ v2.ownBlock = some k := fun k hk e => by have := h4 k e; omega
    have hDB : DB p wb (.slice ta m tc) (.slice ia m ic) v2 us is' ((Tm.dom l).reverse.take n) w' := by
      have hlt := D.own_lt
      refine ⟨h5, D.row.turned h6 (fun k hk e => ?_), by rw [h1]; exact h2, by rw [hTk]; exact h3, by rw [h1, hlu], ?_, D.most, ⟨hne.1, hne.2.1, fun e => hsep wb (hlt wb (.inl rfl)) e, fun k hk => ⟨(hne.2.2.2.1 k hk).1, hsep k (hlt k (.inr (.inl hk)))⟩, fun k hk => hsep k (hlt k (.inr (.inr (.inl hk))))⟩, fun k hk => ?_⟩
      · rcases e with e | e
        · exact (hne.2.2.2.1 k hk).1 e
        · exact hne.1 (e ▸ hk)
      · exact LT.Ins.turned h6 (fun k _ hk e => (D.sep k hk).2 (e.elim (fun e => .inr (.inr (.inl e))) .inl)) (fun _ _ q => q) _ D.ins
      · obtain ⟨s1, s2⟩ := D.sep k hk
        refine ⟨Nat.lt_of_lt_of_le s1 h6.size, ?_⟩
        rintro (e | e | e | e)
        · exact s2 (.inl e)
        · exact s2 (.inr (.inl e))
        · exact s2 (.inr (.inr (.inl e)))
        · exact hsep k s1 e
    refine ⟨fun k => ownD wb (.slice ta m tc) (.slice ia m ic) v2 k ∨ (O k ∧ k < w.heap.size), ⟨⟨_, _, v2, us, is', _, hDB, hDT is' h7, fun k hk => .inl hk⟩, fun k hk => hk.elim (hDB.own_lt k) (fun e => Nat.lt_of_lt_of_le e.2 h6.size), fun k hk c => ?_⟩, fun k hk hl => ?_, h6.mono (fun k _ e => hO k (e.elim (fun e => .inr (.inr (.inl e))) .inl))⟩
    · rcases c with c | c
      · exact (hDB.sep k hk).2 c
      · exact h.sep k hk c.1
    · rcases hk with (e | e | e | e) | hk
      · exact hO k (.inl e)
      · exact hO k (.inr (.inl e))
      · exact hO k (.inr (.inr (.inl e)))
      · exact absurd e (hsep k hl)
      · exact hk.1
  have hne := D.ne
  have hbs := D.bools
  have htr := D.trail
  rw [hli] at hbs
  rw [hlen] at htr
  have hmx := htr.max
  have HRB := Lib.hid hbs
  have HRT := Lib.hid htr
  have HDB := Lib.hid D.b
  have HNE := Lib.hid hne
  have hwl := D.own_lt wb (.inl rfl)
  have hown := D.own_lt
  have HOW := Lib.hid hown
  have hset2 : ∀ i : Nat, i < m → is[i]? = some (decide ((i : Int) ∈ (Tm.dom l).reverse.take n ∨ (i : Int) ∈ (Tm.dom l).reverse.drop n)) := fun i hi => by
    rw [hset i hi]
    have : ((i : Int) ∈ (Tm.dom l).reverse.take n ∨ (i : Int) ∈ (Tm.dom l).reverse.drop n) ↔ (i : Int) ∈ Tm.dom l := by
      rw [← List.mem_append, List.take_append_drop, List.mem_reverse]
    simp only [this]
  obtain ⟨tr, htre⟩ : ∃ z, z = (Tm.dom l).reverse := ⟨_, rfl⟩
  rw [← htre] at hnd hlen hin HA HRT hset2 htr
  have HND := Lib.hid hnd
  have HIN := Lib.hid hin
  have HST := Lib.hid hset2
  have HLI := Lib.hid hli
  obtain ⟨b0, b1, b2, f0, f1, f2⟩ := rec3b D.b
  have d1 : decide ((n : Int) < 0) = false := decide_eq_false (by omega)
  have d2 : decide ((l.length : Int) < (n : Int)) = false := decide_eq_false (by omega)
  have d3 : decide (l.length < n) = false := decide_eq_false (by omega)
  clear hnd hin hset2 hli hset hDT hne hbs htr hown D R hO htre h hlu
  go_enter Try.func102, Try.ntmps102
  go_wp2_with fail
  clear b0 b1 b2 f0 f1 f2
  go_loopg [5] (l.length - n) (fun k i wr => UndoLD tr m n ia ic w k i wr)
  case atStart => exact ⟨n, is, show _ = _ by omega, by omega, Nat.le_refl _, rfl, HRB.out, HLI.out, HST.out, Turned.refl _ _⟩
  case round =>
    obtain ⟨j, is', HG, hj, hnj, rfl, HB, HL, HS, HT⟩ := hrel
    have hwb := (HT.out.block wb hwl (fun e => HNE.out.2.1 e)).trans HDB.out
    obtain ⟨b0, b1, b2, f0, f1, f2⟩ := rec3b hwb
    have HWB := Lib.hid hwb
    clear hwb
    have hrt : Row wr 2 1 (.slice ra l.length rc) l.length (tr.map (Value.int .i64)) := HRT.out.turned HT.out (fun k hk e => HNE.out.2.2.2.2 k e hk)
    by_cases hjl : j < l.length
    · have dj : decide ((j : Int) < (l.length : Int)) = true := decide_eq_true (by omega)
      obtain ⟨x, hx⟩ : ∃ x, tr[j]? = some x := ⟨_, List.getElem?_eq_getElem (by omega)⟩
      have hxm := HIN.out x (List.mem_of_getElem? hx)
      obtain ⟨X, rfl⟩ : ∃ X : Nat, x = X := ⟨x.toNat, by omega⟩
      obtain ⟨gr, cr, hre⟩ := hrt.shape_pos (by omega)
      injection hre with e1 _ e3
      subst e1 e3
      have hcv := hrt.cells rfl j (.int .i64 (X : Int)) (by rw [List.getElem?_map, hx]; rfl)
      obtain ⟨gi, ci, hie⟩ := HB.out.shape_pos (by omega)
      injection hie with e4 _ e6
      subst e4 e6
      have hbd := HB.out.turned0 ((Turned.refl (fun _ => False) wr).drew)
      obtain ⟨z0, g0⟩ := row_some hbd X (by omega)
      have g1 := hbd.free rfl X
      have hXm : X < m := by omega
      have HX := Lib.hid hx
      have HBD := Lib.hid hbd
      clear hx hxm hrt hbd
      go_wp2_with fail
      refine region_tail 12 (by kernel_rfl) (by kernel_rfl) ?_
      simp only [List.take_succ_cons, List.take_zero, List.drop_succ_cons, List.drop_zero]
      repeat still_step
      refine wpStill_nil ?_
      go_wp2_with fail
      go_roundg (gk - 1)
      case measure => have := HG.out; omega
      case rel => exact ⟨j + 1, is'.set X false, show _ = _ by have := HG.out; omega, by omega, by omega, by go_num, (by have := HBD.out.setAt (off := X) (by omega) (.bool false); rw [← List.map_set] at this; exact this), (by show _ = _; rw [List.length_set]; exact HL.out), undo_step HND.out hnj HX.out hXm HL.out HS.out, (HT.out.drew).setCell (p := ⟨gi, X, none⟩) (.inr rfl) _⟩
    · obtain rfl : j = l.length := by omega
      have dj : decide ((l.length : Int) < (l.length : Int)) = false := decide_eq_false (by omega)
      have hnone : ra = none → n = 0 ∧ rc = 0 := fun e => by
        subst e
        rcases hrt.2 with ⟨e, _⟩ | ⟨g, c, cur, e, _⟩
        · injection e with _ e2 e3; exact ⟨by omega, e3⟩
        · injection e with e1 _ _; cases e1
      have hnews : ∀ o : Obj, ∀ ad, ra = some ad → ∀ j u, ((tr.take n).map (Value.int .i64))[j]? = some u → (wr.alloc o).cell? (ad.add j) = some u := fun o ad had j u hu => by
        subst had
        obtain ⟨g, c, hge⟩ := hrt.shape_pos (by
          rcases Nat.eq_zero_or_pos l.length with h0 | h0
          · exfalso
            have : ((tr.take n).map (Value.int .i64)) = [] := List.eq_nil_of_length_eq_zero (by rw [List.length_map, List.length_take]; omega)
            rw [this] at hu
            cases hu
          · exact h0)
        injection hge with e1 _ e3
        injection e1 with e1
        subst e1 e3
        have hu2 : (tr.map (Value.int .i64))[j]? = some u := by
          rw [List.map_take] at hu
          rw [List.getElem?_take] at hu
          split at hu
          · exact hu
          · cases hu
        rw [Addr.add_lit, Nat.zero_add]
        exact cell_old (hrt.cells rfl j u hu2)
      have hone : ∀ u ∈ (tr.take n).map (Value.int .i64), u.oneCell' = true := fun u hu => by
        obtain ⟨z, _, rfl⟩ := List.mem_map.1 hu
        rfl
      have hnrc : n ≤ rc := by have := hrt.max; omega
      have hnrc2 : (n : Int) ≤ (rc : Int) := by omega
      have HNW := Lib.hid hnews
      have HON := Lib.hid hone
      have hTl : ((tr.take n).map (Value.int .i64)).length = n * 1 := by rw [List.length_map, List.length_take]; omega
      have hwbl : wb < wr.heap.size := Nat.lt_of_lt_of_le hwl HT.out.size
      have HSZ := Lib.hid HT.out.size
      clear hrt hnews hone
      go_wp2_with (at_builtin; refine append_any _ rfl _ _ 24 rfl 2 i0 (.int .i64 0) 1 8 Try.underlying24 hi0 hz0 hz1 hz2 rfl (by decide) _ _ _ rfl (Row.made _ 2 1 #[] 0 rfl (by simp)) ra n rc ((tr.take n).map (Value.int .i64)) rfl hnone hTl (HNW.out _) HON.out (by unfold maxLen; omega) (by omega) ?_; intro v2 w5 hrow5 T5 ho5; have hrow5 : Row w5 2 1 v2 n ((tr.take n).map (Value.int .i64)) := (by simpa using hrow5); obtain ⟨va, vc, rfl⟩ := hrow5.shape; have TA := (Turned.refl (fun _ => False) wr).alloc (.cells #[] 2); have hT5 : Turned (fun _ => False) wr w5 := TA.step T5 (fun i hi e => by simp [Value.ownBlock, Act.eval] at e; omega); have hwb5 := (hT5.block wb hwbl (fun f => f)).trans HWB.out; obtain ⟨c0, c1, c2, g0, g1, g2⟩ := rec3b hwb5; have HW5 := Lib.hid hwb5; have HT5 := Lib.hid hT5; have HR5 := Lib.hid hrow5; have HO5 : Hid (∀ k, (Value.slice va n vc).ownBlock = some k → wr.heap.size ≤ k) := Lib.hid (fun k hk => by rcases ho5 with e | e; (rw [hk] at e; simp [Value.ownBlock, Act.eval] at e; omega); (rw [hk] at e; simp at e; omega)); clear TA hT5 hwb5 hrow5 T5 ho5)
      go_ret
      have Tw : Turned (fun k => k = wb) w5 (w5.setCell ⟨wb, 2, none⟩ (.slice va n vc)) := (Turned.refl (fun k => k = wb) w5).setCell (p := ⟨wb, 2, none⟩) (.inr rfl) _
      refine ⟨rfl, HA.out is' (.slice va n vc) _ HL.out ((HB.out.turned0 HT5.out).turned Tw (fun k hk e => HNE.out.2.1 (e ▸ hk))) ?_ (fun k hk => by have := HO5.out k hk; have := HSZ.out; omega) (by have := heap_setCell_same w5 wb 2 _ 113 (.slice va n vc) HW5.out; simpa using this) (((HT.out.mono (fun _ _ e => .inl e)).trans (HT5.out.mono (fun _ _ f => f.elim)) : Turned (fun k => (Value.slice ia m ic).ownBlock = some k ∨ k = wb) w w5).trans (Tw.mono (fun _ _ e => .inr e))) ?_⟩
      · have := HR5.out.turned Tw (fun k hk e => by have := HO5.out k hk; omega)
        simpa using this
      · intro i hi
        have := HS.out i hi
        rw [this, List.drop_eq_nil_of_le (by omega)]
        simp
end Go.Proofs.Ytoihjobdfjajfaa
namespace Go.Proofs.Ytoihjobdfjajfaa
open Go.RowKit Go.Maps
set_option linter.unusedVariables false
set_option linter.unusedSimpArgs false
theorem ptrs_unset {m : Nat} {l : TL} {i : Int} {c : Nat × LT} (h0 : 0 ≤ i) (h1 : i < (m : Int)) (hl : lookL l i = none) : (ptrs m ((i, c) :: l)).set i.toNat (.pointer none) = ptrs m l := by
  refine List.ext_getElem? (fun j => ?_)
  by_cases hj : j < m
  · rw [ptrs_at (l := l) hj]
    by_cases he : i.toNat = j
    · subst he
      rw [List.getElem?_set_self (by rw [ptrs_length]; omega), Int.toNat_of_nonneg h0, hl]
      rfl
    · rw [List.getElem?_set_ne he, ptrs_at hj]
      simp only [lookL]
      rw [if_neg (by omega)]
  · rw [List.getElem?_eq_none (by rw [List.length_set, ptrs_length]; omega), List.getElem?_eq_none (by rw [ptrs_length]; omega)]
section
variable {p : Nat → Prop} {bb sb m : Nat} {lv tv : Value} {l : TL} {w w' : World}
theorem BI.undo {tv' : Value} {k : Nat} (h : BI p bb sb lv tv m l w) (ht : Turned (fun k => k = sb ∨ lv.ownBlock = some k ∨ tv.ownBlock = some k) w w') (hs : w'.heap[sb]? = some (.cells #[.int .i64 65536, tv'] 209 (0, 0)))
    (hr : Row w' 165 1 lv m (ptrs m (l.drop k))) (htr : Row w' 2 1 tv' (l.drop k).length (((l.drop k).map fun b => Value.int .i64 b.1).reverse)) (ho : tv'.ownBlock = tv.ownBlock) : BI p bb sb lv tv' m (l.drop k) w' := by
  obtain ⟨n1, n2, n3, n4, n5, n6⟩ := h.ne
  have hbl := (Array.getElem?_eq_some_iff.1 h.b).1
  have hown : ∀ k, ownK bb sb lv tv' k → ownK bb sb lv tv k := by
    rintro k (e | e | e | e)
    · exact .inl e
    · exact .inr (.inl e)
    · exact .inr (.inr (.inl e))
    · exact .inr (.inr (.inr (ho ▸ e)))
  refine ⟨(ht.block _ hbl (fun e => e.elim n1 (fun e => e.elim n2 n4))).trans h.b, hs, hr, htr, fun b hb => ?_, ?_, h.most, ⟨n1, n2, n3, by rw [ho]; exact n4, by rw [ho]; exact n5, fun k hk => by rw [ho]; exact n6 k hk⟩, fun k hk => ⟨Nat.lt_of_lt_of_le (h.sep k hk).1 ht.size, fun c => (h.sep k hk).2 (hown k c)⟩⟩
  · obtain ⟨t1, t2, t3⟩ := h.terms b (List.mem_of_mem_drop hb)
    exact ⟨(ht.block _ (Array.getElem?_eq_some_iff.1 t1).1 (fun e => t3 (.inr e))).trans t1, LT.In.turned ht (fun k hk hq e => (h.sep k hq).2 (.inr e)) (fun k hk hq => hq) _ t2, fun e => t3 (hown _ e)⟩
  · have := Tm.okT_drop k h.ok
    unfold bt at this ⊢
    rw [List.map_drop]
    exact this
def UndL (lv : Value) (m : Nat) (l : TL) (N : Nat) (w2 : World) (k : Nat) (i : Value) (wr : World) : Prop :=
  ∃ j : Nat, Hid (j + k = N) ∧ j ≤ N ∧ i = .int .i64 j ∧ Hid (Row wr 165 1 lv m (ptrs m (l.drop j))) ∧ Hid (Turned (fun k => lv.ownBlock = some k) w2 wr)
set_option maxRecDepth 100000 in
set_option maxHeartbeats 3200000 in
theorem undo101 (h : BI p bb sb lv tv m l w) (n : Nat) (hn : n ≤ l.length) :
    Calls Try.prog 101 #[.pointer (some ⟨bb, 0, none⟩), .int .i64 n] w fun e w' => e = .returned (.bool true) ∧ (∃ tv', BI p bb sb lv tv' m (l.drop (l.length - n)) w' ∧ tv'.ownBlock = tv.ownBlock) ∧ Turned (fun k => k = sb ∨ lv.ownBlock = some k ∨ tv.ownBlock = some k) w w' := by
  obtain ⟨n1, n2, n3, n4, n5, n6⟩ := h.ne
  have hlen := h.length
  have hmost := h.most
  obtain ⟨c0, c1, _⟩ := rec2b h.b
  have hst : Stk (α := Int) 209 2 (Value.int .i64) w 0 sb 65536 tv (l.map (·.1)).reverse := ⟨Nat.zero_le _, fun _ _ => Nat.zero_le _, h.s, by
    have := h.trail
    rw [List.length_reverse, List.length_map, List.map_reverse, List.map_map]
    exact this, n5, by omega, by omega, by rw [List.length_reverse, List.length_map]; omega⟩
  have hu := stkUndoI hst n (by rw [List.length_reverse, List.length_map]; exact hn)
  have hdrop : (((l.map (·.1)).reverse.drop n).map (Value.int .i64)).reverse = (l.take (l.length - n)).map fun b => Value.int .i64 b.1 := by
    rw [← List.map_reverse, List.drop_reverse, List.reverse_reverse, List.length_map, ← List.map_take, List.map_map]
    rfl
  have htake : ((l.map (·.1)).reverse.take n) = ((l.drop (l.length - n)).map (·.1)).reverse := by
    rw [List.take_reverse, List.length_map, ← List.map_drop]
  rw [hdrop, htake, List.length_reverse, List.length_map] at hu
  have HU := Lib.hid hu
  have HB := Lib.hid h
  have hbl := (Array.getElem?_eq_some_iff.1 h.b).1
  have hml : l.length - n ≤ 65536 := by omega
  clear hu hst hdrop htake h
  go_enter Try.func101, Try.ntmps101
  go_wp2_with (go_at_call 151; (with_reducible refine HU.out.mono ?_); rintro e w2 ⟨v, tv', rfl, hv, hvn, hs2, ho2, T2⟩; obtain ⟨va, vc, rfl⟩ := hv.shape; have HV := Lib.hid hv; have HVN := Lib.hid hvn; have HS2 := Lib.hid hs2; have HO2 := Lib.hid ho2; have T2' : Turned (fun k => k = sb ∨ tv.ownBlock = some k) w w2 := T2; have HT2 := Lib.hid T2'; clear hv hvn hs2 ho2 T2 T2' c0 c1)
  have hbb := HT2.out.block bb hbl (fun e => e.elim n1 n4)
  have HB2 := Lib.hid (hbb.trans HB.out.b)
  have HR2 : Hid (Row w2 165 1 lv m (ptrs m (l.drop 0))) := HB.out.row.turned HT2.out (fun k hk e => by
    rcases e with e | e
    · exact n3 (e ▸ hk)
    · exact n6 k hk e)
  clear hbb
  go_loopg [20] (l.length - n) (fun k i wr => UndL lv m l (l.length - n) w2 k i wr)
  case atStart => exact ⟨0, Nat.zero_add _, Nat.zero_le _, rfl, HR2, Turned.refl _ _⟩
  case round =>
    obtain ⟨j, HG, hj, rfl, HR, HT⟩ := hrel
    have hbr := (HT.out.block bb (Array.getElem?_eq_some_iff.1 HB2.out).1 n2).trans HB2.out
    obtain ⟨b0, b1, _⟩ := rec2b hbr
    clear hbr
    by_cases hjl : j < l.length - n
    · obtain ⟨⟨i, c⟩, hx⟩ : ∃ x, l[j]? = some x := ⟨_, List.getElem?_eq_getElem (by omega)⟩
      have hmem := HB.out.ok
      have hin : (i, c.2.bare) ∈ bt l := List.mem_map.2 ⟨_, List.mem_of_getElem? hx, rfl⟩
      obtain ⟨i0, i1, _⟩ := Tm.okT_mem hmem hin
      have i0 : 0 ≤ i := i0
      have i1 : i < (m : Int) := i1
      have hdj : l.drop j = (i, c) :: l.drop (j + 1) := by
        rw [List.drop_eq_getElem_cons (by omega)]
        congr 1
        have := List.getElem?_eq_getElem (l := l) (i := j) (by omega)
        rw [hx] at this
        exact (Option.some.inj this).symm
      have hno : lookL (l.drop (j + 1)) i = none := by
        have hok := Tm.okT_drop j HB.out.ok
        have e : (bt l).drop j = (i, c.2.bare) :: bt (l.drop (j + 1)) := by unfold bt; rw [← List.map_drop, hdj]; rfl
        rw [e] at hok
        have h3 := Tm.look_none.2 hok.2.2.2.1
        rw [look_bt] at h3
        cases hq : lookL (l.drop (j + 1)) i with
        | none => rfl
        | some q => rw [hq] at h3; cases h3
      obtain ⟨g, cl, hle⟩ := HR.out.shape_pos (by omega)
      subst hle
      have hmx := HR.out.max
      have hrw := HR.out
      rw [hdj] at hrw
      have hset := hrw.setAt (off := i.toNat) (by omega) (.pointer none)
      rw [ptrs_unset i0 i1 hno] at hset
      have hrf := hrw.free rfl i.toNat
      have hrc := hrw.cells rfl i.toNat _ (ptrs_at (by omega))
      have hvr := HV.out.turned HT.out (fun k hk e => by
        have h1 := HVN.out k hk
        have h2 := HB.out.row.lt k e
        omega)
      obtain ⟨gv, cap, he⟩ := hvr.shape_pos (by omega)
      injection he with q1 _ q3
      subst q1 q3
      have hvc := hvr.cells rfl j (.int .i64 i) (by rw [List.getElem?_map, List.getElem?_take_of_lt hjl, hx]; rfl)
      have HST := Lib.hid hset
      clear hx hmem hin hdj hno hrw hset hvr
      have h64 : IntKind.i64.wrap i = i := wrapI (by omega) (by omega)
      go_wp2_with fail
      go_roundg (gk - 1)
      case measure => have := HG.out; omega
      case rel => exact ⟨j + 1, show _ = _ by have := HG.out; omega, by omega, by go_num, HST, HT.out.setCell (p := ⟨g, i.toNat, none⟩) (.inr rfl) _⟩
    · obtain rfl : j = l.length - n := by omega
      go_wp2_with fail
      go_ret
      have hs3 := (HT.out.block sb (Array.getElem?_eq_some_iff.1 HS2.out.blk).1 n3).trans HS2.out.blk
      have htr := HS2.out.row.turned HT.out (fun k hk e => n6 k e (by rw [← HO2.out]; exact hk))
      rw [List.length_reverse, List.length_map, List.map_reverse, List.map_map] at htr
      refine ⟨rfl, ⟨tv', HB.out.undo ((HT2.out.mono (fun k _ e => e.elim .inl (fun e => .inr (.inr e)))).trans (HT.out.mono (fun k _ e => .inr (.inl e)))) hs3 HR.out htr HO2.out, HO2.out⟩, (HT2.out.mono (fun k _ e => e.elim .inl (fun e => .inr (.inr e)))).trans (HT.out.mono (fun k _ e => .inr (.inl e)))⟩
end
end Go.Proofs.Ytoihjobdfjajfaa
namespace Go.Proofs.Ytoihjobdfjajfaa
open Go.RowKit Go.Maps
set_option linter.unusedVariables false
set_option linter.unusedSimpArgs false
def remL (l : TL) (todo : List LT) : List (Tm Unit) := todo.reverse.flatMap fun y => (Tm.img (bt l) y.bare).flat
theorem remL_snoc (l : TL) (ys : List LT) (x : LT) : remL l (ys ++ [x]) = (Tm.img (bt l) x.bare).flat ++ remL l ys := by
  unfold remL; rw [List.reverse_append]; rfl
theorem remL_args (l : TL) (ys as_ : List LT) : remL l (ys ++ as_.reverse) = Tm.flats (as_.map fun y => Tm.img (bt l) y.bare) ++ remL l ys := by
  unfold remL
  rw [List.reverse_append, List.reverse_reverse, List.flatMap_append]
  congr 1
  induction as_ with
  | nil => rfl
  | cons y l ih => simp only [List.flatMap_cons, List.map_cons, Tm.flats, ih]
theorem remL_ne (l : TL) (ys : List LT) (x : LT) : remL l (ys ++ [x]) ≠ [] := by
  rw [remL_snoc, Tm.flat_eq]; simp
structure HasI (p : Nat → Prop) (m : Nat) (w0 : World) (todo : List LT) (v : Value) (w : World) : Prop where
  row : Row w 27 4 v todo.length (todo.flatMap LT.cells)
  own : ∀ g, v.ownBlock = some g → w0.heap.size ≤ g
  mem : ∀ y ∈ todo, y.In p w ∧ given m y
  turned : Turned (fun _ => False) w0 w
  plt : ∀ k, p k → k < w0.heap.size
section
variable {p : Nat → Prop} {m : Nat} {w0 w w' : World} {todo ys : List LT} {x : LT} {v : Value}
theorem HasI.turned0 (h : HasI p m w0 todo v w) (T : Turned (fun _ => False) w w') : HasI p m w0 todo v w' := ⟨h.row.turned0 T, h.own, fun y hy => ⟨(h.mem y hy).1.turned0 T, (h.mem y hy).2⟩, h.turned.trans T, h.plt⟩
theorem HasI.pop {g k cap : Nat} (h : HasI p m w0 (ys ++ [x]) (.slice (some ⟨g, 0, none⟩) k cap) w) : k = ys.length + 1 ∧ HasI p m w0 ys (.slice (some ⟨g, 0, none⟩) ys.length cap) w ∧ ys.length + 1 ≤ cap ∧ cap ≤ maxLen := by
  have hr := h.row
  have hn : k = ys.length + 1 := by
    rcases hr.2 with ⟨e, _⟩ | ⟨g', c', cur, e, _⟩
    · cases e
    · injection e with _ e _; simp at e; exact e
  subst hn
  have hcap : ys.length + 1 ≤ cap ∧ cap ≤ maxLen := by
    rcases hr.2 with ⟨e, _⟩ | ⟨g', c', cur, e, _, h1, h2, _⟩
    · cases e
    · injection e with _ _ e; subst e; simp at h1; omega
  have hr' : Row w 27 4 (.slice (some ⟨g, 0, none⟩) (ys.length + 1) cap) (ys.length + 1) ((ys ++ [x]).flatMap LT.cells) := by simpa using hr
  have ht := hr'.take (m := ys.length) (c := cap) (by omega) (by omega) (Nat.le_refl _)
  rw [List.flatMap_append, List.take_left' (by rw [LT.flat_length])] at ht
  exact ⟨rfl, ⟨ht, fun k hk => h.own k (by simpa [Value.ownBlock] using hk), fun y hy => h.mem y (List.mem_append_left _ hy), h.turned, h.plt⟩, hcap⟩
theorem HasI.top {g k cap : Nat} (h : HasI p m w0 (ys ++ [x]) (.slice (some ⟨g, 0, none⟩) k cap) w) :
    w.cell? ⟨g, ys.length * 4, none⟩ = some (.int .i64 x.kind) ∧ w.cell? ⟨g, ys.length * 4 + 1, none⟩ = some (.int .i64 x.n) ∧ w.cell? ⟨g, ys.length * 4 + 2, none⟩ = some (.string x.name) ∧ w.cell? ⟨g, ys.length * 4 + 3, none⟩ = some (.slice x.at_.1 x.args.length x.at_.2) := by
  have hn := h.pop.1
  subst hn
  have hr : Row w 27 4 (.slice (some ⟨g, 0, none⟩) (ys.length + 1) cap) (ys.length + 1) ((ys ++ [x]).flatMap LT.cells) := by simpa using h.row
  have hi : (ys ++ [x])[ys.length]? = some x := by simp
  refine ⟨hr.cells rfl _ _ ?_, hr.cells rfl _ _ ?_, hr.cells rfl _ _ ?_, hr.cells rfl _ _ ?_⟩
  · have := LT.flat_at hi 0 (by omega); rw [Nat.add_zero] at this; rw [this, LT.cells_eq]; rfl
  · rw [LT.flat_at hi 1 (by omega), LT.cells_eq]; rfl
  · rw [LT.flat_at hi 2 (by omega), LT.cells_eq]; rfl
  · rw [LT.flat_at hi 3 (by omega), LT.cells_eq]; rfl
theorem HasI.push {v' : Value} {y : LT} (h : HasI p m w0 ys v w) (hy : y.In p w ∧ given m y) (hr : Row w' 27 4 v' (ys.length + 1) (ys.flatMap LT.cells ++ y.cells)) (T : Turned (fun k => v.ownBlock = some k) w w') (ho : v'.ownBlock = v.ownBlock ∨ ∀ k, v'.ownBlock = some k → w.heap.size ≤ k) : HasI p m w0 (ys ++ [y]) v' w' := by
  refine ⟨by rw [List.flatMap_append, List.length_append]; simpa using hr, fun g e => ?_, fun z hz => ?_, h.turned.step T (fun i hi e => by have := h.own i e; omega), h.plt⟩
  · rcases ho with ho | ho
    · exact h.own g (ho ▸ e)
    · have := ho g e; have := h.turned.size; omega
  · rcases List.mem_append.1 hz with hz | hz
    · exact ⟨LT.In.turned T (fun k _ hk e => by have := h.own k e; have := h.plt k hk; omega) (fun _ _ q => q) _ (h.mem z hz).1, (h.mem z hz).2⟩
    · rw [List.mem_singleton] at hz; rw [hz]; exact ⟨LT.In.turned T (fun k _ hk e => by have := h.own k e; have := h.plt k hk; omega) (fun _ _ q => q) _ hy.1, hy.2⟩
end
theorem has_miss {m most c : Nat} {n : Int} {l : TL} {ys : List LT} {x0 x : LT} (hl : Tm.okT m (bt l)) (hw : Tm.Walked m (bt l) x0.bare x.bare) (hc : c < most) (hn : ¬ (x.kind = 0 ∧ x.n = n)) :
    Tm.hasL most n c (remL l (ys ++ [x0])) = Tm.hasL most n (c + 1) (remL l (ys ++ x.args.reverse)) := by
  rw [remL_snoc, remL_args]
  by_cases hk : x.kind = 0
  · have hkb : x.bare.kind = 0 := by rw [Tm.bare_kind]; exact hk
    rw [hw.flat_var hl hkb]
    have hb := Tm.leafy_self hw.leafy hkb
    have ha : x.args = [] := by
      have := congrArg (fun t => (Tm.args t).length) hb
      exact List.eq_nil_of_length_eq_zero ((Tm.bare_arity x).symm.trans this)
    rw [ha, List.map_nil, Tm.flats, List.nil_append]
    exact Tm.hasL_miss (by rw [Tm.bare_kind, Tm.bare_n]; exact hn) hc
  · have hkb : ¬ x.bare.kind = 0 := by rw [Tm.bare_kind]; exact hk
    obtain ⟨h1, h2⟩ := hw.flat_node hl hkb
    rw [h1, List.cons_append, Tm.hasL_node h2 hc, Tm.bare_args, Tm.bares_eq, List.map_map]
    rfl
theorem has_hit {m most c : Nat} {n : Int} {l : TL} {ys : List LT} {x0 x : LT} (hl : Tm.okT m (bt l)) (hw : Tm.Walked m (bt l) x0.bare x.bare) (hk : x.kind = 0) (hn : x.n = n) :
    Tm.hasL most n c (remL l (ys ++ [x0])) = (true, c + 1) := by
  rw [remL_snoc, hw.flat_var hl (by rw [Tm.bare_kind]; exact hk)]
  exact Tm.hasL_hit (by rw [Tm.bare_kind]; exact hk) (by rw [Tm.bare_n]; exact hn)
theorem given_args' {m : Nat} {x y : LT} (h : given m x) (hy : y ∈ x.args) : given m y := by
  by_cases hk : x.kind = 0
  · have := (given_var h hk).2.2.2.1
    rw [this] at hy
    cases hy
  · exact given_args h hk y hy
def hasR (m : Nat) (l : Tm.Trail) (n : Int) (t : Tm Unit) (most : Nat) : Bool × Nat := if Tm.ownB m t = true then Tm.hasL most n 0 (Tm.img l t).flat else (false, 0)
def HasL (p : Nat → Prop) (m : Nat) (l : TL) (n : Int) (M : Nat) (R : Bool × Nat) (w0 : World) (k : Nat) (v c : Value) (wr : World) : Prop :=
  ∃ (todo : List LT) (j : Nat), Hid (j + k = M) ∧ j ≤ M ∧ c = .int .i64 j ∧ Hid (HasI p m w0 todo v wr) ∧ Hid (Tm.hasL M n j (remL l todo) = R) ∧ Hid (todo.length ≤ 1 + 8 * j)
set_option maxRecDepth 100000 in
set_option maxHeartbeats 6400000 in
theorem has106 {p O : Nat → Prop} {bb m : Nat} {l : TL} {w : World} {t : LT} {n most : Int} (h : BO p bb O m l w) (ht : t.In p w) (hs : slim t) (hm : most ≤ 100000) (hm0 : -9223372036854775808 ≤ most) :
    Calls Try.prog 106 #[.pointer (some ⟨bb, 0, none⟩), .int .i64 n, t.val, .int .i64 most] w fun e w' => e = .returned (.tuple #[.bool (hasR m (bt l) n t.bare most.toNat).1, .int .i64 (hasR m (bt l) n t.bare most.toNat).2]) ∧ Turned (fun _ => False) w w' := by
  obtain ⟨i0, hi0, hz0, hz1, hz2⟩ := info_parts infoT
  have T1 : Turned (fun _ => False) w (w.alloc (.cells #[.int .i64 t.kind, .int .i64 t.n, .string t.name, .slice t.at_.1 t.args.length t.at_.2] 27)) := (Turned.refl _ w).alloc _
  have how : Calls Try.prog 144 #[.pointer (some ⟨bb, 0, none⟩), t.val] (w.alloc (.cells #[.int .i64 t.kind, .int .i64 t.n, .string t.name, .slice t.at_.1 t.args.length t.at_.2] 27)) fun e w' => e = .returned (.bool (Tm.ownB m t)) ∧ Turned (fun _ => False) (w.alloc (.cells #[.int .i64 t.kind, .int .i64 t.n, .string t.name, .slice t.at_.1 t.args.length t.at_.2] 27)) w' := by
    obtain ⟨sb, lv, tv, B, _⟩ := h.bi
    exact own144 (B.turned0 T1) (ht.turned0 T1) hs
  have hbx := heap_alloc_new w (.cells #[.int .i64 t.kind, .int .i64 t.n, .string t.name, .slice t.at_.1 t.args.length t.at_.2] 27)
  have HBX := Lib.hid hbx
  have HT := Lib.hid ht
  have HH := Lib.hid h
  have HT1 := Lib.hid T1
  have hob0 := ownB_bare m t
  rw [LT.val_eq] at how ⊢
  cases hob : Tm.ownB m t with
  | false =>
    have hR : hasR m (bt l) n t.bare most.toNat = (false, 0) := by unfold hasR; rw [hob0, hob]; rfl
    rw [hR]
    rw [hob] at how
    have HOW := Lib.hid how
    clear how hob hob0 hR h ht hs hbx T1
    go_enter Try.func106, Try.ntmps106
    go_wp2_with (go_at_call 144; (with_reducible refine HOW.out.mono ?_); rintro e w4 ⟨rfl, T4⟩)
    go_ret2
    exact ⟨rfl, HT1.out.trans T4⟩
  | true =>
    have hgb := Tm.ownB_iff.1 (show Tm.ownB m t.bare = true by rw [hob0, hob])
    have hgv : given m t := ⟨Tm.good_ones' hgb.1, hgb.2⟩
    have hst : ∀ M, Tm.hasL M n 0 (remL l [t]) = hasR m (bt l) n t.bare M := fun M => by
      unfold hasR; rw [hob0, hob, if_pos rfl]
      rw [show ([t] : List LT) = [] ++ [t] from rfl, remL_snoc]
      show Tm.hasL M n 0 (_ ++ []) = _
      rw [List.append_nil]
    rw [hob] at how
    have HOW := Lib.hid how
    have HGV := Lib.hid hgv
    clear how hob hob0 h ht hs hbx T1 hgv hgb
    by_cases hneg : most < 0
    · have hM0 : most.toNat = 0 := by omega
      rw [hM0]
      have hmx : ¬ (0 : Int) < most := by omega
      obtain ⟨R, hR⟩ : ∃ z, z = hasR m (bt l) n t.bare 0 := ⟨_, rfl⟩
      have HST := Lib.hid ((hst 0).trans hR.symm)
      rw [← hR]
      clear hR hst hM0
      go_enter Try.func106, Try.ntmps106
      go_wp2_with (go_at_call 144; (with_reducible refine HOW.out.mono ?_); rintro e w4 ⟨rfl, T4⟩; obtain ⟨c0, c1, c2, c3, _⟩ := cells4 ((T4.block _ (by simp) (fun f => f)).trans HBX.out); have HT4 := Lib.hid (HT1.out.trans T4); clear T4)
      have hinit : Hid (HasI p m w [t] (.slice (some ⟨w4.heap.size, 0, none⟩) 1 1) (w4.alloc (.cells #[.int .i64 t.kind, .int .i64 t.n, .string t.name, .slice t.at_.1 t.args.length t.at_.2] 27))) := by
        refine ⟨?_, fun g e => by (simp [Value.ownBlock] at e; have := HT4.out.size; omega), fun y hy => ?_, HT4.out.alloc _, HH.out.plt⟩
        · have := Row.made w4 27 4 #[.int .i64 t.kind, .int .i64 t.n, .string t.name, .slice t.at_.1 t.args.length t.at_.2] 1 rfl (by unfold maxLen; omega)
          simpa [LT.cells_eq] using this
        · rw [List.mem_singleton] at hy
          rw [hy]
          exact ⟨HT.out.turned0 (HT4.out.alloc _), HGV.out⟩
      go_loopg [10, 11] 0 (fun k v c wr => HasL p m l n 0 R w k v c wr)
      case atStart => exact ⟨[t], 0, Nat.zero_add _, Nat.zero_le _, rfl, hinit, HST.out, show _ ≤ _ by simp⟩
      case round =>
        obtain ⟨todo, j, HG, hj, rfl, HI, HR, HL⟩ := hrel
        obtain ⟨wo, rfl⟩ : ∃ wo : World, wo = wr := ⟨_, rfl⟩
        obtain ⟨go, rfl⟩ : ∃ go : Nat, go = gk := ⟨_, rfl⟩
        rcases List.eq_nil_or_concat todo with rfl | ⟨ys, x0, rfl⟩
        · obtain ⟨a, cap, rfl⟩ := HI.out.row.shape
          have hr : R = (false, j) := HR.out.symm
          have HRR := Lib.hid hr
          clear hr
          go_wp2_with fail
          go_ret2
          rw [HRR.out]
          exact ⟨rfl, HI.out.turned⟩
        · rw [List.concat_eq_append] at HI HR HL
          obtain ⟨g, cap, rfl⟩ := HI.out.row.shape_pos (by simp)
          obtain ⟨hn1, hI1, hc1, hc2⟩ := HI.out.pop
          obtain ⟨c0, c1, c2, c3⟩ := HI.out.top
          have hcm : cap ≤ 9223372036854775807 := by unfold maxLen at hc2; exact hc2
          have hys : ys.length ≤ 800001 := by have := HL.out; rw [List.length_append, List.length_singleton] at this; omega
          rw [List.length_append, List.length_singleton]
          have HI1 := Lib.hid hI1
          by_cases hjm : j = 0
          · have hjb : ((j : Int) == 0) = true := by simp [hjm]
            have hr : R = (true, 0 + 1) := by rw [← HR.out, Tm.hasL_stop (by omega) (remL_ne l ys x0), hjm]
            have HRR := Lib.hid hr
            clear hr hjm hI1 hn1
            go_wp2_with fail
            go_ret2
            rw [HRR.out]
            exact ⟨rfl, HI.out.turned⟩
          · omega
    · obtain ⟨M, rfl⟩ : ∃ M : Nat, most = M := ⟨most.toNat, by omega⟩
      rw [Int.toNat_natCast]
      obtain ⟨R, hR⟩ : ∃ z, z = hasR m (bt l) n t.bare M := ⟨_, rfl⟩
      have HST := Lib.hid ((hst M).trans hR.symm)
      rw [← hR]
      clear hR hst
      go_enter Try.func106, Try.ntmps106
      go_wp2_with (go_at_call 144; (with_reducible refine HOW.out.mono ?_); rintro e w4 ⟨rfl, T4⟩; obtain ⟨c0, c1, c2, c3, _⟩ := cells4 ((T4.block _ (by simp) (fun f => f)).trans HBX.out); have HT4 := Lib.hid (HT1.out.trans T4); clear T4)
      have hinit : Hid (HasI p m w [t] (.slice (some ⟨w4.heap.size, 0, none⟩) 1 1) (w4.alloc (.cells #[.int .i64 t.kind, .int .i64 t.n, .string t.name, .slice t.at_.1 t.args.length t.at_.2] 27))) := by
        refine ⟨?_, fun g e => by (simp [Value.ownBlock] at e; have := HT4.out.size; omega), fun y hy => ?_, HT4.out.alloc _, HH.out.plt⟩
        · have := Row.made w4 27 4 #[.int .i64 t.kind, .int .i64 t.n, .string t.name, .slice t.at_.1 t.args.length t.at_.2] 1 rfl (by unfold maxLen; omega)
          simpa [LT.cells_eq] using this
        · rw [List.mem_singleton] at hy
          rw [hy]
          exact ⟨HT.out.turned0 (HT4.out.alloc _), HGV.out⟩
      go_loopg [10, 11] M (fun k v c wr => HasL p m l n M R w k v c wr)
      case atStart => exact ⟨[t], 0, Nat.zero_add _, Nat.zero_le _, rfl, hinit, HST.out, show _ ≤ _ by simp⟩
      case round =>
        obtain ⟨todo, j, HG, hj, rfl, HI, HR, HL⟩ := hrel
        obtain ⟨wo, rfl⟩ : ∃ wo : World, wo = wr := ⟨_, rfl⟩
        obtain ⟨go, rfl⟩ : ∃ go : Nat, go = gk := ⟨_, rfl⟩
        rcases List.eq_nil_or_concat todo with rfl | ⟨ys, x0, rfl⟩
        · obtain ⟨a, cap, rfl⟩ := HI.out.row.shape
          have hr : R = (false, j) := HR.out.symm
          have HRR := Lib.hid hr
          clear hr
          go_wp2_with fail
          go_ret2
          rw [HRR.out]
          exact ⟨rfl, HI.out.turned⟩
        · rw [List.concat_eq_append] at HI HR HL
          obtain ⟨g, cap, rfl⟩ := HI.out.row.shape_pos (by simp)
          obtain ⟨hn1, hI1, hc1, hc2⟩ := HI.out.pop
          obtain ⟨c0, c1, c2, c3⟩ := HI.out.top
          have hcm : cap ≤ 9223372036854775807 := by unfold maxLen at hc2; exact hc2
          have hys : ys.length ≤ 800001 := by have := HL.out; rw [List.length_append, List.length_singleton] at this; omega
          rw [List.length_append, List.length_singleton]
          have HI1 := Lib.hid hI1
          by_cases hjm : j = M
          · have hjb : ((j : Int) == (M : Int)) = true := by simp [hjm]
            have hr : R = (true, M + 1) := by rw [← HR.out, Tm.hasL_stop (by omega) (remL_ne l ys x0), hjm]
            have HRR := Lib.hid hr
            clear hr hjm hI1 hn1
            go_wp2_with fail
            go_ret2
            rw [HRR.out]
            exact ⟨rfl, HI.out.turned⟩
          · have hjb : ((j : Int) == (M : Int)) = false := by simp; omega
            have hjl : j < M := by omega
            have hw := Tm.walked HH.out.ok _ x0.bare (Nat.le_refl _) (HI.out.mem x0 (by simp)).2.1
            have hwc := walkO90 (HH.out.turned0 HI.out.turned) (HI.out.mem x0 (by simp)).1 (HI.out.mem x0 (by simp)).2.1
            have hgx := (HI.out.mem x0 (by simp)).2
            rw [LT.val_eq] at hwc
            have HWC := Lib.hid hwc
            have HWD := Lib.hid hw
            have HGX := Lib.hid hgx
            clear hw hwc hI1 hn1 hgx
            obtain ⟨K, hK⟩ : ∃ z, z = (Tm.walkT (bt l) x0.bare).kind := ⟨_, rfl⟩
            obtain ⟨Q, hQ⟩ : ∃ z, z = (Tm.walkT (bt l) x0.bare).n := ⟨_, rfl⟩
            have HK := Lib.hid hK
            have HQ := Lib.hid hQ
            clear hK hQ
            by_cases hhit : K = 0 ∧ Q = n
            · have hr : ∀ x : LT, x.bare = Tm.walkT (bt l) x0.bare → R = (true, j + 1) ∧ x.kind = 0 ∧ x.n = n := fun x hx => by
                have h1 : x.kind = 0 := by rw [← Tm.bare_kind, hx, ← HK.out]; exact hhit.1
                have h2 : x.n = n := by rw [← Tm.bare_n, hx, ← HQ.out]; exact hhit.2
                exact ⟨by rw [← HR.out]; exact has_hit HH.out.ok (by rw [hx]; exact HWD.out) h1 h2, h1, h2⟩
              have HRR := Lib.hid hr
              clear hr hhit
              go_wp2_with (go_at_call 90; (with_reducible refine HWC.out.mono ?_); rintro e w6 ⟨x, rfl, hxi, hxb, T6⟩; rw [LT.val_eq]; obtain ⟨r1, r2, r3⟩ := HRR.out x hxb; rw [r2, r3]; have HT6 := Lib.hid T6; have HR1 := Lib.hid r1; clear hxi hxb T6 r1 r2 r3)
              go_ret2
              rw [HR1.out]
              exact ⟨rfl, (HI.out.turned.trans HT6.out).alloc _⟩
            · have hgw : ∀ x : LT, x.bare = Tm.walkT (bt l) x0.bare → given m x := fun x hx => ⟨by rw [hx]; exact HWD.out.ones, by rw [hx]; exact HWD.out.lt HGX.out.2⟩
              have HGW := Lib.hid hgw
              have hms : ∀ x : LT, x.bare = Tm.walkT (bt l) x0.bare → Tm.hasL M n (j + 1) (remL l (ys ++ x.args.reverse)) = R := fun x hx => by
                rw [← HR.out]
                exact (has_miss HH.out.ok (by rw [hx]; exact HWD.out) hjl (fun c => hhit ⟨by rw [HK.out, ← hx, Tm.bare_kind]; exact c.1, by rw [HQ.out, ← hx, Tm.bare_n]; exact c.2⟩)).symm
              have HMS := Lib.hid hms
              clear hgw hms
              by_cases hk0 : K = 0
              · have hqn : ∀ x : LT, x.bare = Tm.walkT (bt l) x0.bare → (x.kind == 0) = true ∧ (x.n == n) = false := fun x hx => by
                  have h1 : x.kind = 0 := by rw [← Tm.bare_kind, hx, ← HK.out]; exact hk0
                  have h2 : ¬ x.n = n := fun e => hhit ⟨hk0, by rw [HQ.out, ← hx, Tm.bare_n]; exact e⟩
                  exact ⟨by simp [h1], by simp [h2]⟩
                have HQN := Lib.hid hqn
                clear hqn hhit hk0
                go_wp2_with (go_at_call 90; (with_reducible refine HWC.out.mono ?_); rintro e w6 ⟨x, rfl, hxi, hxb, T6⟩; rw [LT.val_eq]; obtain ⟨b1, b2⟩ := HQN.out x hxb; have hlen := hxi.len; have hal : x.args.length ≤ 8 := given_arity (HGW.out x hxb); have HXI := Lib.hid hxi; have HXB := Lib.hid hxb; have hI6 := HI1.out.turned0 T6; have HI6 := Lib.hid hI6; have hb6 := heap_alloc_new w6 (.cells #[.int .i64 x.kind, .int .i64 x.n, .string x.name, .slice x.at_.1 x.args.length x.at_.2] 27); have HB6 := Lib.hid hb6; clear hxi hxb T6 hI6 hlen hb6)
                have hI7 := HI6.out.turned0 ((Turned.refl (fun _ => False) w6).alloc (.cells #[.int .i64 x.kind, .int .i64 x.n, .string x.name, .slice x.at_.1 x.args.length x.at_.2] 27))
                have hx7 := HXI.out.turned0 ((Turned.refl (fun _ => False) w6).alloc (.cells #[.int .i64 x.kind, .int .i64 x.n, .string x.name, .slice x.at_.1 x.args.length x.at_.2] 27))
                have hn7 : g ≠ w6.heap.size := fun e => by have := HI6.out.row.lt g rfl; omega
                have HI7 := Lib.hid hI7
                have HX7 := Lib.hid hx7
                have HLI := Lib.hid HXI.out.lies
                clear hI7 hx7
                try clear b1 b2
                go_loopg [10, 13] x.args.length (fun q v i wr2 => Hid (q ≤ x.args.length) ∧ i = .int .i64 ((q : Int) - 1) ∧ Hid (HasI p m w (ys ++ (x.args.drop q).reverse) v wr2) ∧ wr2.heap[w6.heap.size]? = some (.cells #[.int .i64 x.kind, .int .i64 x.n, .string x.name, .slice x.at_.1 x.args.length x.at_.2] 27 (0, 0)) ∧ Hid (∀ g, v.ownBlock = some g → g ≠ w6.heap.size) ∧ Hid (x.In p wr2))
                case atStart => exact ⟨Nat.le_refl _, rfl, (show HasI _ _ _ _ _ _ by simpa using HI7.out), HB6.out, fun g' hg' => by (simp [Value.ownBlock] at hg'; subst hg'; exact hn7), HX7.out⟩
                case round =>
                  obtain ⟨HJ, hi, HI8, hb8, HO8, HX8⟩ := hrel
                  obtain ⟨a8, cap8, rfl⟩ := HI8.out.row.shape
                  obtain ⟨c0, c1, c2, c3, _⟩ := cells4 hb8
                  have HB8 := Lib.hid hb8
                  clear hb8
                  rcases gk with _ | q
                  · rw [show (((0 : Nat) : Int) - 1) = -1 from rfl] at hi
                    subst hi
                    go_wp2_with fail
                    go_roundg (go - 1)
                    case measure => have := HG.out; omega
                    case rel =>
                      refine ⟨ys ++ x.args.reverse, j + 1, show _ = _ by (have := HG.out; omega), by omega, by go_num, (show HasI _ _ _ _ _ _ by simpa using HI8.out), HMS.out x HXB.out, ?_⟩
                      show _ ≤ _
                      have := HL.out
                      simp at this ⊢
                      omega
                  · rw [show (((q + 1 : Nat) : Int) - 1) = (q : Int) from by omega] at hi
                    subst hi
                    have hm : q < x.args.length := by have := HJ.out; omega
                    obtain ⟨y, hy⟩ : ∃ y : LT, x.args[q]? = some y := ⟨_, List.getElem?_eq_getElem hm⟩
                    obtain ⟨b, o, ha, _, d0, d1, d2, d3⟩ := HX8.out.lies.cell hy
                    rw [ha] at c3
                    have HY := Lib.hid hy
                    have HAd := Lib.hid ha
                    have hgy := given_args' (HGW.out x HXB.out) (List.mem_of_getElem? hy)
                    have hyi : y.In p wr := (LT.ins_iff _).1 HX8.out.args y (List.mem_of_getElem? hy)
                    have TA : Turned (fun _ => False) wr (wr.alloc (.cells #[.int .i64 y.kind, .int .i64 y.n, .string y.name, .slice y.at_.1 y.args.length y.at_.2] 27)) := (Turned.refl _ wr).alloc _
                    have hrow := (HI8.out.turned0 TA).row
                    have hnews := news_block (cs := y.cells) (by rw [LT.cells_eq y]; exact heap_alloc_new wr (.cells #[.int .i64 y.kind, .int .i64 y.n, .string y.name, .slice y.at_.1 y.args.length y.at_.2] 27))
                    have HN := Lib.hid hnews
                    have HR9 := Lib.hid hrow
                    have HYG := Lib.hid (And.intro (hyi.turned0 TA) hgy)
                    have HTA := Lib.hid TA
                    have hlen : (ys ++ (x.args.drop (q + 1)).reverse).length ≤ 800200 := by simp; omega
                    clear hy ha hnews hrow TA hgy hyi
                    go_wp2_with (at_builtin; refine append_some _ rfl _ _ 22 rfl 27 i0 zeroT 4 56 Try.underlying22 hi0 hz0 hz1 hz2 rfl (by decide) _ _ _ rfl HR9.out ⟨wr.heap.size, 0, none⟩ 1 1 y.cells rfl (LT.cells_length y) HN.out (LT.cells_one y) (by omega) (by unfold maxLen; omega) (by omega) ?_; intro g5 cap5 w5 hown5 hg5 hloc5)
                    go_roundg q
                    case measure => omega
                    case rel =>
                      have hpush := (HI8.out.turned0 HTA.out).push HYG.out hown5 hg5 (by
                        rcases hloc5 with e | e
                        · exact .inl e
                        · exact .inr (own_new e (by simp)))
                      have hst : ys ++ (x.args.drop (q + 1)).reverse ++ [y] = ys ++ (x.args.drop q).reverse := by
                        rw [List.append_assoc, List.drop_eq_getElem_cons hm, List.reverse_cons]
                        have hy := HY.out
                        rw [List.getElem?_eq_getElem hm] at hy
                        injection hy with hy
                        rw [hy]
                      rw [hst] at hpush
                      have hl5 : (ys ++ (x.args.drop (q + 1)).reverse).length = ys.length + (x.args.length - (q + 1)) := by simp
                      rw [hl5] at hpush
                      refine ⟨by have := HJ.out; show _ ≤ _; omega, rfl, hpush, ?_, ?_, ?_⟩
                      · exact (hg5.block _ (Nat.lt_of_lt_of_le (Array.getElem?_eq_some_iff.1 HB8.out).1 HTA.out.size) (fun e => HO8.out _ e rfl)).trans ((HTA.out.block _ (Array.getElem?_eq_some_iff.1 HB8.out).1 (fun f => f)).trans HB8.out)
                      · show ∀ g', _
                        intro g' hg'
                        rcases hloc5 with e | e
                        · exact HO8.out g' (e.symm.trans hg')
                        · simp [Value.ownBlock] at hg'
                          have h1 := (Array.getElem?_eq_some_iff.1 HB8.out).1
                          simp at e
                          omega
                      · exact LT.In.turned hg5 (fun k _ hk e => by have := HI8.out.own k e; have := HI8.out.plt k hk; omega) (fun _ _ q => q) _ (HX8.out.turned0 HTA.out)
              · have hqn : ∀ x : LT, x.bare = Tm.walkT (bt l) x0.bare → (x.kind == 0) = false ∧ True := fun x hx => by
                  have h1 : ¬ x.kind = 0 := by rw [← Tm.bare_kind, hx, ← HK.out]; exact hk0
                  exact ⟨by simp [h1], trivial⟩
                have HQN := Lib.hid hqn
                clear hqn hhit hk0
                go_wp2_with (go_at_call 90; (with_reducible refine HWC.out.mono ?_); rintro e w6 ⟨x, rfl, hxi, hxb, T6⟩; rw [LT.val_eq]; obtain ⟨b1, b2⟩ := HQN.out x hxb; have hlen := hxi.len; have hal : x.args.length ≤ 8 := given_arity (HGW.out x hxb); have HXI := Lib.hid hxi; have HXB := Lib.hid hxb; have hI6 := HI1.out.turned0 T6; have HI6 := Lib.hid hI6; have hb6 := heap_alloc_new w6 (.cells #[.int .i64 x.kind, .int .i64 x.n, .string x.name, .slice x.at_.1 x.args.length x.at_.2] 27); have HB6 := Lib.hid hb6; clear hxi hxb T6 hI6 hlen hb6)
                have hI7 := HI6.out.turned0 ((Turned.refl (fun _ => False) w6).alloc (.cells #[.int .i64 x.kind, .int .i64 x.n, .string x.name, .slice x.at_.1 x.args.length x.at_.2] 27))
                have hx7 := HXI.out.turned0 ((Turned.refl (fun _ => False) w6).alloc (.cells #[.int .i64 x.kind, .int .i64 x.n, .string x.name, .slice x.at_.1 x.args.length x.at_.2] 27))
                have hn7 : g ≠ w6.heap.size := fun e => by have := HI6.out.row.lt g rfl; omega
                have HI7 := Lib.hid hI7
                have HX7 := Lib.hid hx7
                have HLI := Lib.hid HXI.out.lies
                clear hI7 hx7
                try clear b1 b2
                go_loopg [10, 13] x.args.length (fun q v i wr2 => Hid (q ≤ x.args.length) ∧ i = .int .i64 ((q : Int) - 1) ∧ Hid (HasI p m w (ys ++ (x.args.drop q).reverse) v wr2) ∧ wr2.heap[w6.heap.size]? = some (.cells #[.int .i64 x.kind, .int .i64 x.n, .string x.name, .slice x.at_.1 x.args.length x.at_.2] 27 (0, 0)) ∧ Hid (∀ g, v.ownBlock = some g → g ≠ w6.heap.size) ∧ Hid (x.In p wr2))
                case atStart => exact ⟨Nat.le_refl _, rfl, (show HasI _ _ _ _ _ _ by simpa using HI7.out), HB6.out, fun g' hg' => by (simp [Value.ownBlock] at hg'; subst hg'; exact hn7), HX7.out⟩
                case round =>
                  obtain ⟨HJ, hi, HI8, hb8, HO8, HX8⟩ := hrel
                  obtain ⟨a8, cap8, rfl⟩ := HI8.out.row.shape
                  obtain ⟨c0, c1, c2, c3, _⟩ := cells4 hb8
                  have HB8 := Lib.hid hb8
                  clear hb8
                  rcases gk with _ | q
                  · rw [show (((0 : Nat) : Int) - 1) = -1 from rfl] at hi
                    subst hi
                    go_wp2_with fail
                    go_roundg (go - 1)
                    case measure => have := HG.out; omega
                    case rel =>
                      refine ⟨ys ++ x.args.reverse, j + 1, show _ = _ by (have := HG.out; omega), by omega, by go_num, (show HasI _ _ _ _ _ _ by simpa using HI8.out), HMS.out x HXB.out, ?_⟩
                      show _ ≤ _
                      have := HL.out
                      simp at this ⊢
                      omega
                  · rw [show (((q + 1 : Nat) : Int) - 1) = (q : Int) from by omega] at hi
                    subst hi
                    have hm : q < x.args.length := by have := HJ.out; omega
                    obtain ⟨y, hy⟩ : ∃ y : LT, x.args[q]? = some y := ⟨_, List.getElem?_eq_getElem hm⟩
                    obtain ⟨b, o, ha, _, d0, d1, d2, d3⟩ := HX8.out.lies.cell hy
                    rw [ha] at c3
                    have HY := Lib.hid hy
                    have HAd := Lib.hid ha
                    have hgy := given_args' (HGW.out x HXB.out) (List.mem_of_getElem? hy)
                    have hyi : y.In p wr := (LT.ins_iff _).1 HX8.out.args y (List.mem_of_getElem? hy)
                    have TA : Turned (fun _ => False) wr (wr.alloc (.cells #[.int .i64 y.kind, .int .i64 y.n, .string y.name, .slice y.at_.1 y.args.length y.at_.2] 27)) := (Turned.refl _ wr).alloc _
                    have hrow := (HI8.out.turned0 TA).row
                    have hnews := news_block (cs := y.cells) (by rw [LT.cells_eq y]; exact heap_alloc_new wr (.cells #[.int .i64 y.kind, .int .i64 y.n, .string y.name, .slice y.at_.1 y.args.length y.at_.2] 27))
                    have HN := Lib.hid hnews
                    have HR9 := Lib.hid hrow
                    have HYG := Lib.hid (And.intro (hyi.turned0 TA) hgy)
                    have HTA := Lib.hid TA
                    have hlen : (ys ++ (x.args.drop (q + 1)).reverse).length ≤ 800200 := by simp; omega
                    clear hy ha hnews hrow TA hgy hyi
                    go_wp2_with (at_builtin; refine append_some _ rfl _ _ 22 rfl 27 i0 zeroT 4 56 Try.underlying22 hi0 hz0 hz1 hz2 rfl (by decide) _ _ _ rfl HR9.out ⟨wr.heap.size, 0, none⟩ 1 1 y.cells rfl (LT.cells_length y) HN.out (LT.cells_one y) (by omega) (by unfold maxLen; omega) (by omega) ?_; intro g5 cap5 w5 hown5 hg5 hloc5)
                    go_roundg q
                    case measure => omega
                    case rel =>
                      have hpush := (HI8.out.turned0 HTA.out).push HYG.out hown5 hg5 (by
                        rcases hloc5 with e | e
                        · exact .inl e
                        · exact .inr (own_new e (by simp)))
                      have hst : ys ++ (x.args.drop (q + 1)).reverse ++ [y] = ys ++ (x.args.drop q).reverse := by
                        rw [List.append_assoc, List.drop_eq_getElem_cons hm, List.reverse_cons]
                        have hy := HY.out
                        rw [List.getElem?_eq_getElem hm] at hy
                        injection hy with hy
                        rw [hy]
                      rw [hst] at hpush
                      have hl5 : (ys ++ (x.args.drop (q + 1)).reverse).length = ys.length + (x.args.length - (q + 1)) := by simp
                      rw [hl5] at hpush
                      refine ⟨by have := HJ.out; show _ ≤ _; omega, rfl, hpush, ?_, ?_, ?_⟩
                      · exact (hg5.block _ (Nat.lt_of_lt_of_le (Array.getElem?_eq_some_iff.1 HB8.out).1 HTA.out.size) (fun e => HO8.out _ e rfl)).trans ((HTA.out.block _ (Array.getElem?_eq_some_iff.1 HB8.out).1 (fun f => f)).trans HB8.out)
                      · show ∀ g', _
                        intro g' hg'
                        rcases hloc5 with e | e
                        · exact HO8.out g' (e.symm.trans hg')
                        · simp [Value.ownBlock] at hg'
                          have h1 := (Array.getElem?_eq_some_iff.1 HB8.out).1
                          simp at e
                          omega
                      · exact LT.In.turned hg5 (fun k _ hk e => by have := HI8.out.own k e; have := HI8.out.plt k hk; omega) (fun _ _ q => q) _ (HX8.out.turned0 HTA.out)
end Go.Proofs.Ytoihjobdfjajfaa
namespace Go.Proofs.Ytoihjobdfjajfaa
open Go.RowKit Go.Maps
set_option linter.unusedVariables false
set_option linter.unusedSimpArgs false
theorem int1 {w : World} {g : Nat} {v : Value} {T : TypeId} (h : w.heap[g]? = some (.cells #[v] T (0, 0))) : w.cell? ⟨g, 0, none⟩ = some v ∧ w.frozen? ⟨g, 0, none⟩ = false :=
  ⟨cell_of_row w g 0 _ T (0, 0) h, frozen_of_row w g 0 _ T h⟩
theorem int1_set {w : World} {g : Nat} {v v' : Value} {T : TypeId} (h : w.heap[g]? = some (.cells #[v] T (0, 0))) : (w.setCell ⟨g, 0, none⟩ v').heap[g]? = some (.cells #[v'] T (0, 0)) := heap_setCell_same w g 0 _ T v' h
theorem after_has {w3 : World} {N C : Nat} {a0 b0 c0 d0 v0 : Value} (hN : w3.heap[N]? = some (.cells #[a0, b0, c0, d0] 41 (0, 0))) (hC : w3.heap[C]? = some (.cells #[v0] 3 (0, 0))) (hne : C ≠ N) (a b c d v : Value) :
    (((((w3.setCell ⟨N, 0, none⟩ a).setCell ⟨N, 1, none⟩ b).setCell ⟨N, 2, none⟩ c).setCell ⟨N, 3, none⟩ d).setCell ⟨C, 0, none⟩ v).heap[N]? = some (.cells #[a, b, c, d] 41 (0, 0)) ∧
    (((((w3.setCell ⟨N, 0, none⟩ a).setCell ⟨N, 1, none⟩ b).setCell ⟨N, 2, none⟩ c).setCell ⟨N, 3, none⟩ d).setCell ⟨C, 0, none⟩ v).heap[C]? = some (.cells #[v] 3 (0, 0)) ∧
    Turned (fun k => k = N ∨ k = C) w3 (((((w3.setCell ⟨N, 0, none⟩ a).setCell ⟨N, 1, none⟩ b).setCell ⟨N, 2, none⟩ c).setCell ⟨N, 3, none⟩ d).setCell ⟨C, 0, none⟩ v) := by
  have T1 := turned_store4 w3 N a b c d
  have hs := set4 (a' := a) (b' := b) (c' := c) (d' := d) hN
  have hk := (T1.block C (Array.getElem?_eq_some_iff.1 hC).1 hne).trans hC
  revert T1 hs hk
  generalize (((w3.setCell ⟨N, 0, none⟩ a).setCell ⟨N, 1, none⟩ b).setCell ⟨N, 2, none⟩ c).setCell ⟨N, 3, none⟩ d = W
  intro T1 hs hk
  have T2 : Turned (fun k => k = C) W (W.setCell ⟨C, 0, none⟩ v) := (Turned.refl (fun k => k = C) W).setCell (p := ⟨C, 0, none⟩) (.inr rfl) v
  exact ⟨(T2.block N (Array.getElem?_eq_some_iff.1 hs).1 (fun e => hne e.symm)).trans hs, int1_set hk, (T1.mono (fun _ _ e => .inl e)).trans (T2.mono (fun _ _ e => .inr e))⟩
def HasDP (b : Bool) (r : Nat) (C : Nat) (w : World) (e : Ending) (w' : World) : Prop :=
  e = .returned (.bool b) ∧ w'.heap[C]? = some (.cells #[.int .i64 r] 3 (0, 0)) ∧ Turned (fun k => k = C) w w'
def HasDQ (R : Bool × Nat) (C : Nat) (w : World) (e : Ending) (w' : World) : Prop := HasDP R.1 R.2 C w e w'
def HasDL (x : LT) (l : Tm.Trail) (M : Nat) (n : Int) (c C B : Nat) (R : Bool × Nat) (W4 : World) (k : Nat) (i : Value) (wr : World) : Prop :=
  ∃ j cj : Nat, Hid (j + k = x.args.length) ∧ j ≤ x.args.length ∧ i = .int .i64 j ∧ Hid (c < cj ∧ cj ≤ M) ∧ Hid (Tm.hasL M n cj (Tm.flats ((x.bare.args.drop j).map (Tm.img l))) = R) ∧ Hid (wr.heap[C]? = some (.cells #[.int .i64 cj] 3 (0, 0))) ∧ Hid (Turned (fun k => k = C) W4 wr)
theorem has_back {w w2 w3 W W' : World} {o : Obj} {C : Nat} (hw : w2 = w.alloc o) (T3 : Turned (fun _ => False) w2 w3) (A : Turned (fun k => k = w.heap.size ∨ k = C) w3 W) (T : Turned (fun k => k = C) W W') : Turned (fun k => k = C) w W' := by
  have T1 : Turned (fun k => k = C) w w3 := (by rw [hw] at T3; exact ((Turned.refl (fun _ => False) w).alloc _).trans T3 : Turned (fun _ => False) w w3).mono (fun _ _ f => f.elim)
  exact (T1.step A (fun i hi e => e.elim (fun e => by omega) id)).trans T
set_option maxRecDepth 100000 in
set_option maxHeartbeats 6400000 in
theorem has150 {p O : Nat → Prop} {wb m M : Nat} {l : Tm.Trail} {n : Int} (hM : M ≤ 100000) (k : Nat) : ∀ (t : LT) (c C : Nat) (w : World), M < c + k → c ≤ M → DO p wb O m l w → t.In p w → given m t → w.heap[C]? = some (.cells #[.int .i64 c] 3 (0, 0)) → ¬ O C → ¬ p C →
    Calls Try.prog 150 #[.pointer (some ⟨wb, 0, none⟩), .int .i64 n, t.val, .int .i64 M, .pointer (some ⟨C, 0, none⟩)] w (HasDQ (Tm.hasL M n c (Tm.img l t.bare).flat) C w) := by
  induction k with
  | zero => intro t c C w h1 h2; omega
  | succ k ih =>
    intro t c C w hk hc h ht hg hC hOC hpC
    have hCl := (Array.getElem?_eq_some_iff.1 hC).1
    obtain ⟨w2, hw2⟩ : ∃ z, z = w.alloc (.cells #[.int .i64 t.kind, .int .i64 t.n, .string t.name, .slice t.at_.1 t.args.length t.at_.2] 41) := ⟨_, rfl⟩
    have T2 : Turned (fun _ => False) w w2 := by rw [hw2]; exact (Turned.refl _ w).alloc _
    have hb2 : w2.heap[w.heap.size]? = some (.cells #[.int .i64 t.kind, .int .i64 t.n, .string t.name, .slice t.at_.1 t.args.length t.at_.2] 41 (0, 0)) := by rw [hw2]; exact heap_alloc_new w _
    have hwk : Calls Try.prog 170 #[.pointer (some ⟨wb, 0, none⟩), t.val] w2 fun e w' => ∃ x : LT, e = .returned x.val ∧ x.In p w' ∧ x.bare = Tm.walkT l t.bare ∧ Turned (fun _ => False) w2 w' := walk170 (h.turned0 T2) (ht.turned0 T2) hg.1
    have hwd := Tm.walked h.ok _ t.bare (Nat.le_refl _) hg.1
    obtain ⟨X, hX⟩ : ∃ z, z = Tm.walkT l t.bare := ⟨_, rfl⟩
    rw [← hX] at hwk hwd
    have hgX : ∀ x : LT, x.bare = X → given m x := fun x hx => ⟨by rw [hx]; exact hwd.ones, by rw [hx]; exact hwd.lt hg.2⟩
    have hv1 : X.kind = 0 → Tm.hasL M n c (Tm.img l t.bare).flat = (decide (M < c + 1 ∨ X.n = n), c + 1) := fun hk => Tm.hasL_walked_var h.ok hwd hk
    have hv2 := fun hk : ¬ X.kind = 0 => Tm.hasL_walked_node (M := M) (n := n) (c := c) h.ok hwd hk
    obtain ⟨R, hR⟩ : ∃ z, z = Tm.hasL M n c (Tm.img l t.bare).flat := ⟨_, rfl⟩
    rw [← hR] at hv1 hv2 ⊢
    have hNC : C ≠ w.heap.size := by omega
    have hCN : w.heap.size ≠ C := by omega
    rw [LT.val_eq] at hwk ⊢
    have hC2 : w2.heap[C]? = some (.cells #[.int .i64 c] 3 (0, 0)) := (T2.block C hCl (fun f => f)).trans hC
    have HWK := Lib.hid hwk
    have HB2 := Lib.hid hb2
    have HC2 := Lib.hid hC2
    have HW2 := Lib.hid hw2
    have HT2 := Lib.hid T2
    have HGX := Lib.hid hgX
    have HH := Lib.hid h
    have HOC := Lib.hid hOC
    have HPC := Lib.hid hpC
    have HIH := Lib.hid ih
    have HK := Lib.hid hk
    have HCL := Lib.hid hCl
    have HV2 := Lib.hid hv2
    clear hwk hb2 hC2 hw2 T2 hgX h ht hg hC hOC hpC ih hX hwd hR hk hv2
    by_cases hA : M < c + 1
    · have d1 : decide ((M : Int) < (c : Int) + 1) = true := decide_eq_true (by omega)
      have hr : R = (true, c + 1) := by
        by_cases hk : X.kind = 0
        · rw [hv1 hk, decide_eq_true (.inl hA)]
        · exact (HV2.out hk).1 hA
      have HRR := Lib.hid hr
      clear hr hv1 hA
      go_enter Try.func150, Try.ntmps150
      go_wp2_with (go_at_call 170; rw [← HW2.out]; (with_reducible refine HWK.out.mono ?_); rintro e w3 ⟨x, rfl, hxi, hxb, T3⟩; rw [LT.val_eq x]; have hq := (T3.block _ (Array.getElem?_eq_some_iff.1 HC2.out).1 (fun f => f)).trans HC2.out; have hbx := (T3.block _ (Array.getElem?_eq_some_iff.1 HB2.out).1 (fun f => f)).trans HB2.out; obtain ⟨k0, k1⟩ := int1 hq; obtain ⟨c0, c1, c2, c3, f0, f1, f2, f3⟩ := cells4 hbx; have HAW := Lib.hid (after_has hbx hq hNC (.int .i64 x.kind) (.int .i64 x.n) (.string x.name) (.slice x.at_.1 x.args.length x.at_.2) (.int .i64 ((c : Int) + 1))); have HT3 := Lib.hid T3; clear hq hbx T3 hxi hxb)
      go_ret
      obtain ⟨A1, A2, A3⟩ := HAW.out
      refine ⟨by rw [HRR.out]; rfl, ?_, has_back HW2.out HT3.out A3 (Turned.refl _ _)⟩
      rw [HRR.out]
      exact A2
    · have d1 : decide ((M : Int) < (c : Int) + 1) = false := decide_eq_false (by omega)
      by_cases hH : X.kind = 0 ∧ X.n = n
      · have HHH := Lib.hid hH
        have hr : R = (true, c + 1) := by rw [hv1 hH.1, decide_eq_true (.inr hH.2)]
        have HRR := Lib.hid hr
        clear hr hv1 hA hH
        go_enter Try.func150, Try.ntmps150
        go_wp2_with (go_at_call 170; rw [← HW2.out]; (with_reducible refine HWK.out.mono ?_); rintro e w3 ⟨x, rfl, hxi, hxb, T3⟩; rw [LT.val_eq x]; have hq := (T3.block _ (Array.getElem?_eq_some_iff.1 HC2.out).1 (fun f => f)).trans HC2.out; have hbx := (T3.block _ (Array.getElem?_eq_some_iff.1 HB2.out).1 (fun f => f)).trans HB2.out; obtain ⟨k0, k1⟩ := int1 hq; obtain ⟨c0, c1, c2, c3, f0, f1, f2, f3⟩ := cells4 hbx; have hkx : (x.kind == 0) = true := (by rw [← Tm.bare_kind, hxb]; simp [HHH.out.1]); have hnx : (x.n == n) = true := (by rw [← Tm.bare_n, hxb]; simp [HHH.out.2]); have HAW := Lib.hid (after_has hbx hq hNC (.int .i64 x.kind) (.int .i64 x.n) (.string x.name) (.slice x.at_.1 x.args.length x.at_.2) (.int .i64 ((c : Int) + 1))); have HT3 := Lib.hid T3; clear hq hbx T3 hxi hxb)
        go_ret
        obtain ⟨A1, A2, A3⟩ := HAW.out
        refine ⟨by rw [HRR.out]; rfl, ?_, has_back HW2.out HT3.out A3 (Turned.refl _ _)⟩
        rw [HRR.out]
        exact A2
      · have hst : ∀ x : LT, x.bare = X → given m x → Tm.hasL M n (c + 1) (Tm.flats ((x.bare.args.drop 0).map (Tm.img l))) = R := by
          intro x hx hgx
          by_cases hk : X.kind = 0
          · have ha := (given_var hgx (by rw [← Tm.bare_kind, hx]; exact hk)).2.2.2.1
            rw [hv1 hk, decide_eq_false (fun e => e.elim hA (fun e => hH ⟨hk, e⟩)), Tm.bare_args, ha]
            rfl
          · rw [hx]
            exact (HV2.out hk).2 (by omega)
        have HST := Lib.hid hst
        have HA := Lib.hid hA
        clear hst hv1 hA HV2
        by_cases hk0 : X.kind = 0
        · have HKN := Lib.hid (And.intro hk0 (show ¬ X.n = n from fun e => hH ⟨hk0, e⟩))
          clear hk0 hH
          go_enter Try.func150, Try.ntmps150
          go_wp2_with (go_at_call 170; rw [← HW2.out]; (with_reducible refine HWK.out.mono ?_); rintro e w3 ⟨x, rfl, hxi, hxb, T3⟩; rw [LT.val_eq x]; have hq := (T3.block _ (Array.getElem?_eq_some_iff.1 HC2.out).1 (fun f => f)).trans HC2.out; have hbx := (T3.block _ (Array.getElem?_eq_some_iff.1 HB2.out).1 (fun f => f)).trans HB2.out; obtain ⟨k0, k1⟩ := int1 hq; obtain ⟨c0, c1, c2, c3, f0, f1, f2, f3⟩ := cells4 hbx; have hkx : (x.kind == 0) = true := (by rw [← Tm.bare_kind, hxb]; simp [HKN.out.1]); have hnx : (x.n == n) = false := (by rw [← Tm.bare_n, hxb]; simp [HKN.out.2]); have HAW := Lib.hid (after_has hbx hq hNC (.int .i64 x.kind) (.int .i64 x.n) (.string x.name) (.slice x.at_.1 x.args.length x.at_.2) (.int .i64 ((c : Int) + 1))); have HT3 := Lib.hid T3; have HXI := Lib.hid hxi; have HXB := Lib.hid hxb; have HG := Lib.hid (HGX.out x hxb); clear hq hbx T3 hxi hxb)
          obtain ⟨A1, A2, A3⟩ := HAW.out
          revert A1 A2 A3
          generalize (((((w3.setCell ⟨w.heap.size, 0, none⟩ (.int .i64 x.kind)).setCell ⟨w.heap.size, 1, none⟩ (.int .i64 x.n)).setCell ⟨w.heap.size, 2, none⟩ (.string x.name)).setCell ⟨w.heap.size, 3, none⟩ (.slice x.at_.1 x.args.length x.at_.2)).setCell ⟨C, 0, none⟩ (.int .i64 ((c : Int) + 1))) = W4
          intro A1 A2 A3
          have HA1 := Lib.hid A1
          have HA2 := Lib.hid A2
          have HA3 := Lib.hid A3
          have HDW : Hid (DO p wb O m l W4) := (HH.out.turned0 (HT2.out.trans HT3.out)).turned A3 (fun k hk e => by
            rcases e with e | e
            · exact ⟨fun o => by have := HH.out.lt k o; omega, fun o => by have := HH.out.plt k o; omega⟩
            · exact ⟨fun o => HOC.out (e ▸ o), fun o => HPC.out (e ▸ o)⟩)
          have HXW : Hid (x.In p W4) := LT.In.turned A3 (fun k _ hk e => by
            rcases e with e | e
            · have := HH.out.plt k hk; omega
            · exact HPC.out (e ▸ hk)) (fun _ _ q => q) _ HXI.out
          have hal : x.args.length ≤ 8 := given_arity HG.out
          clear A1 A2 A3 c0 c1 c2 c3 f0 f1 f2 f3 k0 k1 HAW HXI
          go_loopg [11] x.args.length (fun q i wr => HasDL x l M n c C w.heap.size R W4 q i wr)
          case atStart => exact ⟨0, c + 1, Nat.zero_add _, Nat.zero_le _, rfl, show _ ∧ _ from ⟨by omega, by have := HA.out; omega⟩, HST.out x HXB.out HG.out, by show _ = _; rw [HA2.out]; rfl, Turned.refl _ _⟩
          case round =>
            obtain ⟨j, cj, HGJ, hj, rfl, HCJ, HRJ, HBJ, HTJ⟩ := hrel
            have hb0 := (HTJ.out.block _ (Array.getElem?_eq_some_iff.1 HA1.out).1 hCN).trans HA1.out
            obtain ⟨c0, c1, c2, c3, _⟩ := cells4 hb0
            clear hb0
            by_cases hjl : j < x.args.length
            · obtain ⟨y, hy⟩ : ∃ y : LT, x.args[j]? = some y := ⟨_, List.getElem?_eq_getElem hjl⟩
              have hDO : DO p wb O m l wr := HDW.out.turned HTJ.out (fun k hk e => ⟨fun o => HOC.out (e ▸ o), fun o => HPC.out (e ▸ o)⟩)
              have hxw : x.In p wr := LT.In.turned HTJ.out (fun k _ hk e => HPC.out (e ▸ hk)) (fun _ _ q => q) _ HXW.out
              obtain ⟨b, o, hbo, _, x0, x1, x2, x3⟩ := hxw.lies.cell hy
              have hyb : x.bare.args[j]? = some y.bare := by rw [Tm.bare_args, Tm.bares_eq, List.getElem?_map, hy]; rfl
              have hs := Tm.hasL_arg hyb R HRJ.out
              have hcy := HIH.out y cj C wr (by have := HK.out; have := HCJ.out.1; omega) HCJ.out.2 hDO ((LT.ins_iff _).1 hxw.args y (List.mem_of_getElem? hy)) (given_args' HG.out (List.mem_of_getElem? hy)) HBJ.out HOC.out HPC.out
              obtain ⟨Ry, hRy⟩ : ∃ z, z = Tm.hasL M n cj (Tm.img l y.bare).flat := ⟨_, rfl⟩
              have hmf := fun h => Tm.hasL_false (n := n) (Tm.img l y.bare).flat HCJ.out.2 h
              have hle := (Tm.hasL_le M n (Tm.img l y.bare).flat cj).1
              rw [← hRy] at hs hcy hmf hle
              rw [LT.val_eq y] at hcy
              have HCY := Lib.hid hcy
              have HS := Lib.hid hs
              have HLE := Lib.hid (And.intro hle hmf)
              have hlen := hxw.len
              clear hy hDO hxw hyb hs hcy hRy hmf hle
              obtain ⟨by_, cy⟩ := Ry
              cases by_ with
              | true =>
                have HCY : Hid (Calls Try.prog 150 _ wr (HasDP true cy C wr)) := Lib.hid HCY.out
                rw [hbo] at c3; clear hbo
                go_wp2_with (go_at_call 150; (with_reducible refine HCY.out.mono ?_); rintro e w5 ⟨rfl, hq5, T5⟩; have HQ5 := Lib.hid hq5; have HT5 := Lib.hid T5; clear hq5 T5)
                go_ret
                have hr := HS.out.1 (by first | rfl | trivial)
                refine ⟨by rw [hr]; rfl, by rw [hr]; exact HQ5.out, has_back HW2.out HT3.out HA3.out (HTJ.out.trans HT5.out)⟩
              | false =>
                have HCY : Hid (Calls Try.prog 150 _ wr (HasDP false cy C wr)) := Lib.hid HCY.out
                rw [hbo] at c3; clear hbo
                go_wp2_with (go_at_call 150; (with_reducible refine HCY.out.mono ?_); rintro e w5 ⟨rfl, hq5, T5⟩; have HQ5 := Lib.hid hq5; have HT5 := Lib.hid T5; clear hq5 T5)
                go_roundg (gk - 1)
                case measure => have := HGJ.out; omega
                case rel => exact ⟨j + 1, cy, show _ = _ by have := HGJ.out; omega, by omega, by go_num, show _ ∧ _ from ⟨Nat.lt_of_lt_of_le HCJ.out.1 HLE.out.1, HLE.out.2 (by first | rfl | trivial)⟩, HS.out.2 (by first | rfl | trivial), HQ5.out, HTJ.out.trans HT5.out⟩
            · obtain rfl : j = x.args.length := by omega
              have hr := Tm.hasL_end (by rw [Tm.bare_args, Tm.bares_eq, List.length_map]; exact Nat.le_refl _) R HRJ.out
              have HRE := Lib.hid hr
              clear hr
              go_wp2_with fail
              go_ret
              exact ⟨by rw [HRE.out]; rfl, by rw [HRE.out]; exact HBJ.out, has_back HW2.out HT3.out HA3.out HTJ.out⟩
        · have HKN := Lib.hid hk0
          clear hk0 hH
          go_enter Try.func150, Try.ntmps150
          go_wp2_with (go_at_call 170; rw [← HW2.out]; (with_reducible refine HWK.out.mono ?_); rintro e w3 ⟨x, rfl, hxi, hxb, T3⟩; rw [LT.val_eq x]; have hq := (T3.block _ (Array.getElem?_eq_some_iff.1 HC2.out).1 (fun f => f)).trans HC2.out; have hbx := (T3.block _ (Array.getElem?_eq_some_iff.1 HB2.out).1 (fun f => f)).trans HB2.out; obtain ⟨k0, k1⟩ := int1 hq; obtain ⟨c0, c1, c2, c3, f0, f1, f2, f3⟩ := cells4 hbx; have hkx : (x.kind == 0) = false := (by rw [← Tm.bare_kind, hxb]; simp [HKN.out]); have HAW := Lib.hid (after_has hbx hq hNC (.int .i64 x.kind) (.int .i64 x.n) (.string x.name) (.slice x.at_.1 x.args.length x.at_.2) (.int .i64 ((c : Int) + 1))); have HT3 := Lib.hid T3; have HXI := Lib.hid hxi; have HXB := Lib.hid hxb; have HG := Lib.hid (HGX.out x hxb); clear hq hbx T3 hxi hxb)
          obtain ⟨A1, A2, A3⟩ := HAW.out
          revert A1 A2 A3
          generalize (((((w3.setCell ⟨w.heap.size, 0, none⟩ (.int .i64 x.kind)).setCell ⟨w.heap.size, 1, none⟩ (.int .i64 x.n)).setCell ⟨w.heap.size, 2, none⟩ (.string x.name)).setCell ⟨w.heap.size, 3, none⟩ (.slice x.at_.1 x.args.length x.at_.2)).setCell ⟨C, 0, none⟩ (.int .i64 ((c : Int) + 1))) = W4
          intro A1 A2 A3
          have HA1 := Lib.hid A1
          have HA2 := Lib.hid A2
          have HA3 := Lib.hid A3
          have HDW : Hid (DO p wb O m l W4) := (HH.out.turned0 (HT2.out.trans HT3.out)).turned A3 (fun k hk e => by
            rcases e with e | e
            · exact ⟨fun o => by have := HH.out.lt k o; omega, fun o => by have := HH.out.plt k o; omega⟩
            · exact ⟨fun o => HOC.out (e ▸ o), fun o => HPC.out (e ▸ o)⟩)
          have HXW : Hid (x.In p W4) := LT.In.turned A3 (fun k _ hk e => by
            rcases e with e | e
            · have := HH.out.plt k hk; omega
            · exact HPC.out (e ▸ hk)) (fun _ _ q => q) _ HXI.out
          have hal : x.args.length ≤ 8 := given_arity HG.out
          clear A1 A2 A3 c0 c1 c2 c3 f0 f1 f2 f3 k0 k1 HAW HXI
          go_loopg [11] x.args.length (fun q i wr => HasDL x l M n c C w.heap.size R W4 q i wr)
          case atStart => exact ⟨0, c + 1, Nat.zero_add _, Nat.zero_le _, rfl, show _ ∧ _ from ⟨by omega, by have := HA.out; omega⟩, HST.out x HXB.out HG.out, by show _ = _; rw [HA2.out]; rfl, Turned.refl _ _⟩
          case round =>
            obtain ⟨j, cj, HGJ, hj, rfl, HCJ, HRJ, HBJ, HTJ⟩ := hrel
            have hb0 := (HTJ.out.block _ (Array.getElem?_eq_some_iff.1 HA1.out).1 hCN).trans HA1.out
            obtain ⟨c0, c1, c2, c3, _⟩ := cells4 hb0
            clear hb0
            by_cases hjl : j < x.args.length
            · obtain ⟨y, hy⟩ : ∃ y : LT, x.args[j]? = some y := ⟨_, List.getElem?_eq_getElem hjl⟩
              have hDO : DO p wb O m l wr := HDW.out.turned HTJ.out (fun k hk e => ⟨fun o => HOC.out (e ▸ o), fun o => HPC.out (e ▸ o)⟩)
              have hxw : x.In p wr := LT.In.turned HTJ.out (fun k _ hk e => HPC.out (e ▸ hk)) (fun _ _ q => q) _ HXW.out
              obtain ⟨b, o, hbo, _, x0, x1, x2, x3⟩ := hxw.lies.cell hy
              have hyb : x.bare.args[j]? = some y.bare := by rw [Tm.bare_args, Tm.bares_eq, List.getElem?_map, hy]; rfl
              have hs := Tm.hasL_arg hyb R HRJ.out
              have hcy := HIH.out y cj C wr (by have := HK.out; have := HCJ.out.1; omega) HCJ.out.2 hDO ((LT.ins_iff _).1 hxw.args y (List.mem_of_getElem? hy)) (given_args' HG.out (List.mem_of_getElem? hy)) HBJ.out HOC.out HPC.out
              obtain ⟨Ry, hRy⟩ : ∃ z, z = Tm.hasL M n cj (Tm.img l y.bare).flat := ⟨_, rfl⟩
              have hmf := fun h => Tm.hasL_false (n := n) (Tm.img l y.bare).flat HCJ.out.2 h
              have hle := (Tm.hasL_le M n (Tm.img l y.bare).flat cj).1
              rw [← hRy] at hs hcy hmf hle
              rw [LT.val_eq y] at hcy
              have HCY := Lib.hid hcy
              have HS := Lib.hid hs
              have HLE := Lib.hid (And.intro hle hmf)
              have hlen := hxw.len
              clear hy hDO hxw hyb hs hcy hRy hmf hle
              obtain ⟨by_, cy⟩ := Ry
              cases by_ with
              | true =>
                have HCY : Hid (Calls Try.prog 150 _ wr (HasDP true cy C wr)) := Lib.hid HCY.out
                rw [hbo] at c3; clear hbo
                go_wp2_with (go_at_call 150; (with_reducible refine HCY.out.mono ?_); rintro e w5 ⟨rfl, hq5, T5⟩; have HQ5 := Lib.hid hq5; have HT5 := Lib.hid T5; clear hq5 T5)
                go_ret
                have hr := HS.out.1 (by first | rfl | trivial)
                refine ⟨by rw [hr]; rfl, by rw [hr]; exact HQ5.out, has_back HW2.out HT3.out HA3.out (HTJ.out.trans HT5.out)⟩
              | false =>
                have HCY : Hid (Calls Try.prog 150 _ wr (HasDP false cy C wr)) := Lib.hid HCY.out
                rw [hbo] at c3; clear hbo
                go_wp2_with (go_at_call 150; (with_reducible refine HCY.out.mono ?_); rintro e w5 ⟨rfl, hq5, T5⟩; have HQ5 := Lib.hid hq5; have HT5 := Lib.hid T5; clear hq5 T5)
                go_roundg (gk - 1)
                case measure => have := HGJ.out; omega
                case rel => exact ⟨j + 1, cy, show _ = _ by have := HGJ.out; omega, by omega, by go_num, show _ ∧ _ from ⟨Nat.lt_of_lt_of_le HCJ.out.1 HLE.out.1, HLE.out.2 (by first | rfl | trivial)⟩, HS.out.2 (by first | rfl | trivial), HQ5.out, HTJ.out.trans HT5.out⟩
            · obtain rfl : j = x.args.length := by omega
              have hr := Tm.hasL_end (by rw [Tm.bare_args, Tm.bares_eq, List.length_map]; exact Nat.le_refl _) R HRJ.out
              have HRE := Lib.hid hr
              clear hr
              go_wp2_with fail
              go_ret
              exact ⟨by rw [HRE.out]; rfl, by rw [HRE.out]; exact HBJ.out, has_back HW2.out HT3.out HA3.out HTJ.out⟩
end Go.Proofs.Ytoihjobdfjajfaa
namespace Go.Proofs.Ytoihjobdfjajfaa
open Go.RowKit Go.Maps
set_option linter.unusedVariables false
set_option linter.unusedSimpArgs false
theorem DO.alloc {p O : Nat → Prop} {wb m : Nat} {l : Tm.Trail} {w w' : World} (h : DO p wb O m l w) (T : Turned (fun _ => False) w w') : ¬ O w'.heap.size ∧ ¬ p w'.heap.size :=
  ⟨fun o => by have := h.lt _ o; have := T.size; omega, fun o => by have := h.plt _ o; have := T.size; omega⟩
theorem has_own {w W W' : World} {o : Obj} {C : Nat} (T : Turned (fun _ => False) w W) (hC : C = W.heap.size) (T2 : Turned (fun k => k = C) (W.alloc o) W') : Turned (fun _ => False) w W' :=
  (T.alloc o).step T2 (fun i hi e => by have := T.size; omega)
end Go.Proofs.Ytoihjobdfjajfaa
namespace Go.Proofs.Ytoihjobdfjajfaa
open Go.RowKit Go.Maps
set_option linter.unusedVariables false
set_option linter.unusedSimpArgs false
def PairA (p : Nat → Prop) (wb : Nat) (O : Nat → Prop) (C m : Nat) (l : Tm.Trail) (w w' : World) : Prop :=
  ∃ O' : Nat → Prop, DO p wb O' m l w' ∧ (∀ k, O' k → k < w.heap.size → O k) ∧ Turned (fun k => O k ∨ k = C) w w'
def PairQ (p : Nat → Prop) (wb : Nat) (O : Nat → Prop) (C m : Nat) (l : Tm.Trail) (w : World) : Tm.UR → Ending → World → Prop
  | .ok l' left', e, w' => e = .returned (.bool true) ∧ PairA p wb O C m l' w w' ∧ ∃ c' : Nat, w'.heap[C]? = some (.cells #[.int .i64 c'] 3 (0, 0)) ∧ c' + left' = 2000
  | .no q, e, w' => e = .returned (.bool false) ∧ ∃ (a : Tm.Trail) (c' : Nat), PairA p wb O C m (a ++ l) w w' ∧ w'.heap[C]? = some (.cells #[.int .i64 c'] 3 (0, 0)) ∧ c' + q = 2000
  | .over, e, w' => e = .returned (.bool false) ∧ ∃ (a : Tm.Trail) (c' : Nat), PairA p wb O C m (a ++ l) w w' ∧ w'.heap[C]? = some (.cells #[.int .i64 c'] 3 (0, 0)) ∧ 2000 < c' ∧ c' ≤ 5000
section
variable {p O : Nat → Prop} {wb C m : Nat} {l l' : Tm.Trail} {w w2 w6 w' : World}
theorem PairA.same (h : DO p wb O m l w) (hO : ¬ O C) (hp : ¬ p C) (T : Turned (fun k => k = C) w w') : PairA p wb O C m l w w' :=
  ⟨O, h.turned T (fun k hk e => ⟨fun o => hO (e ▸ o), fun o => hp (e ▸ o)⟩), fun _ h _ => h, T.mono (fun _ _ e => .inr e)⟩
theorem PairA.of (T : Turned (fun k => k = C) w w6) (ha : AfterD p wb O m l' w6 w') : PairA p wb O C m l' w w' := by
  obtain ⟨O', a1, a2, a3⟩ := ha
  exact ⟨O', a1, fun k hk hl => a2 k hk (Nat.lt_of_lt_of_le hl T.size), (T.mono (fun _ _ e => .inr e)).trans (a3.mono (fun _ _ e => .inl e))⟩
theorem PairA.from {O2 : Nat → Prop} (T : Turned (fun k => O k ∨ k = C) w w2) (hO : ∀ k, O2 k → k < w.heap.size → O k) (h : PairA p wb O2 C m l w2 w') : PairA p wb O C m l w w' := by
  obtain ⟨O', a1, a2, a3⟩ := h
  exact ⟨O', a1, fun k hk hl => hO k (a2 k hk (Nat.lt_of_lt_of_le hl T.size)) hl, T.step a3 (fun i hi e => e.elim (fun e => .inl (hO i e hi)) .inr)⟩
theorem PairQ.from {O2 : Nat → Prop} {r : Tm.UR} {e : Ending} {a : Tm.Trail} (hl : l' = a ++ l) (T : Turned (fun k => O k ∨ k = C) w w2) (hO : ∀ k, O2 k → k < w.heap.size → O k) (h : PairQ p wb O2 C m l' w2 r e w') : PairQ p wb O C m l w r e w' := by
  subst hl
  cases r with
  | ok l2 q => obtain ⟨h1, h2, h3⟩ := h; exact ⟨h1, h2.from T hO, h3⟩
  | no q => obtain ⟨h1, b, c, h2, h3⟩ := h; exact ⟨h1, b ++ a, c, by rw [List.append_assoc]; exact h2.from T hO, h3⟩
  | over => obtain ⟨h1, b, c, h2, h3⟩ := h; exact ⟨h1, b ++ a, c, by rw [List.append_assoc]; exact h2.from T hO, h3⟩
set_option maxRecDepth 100000 in
set_option maxHeartbeats 6400000 in
theorem stands176 {c : Nat} {t : LT} {n : Int} (h : DO p wb O m l w) (hc : c ≤ 2000) (ht : t.In p w) (hot : Tm.ownB m t.bare = true) (hk : ¬ t.kind = 0) (h0 : 0 ≤ n) (h1 : n < (m : Int)) (hn : n ∉ Tm.dom l) (hC : w.heap[C]? = some (.cells #[.int .i64 c] 3 (0, 0))) (hO : ¬ O C) (hp : ¬ p C) :
    Calls Try.prog 176 #[.pointer (some ⟨wb, 0, none⟩), .int .i64 n, t.val, .pointer (some ⟨C, 0, none⟩)] w (PairQ p wb O C m l w (Tm.tieU l (2000 - c) n t.bare)) := by
  have hCl := (Array.getElem?_eq_some_iff.1 hC).1
  have h2 := twoBox w (.cells #[.int .i64 t.kind, .int .i64 t.n, .string t.name, .slice t.at_.1 t.args.length t.at_.2] 41) (.cells #[.int .i64 0] 3)
  obtain ⟨w2, hw2⟩ : ∃ z, z = (w.alloc (.cells #[.int .i64 t.kind, .int .i64 t.n, .string t.name, .slice t.at_.1 t.args.length t.at_.2] 41)).alloc (.cells #[.int .i64 0] 3) := ⟨_, rfl⟩
  rw [← hw2] at h2
  obtain ⟨T2, hs2, hb2, hk2⟩ := h2
  have hC2 : w2.heap[C]? = some (.cells #[.int .i64 c] 3 (0, 0)) := (T2.block C hCl (fun f => f)).trans hC
  obtain ⟨left, hleft⟩ : ∃ q, q = 2000 - c := ⟨_, rfl⟩
  rw [← hleft]
  have hcl : c + left = 2000 := by omega
  have hD2 := h.turned0 (T2.trans ((Turned.refl _ w2).drew))
  have hgv := Tm.ownB_iff.1 hot
  have hcall : Calls Try.prog 150 #[.pointer (some ⟨wb, 0, none⟩), .int .i64 n, t.val, .int .i64 (2000 - (c : Int)), .pointer (some ⟨w.heap.size + 1, 0, none⟩)] w2.drew (HasDQ (Tm.hasL left n 0 (Tm.img l t.bare).flat) (w.heap.size + 1) w2.drew) := by
    rw [show (2000 - (c : Int)) = ((left : Nat) : Int) by omega]
    exact has150 (by omega) (left + 1) t 0 (w.heap.size + 1) _ (by omega) (Nat.zero_le _) hD2 ((ht.turned0 T2).turned0 ((Turned.refl _ w2).drew)) ⟨Tm.good_ones' hgv.1, hgv.2⟩ (((Turned.refl (fun _ => False) w2).drew.block _ (Array.getElem?_eq_some_iff.1 hk2).1 (fun f => f)).trans hk2) (fun o => by have := h.lt _ o; omega) (fun o => by have := h.plt _ o; omega)
  have hspec := Tm.tieU_spec (left := left) h.ok h0 h1 hn hot (by rw [Tm.bare_kind]; exact hk)
  have hfalse := Tm.hasL_false (M := left) (n := n) (Tm.img l t.bare).flat (c := 0) (Nat.zero_le _)
  have hmost := Tm.hasL_most left n (Tm.img l t.bare).flat 0 (Nat.zero_le _)
  have htie : Tm.tieU l left n t.bare = (if left < (Tm.hasL left n 0 (Tm.img l t.bare).flat).2 then .over else if (Tm.hasL left n 0 (Tm.img l t.bare).flat).1 = true then .no (left - (Tm.hasL left n 0 (Tm.img l t.bare).flat).2) else .ok ((n, t.bare) :: l) (left - (Tm.hasL left n 0 (Tm.img l t.bare).flat).2)) := rfl
  obtain ⟨R, hR⟩ : ∃ z, z = Tm.hasL left n 0 (Tm.img l t.bare).flat := ⟨_, rfl⟩
  rw [← hR] at hcall hfalse hmost htie
  obtain ⟨b, kk⟩ := R
  have HTIE := Lib.hid htie
  have HSP := Lib.hid hspec
  have hNC : C ≠ w.heap.size + 1 := by omega
  have hCN : w.heap.size + 1 ≠ C := by omega
  have hCB : w.heap.size ≠ C := by omega
  have HH := Lib.hid h
  have HT := Lib.hid ht
  have HO := Lib.hid hO
  have HP := Lib.hid hp
  have HW2 := Lib.hid hw2
  have HT2 := Lib.hid T2
  have HS2 := Lib.hid hs2
  have HB2 := Lib.hid hb2
  have HC2 := Lib.hid hC2
  have HV := Lib.hid (LT.val_eq t)
  have HCLL := Lib.hid hCl
  have hkk : kk ≤ left + 1 := hmost
  obtain ⟨k0, k1⟩ := int1 hk2
  obtain ⟨c0, c1, c2, c3, _⟩ := cells4 hb2
  obtain ⟨q0, q1⟩ := int1 hC2
  rw [LT.val_eq] at hcall ⊢
  cases b with
  | true =>
    have HCA : Hid (Calls Try.prog 150 _ _ (HasDP true kk (w.heap.size + 1) w2.drew)) := Lib.hid hcall
    clear h hC ht hot hk h0 h1 hn hO hp hw2 T2 hb2 hC2 hD2 hgv hcall hspec hfalse hmost htie hR hk2 hs2
    go_enter Try.func176, Try.ntmps176
    go_wp2_with fail
    rw [← HW2.out]
    refine region_tail 7 (by kernel_rfl) (by kernel_rfl) ?_
    simp only [List.take_succ_cons, List.take_zero, List.drop_succ_cons, List.drop_zero]
    repeat still_step
    refine wpStill_nil ?_
    go_wp2_with (go_at_call 150; (with_reducible refine HCA.out.mono ?_); rintro e w5 ⟨rfl, hq5, T5⟩; have T5' : Turned (fun k => k = w.heap.size + 1) w2 w5 := ((Turned.refl _ w2).drew).trans T5; have hc5 := (T5'.block C (Array.getElem?_eq_some_iff.1 HC2.out).1 hNC).trans HC2.out; have HT5 := Lib.hid T5'; have HQ5 := Lib.hid hq5; have HC5 := Lib.hid hc5; obtain ⟨p0, p1⟩ := int1 hq5; obtain ⟨r0, r1⟩ := int1 hc5; clear T5 T5' hq5 hc5 k0 k1 c0 c1 c2 c3 q0 q1)
    refine region_tail 7 (by kernel_rfl) (by kernel_rfl) ?_
    simp only [List.take_succ_cons, List.take_zero, List.drop_succ_cons, List.drop_zero]
    repeat still_step
    refine wpStill_nil ?_
    go_wp2_with fail
    go_ret
    have T6 : Turned (fun k => k = C) w (w5.setCell ⟨C, 0, none⟩ (.int .i64 ((c : Int) + kk))).drew := (((HT2.out.mono (fun _ _ f => f.elim) : Turned (fun k => k = C) w w2).step HT5.out (fun i hi e => by omega)).setCell (p := ⟨C, 0, none⟩) (.inr rfl) _).drew
    have hC6 : (w5.setCell ⟨C, 0, none⟩ (.int .i64 ((c : Int) + kk))).drew.heap[C]? = some (.cells #[.int .i64 ((c + kk : Nat) : Int)] 3 (0, 0)) := by
      have := int1_set (v' := .int .i64 ((c : Int) + kk)) HC5.out
      exact this
    by_cases ho : left < kk
    · have HX := HTIE.out
      rw [if_pos ho] at HX
      rw [HX]
      exact ⟨rfl, [], c + kk, PairA.same HH.out HO.out HP.out T6, hC6, by omega, by omega⟩
    · have HX := HTIE.out
      rw [if_neg ho] at HX
      simp only [if_true] at HX
      rw [HX]
      exact ⟨rfl, [], c + kk, PairA.same HH.out HO.out HP.out T6, hC6, by omega⟩
  | false =>
    have hle : kk ≤ left := hfalse rfl
    have HCA : Hid (Calls Try.prog 150 _ _ (HasDP false kk (w.heap.size + 1) w2.drew)) := Lib.hid hcall
    have htie2 : Tm.tieU l left n t.bare = .ok ((n, t.bare) :: l) (left - kk) := by
      rw [htie, if_neg (by simp only []; omega), if_neg (by simp)]
    rw [htie2] at hspec ⊢
    have HOK : Hid (Tm.okT m ((n, t.bare) :: l)) := hspec.2.1
    have hbd := fun W (T : Turned (fun k => k = C) w W) => bindD (h.turned T (fun k hk e => ⟨fun o => hO (e ▸ o), fun o => hp (e ▸ o)⟩)) (LT.In.turned T (fun k _ hk e => hp (e ▸ hk)) (fun _ _ q => q) _ ht) hspec.2.1
    rw [LT.val_eq] at hbd
    have HBD := Lib.hid hbd
    clear h hC ht hot hk h0 h1 hn hO hp hw2 T2 hb2 hC2 hD2 hgv hcall hspec hfalse hmost htie htie2 hR hk2 hs2 hbd HTIE HSP
    go_enter Try.func176, Try.ntmps176
    go_wp2_with fail
    rw [← HW2.out]
    refine region_tail 7 (by kernel_rfl) (by kernel_rfl) ?_
    simp only [List.take_succ_cons, List.take_zero, List.drop_succ_cons, List.drop_zero]
    repeat still_step
    refine wpStill_nil ?_
    go_wp2_with (go_at_call 150; (with_reducible refine HCA.out.mono ?_); rintro e w5 ⟨rfl, hq5, T5⟩; have T5' : Turned (fun k => k = w.heap.size + 1) w2 w5 := ((Turned.refl _ w2).drew).trans T5; have hc5 := (T5'.block C (Array.getElem?_eq_some_iff.1 HC2.out).1 hNC).trans HC2.out; have hb5 := (T5'.block w.heap.size (Array.getElem?_eq_some_iff.1 HB2.out).1 (by omega)).trans HB2.out; have HB5 := Lib.hid hb5; have HT5 := Lib.hid T5'; have HQ5 := Lib.hid hq5; have HC5 := Lib.hid hc5; obtain ⟨p0, p1⟩ := int1 hq5; obtain ⟨r0, r1⟩ := int1 hc5; clear T5 T5' hq5 hc5 hb5 k0 k1 c0 c1 c2 c3 q0 q1)
    refine region_tail 7 (by kernel_rfl) (by kernel_rfl) ?_
    simp only [List.take_succ_cons, List.take_zero, List.drop_succ_cons, List.drop_zero]
    repeat still_step
    refine wpStill_nil ?_
    have T6 : Turned (fun k => k = C) w (w5.setCell ⟨C, 0, none⟩ (.int .i64 ((c : Int) + kk))).drew := (((HT2.out.mono (fun _ _ f => f.elim) : Turned (fun k => k = C) w w2).step HT5.out (fun i hi e => by omega)).setCell (p := ⟨C, 0, none⟩) (.inr rfl) _).drew
    have hC6 : (w5.setCell ⟨C, 0, none⟩ (.int .i64 ((c : Int) + kk))).drew.heap[C]? = some (.cells #[.int .i64 ((c + kk : Nat) : Int)] 3 (0, 0)) := by
      have := int1_set (v' := .int .i64 ((c : Int) + kk)) HC5.out
      exact this
    obtain ⟨e0, e1, e2, e3, _⟩ := cells4 HB5.out
    have hBC : C ≠ w.heap.size := fun e => hCB e.symm
    have HT6 := Lib.hid T6
    have HC6 := Lib.hid hC6
    clear T6 hC6
    go_wp2_with (go_at_call 175; (with_reducible refine (HBD.out _ HT6.out).mono ?_); rintro e w7 ⟨rfl, ha⟩; have HA := Lib.hid ha; clear ha)
    go_ret
    obtain ⟨O', a1, a2, a3⟩ := HA.out
    exact ⟨rfl, PairA.of HT6.out HA.out, c + kk, (a3.block C (Array.getElem?_eq_some_iff.1 HC6.out).1 HO.out).trans HC6.out, by omega⟩
end
end Go.Proofs.Ytoihjobdfjajfaa
namespace Go.Proofs.Ytoihjobdfjajfaa
open Go.RowKit Go.Maps
set_option linter.unusedVariables false
set_option linter.unusedSimpArgs false
abbrev PT := LT × LT
def PT.cells (q : PT) : List Value := q.1.cells ++ q.2.cells
theorem PT.cells_length (q : PT) : (PT.cells q).length = 8 := by unfold PT.cells; rw [List.length_append, LT.cells_length, LT.cells_length]
theorem PT.cells_one (q : PT) : ∀ u ∈ PT.cells q, u.oneCell' = true := by
  intro u hu
  rcases List.mem_append.1 hu with h | h
  · exact LT.cells_one _ u h
  · exact LT.cells_one _ u h
theorem PT.flat_length (l : List PT) : (l.flatMap PT.cells).length = l.length * 8 := by
  induction l with
  | nil => rfl
  | cons x l ih => rw [List.flatMap_cons, List.length_append, PT.cells_length, ih, List.length_cons]; omega
structure UK (p : Nat → Prop) (bb K : Nat) (v : Value) (st : List PT) (c : Int) (O : Nat → Prop) (m : Nat) (l : TL) (w : World) : Prop where
  bo : BO p bb O m l w
  k : w.heap[K]? = some (.cells #[.pointer (some ⟨bb, 0, none⟩), v, .int .i64 c] 190 (0, 0))
  row : Row w 187 8 v st.length (st.flatMap PT.cells)
  mem : ∀ q ∈ st, (q.1.In p w ∧ Tm.ownB m q.1.bare = true) ∧ q.2.In p w ∧ Tm.ownB m q.2.bare = true
  kO : ¬ O K ∧ ¬ p K
  vO : ∀ g, v.ownBlock = some g → ¬ O g ∧ ¬ p g ∧ g ≠ K
def ownU (K : Nat) (v : Value) (O : Nat → Prop) (k : Nat) : Prop := k = K ∨ v.ownBlock = some k ∨ O k
section
variable {p O : Nat → Prop} {bb K m : Nat} {v : Value} {st : List PT} {c : Int} {l : TL} {w w' : World}
theorem UK.kcells (h : UK p bb K v st c O m l w) : w.cell? ⟨K, 0, none⟩ = some (.pointer (some ⟨bb, 0, none⟩)) ∧ w.cell? ⟨K, 1, none⟩ = some v ∧ w.cell? ⟨K, 2, none⟩ = some (.int .i64 c) ∧ w.frozen? ⟨K, 1, none⟩ = false ∧ w.frozen? ⟨K, 2, none⟩ = false :=
  ⟨by rw [cell_of_row w K 0 _ 190 (0, 0) h.k]; rfl, by rw [cell_of_row w K 1 _ 190 (0, 0) h.k]; rfl, by rw [cell_of_row w K 2 _ 190 (0, 0) h.k]; rfl, frozen_of_row w K 1 _ 190 h.k, frozen_of_row w K 2 _ 190 h.k⟩
theorem UK.turned0 (h : UK p bb K v st c O m l w) (T : Turned (fun _ => False) w w') : UK p bb K v st c O m l w' :=
  ⟨h.bo.turned0 T, (T.block _ (Array.getElem?_eq_some_iff.1 h.k).1 (fun f => f)).trans h.k, h.row.turned0 T, fun q hq => ⟨⟨(h.mem q hq).1.1.turned0 T, (h.mem q hq).1.2⟩, (h.mem q hq).2.1.turned0 T, (h.mem q hq).2.2⟩, h.kO, h.vO⟩
theorem UK.own_lt (h : UK p bb K v st c O m l w) : ∀ k, ownU K v O k → k < w.heap.size := by
  rintro k (rfl | e | e)
  · exact (Array.getElem?_eq_some_iff.1 h.k).1
  · exact h.row.lt k e
  · exact h.bo.lt k e
theorem UK.cost (h : UK p bb K v st c O m l w) (c' : Int) : UK p bb K v st c' O m l (w.setCell ⟨K, 2, none⟩ (.int .i64 c')) ∧ Turned (fun k => k = K) w (w.setCell ⟨K, 2, none⟩ (.int .i64 c')) := by
  have T : Turned (fun k => k = K) w (w.setCell ⟨K, 2, none⟩ (.int .i64 c')) := (Turned.refl (fun k => k = K) w).setCell (p := ⟨K, 2, none⟩) (.inr rfl) _
  have hp : ∀ q : LT, q.In p w → q.In p (w.setCell ⟨K, 2, none⟩ (.int .i64 c')) := fun q hq => LT.In.turned T (fun k _ hk e => h.kO.2 (e ▸ hk)) (fun _ _ hk => hk) q hq
  refine ⟨⟨h.bo.turned T (fun k hk e => ⟨fun c => h.kO.1 (e ▸ c), fun c => h.kO.2 (e ▸ c)⟩), ?_, h.row.turned T (fun k hk e => (h.vO k hk).2.2 e), fun q hq => ⟨⟨hp _ (h.mem q hq).1.1, (h.mem q hq).1.2⟩, hp _ (h.mem q hq).2.1, (h.mem q hq).2.2⟩, h.kO, h.vO⟩, T⟩
  have := heap_setCell_same w K 2 _ 190 (.int .i64 c') h.k
  simpa using this
end
def UA (p : Nat → Prop) (bb K : Nat) (v : Value) (st : List PT) (c' : Int) (O : Nat → Prop) (m : Nat) (l' : Tm.Trail) (w w' : World) : Prop :=
  ∃ (l2 : TL) (O' : Nat → Prop), bt l2 = l' ∧ UK p bb K v st c' O' m l2 w' ∧ (∀ k, O' k → k < w.heap.size → O k) ∧ Turned (ownU K v O) w w'
def UQ (p : Nat → Prop) (bb K : Nat) (v : Value) (st : List PT) (O : Nat → Prop) (m : Nat) (l : TL) (w : World) : Tm.UR → Ending → World → Prop
  | .ok l' left', e, w' => e = .returned (.tuple #[.bool true, .int .i64 0]) ∧ UA p bb K v st (2000 - (left' : Int)) O m l' w w'
  | .no q, e, w' => e = .returned (.tuple #[.bool false, .int .i64 0]) ∧ UA p bb K v st (2000 - (q : Int)) O m (bt l) w w'
  | .over, e, w' => e = .returned (.tuple #[.bool false, .int .i64 12]) ∧ ∃ c', UA p bb K v st c' O m (bt l) w w'
theorem UA.same {p O : Nat → Prop} {bb K m : Nat} {v : Value} {st : List PT} {c : Int} {l : TL} {w w' : World} (h : UK p bb K v st c O m l w') (T : Turned (ownU K v O) w w') : UA p bb K v st c O m (bt l) w w' := ⟨l, O, rfl, h, fun _ hk _ => hk, T⟩
theorem UK.after {p O : Nat → Prop} {bb K m : Nat} {v : Value} {st : List PT} {c : Int} {l l2 : TL} {w w' : World} (h : UK p bb K v st c O m l w) (A : After p bb O m l2 w w') : ∃ O', UK p bb K v st c O' m l2 w' ∧ (∀ k, O' k → k < w.heap.size → O k) ∧ Turned O w w' := by
  obtain ⟨O', a1, a2, a3⟩ := A
  have hkl := (Array.getElem?_eq_some_iff.1 h.k).1
  have hp : ∀ q : LT, q.In p w → q.In p w' := fun q hq => LT.In.turned a3 (fun k _ hk e => h.bo.sep k hk e) (fun _ _ hk => hk) q hq
  exact ⟨O', ⟨a1, (a3.block K hkl h.kO.1).trans h.k, h.row.turned a3 (fun k hk e => (h.vO k hk).1 e), fun q hq => ⟨⟨hp _ (h.mem q hq).1.1, (h.mem q hq).1.2⟩, hp _ (h.mem q hq).2.1, (h.mem q hq).2.2⟩, ⟨fun e => h.kO.1 (a2 K e hkl), h.kO.2⟩, fun g hg => ⟨fun e => (h.vO g hg).1 (a2 g e (h.row.lt g hg)), (h.vO g hg).2⟩⟩, a2, a3⟩
section
variable {p O : Nat → Prop} {bb K m : Nat} {v : Value} {st : List PT} {c : Nat} {l : TL} {w w' : World}
set_option maxRecDepth 100000 in
set_option maxHeartbeats 12800000 in
theorem tie183 {xv t : LT} (h : UK p bb K v st c O m l w) (hc : c ≤ 2000) (ht : t.In p w) (hg : Tm.ownB m t.bare = true) (hk : ¬ t.kind = 0) (h0 : 0 ≤ xv.n) (h1 : xv.n < (m : Int)) (hd : xv.n ∉ Tm.dom (bt l)) :
    Calls Try.prog 183 #[.pointer (some ⟨K, 0, none⟩), xv.val, t.val] w (UQ p bb K v st O m l w (Tm.tieU (bt l) (2000 - c) xv.n t.bare)) := by
  have h2 := twoBox w (.cells #[.int .i64 xv.kind, .int .i64 xv.n, .string xv.name, .slice xv.at_.1 xv.args.length xv.at_.2] 27) (.cells #[.int .i64 t.kind, .int .i64 t.n, .string t.name, .slice t.at_.1 t.args.length t.at_.2] 27)
  obtain ⟨w2, hw2⟩ : ∃ z, z = (w.alloc (.cells #[.int .i64 xv.kind, .int .i64 xv.n, .string xv.name, .slice xv.at_.1 xv.args.length xv.at_.2] 27)).alloc (.cells #[.int .i64 t.kind, .int .i64 t.n, .string t.name, .slice t.at_.1 t.args.length t.at_.2] 27) := ⟨_, rfl⟩
  rw [← hw2] at h2
  have hbx : ∀ W, Turned (fun _ => False) w2 W → W.heap[w.heap.size]? = some (.cells #[.int .i64 xv.kind, .int .i64 xv.n, .string xv.name, .slice xv.at_.1 xv.args.length xv.at_.2] 27 (0, 0)) ∧ W.heap[w.heap.size + 1]? = some (.cells #[.int .i64 t.kind, .int .i64 t.n, .string t.name, .slice t.at_.1 t.args.length t.at_.2] 27 (0, 0)) := fun W hW => ⟨(hW.block _ (by have := h2.2.1; omega) (fun f => f)).trans h2.2.2.1, (hW.block _ (by have := h2.2.1; omega) (fun f => f)).trans h2.2.2.2⟩
  have hsl : slim t := good_slim (by rw [← goodB_bare]; exact (Tm.ownB_iff.1 hg).1)
  obtain ⟨R, hR⟩ : ∃ z, z = Tm.hasL (2000 - c) xv.n 0 (Tm.img (bt l) t.bare).flat := ⟨_, rfl⟩
  have hhas : ∀ W, Turned (fun _ => False) w2 W → Calls Try.prog 106 #[.pointer (some ⟨bb, 0, none⟩), .int .i64 xv.n, .agg #[.int .i64 t.kind, .int .i64 t.n, .string t.name, .slice t.at_.1 t.args.length t.at_.2], .int .i64 (2000 - (c : Int))] W fun e w' => e = .returned (.tuple #[.bool R.1, .int .i64 R.2]) ∧ Turned (fun _ => False) W w' := by
    intro W hW
    have := has106 (n := xv.n) (most := 2000 - (c : Int)) (h.bo.turned0 (h2.1.trans hW)) (ht.turned0 (h2.1.trans hW)) hsl (by omega) (by omega)
    rw [LT.val_eq, show (2000 - (c : Int)).toNat = 2000 - c from by omega] at this
    unfold hasR at this
    rw [if_pos hg, ← hR] at this
    exact this
  have hkc : ∀ W, Turned (fun _ => False) w2 W → UK p bb K v st c O m l W := fun W hW => h.turned0 (h2.1.trans hW)
  have hm65 := h.bo.most
  have hR2 := Tm.hasL_le (2000 - c) xv.n (Tm.img (bt l) t.bare).flat 0
  rw [← hR] at hR2
  have hR3 := Tm.hasL_most (2000 - c) xv.n (Tm.img (bt l) t.bare).flat 0 (Nat.zero_le _)
  rw [← hR] at hR3
  have hsp := Tm.tieU_spec (left := 2000 - c) h.bo.ok h0 h1 hd hg (by rw [Tm.bare_kind]; exact hk)
  have hT : Tm.tieU (bt l) (2000 - c) xv.n t.bare = if 2000 - c < R.2 then .over else if R.1 = true then .no (2000 - c - R.2) else .ok ((xv.n, t.bare) :: bt l) (2000 - c - R.2) := by unfold Tm.tieU; rw [← hR]
  obtain ⟨U, hU⟩ : ∃ z, z = Tm.tieU (bt l) (2000 - c) xv.n t.bare := ⟨_, rfl⟩
  rw [← hU] at hsp hT ⊢
  clear hU
  rw [LT.val_eq, LT.val_eq]
  have HHAS := Lib.hid hhas
  have HKC := Lib.hid hkc
  have HBX := Lib.hid hbx
  have HW2 := Lib.hid hw2
  have HT2 := Lib.hid h2.1
  have HT := Lib.hid ht
  have HSL := Lib.hid hsl
  have HG := Lib.hid hg
  have HK := Lib.hid hk
  have hvi : I64 xv.n := by unfold I64; omega
  have HS2 := Lib.hid h2.2.1
  have hkl := (Array.getElem?_eq_some_iff.1 h.k).1
  have hKN : K ≠ w.heap.size := by omega
  have hKN1 : K ≠ w.heap.size + 1 := by omega
  have hNK : w.heap.size ≠ K := by omega
  have hNK1 : w.heap.size + 1 ≠ K := by omega
  obtain ⟨r1, r2⟩ := R
  simp only at hR2 hR3 hT
  have HU := Lib.hid hT
  have HSP := Lib.hid hsp
  have HOWN := Lib.hid h.own_lt
  have HUK := Lib.hid h
  clear hR h2 hw2 hhas hkc hbx h ht hsl hg hk hT hsp
  go_enter Try.func183, Try.ntmps183
  go_wp2_with fail
  rw [← HW2.out]
  refine wp_region_ssa' (G := (fun dd vv _ => (match dd with | 11 => vv = .pointer (some ⟨K, 0, none⟩) | 12 => vv = .pointer (some ⟨K, 0, none⟩) | 13 => vv = .pointer (some ⟨K, 0, none⟩) | 14 => vv = .pointer (some ⟨bb, 0, none⟩) | 15 => vv = .pointer (some ⟨w.heap.size, 1, none⟩) | 16 => vv = .int .i64 xv.n | 17 => vv = .agg #[.int .i64 t.kind, .int .i64 t.n, .string t.name, .slice t.at_.1 t.args.length t.at_.2] | 18 => vv = .pointer (some ⟨K, 0, none⟩) | 19 => vv = .pointer (some ⟨K, 0, none⟩) | 20 => vv = .pointer (some ⟨K, 2, none⟩) | 21 => vv = .int .i64 c | 22 => vv = .int .i64 (2000 - (c : Int)) | 23 => vv = .tuple #[.bool r1, .int .i64 r2] | 10 => vv = .tuple #[.bool r1, .int .i64 r2] | 24 => vv = .bool r1 | 25 => vv = .int .i64 r2 | 8 => vv = .bool r1 | 9 => vv = .int .i64 r2 | _ => True : Prop))) [11, 12, 13, 14, 15, 16, 17, 18, 19, 20, 21, 22, 23, 10, 24, 25, 8, 9] (by kernel_rfl) rfl (by kernel_rfl) ?hG ?hs ?hQ
  case hG => exact fun d v _ _ _ h => h
  case hs =>
    refine ⟨?s0, ?s1, ?s2, ?s3, ?s4, ?s5, ?s6, ?s7, ?s8, ?s9, ?s10, ?s11, ?s12, ?s13, ?s14, ?s15, ?s16, ?s17, trivial⟩
    case s0 =>
      refine stepOk_free [] [0] (by kernel_rfl) rfl ?_
      intro ac W hT hI hO
      have h0 : ac.tmps.getD 0 undef = .pointer (some ⟨K, 0, none⟩) := hO 0 (by simp)
      show Brings Try.prog (fun vv w' => Turned (fun _ => False) W w' ∧ vv = .pointer (some ⟨K, 0, none⟩)) _
      simp only [execOp, Act.eval, h0]
      go_simp
      try exact ⟨Turned.refl _ _, rfl⟩
    case s1 =>
      refine stepOk_free [11] [] (by kernel_rfl) rfl ?_
      intro ac W hT hI hO
      have h11 : ac.tmps.getD 11 undef = .pointer (some ⟨K, 0, none⟩) := hI 11 (by simp)
      show Brings Try.prog (fun vv w' => Turned (fun _ => False) W w' ∧ vv = .pointer (some ⟨K, 0, none⟩)) _
      have hnz : W.cell? ⟨K, 0, none⟩ = some (.pointer (some ⟨bb, 0, none⟩)) := (HKC.out W hT).kcells.1
      simp only [execOp, Act.eval, h11]
      go_simp
      try exact ⟨Turned.refl _ _, rfl⟩
    case s2 =>
      refine stepOk_free [12] [] (by kernel_rfl) rfl ?_
      intro ac W hT hI hO
      have h12 : ac.tmps.getD 12 undef = .pointer (some ⟨K, 0, none⟩) := hI 12 (by simp)
      show Brings Try.prog (fun vv w' => Turned (fun _ => False) W w' ∧ vv = .pointer (some ⟨K, 0, none⟩)) _
      simp only [execOp, Act.eval, h12]
      go_simp
      try exact ⟨Turned.refl _ _, rfl⟩
    case s3 =>
      refine stepOk_free [13] [] (by kernel_rfl) rfl ?_
      intro ac W hT hI hO
      have h13 : ac.tmps.getD 13 undef = .pointer (some ⟨K, 0, none⟩) := hI 13 (by simp)
      show Brings Try.prog (fun vv w' => Turned (fun _ => False) W w' ∧ vv = .pointer (some ⟨bb, 0, none⟩)) _
      obtain ⟨k0, k1, k2, kf1, kf2⟩ := (HKC.out W hT).kcells
      simp only [execOp, Act.eval, h13]
      go_simp
      try exact ⟨Turned.refl _ _, rfl⟩
    case s4 =>
      refine stepOk_free [] [4] (by kernel_rfl) rfl ?_
      intro ac W hT hI hO
      have h4 : ac.tmps.getD 4 undef = .pointer (some ⟨w.heap.size, 0, none⟩) := hO 4 (by simp)
      show Brings Try.prog (fun vv w' => Turned (fun _ => False) W w' ∧ vv = .pointer (some ⟨w.heap.size, 1, none⟩)) _
      simp only [execOp, Act.eval, h4]
      go_simp
      try exact ⟨Turned.refl _ _, rfl⟩
    case s5 =>
      refine stepOk_free [15] [] (by kernel_rfl) rfl ?_
      intro ac W hT hI hO
      have h15 : ac.tmps.getD 15 undef = .pointer (some ⟨w.heap.size, 1, none⟩) := hI 15 (by simp)
      show Brings Try.prog (fun vv w' => Turned (fun _ => False) W w' ∧ vv = .int .i64 xv.n) _
      obtain ⟨c0, c1, c2, c3, _⟩ := cells4 (HBX.out W hT).1
      simp only [execOp, Act.eval, h15]
      go_simp
      try exact ⟨Turned.refl _ _, rfl⟩
    case s6 =>
      refine stepOk_free [] [5] (by kernel_rfl) rfl ?_
      intro ac W hT hI hO
      have h5 : ac.tmps.getD 5 undef = .pointer (some ⟨w.heap.size + 1, 0, none⟩) := hO 5 (by simp)
      show Brings Try.prog (fun vv w' => Turned (fun _ => False) W w' ∧ vv = .agg #[.int .i64 t.kind, .int .i64 t.n, .string t.name, .slice t.at_.1 t.args.length t.at_.2]) _
      obtain ⟨c0, c1, c2, c3, _⟩ := cells4 (HBX.out W hT).2
      simp only [execOp, Act.eval, h5]
      go_simp
      try exact ⟨Turned.refl _ _, rfl⟩
    case s7 =>
      refine stepOk_free [] [0] (by kernel_rfl) rfl ?_
      intro ac W hT hI hO
      have h0 : ac.tmps.getD 0 undef = .pointer (some ⟨K, 0, none⟩) := hO 0 (by simp)
      show Brings Try.prog (fun vv w' => Turned (fun _ => False) W w' ∧ vv = .pointer (some ⟨K, 0, none⟩)) _
      simp only [execOp, Act.eval, h0]
      go_simp
      try exact ⟨Turned.refl _ _, rfl⟩
    case s8 =>
      refine stepOk_free [18] [] (by kernel_rfl) rfl ?_
      intro ac W hT hI hO
      have h18 : ac.tmps.getD 18 undef = .pointer (some ⟨K, 0, none⟩) := hI 18 (by simp)
      show Brings Try.prog (fun vv w' => Turned (fun _ => False) W w' ∧ vv = .pointer (some ⟨K, 0, none⟩)) _
      have hnz : W.cell? ⟨K, 0, none⟩ = some (.pointer (some ⟨bb, 0, none⟩)) := (HKC.out W hT).kcells.1
      simp only [execOp, Act.eval, h18]
      go_simp
      try exact ⟨Turned.refl _ _, rfl⟩
    case s9 =>
      refine stepOk_free [19] [] (by kernel_rfl) rfl ?_
      intro ac W hT hI hO
      have h19 : ac.tmps.getD 19 undef = .pointer (some ⟨K, 0, none⟩) := hI 19 (by simp)
      show Brings Try.prog (fun vv w' => Turned (fun _ => False) W w' ∧ vv = .pointer (some ⟨K, 2, none⟩)) _
      simp only [execOp, Act.eval, h19]
      go_simp
      try exact ⟨Turned.refl _ _, rfl⟩
    case s10 =>
      refine stepOk_free [20] [] (by kernel_rfl) rfl ?_
      intro ac W hT hI hO
      have h20 : ac.tmps.getD 20 undef = .pointer (some ⟨K, 2, none⟩) := hI 20 (by simp)
      show Brings Try.prog (fun vv w' => Turned (fun _ => False) W w' ∧ vv = .int .i64 c) _
      obtain ⟨k0, k1, k2, kf1, kf2⟩ := (HKC.out W hT).kcells
      simp only [execOp, Act.eval, h20]
      go_simp
      try exact ⟨Turned.refl _ _, rfl⟩
    case s11 =>
      refine stepOk_free [21] [] (by kernel_rfl) rfl ?_
      intro ac W hT hI hO
      have h21 : ac.tmps.getD 21 undef = .int .i64 c := hI 21 (by simp)
      show Brings Try.prog (fun vv w' => Turned (fun _ => False) W w' ∧ vv = .int .i64 (2000 - (c : Int))) _
      simp only [execOp, Act.eval, h21]
      go_simp
      try rw [wrapI (by omega) (by omega)]
      try exact ⟨Turned.refl _ _, rfl⟩
    case s12 =>
      refine stepOk_free [14, 16, 17, 22] [] (by kernel_rfl) rfl ?_
      intro ac W hT hI hO
      have h14 : ac.tmps.getD 14 undef = .pointer (some ⟨bb, 0, none⟩) := hI 14 (by simp)
      have h16 : ac.tmps.getD 16 undef = .int .i64 xv.n := hI 16 (by simp)
      have h17 : ac.tmps.getD 17 undef = .agg #[.int .i64 t.kind, .int .i64 t.n, .string t.name, .slice t.at_.1 t.args.length t.at_.2] := hI 17 (by simp)
      have h22 : ac.tmps.getD 22 undef = .int .i64 (2000 - (c : Int)) := hI 22 (by simp)
      show Brings Try.prog (fun vv w' => Turned (fun _ => False) W w' ∧ vv = .tuple #[.bool r1, .int .i64 r2]) _
      simp only [execOp, Act.eval, h14, h16, h17, h22]
      go_simp
      show Calls Try.prog 106 _ W _
      (with_reducible refine (HHAS.out W hT).mono ?_)
      rintro e w' ⟨rfl, T'⟩
      exact ⟨_, rfl, T', rfl⟩
    case s13 =>
      refine stepOk_free [23] [] (by kernel_rfl) rfl ?_
      intro ac W hT hI hO
      have h23 : ac.tmps.getD 23 undef = .tuple #[.bool r1, .int .i64 r2] := hI 23 (by simp)
      show Brings Try.prog (fun vv w' => Turned (fun _ => False) W w' ∧ vv = .tuple #[.bool r1, .int .i64 r2]) _
      simp only [execOp, Act.eval, h23]
      go_simp
      try exact ⟨Turned.refl _ _, rfl⟩
    case s14 =>
      refine stepOk_free [10] [] (by kernel_rfl) rfl ?_
      intro ac W hT hI hO
      have h10 : ac.tmps.getD 10 undef = .tuple #[.bool r1, .int .i64 r2] := hI 10 (by simp)
      show Brings Try.prog (fun vv w' => Turned (fun _ => False) W w' ∧ vv = .bool r1) _
      simp only [execOp, Act.eval, h10]
      go_simp
      try exact ⟨Turned.refl _ _, rfl⟩
    case s15 =>
      refine stepOk_free [10] [] (by kernel_rfl) rfl ?_
      intro ac W hT hI hO
      have h10 : ac.tmps.getD 10 undef = .tuple #[.bool r1, .int .i64 r2] := hI 10 (by simp)
      show Brings Try.prog (fun vv w' => Turned (fun _ => False) W w' ∧ vv = .int .i64 r2) _
      simp only [execOp, Act.eval, h10]
      go_simp
      try exact ⟨Turned.refl _ _, rfl⟩
    case s16 =>
      refine stepOk_free [24] [] (by kernel_rfl) rfl ?_
      intro ac W hT hI hO
      have h24 : ac.tmps.getD 24 undef = .bool r1 := hI 24 (by simp)
      show Brings Try.prog (fun vv w' => Turned (fun _ => False) W w' ∧ vv = .bool r1) _
      simp only [execOp, Act.eval, h24]
      go_simp
      try exact ⟨Turned.refl _ _, rfl⟩
    case s17 =>
      refine stepOk_free [25] [] (by kernel_rfl) rfl ?_
      intro ac W hT hI hO
      have h25 : ac.tmps.getD 25 undef = .int .i64 r2 := hI 25 (by simp)
      show Brings Try.prog (fun vv w' => Turned (fun _ => False) W w' ∧ vv = .int .i64 r2) _
      simp only [execOp, Act.eval, h25]
      go_simp
      try exact ⟨Turned.refl _ _, rfl⟩
  case hQ =>
    intro vs w3 T3 hV
    have q8 : vs 8 = .bool r1 := hV 8 (by simp)
    have q9 : vs 9 = .int .i64 r2 := hV 9 (by simp)
    simp only [List.foldl_cons, List.foldl_nil, List.setIfInBounds_toArray, List.set_cons_zero, List.set_cons_succ, q8, q9]
    clear hV q8 q9
    have HK3 := Lib.hid (HKC.out w3 T3)
    obtain ⟨k0, k1, k2, kf1, kf2⟩ := HK3.out.kcells
    have HC3 := Lib.hid (HK3.out.cost ((c : Int) + r2))
    have HT3 := Lib.hid (HT2.out.trans T3)
    have hb3 := HBX.out w3 T3
    have HB3 := Lib.hid hb3
    clear T3 hb3
    by_cases hov : 2000 - c < r2
    · have d1 : decide (2000 < (c : Int) + r2) = true := decide_eq_true (by omega)
      have hu : U = .over := by rw [HU.out, if_pos hov]
      have HUE := Lib.hid hu
      clear hu
      go_wp2_with fail
      go_ret2
      rw [HUE.out]
      exact ⟨rfl, _, UA.same HC3.out.1 ((HT3.out.mono (fun _ _ f => f.elim)).trans (HC3.out.2.mono (fun _ _ e => .inl e)))⟩
    · have d1 : decide (2000 < (c : Int) + r2) = false := decide_eq_false (by omega)
      cases r1 with
      | true =>
        have hu : U = .no (2000 - c - r2) := by rw [HU.out, if_neg hov, if_pos rfl]
        have HUE := Lib.hid hu
        clear hu
        go_wp2_with fail
        go_ret2
        rw [HUE.out]
        refine ⟨rfl, ?_⟩
        rw [show (2000 - ((2000 - c - r2 : Nat) : Int)) = (c : Int) + r2 from by omega]
        exact UA.same HC3.out.1 ((HT3.out.mono (fun _ _ f => f.elim)).trans (HC3.out.2.mono (fun _ _ e => .inl e)))
      | false =>
        have hu : U = .ok ((xv.n, t.bare) :: bt l) (2000 - c - r2) := by rw [HU.out, if_neg hov, if_neg (by simp)]
        have hsp := HSP.out
        rw [hu] at hsp
        have HUE := Lib.hid hu
        have HSE := Lib.hid hsp.2.2
        clear hsp hu
        go_wp2_with fail
        revert HC3
        generalize w3.setCell ⟨K, 2, none⟩ (.int .i64 ((c : Int) + r2)) = w4
        intro HC3
        obtain ⟨k0, k1, k2, kf1, kf2⟩ := HC3.out.1.kcells
        have hb4 : w4.heap[w.heap.size]? = some (.cells #[.int .i64 xv.kind, .int .i64 xv.n, .string xv.name, .slice xv.at_.1 xv.args.length xv.at_.2] 27 (0, 0)) ∧ w4.heap[w.heap.size + 1]? = some (.cells #[.int .i64 t.kind, .int .i64 t.n, .string t.name, .slice t.at_.1 t.args.length t.at_.2] 27 (0, 0)) := ⟨(HC3.out.2.block _ (Array.getElem?_eq_some_iff.1 HB3.out.1).1 (fun e => hNK e)).trans HB3.out.1, (HC3.out.2.block _ (Array.getElem?_eq_some_iff.1 HB3.out.2).1 (fun e => hNK1 e)).trans HB3.out.2⟩
        obtain ⟨c0, c1, c2, c3, _⟩ := cells4 hb4.1
        obtain ⟨e0, e1, e2, e3, _⟩ := cells4 hb4.2
        refine region_tail 7 (by kernel_rfl) (by kernel_rfl) ?_
        simp only [List.take_succ_cons, List.take_zero, List.drop_succ_cons, List.drop_zero]
        repeat still_step
        refine wpStill_nil ?_
        have hti : t.In p w4.drew := (LT.In.turned HC3.out.2 (fun k _ hk e => HUK.out.kO.2 (e ▸ hk)) (fun _ _ hk => hk) _ (HT.out.turned0 HT3.out)).turned0 (Turned.refl _ _).drew
        have HTI := Lib.hid hti
        clear hti hb4
        go_wp2_with (go_at_call 88; have hs88 := setO88 ((HC3.out.1.bo).turned0 (Turned.refl _ _).drew) HTI.out HSL.out xv.n hvi; rw [LT.val_eq, HSE.out, if_pos rfl] at hs88; (with_reducible refine hs88.mono ?_); rintro e w5 ⟨rfl, l2, hl2, A5⟩; have HA5 := Lib.hid A5; have HL2 := Lib.hid hl2; clear A5 hl2 hs88)
        go_ret2
        rw [HUE.out]
        refine ⟨rfl, ?_⟩
        rw [show (2000 - ((2000 - c - r2 : Nat) : Int)) = (c : Int) + r2 from by omega]
        obtain ⟨O', u1, u2, u3⟩ := (HC3.out.1.turned0 (Turned.refl _ _).drew).after HA5.out
        have hsz : w.heap.size ≤ w4.heap.size := by have := HT3.out.size; have := HC3.out.2.size; omega
        refine ⟨l2, O', HL2.out, u1, fun k hk hl => u2 k hk (Nat.lt_of_lt_of_le hl hsz), ?_⟩
        exact (((HT3.out.mono (fun _ _ f => f.elim)).trans (HC3.out.2.mono (fun _ _ e => .inl e))).trans ((Turned.refl _ w4).drew)).trans (u3.mono (fun _ _ e => .inr (.inr e)))
end
end Go.Proofs.Ytoihjobdfjajfaa

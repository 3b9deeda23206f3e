/- The laws on the order of terms. -/
import Derived.Test.YtoihjobdfjajfaaOK1
import Derived.Test.YtoihjobdfjajfaaDeeps
namespace Go.Proofs.Ytoihjobdfjajfaa
set_option linter.unusedVariables false
set_option linter.unusedSimpArgs false
open Go.RowKit
theorem deepI66 (t : LT) (W : World) (h : t.In (fun _ => True) W) : Calls Try.prog 66 #[t.val, .int .i64 40] W fun e w' => e = .returned (.bool (deepB 40 t)) ∧ Turned (fun _ => False) W w' := deep66 (fun _ => True) 40 t W (by omega) h
theorem threeB (w : World) (x y z : Obj) : Turned (fun _ => False) w (((w.alloc x).alloc y).alloc z) ∧ (((w.alloc x).alloc y).alloc z).heap.size = w.heap.size + 3 ∧ (((w.alloc x).alloc y).alloc z).heap[w.heap.size]? = some x ∧ (((w.alloc x).alloc y).alloc z).heap[w.heap.size + 1]? = some y ∧ (((w.alloc x).alloc y).alloc z).heap[w.heap.size + 2]? = some z := by
  refine ⟨(((Turned.refl _ w).alloc _).alloc _).alloc _, by simp, ?_, ?_, ?_⟩
  · exact (Below.heap_alloc _ _ _ (by simp; omega)).trans (heap_alloc2_old w x y)
  · exact (Below.heap_alloc _ _ _ (by simp)).trans (heap_alloc2_new w x y)
  · have := heap_alloc_new ((w.alloc x).alloc y) z
    rwa [show ((w.alloc x).alloc y).heap.size = w.heap.size + 2 from by simp] at this
theorem args_le {α : Type} (t : Tm α) : t.args.length ≤ Tm.sizes t.args := by
  suffices h : ∀ l : List (Tm α), l.length ≤ Tm.sizes l from h _
  intro l
  induction l with
  | nil => simp
  | cons x l ih => simp only [List.length_cons, Tm.sizes]; have := Tm.size_pos x; omega
set_option maxRecDepth 100000 in
set_option maxHeartbeats 6400000 in
theorem orderKeys {a b : LT} {w : World} (ha : a.In (fun _ => True) w) (hb : b.In (fun _ => True) w) :
    Calls Try.prog 11 #[a.val, b.val] w fun e w' => e = .returned (.bool true) ∧ Turned (fun _ => False) w w' := by
  obtain ⟨w1, hw1⟩ : ∃ z, z = ((w.alloc (.cells #[.int .i64 a.kind, .int .i64 a.n, .string a.name, .slice a.at_.1 a.args.length a.at_.2] 27)).alloc (.cells #[.int .i64 b.kind, .int .i64 b.n, .string b.name, .slice b.at_.1 b.args.length b.at_.2] 27)) := ⟨_, rfl⟩
  have h2 := twoB w (.cells #[.int .i64 a.kind, .int .i64 a.n, .string a.name, .slice a.at_.1 a.args.length a.at_.2] 27) (.cells #[.int .i64 b.kind, .int .i64 b.n, .string b.name, .slice b.at_.1 b.args.length b.at_.2] 27)
  rw [← hw1] at h2
  have hkp : ∀ W, Turned (fun _ => False) w1 W → (W.cell? ⟨w.heap.size, 0, none⟩ = some (.int .i64 a.kind) ∧ W.cell? ⟨w.heap.size, 1, none⟩ = some (.int .i64 a.n) ∧ W.cell? ⟨w.heap.size, 2, none⟩ = some (.string a.name) ∧ W.cell? ⟨w.heap.size, 3, none⟩ = some (.slice a.at_.1 a.args.length a.at_.2)) ∧ (W.cell? ⟨w.heap.size + 1, 0, none⟩ = some (.int .i64 b.kind) ∧ W.cell? ⟨w.heap.size + 1, 1, none⟩ = some (.int .i64 b.n) ∧ W.cell? ⟨w.heap.size + 1, 2, none⟩ = some (.string b.name) ∧ W.cell? ⟨w.heap.size + 1, 3, none⟩ = some (.slice b.at_.1 b.args.length b.at_.2)) := fun W h => by
    obtain ⟨p00, p01, p02, p03, _⟩ := cells4 ((h.block _ (by have := h2.2.1; omega) (fun f => f)).trans h2.2.2.1)
    obtain ⟨p10, p11, p12, p13, _⟩ := cells4 ((h.block _ (by have := h2.2.1; omega) (fun f => f)).trans h2.2.2.2)
    exact ⟨⟨p00, p01, p02, p03⟩, ⟨p10, p11, p12, p13⟩⟩
  have hda := fun W (h : Turned (fun _ => False) w1 W) => deepI66 a W (ha.turned0 (h2.1.trans h))
  have hga := fun (s : slim a) W (h : Turned (fun _ => False) w1 W) => good38 (ha.turned0 (h2.1.trans h)) s
  have hdb := fun W (h : Turned (fun _ => False) w1 W) => deepI66 b W (hb.turned0 (h2.1.trans h))
  have hgb := fun (s : slim b) W (h : Turned (fun _ => False) w1 W) => good38 (hb.turned0 (h2.1.trans h)) s
  have hka := fun W (h : Turned (fun _ => False) w1 W) => key67 (ha.turned0 (h2.1.trans h))
  have hkb := fun W (h : Turned (fun _ => False) w1 W) => key67 (hb.turned0 (h2.1.trans h))
  have hcab := fun (sa : slim a) (sb : slim b) (ga : goodB a = true) (gb : goodB b = true) W (h : Turned (fun _ => False) w1 W) => cmp68 (ha.turned0 (h2.1.trans h)) (hb.turned0 (h2.1.trans h)) sa sb ga gb
  rw [LT.val_eq a] at hda hga hka hcab ⊢
  rw [LT.val_eq b] at hdb hgb hkb hcab ⊢
  have HDa := Lib.hid hda
  have HDb := Lib.hid hdb
  have HGa := Lib.hid hga
  have HGb := Lib.hid hgb
  have HKA := Lib.hid hka
  have HKB := Lib.hid hkb
  have HCAB := Lib.hid hcab
  have HKP := Lib.hid hkp
  have HT1 := Lib.hid h2.1
  have HW := Lib.hid hw1
  clear hkp h2 hw1 hda hdb hga hgb hka hkb hcab ha hb
  cases da : deepB 40 a with
  | true =>
    rw [da] at HDa
    clear da
    go_enter Try.func11, Try.ntmps11
    go_wp2_with (first
      | (go_at_call 65; refine (awake65 _).mono ?_; rintro e W0 ⟨rfl, T0⟩; rw [← HW.out] at T0; have S0 := T0; obtain ⟨⟨c000, c001, c002, c003⟩, ⟨c010, c011, c012, c013⟩⟩ := HKP.out _ S0)
      | (go_at_call 66; (with_reducible refine (HDa.out _ S0).mono ?_); rintro e W1 ⟨rfl, T1⟩; have S1 := S0.trans T1; obtain ⟨⟨c100, c101, c102, c103⟩, ⟨c110, c111, c112, c113⟩⟩ := HKP.out _ S1))
    go_ret
    exact ⟨rfl, HT1.out.trans S1⟩
  | false =>
  rw [da] at HDa
  have HSa := Lib.hid (deep_slim 40 a da)
  clear da
  cases db : deepB 40 b with
  | true =>
    rw [db] at HDb
    clear db
    go_enter Try.func11, Try.ntmps11
    go_wp2_with (first
      | (go_at_call 65; refine (awake65 _).mono ?_; rintro e W0 ⟨rfl, T0⟩; rw [← HW.out] at T0; have S0 := T0; obtain ⟨⟨c000, c001, c002, c003⟩, ⟨c010, c011, c012, c013⟩⟩ := HKP.out _ S0)
      | (go_at_call 66; (with_reducible refine (HDa.out _ S0).mono ?_); rintro e W1 ⟨rfl, T1⟩; have S1 := S0.trans T1; obtain ⟨⟨c100, c101, c102, c103⟩, ⟨c110, c111, c112, c113⟩⟩ := HKP.out _ S1)
      | (go_at_call 66; (with_reducible refine (HDb.out _ S1).mono ?_); rintro e W2 ⟨rfl, T2⟩; have S2 := S1.trans T2; obtain ⟨⟨c200, c201, c202, c203⟩, ⟨c210, c211, c212, c213⟩⟩ := HKP.out _ S2))
    go_ret
    exact ⟨rfl, HT1.out.trans S2⟩
  | false =>
  rw [db] at HDb
  have HSb := Lib.hid (deep_slim 40 b db)
  clear db
  cases ga : goodB a with
  | false =>
    rw [ga] at HGa
    clear ga
    go_enter Try.func11, Try.ntmps11
    go_wp2_with (first
      | (go_at_call 65; refine (awake65 _).mono ?_; rintro e W0 ⟨rfl, T0⟩; rw [← HW.out] at T0; have S0 := T0; obtain ⟨⟨c000, c001, c002, c003⟩, ⟨c010, c011, c012, c013⟩⟩ := HKP.out _ S0)
      | (go_at_call 66; (with_reducible refine (HDa.out _ S0).mono ?_); rintro e W1 ⟨rfl, T1⟩; have S1 := S0.trans T1; obtain ⟨⟨c100, c101, c102, c103⟩, ⟨c110, c111, c112, c113⟩⟩ := HKP.out _ S1)
      | (go_at_call 66; (with_reducible refine (HDb.out _ S1).mono ?_); rintro e W2 ⟨rfl, T2⟩; have S2 := S1.trans T2; obtain ⟨⟨c200, c201, c202, c203⟩, ⟨c210, c211, c212, c213⟩⟩ := HKP.out _ S2)
      | (go_at_call 38; (with_reducible refine (HGa.out HSa.out _ S2).mono ?_); rintro e W3 ⟨rfl, T3⟩; have S3 := S2.trans T3; obtain ⟨⟨c300, c301, c302, c303⟩, ⟨c310, c311, c312, c313⟩⟩ := HKP.out _ S3))
    go_ret
    exact ⟨rfl, HT1.out.trans S3⟩
  | true =>
  rw [ga] at HGa
  have HQa := Lib.hid ga
  clear ga
  cases gb : goodB b with
  | false =>
    rw [gb] at HGb
    clear gb
    go_enter Try.func11, Try.ntmps11
    go_wp2_with (first
      | (go_at_call 65; refine (awake65 _).mono ?_; rintro e W0 ⟨rfl, T0⟩; rw [← HW.out] at T0; have S0 := T0; obtain ⟨⟨c000, c001, c002, c003⟩, ⟨c010, c011, c012, c013⟩⟩ := HKP.out _ S0)
      | (go_at_call 66; (with_reducible refine (HDa.out _ S0).mono ?_); rintro e W1 ⟨rfl, T1⟩; have S1 := S0.trans T1; obtain ⟨⟨c100, c101, c102, c103⟩, ⟨c110, c111, c112, c113⟩⟩ := HKP.out _ S1)
      | (go_at_call 66; (with_reducible refine (HDb.out _ S1).mono ?_); rintro e W2 ⟨rfl, T2⟩; have S2 := S1.trans T2; obtain ⟨⟨c200, c201, c202, c203⟩, ⟨c210, c211, c212, c213⟩⟩ := HKP.out _ S2)
      | (go_at_call 38; (with_reducible refine (HGa.out HSa.out _ S2).mono ?_); rintro e W3 ⟨rfl, T3⟩; have S3 := S2.trans T3; obtain ⟨⟨c300, c301, c302, c303⟩, ⟨c310, c311, c312, c313⟩⟩ := HKP.out _ S3)
      | (go_at_call 38; (with_reducible refine (HGb.out HSb.out _ S3).mono ?_); rintro e W4 ⟨rfl, T4⟩; have S4 := S3.trans T4; obtain ⟨⟨c400, c401, c402, c403⟩, ⟨c410, c411, c412, c413⟩⟩ := HKP.out _ S4))
    go_ret
    exact ⟨rfl, HT1.out.trans S4⟩
  | true =>
  rw [gb] at HGb
  have HQb := Lib.hid gb
  clear gb
  have hal : a.args.length ≤ 100000 := by have := good_size HQa.out; have := Tm.size_eq a; have := args_le a; omega
  have hbl : b.args.length ≤ 100000 := by have := good_size HQb.out; have := Tm.size_eq b; have := args_le b; omega
  have hc4 := HCAB.out HSa.out HSb.out HQa.out HQb.out
  obtain ⟨x, hx⟩ : ∃ x, x = Tm.cmp a b := ⟨_, rfl⟩
  have HX := Lib.hid hx
  have hr := Tm.cmp_range a b
  rw [← hx] at hc4 hr
  have HC4 := Lib.hid hc4
  have hka := HKA.out
  have hkb := HKB.out
  have hpa := Tm.place_kind HQa.out
  have hpb := Tm.place_kind HQb.out
  obtain ⟨pa, hpa'⟩ : ∃ z, z = Tm.place a := ⟨_, rfl⟩
  obtain ⟨pb, hpb'⟩ : ∃ z, z = Tm.place b := ⟨_, rfl⟩
  rw [← hpa'] at hka hpa
  rw [← hpb'] at hkb hpb
  replace HKA := Lib.hid hka
  replace HKB := Lib.hid hkb
  have HPA := Lib.hid hpa'
  have HPB := Lib.hid hpb'
  have HKIA := Lib.hid hpa
  have HKIB := Lib.hid hpb
  clear hc4 hx hka hkb hpa' hpb' hpa hpb HCAB
  by_cases hk : pa = pb
  rotate_left
  · have hn : (pa != pb) = true := by simp [hk]
    obtain ⟨e1, e2⟩ := Tm.keys_1 (a := a) (b := b) (by rw [← HPA.out, ← HPB.out]; exact hk)
    rw [← HX.out, ← HPA.out, ← HPB.out] at e1
    rw [← HX.out] at e2
    have hx0 : (x != 0) = true := by simp [e2]
    have HE := Lib.hid e1
    by_cases hl : pa < pb
    · have t1 : decide (pa < pb) = true := by simp [hl]
      have t2 : decide (x < 0) = true := by simp; exact e1.2 hl
      clear e1 e2 hl hk hr
      go_enter Try.func11, Try.ntmps11
      go_wp2_with (first
        | (go_at_call 65; refine (awake65 _).mono ?_; rintro e W0 ⟨rfl, T0⟩; rw [← HW.out] at T0; have S0 := T0; obtain ⟨⟨c000, c001, c002, c003⟩, ⟨c010, c011, c012, c013⟩⟩ := HKP.out _ S0)
        | (go_at_call 66; (with_reducible refine (HDa.out _ S0).mono ?_); rintro e W1 ⟨rfl, T1⟩; have S1 := S0.trans T1; obtain ⟨⟨c100, c101, c102, c103⟩, ⟨c110, c111, c112, c113⟩⟩ := HKP.out _ S1)
        | (go_at_call 66; (with_reducible refine (HDb.out _ S1).mono ?_); rintro e W2 ⟨rfl, T2⟩; have S2 := S1.trans T2; obtain ⟨⟨c200, c201, c202, c203⟩, ⟨c210, c211, c212, c213⟩⟩ := HKP.out _ S2)
        | (go_at_call 38; (with_reducible refine (HGa.out HSa.out _ S2).mono ?_); rintro e W3 ⟨rfl, T3⟩; have S3 := S2.trans T3; obtain ⟨⟨c300, c301, c302, c303⟩, ⟨c310, c311, c312, c313⟩⟩ := HKP.out _ S3)
        | (go_at_call 38; (with_reducible refine (HGb.out HSb.out _ S3).mono ?_); rintro e W4 ⟨rfl, T4⟩; have S4 := S3.trans T4; obtain ⟨⟨c400, c401, c402, c403⟩, ⟨c410, c411, c412, c413⟩⟩ := HKP.out _ S4)
        | (go_at_call 67; (with_reducible refine (HKA.out _ S4).mono ?_); rintro e W5 ⟨rfl, T5⟩; have S5 := S4.trans T5; obtain ⟨⟨c500, c501, c502, c503⟩, ⟨c510, c511, c512, c513⟩⟩ := HKP.out _ S5)
        | (go_at_call 67; (with_reducible refine (HKB.out _ S5).mono ?_); rintro e W6 ⟨rfl, T6⟩; have S6 := S5.trans T6; obtain ⟨⟨c600, c601, c602, c603⟩, ⟨c610, c611, c612, c613⟩⟩ := HKP.out _ S6)
        | (go_at_call 68; (with_reducible refine (HC4.out _ S6).mono ?_); rintro e W7 ⟨rfl, T7⟩; have S7 := S6.trans T7))
      all_goals
        go_ret
        first
          | exact ⟨rfl, HT1.out.trans S7⟩
          | (exfalso; contradiction)
          | (exfalso; omega)
          | (refine ⟨ret_bool ?_, HT1.out.trans S7⟩; simp [*]; done)
          | (refine ⟨ret_bool ?_, HT1.out.trans S7⟩; simp_all; done)
          | (trace_state; sorry)
    · have t1 : decide (pa < pb) = false := by simp; omega
      have t2 : decide (x < 0) = false := by simp; have := e1.1; omega
      clear e1 e2 hl hk hr
      go_enter Try.func11, Try.ntmps11
      go_wp2_with (first
        | (go_at_call 65; refine (awake65 _).mono ?_; rintro e W0 ⟨rfl, T0⟩; rw [← HW.out] at T0; have S0 := T0; obtain ⟨⟨c000, c001, c002, c003⟩, ⟨c010, c011, c012, c013⟩⟩ := HKP.out _ S0)
        | (go_at_call 66; (with_reducible refine (HDa.out _ S0).mono ?_); rintro e W1 ⟨rfl, T1⟩; have S1 := S0.trans T1; obtain ⟨⟨c100, c101, c102, c103⟩, ⟨c110, c111, c112, c113⟩⟩ := HKP.out _ S1)
        | (go_at_call 66; (with_reducible refine (HDb.out _ S1).mono ?_); rintro e W2 ⟨rfl, T2⟩; have S2 := S1.trans T2; obtain ⟨⟨c200, c201, c202, c203⟩, ⟨c210, c211, c212, c213⟩⟩ := HKP.out _ S2)
        | (go_at_call 38; (with_reducible refine (HGa.out HSa.out _ S2).mono ?_); rintro e W3 ⟨rfl, T3⟩; have S3 := S2.trans T3; obtain ⟨⟨c300, c301, c302, c303⟩, ⟨c310, c311, c312, c313⟩⟩ := HKP.out _ S3)
        | (go_at_call 38; (with_reducible refine (HGb.out HSb.out _ S3).mono ?_); rintro e W4 ⟨rfl, T4⟩; have S4 := S3.trans T4; obtain ⟨⟨c400, c401, c402, c403⟩, ⟨c410, c411, c412, c413⟩⟩ := HKP.out _ S4)
        | (go_at_call 67; (with_reducible refine (HKA.out _ S4).mono ?_); rintro e W5 ⟨rfl, T5⟩; have S5 := S4.trans T5; obtain ⟨⟨c500, c501, c502, c503⟩, ⟨c510, c511, c512, c513⟩⟩ := HKP.out _ S5)
        | (go_at_call 67; (with_reducible refine (HKB.out _ S5).mono ?_); rintro e W6 ⟨rfl, T6⟩; have S6 := S5.trans T6; obtain ⟨⟨c600, c601, c602, c603⟩, ⟨c610, c611, c612, c613⟩⟩ := HKP.out _ S6)
        | (go_at_call 68; (with_reducible refine (HC4.out _ S6).mono ?_); rintro e W7 ⟨rfl, T7⟩; have S7 := S6.trans T7))
      all_goals
        go_ret
        first
          | exact ⟨rfl, HT1.out.trans S7⟩
          | (exfalso; contradiction)
          | (exfalso; omega)
          | (refine ⟨ret_bool ?_, HT1.out.trans S7⟩; simp [*]; done)
          | (refine ⟨ret_bool ?_, HT1.out.trans S7⟩; simp_all; done)
          | (trace_state; sorry)
  have hn : (pa != pb) = false := by simp [hk]
  by_cases h3 : pa = 3 ∧ a.args.length ≠ b.args.length
  · obtain ⟨h3, hne⟩ := h3
    have k3 : (pa == 3) = true := by simp [h3]
    have kl : ((a.args.length : Int) != (b.args.length : Int)) = true := by simp; omega
    obtain ⟨e1, e2⟩ := Tm.keys_2 HQa.out HQb.out (by rw [← HPA.out, ← HPB.out]; exact hk) (by rw [← HPA.out]; exact h3) hne
    rw [← HX.out] at e1 e2
    have hx0 : (x != 0) = true := by simp [e2]
    by_cases hl : a.args.length < b.args.length
    · have t1 : decide ((a.args.length : Int) < (b.args.length : Int)) = true := by simp; omega
      have t2 : decide (x < 0) = true := by simp; exact e1.2 hl
      clear e1 e2 hl hk h3 hne hr
      go_enter Try.func11, Try.ntmps11
      go_wp2_with (first
        | (go_at_call 65; refine (awake65 _).mono ?_; rintro e W0 ⟨rfl, T0⟩; rw [← HW.out] at T0; have S0 := T0; obtain ⟨⟨c000, c001, c002, c003⟩, ⟨c010, c011, c012, c013⟩⟩ := HKP.out _ S0)
        | (go_at_call 66; (with_reducible refine (HDa.out _ S0).mono ?_); rintro e W1 ⟨rfl, T1⟩; have S1 := S0.trans T1; obtain ⟨⟨c100, c101, c102, c103⟩, ⟨c110, c111, c112, c113⟩⟩ := HKP.out _ S1)
        | (go_at_call 66; (with_reducible refine (HDb.out _ S1).mono ?_); rintro e W2 ⟨rfl, T2⟩; have S2 := S1.trans T2; obtain ⟨⟨c200, c201, c202, c203⟩, ⟨c210, c211, c212, c213⟩⟩ := HKP.out _ S2)
        | (go_at_call 38; (with_reducible refine (HGa.out HSa.out _ S2).mono ?_); rintro e W3 ⟨rfl, T3⟩; have S3 := S2.trans T3; obtain ⟨⟨c300, c301, c302, c303⟩, ⟨c310, c311, c312, c313⟩⟩ := HKP.out _ S3)
        | (go_at_call 38; (with_reducible refine (HGb.out HSb.out _ S3).mono ?_); rintro e W4 ⟨rfl, T4⟩; have S4 := S3.trans T4; obtain ⟨⟨c400, c401, c402, c403⟩, ⟨c410, c411, c412, c413⟩⟩ := HKP.out _ S4)
        | (go_at_call 67; (with_reducible refine (HKA.out _ S4).mono ?_); rintro e W5 ⟨rfl, T5⟩; have S5 := S4.trans T5; obtain ⟨⟨c500, c501, c502, c503⟩, ⟨c510, c511, c512, c513⟩⟩ := HKP.out _ S5)
        | (go_at_call 67; (with_reducible refine (HKB.out _ S5).mono ?_); rintro e W6 ⟨rfl, T6⟩; have S6 := S5.trans T6; obtain ⟨⟨c600, c601, c602, c603⟩, ⟨c610, c611, c612, c613⟩⟩ := HKP.out _ S6)
        | (go_at_call 68; (with_reducible refine (HC4.out _ S6).mono ?_); rintro e W7 ⟨rfl, T7⟩; have S7 := S6.trans T7))
      all_goals
        go_ret
        first
          | exact ⟨rfl, HT1.out.trans S7⟩
          | (exfalso; contradiction)
          | (exfalso; omega)
          | (refine ⟨ret_bool ?_, HT1.out.trans S7⟩; simp [*]; done)
          | (refine ⟨ret_bool ?_, HT1.out.trans S7⟩; simp_all; done)
          | (trace_state; sorry)
    · have t1 : decide ((a.args.length : Int) < (b.args.length : Int)) = false := by simp; omega
      have t2 : decide (x < 0) = false := by simp; have := e1.1; omega
      clear e1 e2 hl hk h3 hne hr
      go_enter Try.func11, Try.ntmps11
      go_wp2_with (first
        | (go_at_call 65; refine (awake65 _).mono ?_; rintro e W0 ⟨rfl, T0⟩; rw [← HW.out] at T0; have S0 := T0; obtain ⟨⟨c000, c001, c002, c003⟩, ⟨c010, c011, c012, c013⟩⟩ := HKP.out _ S0)
        | (go_at_call 66; (with_reducible refine (HDa.out _ S0).mono ?_); rintro e W1 ⟨rfl, T1⟩; have S1 := S0.trans T1; obtain ⟨⟨c100, c101, c102, c103⟩, ⟨c110, c111, c112, c113⟩⟩ := HKP.out _ S1)
        | (go_at_call 66; (with_reducible refine (HDb.out _ S1).mono ?_); rintro e W2 ⟨rfl, T2⟩; have S2 := S1.trans T2; obtain ⟨⟨c200, c201, c202, c203⟩, ⟨c210, c211, c212, c213⟩⟩ := HKP.out _ S2)
        | (go_at_call 38; (with_reducible refine (HGa.out HSa.out _ S2).mono ?_); rintro e W3 ⟨rfl, T3⟩; have S3 := S2.trans T3; obtain ⟨⟨c300, c301, c302, c303⟩, ⟨c310, c311, c312, c313⟩⟩ := HKP.out _ S3)
        | (go_at_call 38; (with_reducible refine (HGb.out HSb.out _ S3).mono ?_); rintro e W4 ⟨rfl, T4⟩; have S4 := S3.trans T4; obtain ⟨⟨c400, c401, c402, c403⟩, ⟨c410, c411, c412, c413⟩⟩ := HKP.out _ S4)
        | (go_at_call 67; (with_reducible refine (HKA.out _ S4).mono ?_); rintro e W5 ⟨rfl, T5⟩; have S5 := S4.trans T5; obtain ⟨⟨c500, c501, c502, c503⟩, ⟨c510, c511, c512, c513⟩⟩ := HKP.out _ S5)
        | (go_at_call 67; (with_reducible refine (HKB.out _ S5).mono ?_); rintro e W6 ⟨rfl, T6⟩; have S6 := S5.trans T6; obtain ⟨⟨c600, c601, c602, c603⟩, ⟨c610, c611, c612, c613⟩⟩ := HKP.out _ S6)
        | (go_at_call 68; (with_reducible refine (HC4.out _ S6).mono ?_); rintro e W7 ⟨rfl, T7⟩; have S7 := S6.trans T7))
      all_goals
        go_ret
        first
          | exact ⟨rfl, HT1.out.trans S7⟩
          | (exfalso; contradiction)
          | (exfalso; omega)
          | (refine ⟨ret_bool ?_, HT1.out.trans S7⟩; simp [*]; done)
          | (refine ⟨ret_bool ?_, HT1.out.trans S7⟩; simp_all; done)
          | (trace_state; sorry)
  have HH3 := Lib.hid h3
  have h30 : (pa == 3) = false ∨ ((pa == 3) = true ∧ ((a.args.length : Int) != (b.args.length : Int)) = false) := by
    by_cases e : pa = 3
    · refine .inr ⟨by simp [e], ?_⟩
      have : a.args.length = b.args.length := by
        by_cases e' : a.args.length = b.args.length
        · exact e'
        · exact absurd ⟨e, e'⟩ h3
      simp; omega
    · exact .inl (by simp [e])
  have HPK := Lib.hid hk
  clear h3 hk
  by_cases hnm : a.name = b.name
  · have nb : a.name.toList = b.name.toList := by rw [hnm]
    have HNM := Lib.hid hnm
    clear hnm
    rcases HKIA.out with ⟨p, q, r⟩ | ⟨p, q, r⟩ | ⟨p, q, r, s⟩ | ⟨p, q, r, s⟩
    · have u1 : decide (pa < 2) = true := by simp; omega
      have u2 : (pa == 3) = false := by simp; omega
      clear p q r h30 hr
      go_enter Try.func11, Try.ntmps11
      go_wp2_with (first
        | (go_at_call 65; refine (awake65 _).mono ?_; rintro e W0 ⟨rfl, T0⟩; rw [← HW.out] at T0; have S0 := T0; obtain ⟨⟨c000, c001, c002, c003⟩, ⟨c010, c011, c012, c013⟩⟩ := HKP.out _ S0)
        | (go_at_call 66; (with_reducible refine (HDa.out _ S0).mono ?_); rintro e W1 ⟨rfl, T1⟩; have S1 := S0.trans T1; obtain ⟨⟨c100, c101, c102, c103⟩, ⟨c110, c111, c112, c113⟩⟩ := HKP.out _ S1)
        | (go_at_call 66; (with_reducible refine (HDb.out _ S1).mono ?_); rintro e W2 ⟨rfl, T2⟩; have S2 := S1.trans T2; obtain ⟨⟨c200, c201, c202, c203⟩, ⟨c210, c211, c212, c213⟩⟩ := HKP.out _ S2)
        | (go_at_call 38; (with_reducible refine (HGa.out HSa.out _ S2).mono ?_); rintro e W3 ⟨rfl, T3⟩; have S3 := S2.trans T3; obtain ⟨⟨c300, c301, c302, c303⟩, ⟨c310, c311, c312, c313⟩⟩ := HKP.out _ S3)
        | (go_at_call 38; (with_reducible refine (HGb.out HSb.out _ S3).mono ?_); rintro e W4 ⟨rfl, T4⟩; have S4 := S3.trans T4; obtain ⟨⟨c400, c401, c402, c403⟩, ⟨c410, c411, c412, c413⟩⟩ := HKP.out _ S4)
        | (go_at_call 67; (with_reducible refine (HKA.out _ S4).mono ?_); rintro e W5 ⟨rfl, T5⟩; have S5 := S4.trans T5; obtain ⟨⟨c500, c501, c502, c503⟩, ⟨c510, c511, c512, c513⟩⟩ := HKP.out _ S5)
        | (go_at_call 67; (with_reducible refine (HKB.out _ S5).mono ?_); rintro e W6 ⟨rfl, T6⟩; have S6 := S5.trans T6; obtain ⟨⟨c600, c601, c602, c603⟩, ⟨c610, c611, c612, c613⟩⟩ := HKP.out _ S6)
        | (go_at_call 68; (with_reducible refine (HC4.out _ S6).mono ?_); rintro e W7 ⟨rfl, T7⟩; have S7 := S6.trans T7))
      all_goals
        go_ret
        first
          | exact ⟨rfl, HT1.out.trans S7⟩
          | (exfalso; contradiction)
          | (exfalso; omega)
          | (refine ⟨ret_bool ?_, HT1.out.trans S7⟩; simp [*]; done)
          | (refine ⟨ret_bool ?_, HT1.out.trans S7⟩; simp_all; done)
          | (trace_state; sorry)
    · have u1 : decide (pa < 2) = true := by simp; omega
      have u2 : (pa == 3) = false := by simp; omega
      clear p q r h30 hr
      go_enter Try.func11, Try.ntmps11
      go_wp2_with (first
        | (go_at_call 65; refine (awake65 _).mono ?_; rintro e W0 ⟨rfl, T0⟩; rw [← HW.out] at T0; have S0 := T0; obtain ⟨⟨c000, c001, c002, c003⟩, ⟨c010, c011, c012, c013⟩⟩ := HKP.out _ S0)
        | (go_at_call 66; (with_reducible refine (HDa.out _ S0).mono ?_); rintro e W1 ⟨rfl, T1⟩; have S1 := S0.trans T1; obtain ⟨⟨c100, c101, c102, c103⟩, ⟨c110, c111, c112, c113⟩⟩ := HKP.out _ S1)
        | (go_at_call 66; (with_reducible refine (HDb.out _ S1).mono ?_); rintro e W2 ⟨rfl, T2⟩; have S2 := S1.trans T2; obtain ⟨⟨c200, c201, c202, c203⟩, ⟨c210, c211, c212, c213⟩⟩ := HKP.out _ S2)
        | (go_at_call 38; (with_reducible refine (HGa.out HSa.out _ S2).mono ?_); rintro e W3 ⟨rfl, T3⟩; have S3 := S2.trans T3; obtain ⟨⟨c300, c301, c302, c303⟩, ⟨c310, c311, c312, c313⟩⟩ := HKP.out _ S3)
        | (go_at_call 38; (with_reducible refine (HGb.out HSb.out _ S3).mono ?_); rintro e W4 ⟨rfl, T4⟩; have S4 := S3.trans T4; obtain ⟨⟨c400, c401, c402, c403⟩, ⟨c410, c411, c412, c413⟩⟩ := HKP.out _ S4)
        | (go_at_call 67; (with_reducible refine (HKA.out _ S4).mono ?_); rintro e W5 ⟨rfl, T5⟩; have S5 := S4.trans T5; obtain ⟨⟨c500, c501, c502, c503⟩, ⟨c510, c511, c512, c513⟩⟩ := HKP.out _ S5)
        | (go_at_call 67; (with_reducible refine (HKB.out _ S5).mono ?_); rintro e W6 ⟨rfl, T6⟩; have S6 := S5.trans T6; obtain ⟨⟨c600, c601, c602, c603⟩, ⟨c610, c611, c612, c613⟩⟩ := HKP.out _ S6)
        | (go_at_call 68; (with_reducible refine (HC4.out _ S6).mono ?_); rintro e W7 ⟨rfl, T7⟩; have S7 := S6.trans T7))
      all_goals
        go_ret
        first
          | exact ⟨rfl, HT1.out.trans S7⟩
          | (exfalso; contradiction)
          | (exfalso; omega)
          | (refine ⟨ret_bool ?_, HT1.out.trans S7⟩; simp [*]; done)
          | (refine ⟨ret_bool ?_, HT1.out.trans S7⟩; simp_all; done)
          | (trace_state; sorry)
    · have u1 : decide (pa < 2) = false := by simp; omega
      have u2 : (pa == 3) = false := by simp; omega
      have hx0 : x = 0 := by rw [HX.out]; exact Tm.keys_4 HQa.out HQb.out (by rw [← HPA.out, ← HPB.out]; exact HPK.out) HNM.out (by rw [← HPA.out]; exact p)
      have u3 : (x == 0) = true := by simp [hx0]
      clear p q r s h30 hr hx0
      go_enter Try.func11, Try.ntmps11
      go_wp2_with (first
        | (go_at_call 65; refine (awake65 _).mono ?_; rintro e W0 ⟨rfl, T0⟩; rw [← HW.out] at T0; have S0 := T0; obtain ⟨⟨c000, c001, c002, c003⟩, ⟨c010, c011, c012, c013⟩⟩ := HKP.out _ S0)
        | (go_at_call 66; (with_reducible refine (HDa.out _ S0).mono ?_); rintro e W1 ⟨rfl, T1⟩; have S1 := S0.trans T1; obtain ⟨⟨c100, c101, c102, c103⟩, ⟨c110, c111, c112, c113⟩⟩ := HKP.out _ S1)
        | (go_at_call 66; (with_reducible refine (HDb.out _ S1).mono ?_); rintro e W2 ⟨rfl, T2⟩; have S2 := S1.trans T2; obtain ⟨⟨c200, c201, c202, c203⟩, ⟨c210, c211, c212, c213⟩⟩ := HKP.out _ S2)
        | (go_at_call 38; (with_reducible refine (HGa.out HSa.out _ S2).mono ?_); rintro e W3 ⟨rfl, T3⟩; have S3 := S2.trans T3; obtain ⟨⟨c300, c301, c302, c303⟩, ⟨c310, c311, c312, c313⟩⟩ := HKP.out _ S3)
        | (go_at_call 38; (with_reducible refine (HGb.out HSb.out _ S3).mono ?_); rintro e W4 ⟨rfl, T4⟩; have S4 := S3.trans T4; obtain ⟨⟨c400, c401, c402, c403⟩, ⟨c410, c411, c412, c413⟩⟩ := HKP.out _ S4)
        | (go_at_call 67; (with_reducible refine (HKA.out _ S4).mono ?_); rintro e W5 ⟨rfl, T5⟩; have S5 := S4.trans T5; obtain ⟨⟨c500, c501, c502, c503⟩, ⟨c510, c511, c512, c513⟩⟩ := HKP.out _ S5)
        | (go_at_call 67; (with_reducible refine (HKB.out _ S5).mono ?_); rintro e W6 ⟨rfl, T6⟩; have S6 := S5.trans T6; obtain ⟨⟨c600, c601, c602, c603⟩, ⟨c610, c611, c612, c613⟩⟩ := HKP.out _ S6)
        | (go_at_call 68; (with_reducible refine (HC4.out _ S6).mono ?_); rintro e W7 ⟨rfl, T7⟩; have S7 := S6.trans T7))
      all_goals
        go_ret
        first
          | exact ⟨rfl, HT1.out.trans S7⟩
          | (exfalso; contradiction)
          | (exfalso; omega)
          | (refine ⟨ret_bool ?_, HT1.out.trans S7⟩; simp [*]; done)
          | (refine ⟨ret_bool ?_, HT1.out.trans S7⟩; simp_all; done)
          | (trace_state; sorry)
    · have u1 : decide (pa < 2) = false := by simp; omega
      have u2 : (pa == 3) = true := by simp; omega
      have u4 : ((a.args.length : Int) != (b.args.length : Int)) = false := by
        rcases h30 with e | ⟨_, e⟩
        · rw [u2] at e; cases e
        · exact e
      clear p q r s h30 hr
      go_enter Try.func11, Try.ntmps11
      go_wp2_with (first
        | (go_at_call 65; refine (awake65 _).mono ?_; rintro e W0 ⟨rfl, T0⟩; rw [← HW.out] at T0; have S0 := T0; obtain ⟨⟨c000, c001, c002, c003⟩, ⟨c010, c011, c012, c013⟩⟩ := HKP.out _ S0)
        | (go_at_call 66; (with_reducible refine (HDa.out _ S0).mono ?_); rintro e W1 ⟨rfl, T1⟩; have S1 := S0.trans T1; obtain ⟨⟨c100, c101, c102, c103⟩, ⟨c110, c111, c112, c113⟩⟩ := HKP.out _ S1)
        | (go_at_call 66; (with_reducible refine (HDb.out _ S1).mono ?_); rintro e W2 ⟨rfl, T2⟩; have S2 := S1.trans T2; obtain ⟨⟨c200, c201, c202, c203⟩, ⟨c210, c211, c212, c213⟩⟩ := HKP.out _ S2)
        | (go_at_call 38; (with_reducible refine (HGa.out HSa.out _ S2).mono ?_); rintro e W3 ⟨rfl, T3⟩; have S3 := S2.trans T3; obtain ⟨⟨c300, c301, c302, c303⟩, ⟨c310, c311, c312, c313⟩⟩ := HKP.out _ S3)
        | (go_at_call 38; (with_reducible refine (HGb.out HSb.out _ S3).mono ?_); rintro e W4 ⟨rfl, T4⟩; have S4 := S3.trans T4; obtain ⟨⟨c400, c401, c402, c403⟩, ⟨c410, c411, c412, c413⟩⟩ := HKP.out _ S4)
        | (go_at_call 67; (with_reducible refine (HKA.out _ S4).mono ?_); rintro e W5 ⟨rfl, T5⟩; have S5 := S4.trans T5; obtain ⟨⟨c500, c501, c502, c503⟩, ⟨c510, c511, c512, c513⟩⟩ := HKP.out _ S5)
        | (go_at_call 67; (with_reducible refine (HKB.out _ S5).mono ?_); rintro e W6 ⟨rfl, T6⟩; have S6 := S5.trans T6; obtain ⟨⟨c600, c601, c602, c603⟩, ⟨c610, c611, c612, c613⟩⟩ := HKP.out _ S6)
        | (go_at_call 68; (with_reducible refine (HC4.out _ S6).mono ?_); rintro e W7 ⟨rfl, T7⟩; have S7 := S6.trans T7))
      all_goals
        go_ret
        first
          | exact ⟨rfl, HT1.out.trans S7⟩
          | (exfalso; contradiction)
          | (exfalso; omega)
          | (refine ⟨ret_bool ?_, HT1.out.trans S7⟩; simp [*]; done)
          | (refine ⟨ret_bool ?_, HT1.out.trans S7⟩; simp_all; done)
          | (trace_state; sorry)
  · have nb : ¬ (a.name.toList = b.name.toList) := by have := str_neq hnm; simpa using this
    obtain ⟨e1, e2⟩ := Tm.keys_3 HQa.out HQb.out (by rw [← HPA.out, ← HPB.out]; exact HPK.out) (fun e => by
      by_cases e' : a.args.length = b.args.length
      · exact e'
      · exact absurd ⟨(HPA.out.trans e), e'⟩ HH3.out) hnm
    rw [← HX.out] at e1 e2
    have hx0 : (x != 0) = true := by simp [e2]
    have hls := less_cmp a.name b.name
    rw [← e1] at hls
    clear hnm e2 e1
    by_cases hl : x < 0
    · have t2 : decide (x < 0) = true := by simp [hl]
      rw [t2] at hls
      rcases h30 with h30 | ⟨h31, h30⟩
      · clear hl hr
        go_enter Try.func11, Try.ntmps11
        go_wp2_with (first
          | (go_at_call 65; refine (awake65 _).mono ?_; rintro e W0 ⟨rfl, T0⟩; rw [← HW.out] at T0; have S0 := T0; obtain ⟨⟨c000, c001, c002, c003⟩, ⟨c010, c011, c012, c013⟩⟩ := HKP.out _ S0)
          | (go_at_call 66; (with_reducible refine (HDa.out _ S0).mono ?_); rintro e W1 ⟨rfl, T1⟩; have S1 := S0.trans T1; obtain ⟨⟨c100, c101, c102, c103⟩, ⟨c110, c111, c112, c113⟩⟩ := HKP.out _ S1)
          | (go_at_call 66; (with_reducible refine (HDb.out _ S1).mono ?_); rintro e W2 ⟨rfl, T2⟩; have S2 := S1.trans T2; obtain ⟨⟨c200, c201, c202, c203⟩, ⟨c210, c211, c212, c213⟩⟩ := HKP.out _ S2)
          | (go_at_call 38; (with_reducible refine (HGa.out HSa.out _ S2).mono ?_); rintro e W3 ⟨rfl, T3⟩; have S3 := S2.trans T3; obtain ⟨⟨c300, c301, c302, c303⟩, ⟨c310, c311, c312, c313⟩⟩ := HKP.out _ S3)
          | (go_at_call 38; (with_reducible refine (HGb.out HSb.out _ S3).mono ?_); rintro e W4 ⟨rfl, T4⟩; have S4 := S3.trans T4; obtain ⟨⟨c400, c401, c402, c403⟩, ⟨c410, c411, c412, c413⟩⟩ := HKP.out _ S4)
          | (go_at_call 67; (with_reducible refine (HKA.out _ S4).mono ?_); rintro e W5 ⟨rfl, T5⟩; have S5 := S4.trans T5; obtain ⟨⟨c500, c501, c502, c503⟩, ⟨c510, c511, c512, c513⟩⟩ := HKP.out _ S5)
          | (go_at_call 67; (with_reducible refine (HKB.out _ S5).mono ?_); rintro e W6 ⟨rfl, T6⟩; have S6 := S5.trans T6; obtain ⟨⟨c600, c601, c602, c603⟩, ⟨c610, c611, c612, c613⟩⟩ := HKP.out _ S6)
          | (go_at_call 68; (with_reducible refine (HC4.out _ S6).mono ?_); rintro e W7 ⟨rfl, T7⟩; have S7 := S6.trans T7))
        all_goals
          go_ret
          first
            | exact ⟨rfl, HT1.out.trans S7⟩
            | (exfalso; contradiction)
            | (exfalso; omega)
            | (refine ⟨ret_bool ?_, HT1.out.trans S7⟩; simp [*]; done)
            | (refine ⟨ret_bool ?_, HT1.out.trans S7⟩; simp_all; done)
            | (trace_state; sorry)
      · clear hl hr
        go_enter Try.func11, Try.ntmps11
        go_wp2_with (first
          | (go_at_call 65; refine (awake65 _).mono ?_; rintro e W0 ⟨rfl, T0⟩; rw [← HW.out] at T0; have S0 := T0; obtain ⟨⟨c000, c001, c002, c003⟩, ⟨c010, c011, c012, c013⟩⟩ := HKP.out _ S0)
          | (go_at_call 66; (with_reducible refine (HDa.out _ S0).mono ?_); rintro e W1 ⟨rfl, T1⟩; have S1 := S0.trans T1; obtain ⟨⟨c100, c101, c102, c103⟩, ⟨c110, c111, c112, c113⟩⟩ := HKP.out _ S1)
          | (go_at_call 66; (with_reducible refine (HDb.out _ S1).mono ?_); rintro e W2 ⟨rfl, T2⟩; have S2 := S1.trans T2; obtain ⟨⟨c200, c201, c202, c203⟩, ⟨c210, c211, c212, c213⟩⟩ := HKP.out _ S2)
          | (go_at_call 38; (with_reducible refine (HGa.out HSa.out _ S2).mono ?_); rintro e W3 ⟨rfl, T3⟩; have S3 := S2.trans T3; obtain ⟨⟨c300, c301, c302, c303⟩, ⟨c310, c311, c312, c313⟩⟩ := HKP.out _ S3)
          | (go_at_call 38; (with_reducible refine (HGb.out HSb.out _ S3).mono ?_); rintro e W4 ⟨rfl, T4⟩; have S4 := S3.trans T4; obtain ⟨⟨c400, c401, c402, c403⟩, ⟨c410, c411, c412, c413⟩⟩ := HKP.out _ S4)
          | (go_at_call 67; (with_reducible refine (HKA.out _ S4).mono ?_); rintro e W5 ⟨rfl, T5⟩; have S5 := S4.trans T5; obtain ⟨⟨c500, c501, c502, c503⟩, ⟨c510, c511, c512, c513⟩⟩ := HKP.out _ S5)
          | (go_at_call 67; (with_reducible refine (HKB.out _ S5).mono ?_); rintro e W6 ⟨rfl, T6⟩; have S6 := S5.trans T6; obtain ⟨⟨c600, c601, c602, c603⟩, ⟨c610, c611, c612, c613⟩⟩ := HKP.out _ S6)
          | (go_at_call 68; (with_reducible refine (HC4.out _ S6).mono ?_); rintro e W7 ⟨rfl, T7⟩; have S7 := S6.trans T7))
        all_goals
          go_ret
          first
            | exact ⟨rfl, HT1.out.trans S7⟩
            | (exfalso; contradiction)
            | (exfalso; omega)
            | (refine ⟨ret_bool ?_, HT1.out.trans S7⟩; simp [*]; done)
            | (refine ⟨ret_bool ?_, HT1.out.trans S7⟩; simp_all; done)
            | (trace_state; sorry)
    · have t2 : decide (x < 0) = false := by simp; omega
      rw [t2] at hls
      rcases h30 with h30 | ⟨h31, h30⟩
      · clear hl hr
        go_enter Try.func11, Try.ntmps11
        go_wp2_with (first
          | (go_at_call 65; refine (awake65 _).mono ?_; rintro e W0 ⟨rfl, T0⟩; rw [← HW.out] at T0; have S0 := T0; obtain ⟨⟨c000, c001, c002, c003⟩, ⟨c010, c011, c012, c013⟩⟩ := HKP.out _ S0)
          | (go_at_call 66; (with_reducible refine (HDa.out _ S0).mono ?_); rintro e W1 ⟨rfl, T1⟩; have S1 := S0.trans T1; obtain ⟨⟨c100, c101, c102, c103⟩, ⟨c110, c111, c112, c113⟩⟩ := HKP.out _ S1)
          | (go_at_call 66; (with_reducible refine (HDb.out _ S1).mono ?_); rintro e W2 ⟨rfl, T2⟩; have S2 := S1.trans T2; obtain ⟨⟨c200, c201, c202, c203⟩, ⟨c210, c211, c212, c213⟩⟩ := HKP.out _ S2)
          | (go_at_call 38; (with_reducible refine (HGa.out HSa.out _ S2).mono ?_); rintro e W3 ⟨rfl, T3⟩; have S3 := S2.trans T3; obtain ⟨⟨c300, c301, c302, c303⟩, ⟨c310, c311, c312, c313⟩⟩ := HKP.out _ S3)
          | (go_at_call 38; (with_reducible refine (HGb.out HSb.out _ S3).mono ?_); rintro e W4 ⟨rfl, T4⟩; have S4 := S3.trans T4; obtain ⟨⟨c400, c401, c402, c403⟩, ⟨c410, c411, c412, c413⟩⟩ := HKP.out _ S4)
          | (go_at_call 67; (with_reducible refine (HKA.out _ S4).mono ?_); rintro e W5 ⟨rfl, T5⟩; have S5 := S4.trans T5; obtain ⟨⟨c500, c501, c502, c503⟩, ⟨c510, c511, c512, c513⟩⟩ := HKP.out _ S5)
          | (go_at_call 67; (with_reducible refine (HKB.out _ S5).mono ?_); rintro e W6 ⟨rfl, T6⟩; have S6 := S5.trans T6; obtain ⟨⟨c600, c601, c602, c603⟩, ⟨c610, c611, c612, c613⟩⟩ := HKP.out _ S6)
          | (go_at_call 68; (with_reducible refine (HC4.out _ S6).mono ?_); rintro e W7 ⟨rfl, T7⟩; have S7 := S6.trans T7))
        all_goals
          go_ret
          first
            | exact ⟨rfl, HT1.out.trans S7⟩
            | (exfalso; contradiction)
            | (exfalso; omega)
            | (refine ⟨ret_bool ?_, HT1.out.trans S7⟩; simp [*]; done)
            | (refine ⟨ret_bool ?_, HT1.out.trans S7⟩; simp_all; done)
            | (trace_state; sorry)
      · clear hl hr
        go_enter Try.func11, Try.ntmps11
        go_wp2_with (first
          | (go_at_call 65; refine (awake65 _).mono ?_; rintro e W0 ⟨rfl, T0⟩; rw [← HW.out] at T0; have S0 := T0; obtain ⟨⟨c000, c001, c002, c003⟩, ⟨c010, c011, c012, c013⟩⟩ := HKP.out _ S0)
          | (go_at_call 66; (with_reducible refine (HDa.out _ S0).mono ?_); rintro e W1 ⟨rfl, T1⟩; have S1 := S0.trans T1; obtain ⟨⟨c100, c101, c102, c103⟩, ⟨c110, c111, c112, c113⟩⟩ := HKP.out _ S1)
          | (go_at_call 66; (with_reducible refine (HDb.out _ S1).mono ?_); rintro e W2 ⟨rfl, T2⟩; have S2 := S1.trans T2; obtain ⟨⟨c200, c201, c202, c203⟩, ⟨c210, c211, c212, c213⟩⟩ := HKP.out _ S2)
          | (go_at_call 38; (with_reducible refine (HGa.out HSa.out _ S2).mono ?_); rintro e W3 ⟨rfl, T3⟩; have S3 := S2.trans T3; obtain ⟨⟨c300, c301, c302, c303⟩, ⟨c310, c311, c312, c313⟩⟩ := HKP.out _ S3)
          | (go_at_call 38; (with_reducible refine (HGb.out HSb.out _ S3).mono ?_); rintro e W4 ⟨rfl, T4⟩; have S4 := S3.trans T4; obtain ⟨⟨c400, c401, c402, c403⟩, ⟨c410, c411, c412, c413⟩⟩ := HKP.out _ S4)
          | (go_at_call 67; (with_reducible refine (HKA.out _ S4).mono ?_); rintro e W5 ⟨rfl, T5⟩; have S5 := S4.trans T5; obtain ⟨⟨c500, c501, c502, c503⟩, ⟨c510, c511, c512, c513⟩⟩ := HKP.out _ S5)
          | (go_at_call 67; (with_reducible refine (HKB.out _ S5).mono ?_); rintro e W6 ⟨rfl, T6⟩; have S6 := S5.trans T6; obtain ⟨⟨c600, c601, c602, c603⟩, ⟨c610, c611, c612, c613⟩⟩ := HKP.out _ S6)
          | (go_at_call 68; (with_reducible refine (HC4.out _ S6).mono ?_); rintro e W7 ⟨rfl, T7⟩; have S7 := S6.trans T7))
        all_goals
          go_ret
          first
            | exact ⟨rfl, HT1.out.trans S7⟩
            | (exfalso; contradiction)
            | (exfalso; omega)
            | (refine ⟨ret_bool ?_, HT1.out.trans S7⟩; simp [*]; done)
            | (refine ⟨ret_bool ?_, HT1.out.trans S7⟩; simp_all; done)
            | (trace_state; sorry)
end Go.Proofs.Ytoihjobdfjajfaa

/- AliasMore: the walk. -/
import Derived.Test.YtoihjobdfjajfaaAL7
namespace Go.Proofs.Ytoihjobdfjajfaa
set_option linter.unusedVariables false
set_option linter.unusedSimpArgs false
open Go.RowKit Go.Maps
section
variable {a b c : LT} (ga : goodB a = true) (gb : goodB b = true) (gc : goodB c = true)
include ga
theorem leafyB : Tm.leafy a.bare := good_leafy (by rw [goodB_bare]; exact ga)
theorem moreB_self : moreB a a = true := by
  unfold moreB; rw [ga]
  simp only [Bool.true_and]
  exact Tm.moreS_refl (leafyB ga)
include gb
theorem moreB_eq : moreB a b = Tm.moreS a.bare b.bare := by unfold moreB; rw [ga, gb]; rfl
theorem alikeB_eq : alikeB a b = Tm.same (Tm.plainT a.bare) (Tm.plainT b.bare) := by unfold alikeB; rw [ga, gb]; rfl
theorem moreB_alike : (moreB a b && moreB b a) = alikeB a b := by
  rw [moreB_eq ga gb, moreB_eq gb ga, alikeB_eq ga gb, Bool.eq_iff_iff, Bool.and_eq_true, Tm.same_unit]
  exact ⟨fun h => Tm.more_alike (leafyB ga) (leafyB gb) h.1 h.2, fun h => ⟨Tm.alike_more (leafyB ga) (leafyB gb) h, Tm.alike_more (leafyB gb) (leafyB ga) h.symm⟩⟩
theorem alikeB_comm : alikeB a b = alikeB b a := by
  rw [alikeB_eq ga gb, alikeB_eq gb ga, Bool.eq_iff_iff, Tm.same_unit, Tm.same_unit]
  exact eq_comm
include gc
theorem moreB_trans : (!moreB a b || !moreB b c || moreB a c) = true := by
  rw [moreB_eq ga gb, moreB_eq gb gc, moreB_eq ga gc]
  cases h : Tm.moreS a.bare b.bare with
  | false => rfl
  | true =>
    cases k : Tm.moreS b.bare c.bare with
    | false => rfl
    | true => rw [Tm.moreS_trans h k]; rfl
end
set_option maxRecDepth 100000 in
set_option maxHeartbeats 6400000 in
theorem aliasMore {a b c : LT} {w : World} (ha : a.In (fun _ => True) w) (hb : b.In (fun _ => True) w) (hc : c.In (fun _ => True) w) :
    Calls Try.prog 18 #[a.val, b.val, c.val] w fun e w' => e = .returned (.bool true) ∧ Turned (fun _ => False) w w' := by
  have h3 := three w (.cells #[.int .i64 a.kind, .int .i64 a.n, .string a.name, .slice a.at_.1 a.args.length a.at_.2] 27) (.cells #[.int .i64 b.kind, .int .i64 b.n, .string b.name, .slice b.at_.1 b.args.length b.at_.2] 27) (.cells #[.int .i64 c.kind, .int .i64 c.n, .string c.name, .slice c.at_.1 c.args.length c.at_.2] 27)
  obtain ⟨w1, hw1⟩ : ∃ z, z = ((w.alloc (.cells #[.int .i64 a.kind, .int .i64 a.n, .string a.name, .slice a.at_.1 a.args.length a.at_.2] 27)).alloc (.cells #[.int .i64 b.kind, .int .i64 b.n, .string b.name, .slice b.at_.1 b.args.length b.at_.2] 27)).alloc (.cells #[.int .i64 c.kind, .int .i64 c.n, .string c.name, .slice c.at_.1 c.args.length c.at_.2] 27) := ⟨_, rfl⟩
  rw [← hw1] at h3
  have hkp : ∀ W, Turned (fun _ => False) w1 W → (W.cell? ⟨w.heap.size, 0, none⟩ = some (.int .i64 a.kind) ∧ W.cell? ⟨w.heap.size, 1, none⟩ = some (.int .i64 a.n) ∧ W.cell? ⟨w.heap.size, 2, none⟩ = some (.string a.name) ∧ W.cell? ⟨w.heap.size, 3, none⟩ = some (.slice a.at_.1 a.args.length a.at_.2)) ∧ (W.cell? ⟨(w.heap.size + 1), 0, none⟩ = some (.int .i64 b.kind) ∧ W.cell? ⟨(w.heap.size + 1), 1, none⟩ = some (.int .i64 b.n) ∧ W.cell? ⟨(w.heap.size + 1), 2, none⟩ = some (.string b.name) ∧ W.cell? ⟨(w.heap.size + 1), 3, none⟩ = some (.slice b.at_.1 b.args.length b.at_.2)) ∧ (W.cell? ⟨(w.heap.size + 2), 0, none⟩ = some (.int .i64 c.kind) ∧ W.cell? ⟨(w.heap.size + 2), 1, none⟩ = some (.int .i64 c.n) ∧ W.cell? ⟨(w.heap.size + 2), 2, none⟩ = some (.string c.name) ∧ W.cell? ⟨(w.heap.size + 2), 3, none⟩ = some (.slice c.at_.1 c.args.length c.at_.2)) := fun W h =>
    ⟨four_of ((h.block _ (by have := h3.2.1; omega) (fun f => f)).trans h3.2.2.1), four_of ((h.block _ (by have := h3.2.1; omega) (fun f => f)).trans h3.2.2.2.2), four_of ((h.block _ (by have := h3.2.1; omega) (fun f => f)).trans h3.2.2.2.1)⟩
  have HA := Lib.hid (ha.turned0 h3.1)
  have HB := Lib.hid (hb.turned0 h3.1)
  have HC := Lib.hid (hc.turned0 h3.1)
  have hda := fun W (h : Turned (fun _ => False) w1 W) => deepVal 30 a W 30 rfl (by omega) (HA.out.turned0 h)
  have hdb := fun W (h : Turned (fun _ => False) w1 W) => deepVal 30 b W 30 rfl (by omega) (HB.out.turned0 h)
  have hdc := fun W (h : Turned (fun _ => False) w1 W) => deepVal 30 c W 30 rfl (by omega) (HC.out.turned0 h)
  rw [LT.val_eq a, LT.val_eq b, LT.val_eq c]
  have HKP := Lib.hid hkp
  have HT1 := Lib.hid h3.1
  have HW := Lib.hid hw1
  clear ha hb hc h3 hw1 hkp
  cases da : deepB 30 a with
  | true =>
    rw [da] at hda
    have HDA := Lib.hid hda
    clear da hda hdb hdc
    go_enter Try.func18, Try.ntmps18
    go_wp2_with (first
      | (go_at_call 70; have := S0; (with_reducible refine (HDA.out _ S0).mono ?_); rintro e W1 ⟨rfl, T1⟩; have S1 := S0.trans T1; obtain ⟨⟨c10, c11, c12, c13⟩, ⟨d10, d11, d12, d13⟩, ⟨e10, e11, e12, e13⟩⟩ := HKP.out _ S1)
      | (go_at_call 69; refine (awake69 _).mono ?_; rintro e W0 ⟨rfl, T0⟩; rw [← HW.out] at T0; have S0 := T0; obtain ⟨⟨c00, c01, c02, c03⟩, ⟨d00, d01, d02, d03⟩, ⟨e00, e01, e02, e03⟩⟩ := HKP.out _ S0))
    go_ret
    exact ⟨rfl, HT1.out.trans S1⟩
  | false =>
  rw [da] at hda
  have HDA := Lib.hid hda
  have HSa := Lib.hid (deep_slim 30 a da)
  clear da hda
  cases db : deepB 30 b with
  | true =>
    rw [db] at hdb
    have HDB := Lib.hid hdb
    clear db hdb hdc
    go_enter Try.func18, Try.ntmps18
    go_wp2_with (first
      | (go_at_call 70; have := S1; (with_reducible refine (HDB.out _ S1).mono ?_); rintro e W2 ⟨rfl, T2⟩; have S2 := S1.trans T2; obtain ⟨⟨c20, c21, c22, c23⟩, ⟨d20, d21, d22, d23⟩, ⟨e20, e21, e22, e23⟩⟩ := HKP.out _ S2)
      | (go_at_call 70; have := S0; (with_reducible refine (HDA.out _ S0).mono ?_); rintro e W1 ⟨rfl, T1⟩; have S1 := S0.trans T1; obtain ⟨⟨c10, c11, c12, c13⟩, ⟨d10, d11, d12, d13⟩, ⟨e10, e11, e12, e13⟩⟩ := HKP.out _ S1)
      | (go_at_call 69; refine (awake69 _).mono ?_; rintro e W0 ⟨rfl, T0⟩; rw [← HW.out] at T0; have S0 := T0; obtain ⟨⟨c00, c01, c02, c03⟩, ⟨d00, d01, d02, d03⟩, ⟨e00, e01, e02, e03⟩⟩ := HKP.out _ S0))
    go_ret
    exact ⟨rfl, HT1.out.trans S2⟩
  | false =>
  rw [db] at hdb
  have HDB := Lib.hid hdb
  have HSb := Lib.hid (deep_slim 30 b db)
  clear db hdb
  cases dc : deepB 30 c with
  | true =>
    rw [dc] at hdc
    have HDC := Lib.hid hdc
    clear dc hdc
    go_enter Try.func18, Try.ntmps18
    go_wp2_with (first
      | (go_at_call 70; have := S2; (with_reducible refine (HDC.out _ S2).mono ?_); rintro e W3 ⟨rfl, T3⟩; have S3 := S2.trans T3; obtain ⟨⟨c30, c31, c32, c33⟩, ⟨d30, d31, d32, d33⟩, ⟨e30, e31, e32, e33⟩⟩ := HKP.out _ S3)
      | (go_at_call 70; have := S1; (with_reducible refine (HDB.out _ S1).mono ?_); rintro e W2 ⟨rfl, T2⟩; have S2 := S1.trans T2; obtain ⟨⟨c20, c21, c22, c23⟩, ⟨d20, d21, d22, d23⟩, ⟨e20, e21, e22, e23⟩⟩ := HKP.out _ S2)
      | (go_at_call 70; have := S0; (with_reducible refine (HDA.out _ S0).mono ?_); rintro e W1 ⟨rfl, T1⟩; have S1 := S0.trans T1; obtain ⟨⟨c10, c11, c12, c13⟩, ⟨d10, d11, d12, d13⟩, ⟨e10, e11, e12, e13⟩⟩ := HKP.out _ S1)
      | (go_at_call 69; refine (awake69 _).mono ?_; rintro e W0 ⟨rfl, T0⟩; rw [← HW.out] at T0; have S0 := T0; obtain ⟨⟨c00, c01, c02, c03⟩, ⟨d00, d01, d02, d03⟩, ⟨e00, e01, e02, e03⟩⟩ := HKP.out _ S0))
    go_ret
    exact ⟨rfl, HT1.out.trans S3⟩
  | false =>
  rw [dc] at hdc
  have HDC := Lib.hid hdc
  have HSc := Lib.hid (deep_slim 30 c dc)
  clear dc hdc
  cases ga : goodB a with
  | false =>
    have hga := fun W (h : Turned (fun _ => False) w1 W) => goodVal' (HA.out.turned0 h) HSa.out ga
    have HGA := Lib.hid hga
    clear ga hga
    go_enter Try.func18, Try.ntmps18
    go_wp2_with (first
      | (go_at_call 38; have := S3; (with_reducible refine (HGA.out _ S3).mono ?_); rintro e W4 ⟨rfl, T4⟩; have S4 := S3.trans T4; obtain ⟨⟨c40, c41, c42, c43⟩, ⟨d40, d41, d42, d43⟩, ⟨e40, e41, e42, e43⟩⟩ := HKP.out _ S4)
      | (go_at_call 70; have := S2; (with_reducible refine (HDC.out _ S2).mono ?_); rintro e W3 ⟨rfl, T3⟩; have S3 := S2.trans T3; obtain ⟨⟨c30, c31, c32, c33⟩, ⟨d30, d31, d32, d33⟩, ⟨e30, e31, e32, e33⟩⟩ := HKP.out _ S3)
      | (go_at_call 70; have := S1; (with_reducible refine (HDB.out _ S1).mono ?_); rintro e W2 ⟨rfl, T2⟩; have S2 := S1.trans T2; obtain ⟨⟨c20, c21, c22, c23⟩, ⟨d20, d21, d22, d23⟩, ⟨e20, e21, e22, e23⟩⟩ := HKP.out _ S2)
      | (go_at_call 70; have := S0; (with_reducible refine (HDA.out _ S0).mono ?_); rintro e W1 ⟨rfl, T1⟩; have S1 := S0.trans T1; obtain ⟨⟨c10, c11, c12, c13⟩, ⟨d10, d11, d12, d13⟩, ⟨e10, e11, e12, e13⟩⟩ := HKP.out _ S1)
      | (go_at_call 69; refine (awake69 _).mono ?_; rintro e W0 ⟨rfl, T0⟩; rw [← HW.out] at T0; have S0 := T0; obtain ⟨⟨c00, c01, c02, c03⟩, ⟨d00, d01, d02, d03⟩, ⟨e00, e01, e02, e03⟩⟩ := HKP.out _ S0))
    go_ret
    exact ⟨rfl, HT1.out.trans S4⟩
  | true =>
  have hga := fun W (h : Turned (fun _ => False) w1 W) => goodVal' (HA.out.turned0 h) HSa.out ga
  have HGA := Lib.hid hga
  have GGa := Lib.hid ga
  clear ga hga
  cases gb : goodB b with
  | false =>
    have hgb := fun W (h : Turned (fun _ => False) w1 W) => goodVal' (HB.out.turned0 h) HSb.out gb
    have HGB := Lib.hid hgb
    clear gb hgb
    go_enter Try.func18, Try.ntmps18
    go_wp2_with (first
      | (go_at_call 38; have := S4; (with_reducible refine (HGB.out _ S4).mono ?_); rintro e W5 ⟨rfl, T5⟩; have S5 := S4.trans T5; obtain ⟨⟨c50, c51, c52, c53⟩, ⟨d50, d51, d52, d53⟩, ⟨e50, e51, e52, e53⟩⟩ := HKP.out _ S5)
      | (go_at_call 38; have := S3; (with_reducible refine (HGA.out _ S3).mono ?_); rintro e W4 ⟨rfl, T4⟩; have S4 := S3.trans T4; obtain ⟨⟨c40, c41, c42, c43⟩, ⟨d40, d41, d42, d43⟩, ⟨e40, e41, e42, e43⟩⟩ := HKP.out _ S4)
      | (go_at_call 70; have := S2; (with_reducible refine (HDC.out _ S2).mono ?_); rintro e W3 ⟨rfl, T3⟩; have S3 := S2.trans T3; obtain ⟨⟨c30, c31, c32, c33⟩, ⟨d30, d31, d32, d33⟩, ⟨e30, e31, e32, e33⟩⟩ := HKP.out _ S3)
      | (go_at_call 70; have := S1; (with_reducible refine (HDB.out _ S1).mono ?_); rintro e W2 ⟨rfl, T2⟩; have S2 := S1.trans T2; obtain ⟨⟨c20, c21, c22, c23⟩, ⟨d20, d21, d22, d23⟩, ⟨e20, e21, e22, e23⟩⟩ := HKP.out _ S2)
      | (go_at_call 70; have := S0; (with_reducible refine (HDA.out _ S0).mono ?_); rintro e W1 ⟨rfl, T1⟩; have S1 := S0.trans T1; obtain ⟨⟨c10, c11, c12, c13⟩, ⟨d10, d11, d12, d13⟩, ⟨e10, e11, e12, e13⟩⟩ := HKP.out _ S1)
      | (go_at_call 69; refine (awake69 _).mono ?_; rintro e W0 ⟨rfl, T0⟩; rw [← HW.out] at T0; have S0 := T0; obtain ⟨⟨c00, c01, c02, c03⟩, ⟨d00, d01, d02, d03⟩, ⟨e00, e01, e02, e03⟩⟩ := HKP.out _ S0))
    go_ret
    exact ⟨rfl, HT1.out.trans S5⟩
  | true =>
  have hgb := fun W (h : Turned (fun _ => False) w1 W) => goodVal' (HB.out.turned0 h) HSb.out gb
  have HGB := Lib.hid hgb
  have GGb := Lib.hid gb
  clear gb hgb
  cases gc : goodB c with
  | false =>
    have hgc := fun W (h : Turned (fun _ => False) w1 W) => goodVal' (HC.out.turned0 h) HSc.out gc
    have HGC := Lib.hid hgc
    clear gc hgc
    go_enter Try.func18, Try.ntmps18
    go_wp2_with (first
      | (go_at_call 38; have := S5; (with_reducible refine (HGC.out _ S5).mono ?_); rintro e W6 ⟨rfl, T6⟩; have S6 := S5.trans T6; obtain ⟨⟨c60, c61, c62, c63⟩, ⟨d60, d61, d62, d63⟩, ⟨e60, e61, e62, e63⟩⟩ := HKP.out _ S6)
      | (go_at_call 38; have := S4; (with_reducible refine (HGB.out _ S4).mono ?_); rintro e W5 ⟨rfl, T5⟩; have S5 := S4.trans T5; obtain ⟨⟨c50, c51, c52, c53⟩, ⟨d50, d51, d52, d53⟩, ⟨e50, e51, e52, e53⟩⟩ := HKP.out _ S5)
      | (go_at_call 38; have := S3; (with_reducible refine (HGA.out _ S3).mono ?_); rintro e W4 ⟨rfl, T4⟩; have S4 := S3.trans T4; obtain ⟨⟨c40, c41, c42, c43⟩, ⟨d40, d41, d42, d43⟩, ⟨e40, e41, e42, e43⟩⟩ := HKP.out _ S4)
      | (go_at_call 70; have := S2; (with_reducible refine (HDC.out _ S2).mono ?_); rintro e W3 ⟨rfl, T3⟩; have S3 := S2.trans T3; obtain ⟨⟨c30, c31, c32, c33⟩, ⟨d30, d31, d32, d33⟩, ⟨e30, e31, e32, e33⟩⟩ := HKP.out _ S3)
      | (go_at_call 70; have := S1; (with_reducible refine (HDB.out _ S1).mono ?_); rintro e W2 ⟨rfl, T2⟩; have S2 := S1.trans T2; obtain ⟨⟨c20, c21, c22, c23⟩, ⟨d20, d21, d22, d23⟩, ⟨e20, e21, e22, e23⟩⟩ := HKP.out _ S2)
      | (go_at_call 70; have := S0; (with_reducible refine (HDA.out _ S0).mono ?_); rintro e W1 ⟨rfl, T1⟩; have S1 := S0.trans T1; obtain ⟨⟨c10, c11, c12, c13⟩, ⟨d10, d11, d12, d13⟩, ⟨e10, e11, e12, e13⟩⟩ := HKP.out _ S1)
      | (go_at_call 69; refine (awake69 _).mono ?_; rintro e W0 ⟨rfl, T0⟩; rw [← HW.out] at T0; have S0 := T0; obtain ⟨⟨c00, c01, c02, c03⟩, ⟨d00, d01, d02, d03⟩, ⟨e00, e01, e02, e03⟩⟩ := HKP.out _ S0))
    go_ret
    exact ⟨rfl, HT1.out.trans S6⟩
  | true =>
  have hgc := fun W (h : Turned (fun _ => False) w1 W) => goodVal' (HC.out.turned0 h) HSc.out gc
  have HGC := Lib.hid hgc
  have GGc := Lib.hid gc
  clear gc hgc
  go_enter Try.func18, Try.ntmps18
  go_wp2_with (first
    | (go_at_call 38; have := S5; (with_reducible refine (HGC.out _ S5).mono ?_); rintro e W6 ⟨rfl, T6⟩; have S6 := S5.trans T6; obtain ⟨⟨c60, c61, c62, c63⟩, ⟨d60, d61, d62, d63⟩, ⟨e60, e61, e62, e63⟩⟩ := HKP.out _ S6)
    | (go_at_call 38; have := S4; (with_reducible refine (HGB.out _ S4).mono ?_); rintro e W5 ⟨rfl, T5⟩; have S5 := S4.trans T5; obtain ⟨⟨c50, c51, c52, c53⟩, ⟨d50, d51, d52, d53⟩, ⟨e50, e51, e52, e53⟩⟩ := HKP.out _ S5)
    | (go_at_call 38; have := S3; (with_reducible refine (HGA.out _ S3).mono ?_); rintro e W4 ⟨rfl, T4⟩; have S4 := S3.trans T4; obtain ⟨⟨c40, c41, c42, c43⟩, ⟨d40, d41, d42, d43⟩, ⟨e40, e41, e42, e43⟩⟩ := HKP.out _ S4)
    | (go_at_call 70; have := S2; (with_reducible refine (HDC.out _ S2).mono ?_); rintro e W3 ⟨rfl, T3⟩; have S3 := S2.trans T3; obtain ⟨⟨c30, c31, c32, c33⟩, ⟨d30, d31, d32, d33⟩, ⟨e30, e31, e32, e33⟩⟩ := HKP.out _ S3)
    | (go_at_call 70; have := S1; (with_reducible refine (HDB.out _ S1).mono ?_); rintro e W2 ⟨rfl, T2⟩; have S2 := S1.trans T2; obtain ⟨⟨c20, c21, c22, c23⟩, ⟨d20, d21, d22, d23⟩, ⟨e20, e21, e22, e23⟩⟩ := HKP.out _ S2)
    | (go_at_call 70; have := S0; (with_reducible refine (HDA.out _ S0).mono ?_); rintro e W1 ⟨rfl, T1⟩; have S1 := S0.trans T1; obtain ⟨⟨c10, c11, c12, c13⟩, ⟨d10, d11, d12, d13⟩, ⟨e10, e11, e12, e13⟩⟩ := HKP.out _ S1)
    | (go_at_call 69; refine (awake69 _).mono ?_; rintro e W0 ⟨rfl, T0⟩; rw [← HW.out] at T0; have S0 := T0; obtain ⟨⟨c00, c01, c02, c03⟩, ⟨d00, d01, d02, d03⟩, ⟨e00, e01, e02, e03⟩⟩ := HKP.out _ S0))
  have S := S6
  clear S0 S1 S2 S3 S4 S5 S6 T0 T1 T2 T3 T4 T5 T6 c00 d00 e00 c01 d01 e01 c02 d02 e02 c03 d03 e03 c10 d10 e10 c11 d11 e11 c12 d12 e12 c13 d13 e13 c20 d20 e20 c21 d21 e21 c22 d22 e22 c23 d23 e23 c30 d30 e30 c31 d31 e31 c32 d32 e32 c33 d33 e33 c40 d40 e40 c41 d41 e41 c42 d42 e42 c43 d43 e43 c50 d50 e50 c51 d51 e51 c52 d52 e52 c53 d53 e53 c60 d60 e60 c61 d61 e61 c62 d62 e62 c63 d63 e63
  obtain ⟨MAA, eMAA⟩ : ∃ z, z = moreB a a := ⟨_, rfl⟩
  have HMAA := Lib.hid (fun W (h : Turned (fun _ => False) w1 W) => moreVal (HA.out.turned0 h) (HA.out.turned0 h) HSa.out HSa.out eMAA.symm)
  obtain ⟨MAB, eMAB⟩ : ∃ z, z = moreB a b := ⟨_, rfl⟩
  have HMAB := Lib.hid (fun W (h : Turned (fun _ => False) w1 W) => moreVal (HA.out.turned0 h) (HB.out.turned0 h) HSa.out HSb.out eMAB.symm)
  obtain ⟨MBA, eMBA⟩ : ∃ z, z = moreB b a := ⟨_, rfl⟩
  have HMBA := Lib.hid (fun W (h : Turned (fun _ => False) w1 W) => moreVal (HB.out.turned0 h) (HA.out.turned0 h) HSb.out HSa.out eMBA.symm)
  obtain ⟨MBC, eMBC⟩ : ∃ z, z = moreB b c := ⟨_, rfl⟩
  have HMBC := Lib.hid (fun W (h : Turned (fun _ => False) w1 W) => moreVal (HB.out.turned0 h) (HC.out.turned0 h) HSb.out HSc.out eMBC.symm)
  obtain ⟨MAC, eMAC⟩ : ∃ z, z = moreB a c := ⟨_, rfl⟩
  have HMAC := Lib.hid (fun W (h : Turned (fun _ => False) w1 W) => moreVal (HA.out.turned0 h) (HC.out.turned0 h) HSa.out HSc.out eMAC.symm)
  obtain ⟨AAB, eAAB⟩ : ∃ z, z = alikeB a b := ⟨_, rfl⟩
  have HAAB := Lib.hid (fun W (h : Turned (fun _ => False) w1 W) => alikeVal (HA.out.turned0 h) (HB.out.turned0 h) HSa.out HSb.out eAAB.symm)
  obtain ⟨ABA, eABA⟩ : ∃ z, z = alikeB b a := ⟨_, rfl⟩
  have HABA := Lib.hid (fun W (h : Turned (fun _ => False) w1 W) => alikeVal (HB.out.turned0 h) (HA.out.turned0 h) HSb.out HSa.out eABA.symm)
  have K1 : MAA = true := by rw [eMAA]; exact moreB_self GGa.out
  have K2 : Hid ((MAB && MBA) = AAB) := by show _ = _; rw [eMAB, eMBA, eAAB]; exact moreB_alike GGa.out GGb.out
  have K3 : Hid ((!MAB || !MBC || MAC) = true) := by show _ = _; rw [eMAB, eMBC, eMAC]; exact moreB_trans GGa.out GGb.out GGc.out
  have K4 : Hid (AAB = ABA) := by show _ = _; rw [eAAB, eABA]; exact alikeB_comm GGa.out GGb.out
  clear eMAA eMAB eMBA eMBC eMAC eAAB eABA
  subst K1
  obtain ⟨B45, HB45⟩ : ∃ B, Hid (B = (MAB && MBA)) := ⟨_, rfl⟩
  obtain ⟨B49, HB49⟩ : ∃ B, Hid (B = (B45 == AAB)) := ⟨_, rfl⟩
  obtain ⟨B50, HB50⟩ : ∃ B, Hid (B = (true && B49)) := ⟨_, rfl⟩
  obtain ⟨B55, HB55⟩ : ∃ B, Hid (B = (!MAB)) := ⟨_, rfl⟩
  obtain ⟨B60, HB60⟩ : ∃ B, Hid (B = (!MBC)) := ⟨_, rfl⟩
  obtain ⟨B61, HB61⟩ : ∃ B, Hid (B = (B55 || B60)) := ⟨_, rfl⟩
  obtain ⟨B66, HB66⟩ : ∃ B, Hid (B = (B61 || MAC)) := ⟨_, rfl⟩
  obtain ⟨B67, HB67⟩ : ∃ B, Hid (B = (B50 && B66)) := ⟨_, rfl⟩
  obtain ⟨B75, HB75⟩ : ∃ B, Hid (B = (AAB == ABA)) := ⟨_, rfl⟩
  obtain ⟨B76, HB76⟩ : ∃ B, Hid (B = (B67 && B75)) := ⟨_, rfl⟩
  have hB76 : B76 = true := by
    have k2 := K2.out
    have k3 := K3.out
    have k4 := K4.out
    rw [HB76.out, HB75.out, HB67.out, HB66.out, HB61.out, HB60.out, HB55.out, HB50.out, HB49.out, HB45.out]
    rw [← k4, ← k2]
    revert k3
    cases MAB <;> cases MBA <;> cases MBC <;> cases MAC <;> decide
  refine wp_region_hs [34, 35, 36, 37, 38, 39, 40, 41, 42, 43, 44, 45, 46, 47, 48, 49, 50, 51, 52, 53, 54, 55, 56, 57, 58, 59, 60, 61, 62, 63, 64, 65, 66, 67, 68, 69, 70, 71, 72, 73, 74, 75, 76, 6] [] [0, 0, 0, 0, 0, 0, 0, 0, 0, 0, 0, 0, 0, 0, 0, 0, 0, 0, 0, 0, 0, 0, 0, 0, 0, 0, 0, 0, 0, 0, 0, 0, 0, 0, 0, 0, 0, 0, 0, 0, 0, 0, 0, 0] [] (fun d v => (match d with | 34 => v = .agg #[.int .i64 a.kind, .int .i64 a.n, .string a.name, .slice a.at_.1 a.args.length a.at_.2] | 35 => v = .agg #[.int .i64 a.kind, .int .i64 a.n, .string a.name, .slice a.at_.1 a.args.length a.at_.2] | 36 => v = .bool true | 37 => v = .bool true | 38 => v = bif (true && (true == true)) then .agg #[.int .i64 a.kind, .int .i64 a.n, .string a.name, .slice a.at_.1 a.args.length a.at_.2] else undef | 39 => v = bif (true && (true == true)) then .agg #[.int .i64 b.kind, .int .i64 b.n, .string b.name, .slice b.at_.1 b.args.length b.at_.2] else undef | 40 => v = bif (true && (true == true)) then .bool MAB else undef | 41 => v = bif (true && (true == true)) then .bool MAB else undef | 42 => v = bif ((true && (true == true)) && (MAB == true)) then .agg #[.int .i64 b.kind, .int .i64 b.n, .string b.name, .slice b.at_.1 b.args.length b.at_.2] else undef | 43 => v = bif ((true && (true == true)) && (MAB == true)) then .agg #[.int .i64 a.kind, .int .i64 a.n, .string a.name, .slice a.at_.1 a.args.length a.at_.2] else undef | 44 => v = bif ((true && (true == true)) && (MAB == true)) then .bool MBA else undef | 45 => v = bif (true && (true == true)) then .bool B45 else undef | 46 => v = bif (true && (true == true)) then .agg #[.int .i64 a.kind, .int .i64 a.n, .string a.name, .slice a.at_.1 a.args.length a.at_.2] else undef | 47 => v = bif (true && (true == true)) then .agg #[.int .i64 b.kind, .int .i64 b.n, .string b.name, .slice b.at_.1 b.args.length b.at_.2] else undef | 48 => v = bif (true && (true == true)) then .bool AAB else undef | 49 => v = bif (true && (true == true)) then .bool B49 else undef | 50 => v = .bool B50 | 51 => v = .bool B50 | 52 => v = bif (true && (B50 == true)) then .agg #[.int .i64 a.kind, .int .i64 a.n, .string a.name, .slice a.at_.1 a.args.length a.at_.2] else undef | 53 => v = bif (true && (B50 == true)) then .agg #[.int .i64 b.kind, .int .i64 b.n, .string b.name, .slice b.at_.1 b.args.length b.at_.2] else undef | 54 => v = bif (true && (B50 == true)) then .bool MAB else undef | 55 => v = bif (true && (B50 == true)) then .bool B55 else undef | 56 => v = bif (true && (B50 == true)) then .bool B55 else undef | 57 => v = bif ((true && (B50 == true)) && (B55 == false)) then .agg #[.int .i64 b.kind, .int .i64 b.n, .string b.name, .slice b.at_.1 b.args.length b.at_.2] else undef | 58 => v = bif ((true && (B50 == true)) && (B55 == false)) then .agg #[.int .i64 c.kind, .int .i64 c.n, .string c.name, .slice c.at_.1 c.args.length c.at_.2] else undef | 59 => v = bif ((true && (B50 == true)) && (B55 == false)) then .bool MBC else undef | 60 => v = bif ((true && (B50 == true)) && (B55 == false)) then .bool B60 else undef | 61 => v = bif (true && (B50 == true)) then .bool B61 else undef | 62 => v = bif (true && (B50 == true)) then .bool B61 else undef | 63 => v = bif ((true && (B50 == true)) && (B61 == false)) then .agg #[.int .i64 a.kind, .int .i64 a.n, .string a.name, .slice a.at_.1 a.args.length a.at_.2] else undef | 64 => v = bif ((true && (B50 == true)) && (B61 == false)) then .agg #[.int .i64 c.kind, .int .i64 c.n, .string c.name, .slice c.at_.1 c.args.length c.at_.2] else undef | 65 => v = bif ((true && (B50 == true)) && (B61 == false)) then .bool MAC else undef | 66 => v = bif (true && (B50 == true)) then .bool B66 else undef | 67 => v = .bool B67 | 68 => v = .bool B67 | 69 => v = bif (true && (B67 == true)) then .agg #[.int .i64 a.kind, .int .i64 a.n, .string a.name, .slice a.at_.1 a.args.length a.at_.2] else undef | 70 => v = bif (true && (B67 == true)) then .agg #[.int .i64 b.kind, .int .i64 b.n, .string b.name, .slice b.at_.1 b.args.length b.at_.2] else undef | 71 => v = bif (true && (B67 == true)) then .bool AAB else undef | 72 => v = bif (true && (B67 == true)) then .agg #[.int .i64 b.kind, .int .i64 b.n, .string b.name, .slice b.at_.1 b.args.length b.at_.2] else undef | 73 => v = bif (true && (B67 == true)) then .agg #[.int .i64 a.kind, .int .i64 a.n, .string a.name, .slice a.at_.1 a.args.length a.at_.2] else undef | 74 => v = bif (true && (B67 == true)) then .bool ABA else undef | 75 => v = bif (true && (B67 == true)) then .bool B75 else undef | 76 => v = .bool B76 | 6 => v = .bool B76 | _ => True : Prop)) (fun _ W => Turned (fun _ => False) W6 W) (by kernel_rfl) rfl (by kernel_rfl) (by kernel_rfl) (by kernel_rfl) (by kernel_rfl) (fun _ h => h) (fun _ _ _ h ht => h.trans ht) ?hs ?hQ
  case hs =>
    refine ⟨?s0, ?s1, ?s2, ?s3, ?s4, ?s5, ?s6, ?s7, ?s8, ?s9, ?s10, ?s11, ?s12, ?s13, ?s14, ?s15, ?s16, ?s17, ?s18, ?s19, ?s20, ?s21, ?s22, ?s23, ?s24, ?s25, ?s26, ?s27, ?s28, ?s29, ?s30, ?s31, ?s32, ?s33, ?s34, ?s35, ?s36, ?s37, ?s38, ?s39, ?s40, ?s41, ?s42, ?s43, trivial⟩
    case s0 =>
      refine fun hs hle => stepG_free [] [3] (by kernel_rfl) rfl ?_
      · intro ac W hT hI hO
        have h3 : ac.tmps.getD 3 undef = .pointer (some ⟨w.heap.size, 0, none⟩) := hO 3 (by simp)
        show Brings Try.prog (fun v w' => Turned (fun _ => False) W w' ∧ v = .agg #[.int .i64 a.kind, .int .i64 a.n, .string a.name, .slice a.at_.1 a.args.length a.at_.2]) _
        obtain ⟨⟨c0, c1, c2, c3⟩, ⟨d0, d1, d2, d3⟩, ⟨e0, e1, e2, e3⟩⟩ := HKP.out W (S.trans hT)
        simp only [execOp, Act.eval, h3]
        go_simp
        exact ⟨Turned.refl _ _, rfl⟩
    case s1 =>
      refine fun hs hle => stepG_free [] [3] (by kernel_rfl) rfl ?_
      · intro ac W hT hI hO
        have h3 : ac.tmps.getD 3 undef = .pointer (some ⟨w.heap.size, 0, none⟩) := hO 3 (by simp)
        show Brings Try.prog (fun v w' => Turned (fun _ => False) W w' ∧ v = .agg #[.int .i64 a.kind, .int .i64 a.n, .string a.name, .slice a.at_.1 a.args.length a.at_.2]) _
        obtain ⟨⟨c0, c1, c2, c3⟩, ⟨d0, d1, d2, d3⟩, ⟨e0, e1, e2, e3⟩⟩ := HKP.out W (S.trans hT)
        simp only [execOp, Act.eval, h3]
        go_simp
        exact ⟨Turned.refl _ _, rfl⟩
    case s2 =>
      refine fun hs hle => stepG_free [34, 35] [] (by kernel_rfl) rfl ?_
      · intro ac W hT hI hO
        have h34 : ac.tmps.getD 34 undef = .agg #[.int .i64 a.kind, .int .i64 a.n, .string a.name, .slice a.at_.1 a.args.length a.at_.2] := hI 34 (by simp)
        have h35 : ac.tmps.getD 35 undef = .agg #[.int .i64 a.kind, .int .i64 a.n, .string a.name, .slice a.at_.1 a.args.length a.at_.2] := hI 35 (by simp)
        show Brings Try.prog (fun v w' => Turned (fun _ => False) W w' ∧ v = .bool true) _
        simp only [execOp, Act.eval, h34, h35]
        go_simp
        show Calls Try.prog 78 _ W _
        (with_reducible refine (HMAA.out W (S.trans hT)).mono ?_)
        rintro e w' ⟨rfl, T'⟩
        exact ⟨_, rfl, T', rfl⟩
    case s3 =>
      refine fun hs hle => stepG_free [36] [] (by kernel_rfl) rfl ?_
      · intro ac W hT hI hO
        have h36 : ac.tmps.getD 36 undef = .bool true := hI 36 (by simp)
        show Brings Try.prog (fun v w' => Turned (fun _ => False) W w' ∧ v = .bool true) _
        simp only [execOp, Act.eval, h36]
        go_simp
        try exact ⟨Turned.refl _ _, rfl⟩
    case s4 =>
      refine fun hs hle => stepG_guard [37] [3] (by kernel_rfl) 3 true 37 rfl rfl (by simp) true true (fun _ _ h => h) (fun hc => ?_) (fun hc _ _ => ?_)
      rotate_left
      · refine ⟨Turned.refl _ _, ?_⟩
        show undef = bif (true && (true == true)) then _ else undef
        rw [hc]; rfl
      · intro ac W hT hI hO
        have h37 : ac.tmps.getD 37 undef = .bool true := hI 37 (by simp)
        have h3 : ac.tmps.getD 3 undef = .pointer (some ⟨w.heap.size, 0, none⟩) := hO 3 (by simp)
        show Brings Try.prog (fun v w' => Turned (fun _ => False) W w' ∧ v = bif (true && (true == true)) then .agg #[.int .i64 a.kind, .int .i64 a.n, .string a.name, .slice a.at_.1 a.args.length a.at_.2] else undef) _
        rw [hc, cond_true]
        obtain ⟨⟨c0, c1, c2, c3⟩, ⟨d0, d1, d2, d3⟩, ⟨e0, e1, e2, e3⟩⟩ := HKP.out W (S.trans hT)
        simp only [execOp, Act.eval, h37, h3]
        go_simp
        exact ⟨Turned.refl _ _, rfl⟩
    case s5 =>
      refine fun hs hle => stepG_guard [37] [4] (by kernel_rfl) 3 true 37 rfl rfl (by simp) true true (fun _ _ h => h) (fun hc => ?_) (fun hc _ _ => ?_)
      rotate_left
      · refine ⟨Turned.refl _ _, ?_⟩
        show undef = bif (true && (true == true)) then _ else undef
        rw [hc]; rfl
      · intro ac W hT hI hO
        have h37 : ac.tmps.getD 37 undef = .bool true := hI 37 (by simp)
        have h4 : ac.tmps.getD 4 undef = .pointer (some ⟨(w.heap.size + 1), 0, none⟩) := hO 4 (by simp)
        show Brings Try.prog (fun v w' => Turned (fun _ => False) W w' ∧ v = bif (true && (true == true)) then .agg #[.int .i64 b.kind, .int .i64 b.n, .string b.name, .slice b.at_.1 b.args.length b.at_.2] else undef) _
        rw [hc, cond_true]
        obtain ⟨⟨c0, c1, c2, c3⟩, ⟨d0, d1, d2, d3⟩, ⟨e0, e1, e2, e3⟩⟩ := HKP.out W (S.trans hT)
        simp only [execOp, Act.eval, h37, h4]
        go_simp
        exact ⟨Turned.refl _ _, rfl⟩
    case s6 =>
      refine fun hs hle => stepG_guard [38, 39, 37] [] (by kernel_rfl) 3 true 37 rfl rfl (by simp) true true (fun _ _ h => h) (fun hc => ?_) (fun hc _ _ => ?_)
      rotate_left
      · refine ⟨Turned.refl _ _, ?_⟩
        show undef = bif (true && (true == true)) then _ else undef
        rw [hc]; rfl
      · intro ac W hT hI hO
        have h38 : ac.tmps.getD 38 undef = bif (true && (true == true)) then .agg #[.int .i64 a.kind, .int .i64 a.n, .string a.name, .slice a.at_.1 a.args.length a.at_.2] else undef := hI 38 (by simp)
        rw [hc, cond_true] at h38
        have h39 : ac.tmps.getD 39 undef = bif (true && (true == true)) then .agg #[.int .i64 b.kind, .int .i64 b.n, .string b.name, .slice b.at_.1 b.args.length b.at_.2] else undef := hI 39 (by simp)
        rw [hc, cond_true] at h39
        have h37 : ac.tmps.getD 37 undef = .bool true := hI 37 (by simp)
        show Brings Try.prog (fun v w' => Turned (fun _ => False) W w' ∧ v = bif (true && (true == true)) then .bool MAB else undef) _
        rw [hc, cond_true]
        simp only [execOp, Act.eval, h38, h39, h37]
        go_simp
        show Calls Try.prog 78 _ W _
        (with_reducible refine (HMAB.out W (S.trans hT)).mono ?_)
        rintro e w' ⟨rfl, T'⟩
        exact ⟨_, rfl, T', rfl⟩
    case s7 =>
      refine fun hs hle => stepG_guard [40, 37] [] (by kernel_rfl) 3 true 37 rfl rfl (by simp) true true (fun _ _ h => h) (fun hc => ?_) (fun hc _ _ => ?_)
      rotate_left
      · refine ⟨Turned.refl _ _, ?_⟩
        show undef = bif (true && (true == true)) then _ else undef
        rw [hc]; rfl
      · intro ac W hT hI hO
        have h40 : ac.tmps.getD 40 undef = bif (true && (true == true)) then .bool MAB else undef := hI 40 (by simp)
        rw [hc, cond_true] at h40
        have h37 : ac.tmps.getD 37 undef = .bool true := hI 37 (by simp)
        show Brings Try.prog (fun v w' => Turned (fun _ => False) W w' ∧ v = bif (true && (true == true)) then .bool MAB else undef) _
        rw [hc, cond_true]
        simp only [execOp, Act.eval, h40, h37]
        go_simp
        try exact ⟨Turned.refl _ _, rfl⟩
    case s8 =>
      refine fun hs hle => stepG_guard [41] [4] (by kernel_rfl) 7 true 41 rfl rfl (by simp) (true && (true == true)) MAB (fun _ _ h => h) (fun hc => ?_) (fun hc _ _ => ?_)
      rotate_left
      · refine ⟨Turned.refl _ _, ?_⟩
        show undef = bif ((true && (true == true)) && (MAB == true)) then _ else undef
        rw [hc]; rfl
      · intro ac W hT hI hO
        have h41 : ac.tmps.getD 41 undef = bif (true && (true == true)) then .bool MAB else undef := hI 41 (by simp)
        rw [show (true && (true == true)) = true from by simp only [Bool.and_eq_true] at hc ⊢; simp [hc]] at h41
        have h4 : ac.tmps.getD 4 undef = .pointer (some ⟨(w.heap.size + 1), 0, none⟩) := hO 4 (by simp)
        show Brings Try.prog (fun v w' => Turned (fun _ => False) W w' ∧ v = bif ((true && (true == true)) && (MAB == true)) then .agg #[.int .i64 b.kind, .int .i64 b.n, .string b.name, .slice b.at_.1 b.args.length b.at_.2] else undef) _
        rw [hc, cond_true]
        obtain ⟨⟨c0, c1, c2, c3⟩, ⟨d0, d1, d2, d3⟩, ⟨e0, e1, e2, e3⟩⟩ := HKP.out W (S.trans hT)
        simp only [execOp, Act.eval, h41, h4]
        go_simp
        exact ⟨Turned.refl _ _, rfl⟩
    case s9 =>
      refine fun hs hle => stepG_guard [41] [3] (by kernel_rfl) 7 true 41 rfl rfl (by simp) (true && (true == true)) MAB (fun _ _ h => h) (fun hc => ?_) (fun hc _ _ => ?_)
      rotate_left
      · refine ⟨Turned.refl _ _, ?_⟩
        show undef = bif ((true && (true == true)) && (MAB == true)) then _ else undef
        rw [hc]; rfl
      · intro ac W hT hI hO
        have h41 : ac.tmps.getD 41 undef = bif (true && (true == true)) then .bool MAB else undef := hI 41 (by simp)
        rw [show (true && (true == true)) = true from by simp only [Bool.and_eq_true] at hc ⊢; simp [hc]] at h41
        have h3 : ac.tmps.getD 3 undef = .pointer (some ⟨w.heap.size, 0, none⟩) := hO 3 (by simp)
        show Brings Try.prog (fun v w' => Turned (fun _ => False) W w' ∧ v = bif ((true && (true == true)) && (MAB == true)) then .agg #[.int .i64 a.kind, .int .i64 a.n, .string a.name, .slice a.at_.1 a.args.length a.at_.2] else undef) _
        rw [hc, cond_true]
        obtain ⟨⟨c0, c1, c2, c3⟩, ⟨d0, d1, d2, d3⟩, ⟨e0, e1, e2, e3⟩⟩ := HKP.out W (S.trans hT)
        simp only [execOp, Act.eval, h41, h3]
        go_simp
        exact ⟨Turned.refl _ _, rfl⟩
    case s10 =>
      refine fun hs hle => stepG_guard [42, 43, 41] [] (by kernel_rfl) 7 true 41 rfl rfl (by simp) (true && (true == true)) MAB (fun _ _ h => h) (fun hc => ?_) (fun hc _ _ => ?_)
      rotate_left
      · refine ⟨Turned.refl _ _, ?_⟩
        show undef = bif ((true && (true == true)) && (MAB == true)) then _ else undef
        rw [hc]; rfl
      · intro ac W hT hI hO
        have h42 : ac.tmps.getD 42 undef = bif ((true && (true == true)) && (MAB == true)) then .agg #[.int .i64 b.kind, .int .i64 b.n, .string b.name, .slice b.at_.1 b.args.length b.at_.2] else undef := hI 42 (by simp)
        rw [hc, cond_true] at h42
        have h43 : ac.tmps.getD 43 undef = bif ((true && (true == true)) && (MAB == true)) then .agg #[.int .i64 a.kind, .int .i64 a.n, .string a.name, .slice a.at_.1 a.args.length a.at_.2] else undef := hI 43 (by simp)
        rw [hc, cond_true] at h43
        have h41 : ac.tmps.getD 41 undef = bif (true && (true == true)) then .bool MAB else undef := hI 41 (by simp)
        rw [show (true && (true == true)) = true from by simp only [Bool.and_eq_true] at hc ⊢; simp [hc]] at h41
        show Brings Try.prog (fun v w' => Turned (fun _ => False) W w' ∧ v = bif ((true && (true == true)) && (MAB == true)) then .bool MBA else undef) _
        rw [hc, cond_true]
        simp only [execOp, Act.eval, h42, h43, h41]
        go_simp
        show Calls Try.prog 78 _ W _
        (with_reducible refine (HMBA.out W (S.trans hT)).mono ?_)
        rintro e w' ⟨rfl, T'⟩
        exact ⟨_, rfl, T', rfl⟩
    case s11 =>
      refine fun hs hle => stepG_guard [41, 44, 37] [] (by kernel_rfl) 3 true 37 rfl rfl (by simp) true true (fun _ _ h => h) (fun hc => ?_) (fun hc _ _ => ?_)
      rotate_left
      · refine ⟨Turned.refl _ _, ?_⟩
        show undef = bif (true && (true == true)) then _ else undef
        rw [hc]; rfl
      · intro ac W hT hI hO
        have h41 : ac.tmps.getD 41 undef = bif (true && (true == true)) then .bool MAB else undef := hI 41 (by simp)
        rw [hc, cond_true] at h41
        have h44 : ac.tmps.getD 44 undef = bif ((true && (true == true)) && (MAB == true)) then .bool MBA else undef := hI 44 (by simp)
        have h37 : ac.tmps.getD 37 undef = .bool true := hI 37 (by simp)
        show Brings Try.prog (fun v w' => Turned (fun _ => False) W w' ∧ v = bif (true && (true == true)) then .bool B45 else undef) _
        rw [hc, cond_true]
        rw [HB45.out]
        simp only [Bool.true_and, Bool.and_eq_true, beq_iff_eq] at hc
        cases hB : MAB
        · simp only [hB] at *
          simp [execOp, Act.eval, go_sem, Brings, h41, h44, h37, hc]
          try exact Turned.refl _ _
        · simp only [hB] at *
          simp [execOp, Act.eval, go_sem, Brings, h41, h44, h37, hc]
          try exact Turned.refl _ _
    case s12 =>
      refine fun hs hle => stepG_guard [37] [3] (by kernel_rfl) 3 true 37 rfl rfl (by simp) true true (fun _ _ h => h) (fun hc => ?_) (fun hc _ _ => ?_)
      rotate_left
      · refine ⟨Turned.refl _ _, ?_⟩
        show undef = bif (true && (true == true)) then _ else undef
        rw [hc]; rfl
      · intro ac W hT hI hO
        have h37 : ac.tmps.getD 37 undef = .bool true := hI 37 (by simp)
        have h3 : ac.tmps.getD 3 undef = .pointer (some ⟨w.heap.size, 0, none⟩) := hO 3 (by simp)
        show Brings Try.prog (fun v w' => Turned (fun _ => False) W w' ∧ v = bif (true && (true == true)) then .agg #[.int .i64 a.kind, .int .i64 a.n, .string a.name, .slice a.at_.1 a.args.length a.at_.2] else undef) _
        rw [hc, cond_true]
        obtain ⟨⟨c0, c1, c2, c3⟩, ⟨d0, d1, d2, d3⟩, ⟨e0, e1, e2, e3⟩⟩ := HKP.out W (S.trans hT)
        simp only [execOp, Act.eval, h37, h3]
        go_simp
        exact ⟨Turned.refl _ _, rfl⟩
    case s13 =>
      refine fun hs hle => stepG_guard [37] [4] (by kernel_rfl) 3 true 37 rfl rfl (by simp) true true (fun _ _ h => h) (fun hc => ?_) (fun hc _ _ => ?_)
      rotate_left
      · refine ⟨Turned.refl _ _, ?_⟩
        show undef = bif (true && (true == true)) then _ else undef
        rw [hc]; rfl
      · intro ac W hT hI hO
        have h37 : ac.tmps.getD 37 undef = .bool true := hI 37 (by simp)
        have h4 : ac.tmps.getD 4 undef = .pointer (some ⟨(w.heap.size + 1), 0, none⟩) := hO 4 (by simp)
        show Brings Try.prog (fun v w' => Turned (fun _ => False) W w' ∧ v = bif (true && (true == true)) then .agg #[.int .i64 b.kind, .int .i64 b.n, .string b.name, .slice b.at_.1 b.args.length b.at_.2] else undef) _
        rw [hc, cond_true]
        obtain ⟨⟨c0, c1, c2, c3⟩, ⟨d0, d1, d2, d3⟩, ⟨e0, e1, e2, e3⟩⟩ := HKP.out W (S.trans hT)
        simp only [execOp, Act.eval, h37, h4]
        go_simp
        exact ⟨Turned.refl _ _, rfl⟩
    case s14 =>
      refine fun hs hle => stepG_guard [46, 47, 37] [] (by kernel_rfl) 3 true 37 rfl rfl (by simp) true true (fun _ _ h => h) (fun hc => ?_) (fun hc _ _ => ?_)
      rotate_left
      · refine ⟨Turned.refl _ _, ?_⟩
        show undef = bif (true && (true == true)) then _ else undef
        rw [hc]; rfl
      · intro ac W hT hI hO
        have h46 : ac.tmps.getD 46 undef = bif (true && (true == true)) then .agg #[.int .i64 a.kind, .int .i64 a.n, .string a.name, .slice a.at_.1 a.args.length a.at_.2] else undef := hI 46 (by simp)
        rw [hc, cond_true] at h46
        have h47 : ac.tmps.getD 47 undef = bif (true && (true == true)) then .agg #[.int .i64 b.kind, .int .i64 b.n, .string b.name, .slice b.at_.1 b.args.length b.at_.2] else undef := hI 47 (by simp)
        rw [hc, cond_true] at h47
        have h37 : ac.tmps.getD 37 undef = .bool true := hI 37 (by simp)
        show Brings Try.prog (fun v w' => Turned (fun _ => False) W w' ∧ v = bif (true && (true == true)) then .bool AAB else undef) _
        rw [hc, cond_true]
        simp only [execOp, Act.eval, h46, h47, h37]
        go_simp
        show Calls Try.prog 72 _ W _
        (with_reducible refine (HAAB.out W (S.trans hT)).mono ?_)
        rintro e w' ⟨rfl, T'⟩
        exact ⟨_, rfl, T', rfl⟩
    case s15 =>
      refine fun hs hle => stepG_guard [45, 48, 37] [] (by kernel_rfl) 3 true 37 rfl rfl (by simp) true true (fun _ _ h => h) (fun hc => ?_) (fun hc _ _ => ?_)
      rotate_left
      · refine ⟨Turned.refl _ _, ?_⟩
        show undef = bif (true && (true == true)) then _ else undef
        rw [hc]; rfl
      · intro ac W hT hI hO
        have h45 : ac.tmps.getD 45 undef = bif (true && (true == true)) then .bool B45 else undef := hI 45 (by simp)
        rw [hc, cond_true] at h45
        have h48 : ac.tmps.getD 48 undef = bif (true && (true == true)) then .bool AAB else undef := hI 48 (by simp)
        rw [hc, cond_true] at h48
        have h37 : ac.tmps.getD 37 undef = .bool true := hI 37 (by simp)
        show Brings Try.prog (fun v w' => Turned (fun _ => False) W w' ∧ v = bif (true && (true == true)) then .bool B49 else undef) _
        rw [hc, cond_true]
        rw [HB49.out]
        simp only [execOp, Act.eval, h45, h48, h37]
        go_simp
        try exact ⟨Turned.refl _ _, rfl⟩
    case s16 =>
      refine fun hs hle => stepG_free [37, 49] [] (by kernel_rfl) rfl ?_
      · intro ac W hT hI hO
        have h37 : ac.tmps.getD 37 undef = .bool true := hI 37 (by simp)
        have h49 : ac.tmps.getD 49 undef = bif (true && (true == true)) then .bool B49 else undef := hI 49 (by simp)
        show Brings Try.prog (fun v w' => Turned (fun _ => False) W w' ∧ v = .bool B50) _
        rw [HB50.out]
        cases hB : true
        · simp only [hB] at *
          simp [execOp, Act.eval, go_sem, Brings, h37, h49]
          try exact Turned.refl _ _
        · simp only [hB] at *
          simp [execOp, Act.eval, go_sem, Brings, h37, h49]
          try exact Turned.refl _ _
    case s17 =>
      refine fun hs hle => stepG_free [50] [] (by kernel_rfl) rfl ?_
      · intro ac W hT hI hO
        have h50 : ac.tmps.getD 50 undef = .bool B50 := hI 50 (by simp)
        show Brings Try.prog (fun v w' => Turned (fun _ => False) W w' ∧ v = .bool B50) _
        simp only [execOp, Act.eval, h50]
        go_simp
        try exact ⟨Turned.refl _ _, rfl⟩
    case s18 =>
      refine fun hs hle => stepG_guard [51] [3] (by kernel_rfl) 17 true 51 rfl rfl (by simp) true B50 (fun _ _ h => h) (fun hc => ?_) (fun hc _ _ => ?_)
      rotate_left
      · refine ⟨Turned.refl _ _, ?_⟩
        show undef = bif (true && (B50 == true)) then _ else undef
        rw [hc]; rfl
      · intro ac W hT hI hO
        have h51 : ac.tmps.getD 51 undef = .bool B50 := hI 51 (by simp)
        have h3 : ac.tmps.getD 3 undef = .pointer (some ⟨w.heap.size, 0, none⟩) := hO 3 (by simp)
        show Brings Try.prog (fun v w' => Turned (fun _ => False) W w' ∧ v = bif (true && (B50 == true)) then .agg #[.int .i64 a.kind, .int .i64 a.n, .string a.name, .slice a.at_.1 a.args.length a.at_.2] else undef) _
        rw [hc, cond_true]
        obtain ⟨⟨c0, c1, c2, c3⟩, ⟨d0, d1, d2, d3⟩, ⟨e0, e1, e2, e3⟩⟩ := HKP.out W (S.trans hT)
        simp only [execOp, Act.eval, h51, h3]
        go_simp
        exact ⟨Turned.refl _ _, rfl⟩
    case s19 =>
      refine fun hs hle => stepG_guard [51] [4] (by kernel_rfl) 17 true 51 rfl rfl (by simp) true B50 (fun _ _ h => h) (fun hc => ?_) (fun hc _ _ => ?_)
      rotate_left
      · refine ⟨Turned.refl _ _, ?_⟩
        show undef = bif (true && (B50 == true)) then _ else undef
        rw [hc]; rfl
      · intro ac W hT hI hO
        have h51 : ac.tmps.getD 51 undef = .bool B50 := hI 51 (by simp)
        have h4 : ac.tmps.getD 4 undef = .pointer (some ⟨(w.heap.size + 1), 0, none⟩) := hO 4 (by simp)
        show Brings Try.prog (fun v w' => Turned (fun _ => False) W w' ∧ v = bif (true && (B50 == true)) then .agg #[.int .i64 b.kind, .int .i64 b.n, .string b.name, .slice b.at_.1 b.args.length b.at_.2] else undef) _
        rw [hc, cond_true]
        obtain ⟨⟨c0, c1, c2, c3⟩, ⟨d0, d1, d2, d3⟩, ⟨e0, e1, e2, e3⟩⟩ := HKP.out W (S.trans hT)
        simp only [execOp, Act.eval, h51, h4]
        go_simp
        exact ⟨Turned.refl _ _, rfl⟩
    case s20 =>
      refine fun hs hle => stepG_guard [52, 53, 51] [] (by kernel_rfl) 17 true 51 rfl rfl (by simp) true B50 (fun _ _ h => h) (fun hc => ?_) (fun hc _ _ => ?_)
      rotate_left
      · refine ⟨Turned.refl _ _, ?_⟩
        show undef = bif (true && (B50 == true)) then _ else undef
        rw [hc]; rfl
      · intro ac W hT hI hO
        have h52 : ac.tmps.getD 52 undef = bif (true && (B50 == true)) then .agg #[.int .i64 a.kind, .int .i64 a.n, .string a.name, .slice a.at_.1 a.args.length a.at_.2] else undef := hI 52 (by simp)
        rw [hc, cond_true] at h52
        have h53 : ac.tmps.getD 53 undef = bif (true && (B50 == true)) then .agg #[.int .i64 b.kind, .int .i64 b.n, .string b.name, .slice b.at_.1 b.args.length b.at_.2] else undef := hI 53 (by simp)
        rw [hc, cond_true] at h53
        have h51 : ac.tmps.getD 51 undef = .bool B50 := hI 51 (by simp)
        show Brings Try.prog (fun v w' => Turned (fun _ => False) W w' ∧ v = bif (true && (B50 == true)) then .bool MAB else undef) _
        rw [hc, cond_true]
        simp only [execOp, Act.eval, h52, h53, h51]
        go_simp
        show Calls Try.prog 78 _ W _
        (with_reducible refine (HMAB.out W (S.trans hT)).mono ?_)
        rintro e w' ⟨rfl, T'⟩
        exact ⟨_, rfl, T', rfl⟩
    case s21 =>
      refine fun hs hle => stepG_guard [54, 51] [] (by kernel_rfl) 17 true 51 rfl rfl (by simp) true B50 (fun _ _ h => h) (fun hc => ?_) (fun hc _ _ => ?_)
      rotate_left
      · refine ⟨Turned.refl _ _, ?_⟩
        show undef = bif (true && (B50 == true)) then _ else undef
        rw [hc]; rfl
      · intro ac W hT hI hO
        have h54 : ac.tmps.getD 54 undef = bif (true && (B50 == true)) then .bool MAB else undef := hI 54 (by simp)
        rw [hc, cond_true] at h54
        have h51 : ac.tmps.getD 51 undef = .bool B50 := hI 51 (by simp)
        show Brings Try.prog (fun v w' => Turned (fun _ => False) W w' ∧ v = bif (true && (B50 == true)) then .bool B55 else undef) _
        rw [hc, cond_true]
        rw [HB55.out]
        simp only [execOp, Act.eval, h54, h51]
        go_simp
        try exact ⟨Turned.refl _ _, rfl⟩
    case s22 =>
      refine fun hs hle => stepG_guard [55, 51] [] (by kernel_rfl) 17 true 51 rfl rfl (by simp) true B50 (fun _ _ h => h) (fun hc => ?_) (fun hc _ _ => ?_)
      rotate_left
      · refine ⟨Turned.refl _ _, ?_⟩
        show undef = bif (true && (B50 == true)) then _ else undef
        rw [hc]; rfl
      · intro ac W hT hI hO
        have h55 : ac.tmps.getD 55 undef = bif (true && (B50 == true)) then .bool B55 else undef := hI 55 (by simp)
        rw [hc, cond_true] at h55
        have h51 : ac.tmps.getD 51 undef = .bool B50 := hI 51 (by simp)
        show Brings Try.prog (fun v w' => Turned (fun _ => False) W w' ∧ v = bif (true && (B50 == true)) then .bool B55 else undef) _
        rw [hc, cond_true]
        simp only [execOp, Act.eval, h55, h51]
        go_simp
        try exact ⟨Turned.refl _ _, rfl⟩
    case s23 =>
      refine fun hs hle => stepG_guard [56] [4] (by kernel_rfl) 22 false 56 rfl rfl (by simp) (true && (B50 == true)) B55 (fun _ _ h => h) (fun hc => ?_) (fun hc _ _ => ?_)
      rotate_left
      · refine ⟨Turned.refl _ _, ?_⟩
        show undef = bif ((true && (B50 == true)) && (B55 == false)) then _ else undef
        rw [hc]; rfl
      · intro ac W hT hI hO
        have h56 : ac.tmps.getD 56 undef = bif (true && (B50 == true)) then .bool B55 else undef := hI 56 (by simp)
        rw [show (true && (B50 == true)) = true from by simp only [Bool.and_eq_true] at hc ⊢; simp [hc]] at h56
        have h4 : ac.tmps.getD 4 undef = .pointer (some ⟨(w.heap.size + 1), 0, none⟩) := hO 4 (by simp)
        show Brings Try.prog (fun v w' => Turned (fun _ => False) W w' ∧ v = bif ((true && (B50 == true)) && (B55 == false)) then .agg #[.int .i64 b.kind, .int .i64 b.n, .string b.name, .slice b.at_.1 b.args.length b.at_.2] else undef) _
        rw [hc, cond_true]
        obtain ⟨⟨c0, c1, c2, c3⟩, ⟨d0, d1, d2, d3⟩, ⟨e0, e1, e2, e3⟩⟩ := HKP.out W (S.trans hT)
        simp only [execOp, Act.eval, h56, h4]
        go_simp
        exact ⟨Turned.refl _ _, rfl⟩
    case s24 =>
      refine fun hs hle => stepG_guard [56] [5] (by kernel_rfl) 22 false 56 rfl rfl (by simp) (true && (B50 == true)) B55 (fun _ _ h => h) (fun hc => ?_) (fun hc _ _ => ?_)
      rotate_left
      · refine ⟨Turned.refl _ _, ?_⟩
        show undef = bif ((true && (B50 == true)) && (B55 == false)) then _ else undef
        rw [hc]; rfl
      · intro ac W hT hI hO
        have h56 : ac.tmps.getD 56 undef = bif (true && (B50 == true)) then .bool B55 else undef := hI 56 (by simp)
        rw [show (true && (B50 == true)) = true from by simp only [Bool.and_eq_true] at hc ⊢; simp [hc]] at h56
        have h5 : ac.tmps.getD 5 undef = .pointer (some ⟨(w.heap.size + 2), 0, none⟩) := hO 5 (by simp)
        show Brings Try.prog (fun v w' => Turned (fun _ => False) W w' ∧ v = bif ((true && (B50 == true)) && (B55 == false)) then .agg #[.int .i64 c.kind, .int .i64 c.n, .string c.name, .slice c.at_.1 c.args.length c.at_.2] else undef) _
        rw [hc, cond_true]
        obtain ⟨⟨c0, c1, c2, c3⟩, ⟨d0, d1, d2, d3⟩, ⟨e0, e1, e2, e3⟩⟩ := HKP.out W (S.trans hT)
        simp only [execOp, Act.eval, h56, h5]
        go_simp
        exact ⟨Turned.refl _ _, rfl⟩
    case s25 =>
      refine fun hs hle => stepG_guard [57, 58, 56] [] (by kernel_rfl) 22 false 56 rfl rfl (by simp) (true && (B50 == true)) B55 (fun _ _ h => h) (fun hc => ?_) (fun hc _ _ => ?_)
      rotate_left
      · refine ⟨Turned.refl _ _, ?_⟩
        show undef = bif ((true && (B50 == true)) && (B55 == false)) then _ else undef
        rw [hc]; rfl
      · intro ac W hT hI hO
        have h57 : ac.tmps.getD 57 undef = bif ((true && (B50 == true)) && (B55 == false)) then .agg #[.int .i64 b.kind, .int .i64 b.n, .string b.name, .slice b.at_.1 b.args.length b.at_.2] else undef := hI 57 (by simp)
        rw [hc, cond_true] at h57
        have h58 : ac.tmps.getD 58 undef = bif ((true && (B50 == true)) && (B55 == false)) then .agg #[.int .i64 c.kind, .int .i64 c.n, .string c.name, .slice c.at_.1 c.args.length c.at_.2] else undef := hI 58 (by simp)
        rw [hc, cond_true] at h58
        have h56 : ac.tmps.getD 56 undef = bif (true && (B50 == true)) then .bool B55 else undef := hI 56 (by simp)
        rw [show (true && (B50 == true)) = true from by simp only [Bool.and_eq_true] at hc ⊢; simp [hc]] at h56
        show Brings Try.prog (fun v w' => Turned (fun _ => False) W w' ∧ v = bif ((true && (B50 == true)) && (B55 == false)) then .bool MBC else undef) _
        rw [hc, cond_true]
        simp only [execOp, Act.eval, h57, h58, h56]
        go_simp
        show Calls Try.prog 78 _ W _
        (with_reducible refine (HMBC.out W (S.trans hT)).mono ?_)
        rintro e w' ⟨rfl, T'⟩
        exact ⟨_, rfl, T', rfl⟩
    case s26 =>
      refine fun hs hle => stepG_guard [59, 56] [] (by kernel_rfl) 22 false 56 rfl rfl (by simp) (true && (B50 == true)) B55 (fun _ _ h => h) (fun hc => ?_) (fun hc _ _ => ?_)
      rotate_left
      · refine ⟨Turned.refl _ _, ?_⟩
        show undef = bif ((true && (B50 == true)) && (B55 == false)) then _ else undef
        rw [hc]; rfl
      · intro ac W hT hI hO
        have h59 : ac.tmps.getD 59 undef = bif ((true && (B50 == true)) && (B55 == false)) then .bool MBC else undef := hI 59 (by simp)
        rw [hc, cond_true] at h59
        have h56 : ac.tmps.getD 56 undef = bif (true && (B50 == true)) then .bool B55 else undef := hI 56 (by simp)
        rw [show (true && (B50 == true)) = true from by simp only [Bool.and_eq_true] at hc ⊢; simp [hc]] at h56
        show Brings Try.prog (fun v w' => Turned (fun _ => False) W w' ∧ v = bif ((true && (B50 == true)) && (B55 == false)) then .bool B60 else undef) _
        rw [hc, cond_true]
        rw [HB60.out]
        simp only [execOp, Act.eval, h59, h56]
        go_simp
        try exact ⟨Turned.refl _ _, rfl⟩
    case s27 =>
      refine fun hs hle => stepG_guard [56, 60, 51] [] (by kernel_rfl) 17 true 51 rfl rfl (by simp) true B50 (fun _ _ h => h) (fun hc => ?_) (fun hc _ _ => ?_)
      rotate_left
      · refine ⟨Turned.refl _ _, ?_⟩
        show undef = bif (true && (B50 == true)) then _ else undef
        rw [hc]; rfl
      · intro ac W hT hI hO
        have h56 : ac.tmps.getD 56 undef = bif (true && (B50 == true)) then .bool B55 else undef := hI 56 (by simp)
        rw [hc, cond_true] at h56
        have h60 : ac.tmps.getD 60 undef = bif ((true && (B50 == true)) && (B55 == false)) then .bool B60 else undef := hI 60 (by simp)
        have h51 : ac.tmps.getD 51 undef = .bool B50 := hI 51 (by simp)
        show Brings Try.prog (fun v w' => Turned (fun _ => False) W w' ∧ v = bif (true && (B50 == true)) then .bool B61 else undef) _
        rw [hc, cond_true]
        rw [HB61.out]
        simp only [Bool.true_and, Bool.and_eq_true, beq_iff_eq] at hc
        cases hB : B55
        · simp only [hB] at *
          simp [execOp, Act.eval, go_sem, Brings, h56, h60, h51, hc]
          try exact Turned.refl _ _
        · simp only [hB] at *
          simp [execOp, Act.eval, go_sem, Brings, h56, h60, h51, hc]
          try exact Turned.refl _ _
    case s28 =>
      refine fun hs hle => stepG_guard [61, 51] [] (by kernel_rfl) 17 true 51 rfl rfl (by simp) true B50 (fun _ _ h => h) (fun hc => ?_) (fun hc _ _ => ?_)
      rotate_left
      · refine ⟨Turned.refl _ _, ?_⟩
        show undef = bif (true && (B50 == true)) then _ else undef
        rw [hc]; rfl
      · intro ac W hT hI hO
        have h61 : ac.tmps.getD 61 undef = bif (true && (B50 == true)) then .bool B61 else undef := hI 61 (by simp)
        rw [hc, cond_true] at h61
        have h51 : ac.tmps.getD 51 undef = .bool B50 := hI 51 (by simp)
        show Brings Try.prog (fun v w' => Turned (fun _ => False) W w' ∧ v = bif (true && (B50 == true)) then .bool B61 else undef) _
        rw [hc, cond_true]
        simp only [execOp, Act.eval, h61, h51]
        go_simp
        try exact ⟨Turned.refl _ _, rfl⟩
    case s29 =>
      refine fun hs hle => stepG_guard [62] [3] (by kernel_rfl) 28 false 62 rfl rfl (by simp) (true && (B50 == true)) B61 (fun _ _ h => h) (fun hc => ?_) (fun hc _ _ => ?_)
      rotate_left
      · refine ⟨Turned.refl _ _, ?_⟩
        show undef = bif ((true && (B50 == true)) && (B61 == false)) then _ else undef
        rw [hc]; rfl
      · intro ac W hT hI hO
        have h62 : ac.tmps.getD 62 undef = bif (true && (B50 == true)) then .bool B61 else undef := hI 62 (by simp)
        rw [show (true && (B50 == true)) = true from by simp only [Bool.and_eq_true] at hc ⊢; simp [hc]] at h62
        have h3 : ac.tmps.getD 3 undef = .pointer (some ⟨w.heap.size, 0, none⟩) := hO 3 (by simp)
        show Brings Try.prog (fun v w' => Turned (fun _ => False) W w' ∧ v = bif ((true && (B50 == true)) && (B61 == false)) then .agg #[.int .i64 a.kind, .int .i64 a.n, .string a.name, .slice a.at_.1 a.args.length a.at_.2] else undef) _
        rw [hc, cond_true]
        obtain ⟨⟨c0, c1, c2, c3⟩, ⟨d0, d1, d2, d3⟩, ⟨e0, e1, e2, e3⟩⟩ := HKP.out W (S.trans hT)
        simp only [execOp, Act.eval, h62, h3]
        go_simp
        exact ⟨Turned.refl _ _, rfl⟩
    case s30 =>
      refine fun hs hle => stepG_guard [62] [5] (by kernel_rfl) 28 false 62 rfl rfl (by simp) (true && (B50 == true)) B61 (fun _ _ h => h) (fun hc => ?_) (fun hc _ _ => ?_)
      rotate_left
      · refine ⟨Turned.refl _ _, ?_⟩
        show undef = bif ((true && (B50 == true)) && (B61 == false)) then _ else undef
        rw [hc]; rfl
      · intro ac W hT hI hO
        have h62 : ac.tmps.getD 62 undef = bif (true && (B50 == true)) then .bool B61 else undef := hI 62 (by simp)
        rw [show (true && (B50 == true)) = true from by simp only [Bool.and_eq_true] at hc ⊢; simp [hc]] at h62
        have h5 : ac.tmps.getD 5 undef = .pointer (some ⟨(w.heap.size + 2), 0, none⟩) := hO 5 (by simp)
        show Brings Try.prog (fun v w' => Turned (fun _ => False) W w' ∧ v = bif ((true && (B50 == true)) && (B61 == false)) then .agg #[.int .i64 c.kind, .int .i64 c.n, .string c.name, .slice c.at_.1 c.args.length c.at_.2] else undef) _
        rw [hc, cond_true]
        obtain ⟨⟨c0, c1, c2, c3⟩, ⟨d0, d1, d2, d3⟩, ⟨e0, e1, e2, e3⟩⟩ := HKP.out W (S.trans hT)
        simp only [execOp, Act.eval, h62, h5]
        go_simp
        exact ⟨Turned.refl _ _, rfl⟩
    case s31 =>
      refine fun hs hle => stepG_guard [63, 64, 62] [] (by kernel_rfl) 28 false 62 rfl rfl (by simp) (true && (B50 == true)) B61 (fun _ _ h => h) (fun hc => ?_) (fun hc _ _ => ?_)
      rotate_left
      · refine ⟨Turned.refl _ _, ?_⟩
        show undef = bif ((true && (B50 == true)) && (B61 == false)) then _ else undef
        rw [hc]; rfl
      · intro ac W hT hI hO
        have h63 : ac.tmps.getD 63 undef = bif ((true && (B50 == true)) && (B61 == false)) then .agg #[.int .i64 a.kind, .int .i64 a.n, .string a.name, .slice a.at_.1 a.args.length a.at_.2] else undef := hI 63 (by simp)
        rw [hc, cond_true] at h63
        have h64 : ac.tmps.getD 64 undef = bif ((true && (B50 == true)) && (B61 == false)) then .agg #[.int .i64 c.kind, .int .i64 c.n, .string c.name, .slice c.at_.1 c.args.length c.at_.2] else undef := hI 64 (by simp)
        rw [hc, cond_true] at h64
        have h62 : ac.tmps.getD 62 undef = bif (true && (B50 == true)) then .bool B61 else undef := hI 62 (by simp)
        rw [show (true && (B50 == true)) = true from by simp only [Bool.and_eq_true] at hc ⊢; simp [hc]] at h62
        show Brings Try.prog (fun v w' => Turned (fun _ => False) W w' ∧ v = bif ((true && (B50 == true)) && (B61 == false)) then .bool MAC else undef) _
        rw [hc, cond_true]
        simp only [execOp, Act.eval, h63, h64, h62]
        go_simp
        show Calls Try.prog 78 _ W _
        (with_reducible refine (HMAC.out W (S.trans hT)).mono ?_)
        rintro e w' ⟨rfl, T'⟩
        exact ⟨_, rfl, T', rfl⟩
    case s32 =>
      refine fun hs hle => stepG_guard [62, 65, 51] [] (by kernel_rfl) 17 true 51 rfl rfl (by simp) true B50 (fun _ _ h => h) (fun hc => ?_) (fun hc _ _ => ?_)
      rotate_left
      · refine ⟨Turned.refl _ _, ?_⟩
        show undef = bif (true && (B50 == true)) then _ else undef
        rw [hc]; rfl
      · intro ac W hT hI hO
        have h62 : ac.tmps.getD 62 undef = bif (true && (B50 == true)) then .bool B61 else undef := hI 62 (by simp)
        rw [hc, cond_true] at h62
        have h65 : ac.tmps.getD 65 undef = bif ((true && (B50 == true)) && (B61 == false)) then .bool MAC else undef := hI 65 (by simp)
        have h51 : ac.tmps.getD 51 undef = .bool B50 := hI 51 (by simp)
        show Brings Try.prog (fun v w' => Turned (fun _ => False) W w' ∧ v = bif (true && (B50 == true)) then .bool B66 else undef) _
        rw [hc, cond_true]
        rw [HB66.out]
        simp only [Bool.true_and, Bool.and_eq_true, beq_iff_eq] at hc
        cases hB : B61
        · simp only [hB] at *
          simp [execOp, Act.eval, go_sem, Brings, h62, h65, h51, hc]
          try exact Turned.refl _ _
        · simp only [hB] at *
          simp [execOp, Act.eval, go_sem, Brings, h62, h65, h51, hc]
          try exact Turned.refl _ _
    case s33 =>
      refine fun hs hle => stepG_free [51, 66] [] (by kernel_rfl) rfl ?_
      · intro ac W hT hI hO
        have h51 : ac.tmps.getD 51 undef = .bool B50 := hI 51 (by simp)
        have h66 : ac.tmps.getD 66 undef = bif (true && (B50 == true)) then .bool B66 else undef := hI 66 (by simp)
        show Brings Try.prog (fun v w' => Turned (fun _ => False) W w' ∧ v = .bool B67) _
        rw [HB67.out]
        cases hB : B50
        · simp only [hB] at *
          simp [execOp, Act.eval, go_sem, Brings, h51, h66]
          try exact Turned.refl _ _
        · simp only [hB] at *
          simp [execOp, Act.eval, go_sem, Brings, h51, h66]
          try exact Turned.refl _ _
    case s34 =>
      refine fun hs hle => stepG_free [67] [] (by kernel_rfl) rfl ?_
      · intro ac W hT hI hO
        have h67 : ac.tmps.getD 67 undef = .bool B67 := hI 67 (by simp)
        show Brings Try.prog (fun v w' => Turned (fun _ => False) W w' ∧ v = .bool B67) _
        simp only [execOp, Act.eval, h67]
        go_simp
        try exact ⟨Turned.refl _ _, rfl⟩
    case s35 =>
      refine fun hs hle => stepG_guard [68] [3] (by kernel_rfl) 34 true 68 rfl rfl (by simp) true B67 (fun _ _ h => h) (fun hc => ?_) (fun hc _ _ => ?_)
      rotate_left
      · refine ⟨Turned.refl _ _, ?_⟩
        show undef = bif (true && (B67 == true)) then _ else undef
        rw [hc]; rfl
      · intro ac W hT hI hO
        have h68 : ac.tmps.getD 68 undef = .bool B67 := hI 68 (by simp)
        have h3 : ac.tmps.getD 3 undef = .pointer (some ⟨w.heap.size, 0, none⟩) := hO 3 (by simp)
        show Brings Try.prog (fun v w' => Turned (fun _ => False) W w' ∧ v = bif (true && (B67 == true)) then .agg #[.int .i64 a.kind, .int .i64 a.n, .string a.name, .slice a.at_.1 a.args.length a.at_.2] else undef) _
        rw [hc, cond_true]
        obtain ⟨⟨c0, c1, c2, c3⟩, ⟨d0, d1, d2, d3⟩, ⟨e0, e1, e2, e3⟩⟩ := HKP.out W (S.trans hT)
        simp only [execOp, Act.eval, h68, h3]
        go_simp
        exact ⟨Turned.refl _ _, rfl⟩
    case s36 =>
      refine fun hs hle => stepG_guard [68] [4] (by kernel_rfl) 34 true 68 rfl rfl (by simp) true B67 (fun _ _ h => h) (fun hc => ?_) (fun hc _ _ => ?_)
      rotate_left
      · refine ⟨Turned.refl _ _, ?_⟩
        show undef = bif (true && (B67 == true)) then _ else undef
        rw [hc]; rfl
      · intro ac W hT hI hO
        have h68 : ac.tmps.getD 68 undef = .bool B67 := hI 68 (by simp)
        have h4 : ac.tmps.getD 4 undef = .pointer (some ⟨(w.heap.size + 1), 0, none⟩) := hO 4 (by simp)
        show Brings Try.prog (fun v w' => Turned (fun _ => False) W w' ∧ v = bif (true && (B67 == true)) then .agg #[.int .i64 b.kind, .int .i64 b.n, .string b.name, .slice b.at_.1 b.args.length b.at_.2] else undef) _
        rw [hc, cond_true]
        obtain ⟨⟨c0, c1, c2, c3⟩, ⟨d0, d1, d2, d3⟩, ⟨e0, e1, e2, e3⟩⟩ := HKP.out W (S.trans hT)
        simp only [execOp, Act.eval, h68, h4]
        go_simp
        exact ⟨Turned.refl _ _, rfl⟩
    case s37 =>
      refine fun hs hle => stepG_guard [69, 70, 68] [] (by kernel_rfl) 34 true 68 rfl rfl (by simp) true B67 (fun _ _ h => h) (fun hc => ?_) (fun hc _ _ => ?_)
      rotate_left
      · refine ⟨Turned.refl _ _, ?_⟩
        show undef = bif (true && (B67 == true)) then _ else undef
        rw [hc]; rfl
      · intro ac W hT hI hO
        have h69 : ac.tmps.getD 69 undef = bif (true && (B67 == true)) then .agg #[.int .i64 a.kind, .int .i64 a.n, .string a.name, .slice a.at_.1 a.args.length a.at_.2] else undef := hI 69 (by simp)
        rw [hc, cond_true] at h69
        have h70 : ac.tmps.getD 70 undef = bif (true && (B67 == true)) then .agg #[.int .i64 b.kind, .int .i64 b.n, .string b.name, .slice b.at_.1 b.args.length b.at_.2] else undef := hI 70 (by simp)
        rw [hc, cond_true] at h70
        have h68 : ac.tmps.getD 68 undef = .bool B67 := hI 68 (by simp)
        show Brings Try.prog (fun v w' => Turned (fun _ => False) W w' ∧ v = bif (true && (B67 == true)) then .bool AAB else undef) _
        rw [hc, cond_true]
        simp only [execOp, Act.eval, h69, h70, h68]
        go_simp
        show Calls Try.prog 72 _ W _
        (with_reducible refine (HAAB.out W (S.trans hT)).mono ?_)
        rintro e w' ⟨rfl, T'⟩
        exact ⟨_, rfl, T', rfl⟩
    case s38 =>
      refine fun hs hle => stepG_guard [68] [4] (by kernel_rfl) 34 true 68 rfl rfl (by simp) true B67 (fun _ _ h => h) (fun hc => ?_) (fun hc _ _ => ?_)
      rotate_left
      · refine ⟨Turned.refl _ _, ?_⟩
        show undef = bif (true && (B67 == true)) then _ else undef
        rw [hc]; rfl
      · intro ac W hT hI hO
        have h68 : ac.tmps.getD 68 undef = .bool B67 := hI 68 (by simp)
        have h4 : ac.tmps.getD 4 undef = .pointer (some ⟨(w.heap.size + 1), 0, none⟩) := hO 4 (by simp)
        show Brings Try.prog (fun v w' => Turned (fun _ => False) W w' ∧ v = bif (true && (B67 == true)) then .agg #[.int .i64 b.kind, .int .i64 b.n, .string b.name, .slice b.at_.1 b.args.length b.at_.2] else undef) _
        rw [hc, cond_true]
        obtain ⟨⟨c0, c1, c2, c3⟩, ⟨d0, d1, d2, d3⟩, ⟨e0, e1, e2, e3⟩⟩ := HKP.out W (S.trans hT)
        simp only [execOp, Act.eval, h68, h4]
        go_simp
        exact ⟨Turned.refl _ _, rfl⟩
    case s39 =>
      refine fun hs hle => stepG_guard [68] [3] (by kernel_rfl) 34 true 68 rfl rfl (by simp) true B67 (fun _ _ h => h) (fun hc => ?_) (fun hc _ _ => ?_)
      rotate_left
      · refine ⟨Turned.refl _ _, ?_⟩
        show undef = bif (true && (B67 == true)) then _ else undef
        rw [hc]; rfl
      · intro ac W hT hI hO
        have h68 : ac.tmps.getD 68 undef = .bool B67 := hI 68 (by simp)
        have h3 : ac.tmps.getD 3 undef = .pointer (some ⟨w.heap.size, 0, none⟩) := hO 3 (by simp)
        show Brings Try.prog (fun v w' => Turned (fun _ => False) W w' ∧ v = bif (true && (B67 == true)) then .agg #[.int .i64 a.kind, .int .i64 a.n, .string a.name, .slice a.at_.1 a.args.length a.at_.2] else undef) _
        rw [hc, cond_true]
        obtain ⟨⟨c0, c1, c2, c3⟩, ⟨d0, d1, d2, d3⟩, ⟨e0, e1, e2, e3⟩⟩ := HKP.out W (S.trans hT)
        simp only [execOp, Act.eval, h68, h3]
        go_simp
        exact ⟨Turned.refl _ _, rfl⟩
    case s40 =>
      refine fun hs hle => stepG_guard [72, 73, 68] [] (by kernel_rfl) 34 true 68 rfl rfl (by simp) true B67 (fun _ _ h => h) (fun hc => ?_) (fun hc _ _ => ?_)
      rotate_left
      · refine ⟨Turned.refl _ _, ?_⟩
        show undef = bif (true && (B67 == true)) then _ else undef
        rw [hc]; rfl
      · intro ac W hT hI hO
        have h72 : ac.tmps.getD 72 undef = bif (true && (B67 == true)) then .agg #[.int .i64 b.kind, .int .i64 b.n, .string b.name, .slice b.at_.1 b.args.length b.at_.2] else undef := hI 72 (by simp)
        rw [hc, cond_true] at h72
        have h73 : ac.tmps.getD 73 undef = bif (true && (B67 == true)) then .agg #[.int .i64 a.kind, .int .i64 a.n, .string a.name, .slice a.at_.1 a.args.length a.at_.2] else undef := hI 73 (by simp)
        rw [hc, cond_true] at h73
        have h68 : ac.tmps.getD 68 undef = .bool B67 := hI 68 (by simp)
        show Brings Try.prog (fun v w' => Turned (fun _ => False) W w' ∧ v = bif (true && (B67 == true)) then .bool ABA else undef) _
        rw [hc, cond_true]
        simp only [execOp, Act.eval, h72, h73, h68]
        go_simp
        show Calls Try.prog 72 _ W _
        (with_reducible refine (HABA.out W (S.trans hT)).mono ?_)
        rintro e w' ⟨rfl, T'⟩
        exact ⟨_, rfl, T', rfl⟩
    case s41 =>
      refine fun hs hle => stepG_guard [71, 74, 68] [] (by kernel_rfl) 34 true 68 rfl rfl (by simp) true B67 (fun _ _ h => h) (fun hc => ?_) (fun hc _ _ => ?_)
      rotate_left
      · refine ⟨Turned.refl _ _, ?_⟩
        show undef = bif (true && (B67 == true)) then _ else undef
        rw [hc]; rfl
      · intro ac W hT hI hO
        have h71 : ac.tmps.getD 71 undef = bif (true && (B67 == true)) then .bool AAB else undef := hI 71 (by simp)
        rw [hc, cond_true] at h71
        have h74 : ac.tmps.getD 74 undef = bif (true && (B67 == true)) then .bool ABA else undef := hI 74 (by simp)
        rw [hc, cond_true] at h74
        have h68 : ac.tmps.getD 68 undef = .bool B67 := hI 68 (by simp)
        show Brings Try.prog (fun v w' => Turned (fun _ => False) W w' ∧ v = bif (true && (B67 == true)) then .bool B75 else undef) _
        rw [hc, cond_true]
        rw [HB75.out]
        simp only [execOp, Act.eval, h71, h74, h68]
        go_simp
        try exact ⟨Turned.refl _ _, rfl⟩
    case s42 =>
      refine fun hs hle => stepG_free [68, 75] [] (by kernel_rfl) rfl ?_
      · intro ac W hT hI hO
        have h68 : ac.tmps.getD 68 undef = .bool B67 := hI 68 (by simp)
        have h75 : ac.tmps.getD 75 undef = bif (true && (B67 == true)) then .bool B75 else undef := hI 75 (by simp)
        show Brings Try.prog (fun v w' => Turned (fun _ => False) W w' ∧ v = .bool B76) _
        rw [HB76.out]
        cases hB : B67
        · simp only [hB] at *
          simp [execOp, Act.eval, go_sem, Brings, h68, h75]
          try exact Turned.refl _ _
        · simp only [hB] at *
          simp [execOp, Act.eval, go_sem, Brings, h68, h75]
          try exact Turned.refl _ _
    case s43 =>
      refine fun hs hle => stepG_free [76] [] (by kernel_rfl) rfl ?_
      · intro ac W hT hI hO
        have h76 : ac.tmps.getD 76 undef = .bool B76 := hI 76 (by simp)
        show Brings Try.prog (fun v w' => Turned (fun _ => False) W w' ∧ v = .bool B76) _
        simp only [execOp, Act.eval, h76]
        go_simp
        try exact ⟨Turned.refl _ _, rfl⟩
  case hQ =>
    intro hs vq w9 hlen T9 hV
    have q6 : vq 6 = .bool B76 := hV 6 (by simp)
    rw [hB76] at q6
    simp only [List.foldl_cons, List.foldl_nil, List.setIfInBounds_toArray, List.set_cons_zero, List.set_cons_succ, q6]
    clear hV q6 hlen hs
    go_wp2_with fail
    go_ret
    exact ⟨rfl, HT1.out.trans (S.trans T9)⟩
end Go.Proofs.Ytoihjobdfjajfaa

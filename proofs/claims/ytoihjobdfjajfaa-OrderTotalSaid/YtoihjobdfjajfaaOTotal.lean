/- OrderTotal's walk. -/
import Derived.Test.YtoihjobdfjajfaaOKeys
namespace Go.Proofs.Ytoihjobdfjajfaa
set_option linter.unusedVariables false
set_option linter.unusedSimpArgs false
open Go.RowKit
set_option maxRecDepth 100000 in
set_option maxHeartbeats 6400000 in
theorem orderTotal {a b c : LT} {w : World} (ha : a.In (fun _ => True) w) (hb : b.In (fun _ => True) w) (hc : c.In (fun _ => True) w) :
    Calls Try.prog 13 #[a.val, b.val, c.val] w fun e w' => e = .returned (.bool true) ∧ Turned (fun _ => False) w w' := by
  obtain ⟨w1, hw1⟩ : ∃ z, z = (((w.alloc (.cells #[.int .i64 a.kind, .int .i64 a.n, .string a.name, .slice a.at_.1 a.args.length a.at_.2] 27)).alloc (.cells #[.int .i64 b.kind, .int .i64 b.n, .string b.name, .slice b.at_.1 b.args.length b.at_.2] 27)).alloc (.cells #[.int .i64 c.kind, .int .i64 c.n, .string c.name, .slice c.at_.1 c.args.length c.at_.2] 27)) := ⟨_, rfl⟩
  have h2 := threeB w (.cells #[.int .i64 a.kind, .int .i64 a.n, .string a.name, .slice a.at_.1 a.args.length a.at_.2] 27) (.cells #[.int .i64 b.kind, .int .i64 b.n, .string b.name, .slice b.at_.1 b.args.length b.at_.2] 27) (.cells #[.int .i64 c.kind, .int .i64 c.n, .string c.name, .slice c.at_.1 c.args.length c.at_.2] 27)
  rw [← hw1] at h2
  have hkp : ∀ W, Turned (fun _ => False) w1 W → (W.cell? ⟨w.heap.size, 0, none⟩ = some (.int .i64 a.kind) ∧ W.cell? ⟨w.heap.size, 1, none⟩ = some (.int .i64 a.n) ∧ W.cell? ⟨w.heap.size, 2, none⟩ = some (.string a.name) ∧ W.cell? ⟨w.heap.size, 3, none⟩ = some (.slice a.at_.1 a.args.length a.at_.2)) ∧ (W.cell? ⟨w.heap.size + 1, 0, none⟩ = some (.int .i64 b.kind) ∧ W.cell? ⟨w.heap.size + 1, 1, none⟩ = some (.int .i64 b.n) ∧ W.cell? ⟨w.heap.size + 1, 2, none⟩ = some (.string b.name) ∧ W.cell? ⟨w.heap.size + 1, 3, none⟩ = some (.slice b.at_.1 b.args.length b.at_.2)) ∧ (W.cell? ⟨w.heap.size + 2, 0, none⟩ = some (.int .i64 c.kind) ∧ W.cell? ⟨w.heap.size + 2, 1, none⟩ = some (.int .i64 c.n) ∧ W.cell? ⟨w.heap.size + 2, 2, none⟩ = some (.string c.name) ∧ W.cell? ⟨w.heap.size + 2, 3, none⟩ = some (.slice c.at_.1 c.args.length c.at_.2)) := fun W h => by
    obtain ⟨p00, p01, p02, p03, _⟩ := cells4 ((h.block _ (by have := h2.2.1; omega) (fun f => f)).trans h2.2.2.1)
    obtain ⟨p10, p11, p12, p13, _⟩ := cells4 ((h.block _ (by have := h2.2.1; omega) (fun f => f)).trans h2.2.2.2.1)
    obtain ⟨p20, p21, p22, p23, _⟩ := cells4 ((h.block _ (by have := h2.2.1; omega) (fun f => f)).trans h2.2.2.2.2)
    exact ⟨⟨p00, p01, p02, p03⟩, ⟨p10, p11, p12, p13⟩, ⟨p20, p21, p22, p23⟩⟩
  have hda := fun W (h : Turned (fun _ => False) w1 W) => deepI66 a W (ha.turned0 (h2.1.trans h))
  have hga := fun (s : slim a) W (h : Turned (fun _ => False) w1 W) => good38 (ha.turned0 (h2.1.trans h)) s
  have hdb := fun W (h : Turned (fun _ => False) w1 W) => deepI66 b W (hb.turned0 (h2.1.trans h))
  have hgb := fun (s : slim b) W (h : Turned (fun _ => False) w1 W) => good38 (hb.turned0 (h2.1.trans h)) s
  have hdc := fun W (h : Turned (fun _ => False) w1 W) => deepI66 c W (hc.turned0 (h2.1.trans h))
  have hgc := fun (s : slim c) W (h : Turned (fun _ => False) w1 W) => good38 (hc.turned0 (h2.1.trans h)) s
  have hcab := fun (sa : slim a) (sb : slim b) (ga : goodB a = true) (gb : goodB b = true) W (h : Turned (fun _ => False) w1 W) => cmp68 (ha.turned0 (h2.1.trans h)) (hb.turned0 (h2.1.trans h)) sa sb ga gb
  have hcbc := fun (sa : slim b) (sb : slim c) (ga : goodB b = true) (gb : goodB c = true) W (h : Turned (fun _ => False) w1 W) => cmp68 (hb.turned0 (h2.1.trans h)) (hc.turned0 (h2.1.trans h)) sa sb ga gb
  have hcac := fun (sa : slim a) (sb : slim c) (ga : goodB a = true) (gb : goodB c = true) W (h : Turned (fun _ => False) w1 W) => cmp68 (ha.turned0 (h2.1.trans h)) (hc.turned0 (h2.1.trans h)) sa sb ga gb
  have hcba := fun (sa : slim b) (sb : slim a) (ga : goodB b = true) (gb : goodB a = true) W (h : Turned (fun _ => False) w1 W) => cmp68 (hb.turned0 (h2.1.trans h)) (ha.turned0 (h2.1.trans h)) sa sb ga gb
  have hcaa := fun (sa : slim a) (sb : slim a) (ga : goodB a = true) (gb : goodB a = true) W (h : Turned (fun _ => False) w1 W) => cmp68 (ha.turned0 (h2.1.trans h)) (ha.turned0 (h2.1.trans h)) sa sb ga gb
  have hsab := fun (sa : slim a) (sb : slim b) W (h : Turned (fun _ => False) w1 W) => same52 (ha.turned0 (h2.1.trans h)) (hb.turned0 (h2.1.trans h)) sa sb
  rw [LT.val_eq a] at hda hga hcab hcac hcba hcaa hsab ⊢
  rw [LT.val_eq b] at hdb hgb hcab hcbc hcba hsab ⊢
  rw [LT.val_eq c] at hdc hgc hcbc hcac ⊢
  have HDa := Lib.hid hda
  have HDb := Lib.hid hdb
  have HDc := Lib.hid hdc
  have HGa := Lib.hid hga
  have HGb := Lib.hid hgb
  have HGc := Lib.hid hgc
  have HCAB := Lib.hid hcab
  have HCBC := Lib.hid hcbc
  have HCAC := Lib.hid hcac
  have HCBA := Lib.hid hcba
  have HCAA := Lib.hid hcaa
  have HSAB := Lib.hid hsab
  have HKP := Lib.hid hkp
  have HT1 := Lib.hid h2.1
  have HW := Lib.hid hw1
  clear hkp h2 hw1 hda hdb hdc hga hgb hgc hcab hcbc hcac hcba hcaa hsab ha hb hc
  cases da : deepB 40 a with
  | true =>
    rw [da] at HDa
    clear da
    go_enter Try.func13, Try.ntmps13
    go_wp2_with (first
      | (go_at_call 65; refine (awake65 _).mono ?_; rintro e W0 ⟨rfl, T0⟩; rw [← HW.out] at T0; have S0 := T0; obtain ⟨⟨c000, c001, c002, c003⟩, ⟨c010, c011, c012, c013⟩, ⟨c020, c021, c022, c023⟩⟩ := HKP.out _ S0)
      | (go_at_call 66; (with_reducible refine (HDa.out _ S0).mono ?_); rintro e W1 ⟨rfl, T1⟩; have S1 := S0.trans T1; obtain ⟨⟨c100, c101, c102, c103⟩, ⟨c110, c111, c112, c113⟩, ⟨c120, c121, c122, c123⟩⟩ := HKP.out _ S1))
    go_ret
    exact ⟨rfl, HT1.out.trans S1⟩
  | false =>
  rw [da] at HDa
  have HSa := Lib.hid (deep_slim 40 a da)
  clear da
  cases db : deepB 40 b with
  | true =>
    rw [db] at HDb
    clear db
    go_enter Try.func13, Try.ntmps13
    go_wp2_with (first
      | (go_at_call 65; refine (awake65 _).mono ?_; rintro e W0 ⟨rfl, T0⟩; rw [← HW.out] at T0; have S0 := T0; obtain ⟨⟨c000, c001, c002, c003⟩, ⟨c010, c011, c012, c013⟩, ⟨c020, c021, c022, c023⟩⟩ := HKP.out _ S0)
      | (go_at_call 66; (with_reducible refine (HDa.out _ S0).mono ?_); rintro e W1 ⟨rfl, T1⟩; have S1 := S0.trans T1; obtain ⟨⟨c100, c101, c102, c103⟩, ⟨c110, c111, c112, c113⟩, ⟨c120, c121, c122, c123⟩⟩ := HKP.out _ S1)
      | (go_at_call 66; (with_reducible refine (HDb.out _ S1).mono ?_); rintro e W2 ⟨rfl, T2⟩; have S2 := S1.trans T2; obtain ⟨⟨c200, c201, c202, c203⟩, ⟨c210, c211, c212, c213⟩, ⟨c220, c221, c222, c223⟩⟩ := HKP.out _ S2))
    go_ret
    exact ⟨rfl, HT1.out.trans S2⟩
  | false =>
  rw [db] at HDb
  have HSb := Lib.hid (deep_slim 40 b db)
  clear db
  cases dc : deepB 40 c with
  | true =>
    rw [dc] at HDc
    clear dc
    go_enter Try.func13, Try.ntmps13
    go_wp2_with (first
      | (go_at_call 65; refine (awake65 _).mono ?_; rintro e W0 ⟨rfl, T0⟩; rw [← HW.out] at T0; have S0 := T0; obtain ⟨⟨c000, c001, c002, c003⟩, ⟨c010, c011, c012, c013⟩, ⟨c020, c021, c022, c023⟩⟩ := HKP.out _ S0)
      | (go_at_call 66; (with_reducible refine (HDa.out _ S0).mono ?_); rintro e W1 ⟨rfl, T1⟩; have S1 := S0.trans T1; obtain ⟨⟨c100, c101, c102, c103⟩, ⟨c110, c111, c112, c113⟩, ⟨c120, c121, c122, c123⟩⟩ := HKP.out _ S1)
      | (go_at_call 66; (with_reducible refine (HDb.out _ S1).mono ?_); rintro e W2 ⟨rfl, T2⟩; have S2 := S1.trans T2; obtain ⟨⟨c200, c201, c202, c203⟩, ⟨c210, c211, c212, c213⟩, ⟨c220, c221, c222, c223⟩⟩ := HKP.out _ S2)
      | (go_at_call 66; (with_reducible refine (HDc.out _ S2).mono ?_); rintro e W3 ⟨rfl, T3⟩; have S3 := S2.trans T3; obtain ⟨⟨c300, c301, c302, c303⟩, ⟨c310, c311, c312, c313⟩, ⟨c320, c321, c322, c323⟩⟩ := HKP.out _ S3))
    go_ret
    exact ⟨rfl, HT1.out.trans S3⟩
  | false =>
  rw [dc] at HDc
  have HSc := Lib.hid (deep_slim 40 c dc)
  clear dc
  cases ga : goodB a with
  | false =>
    rw [ga] at HGa
    clear ga
    go_enter Try.func13, Try.ntmps13
    go_wp2_with (first
      | (go_at_call 65; refine (awake65 _).mono ?_; rintro e W0 ⟨rfl, T0⟩; rw [← HW.out] at T0; have S0 := T0; obtain ⟨⟨c000, c001, c002, c003⟩, ⟨c010, c011, c012, c013⟩, ⟨c020, c021, c022, c023⟩⟩ := HKP.out _ S0)
      | (go_at_call 66; (with_reducible refine (HDa.out _ S0).mono ?_); rintro e W1 ⟨rfl, T1⟩; have S1 := S0.trans T1; obtain ⟨⟨c100, c101, c102, c103⟩, ⟨c110, c111, c112, c113⟩, ⟨c120, c121, c122, c123⟩⟩ := HKP.out _ S1)
      | (go_at_call 66; (with_reducible refine (HDb.out _ S1).mono ?_); rintro e W2 ⟨rfl, T2⟩; have S2 := S1.trans T2; obtain ⟨⟨c200, c201, c202, c203⟩, ⟨c210, c211, c212, c213⟩, ⟨c220, c221, c222, c223⟩⟩ := HKP.out _ S2)
      | (go_at_call 66; (with_reducible refine (HDc.out _ S2).mono ?_); rintro e W3 ⟨rfl, T3⟩; have S3 := S2.trans T3; obtain ⟨⟨c300, c301, c302, c303⟩, ⟨c310, c311, c312, c313⟩, ⟨c320, c321, c322, c323⟩⟩ := HKP.out _ S3)
      | (go_at_call 38; (with_reducible refine (HGa.out HSa.out _ S3).mono ?_); rintro e W4 ⟨rfl, T4⟩; have S4 := S3.trans T4; obtain ⟨⟨c400, c401, c402, c403⟩, ⟨c410, c411, c412, c413⟩, ⟨c420, c421, c422, c423⟩⟩ := HKP.out _ S4))
    go_ret
    exact ⟨rfl, HT1.out.trans S4⟩
  | true =>
  rw [ga] at HGa
  have HQa := Lib.hid ga
  clear ga
  cases gb : goodB b with
  | false =>
    rw [gb] at HGb
    clear gb
    go_enter Try.func13, Try.ntmps13
    go_wp2_with (first
      | (go_at_call 65; refine (awake65 _).mono ?_; rintro e W0 ⟨rfl, T0⟩; rw [← HW.out] at T0; have S0 := T0; obtain ⟨⟨c000, c001, c002, c003⟩, ⟨c010, c011, c012, c013⟩, ⟨c020, c021, c022, c023⟩⟩ := HKP.out _ S0)
      | (go_at_call 66; (with_reducible refine (HDa.out _ S0).mono ?_); rintro e W1 ⟨rfl, T1⟩; have S1 := S0.trans T1; obtain ⟨⟨c100, c101, c102, c103⟩, ⟨c110, c111, c112, c113⟩, ⟨c120, c121, c122, c123⟩⟩ := HKP.out _ S1)
      | (go_at_call 66; (with_reducible refine (HDb.out _ S1).mono ?_); rintro e W2 ⟨rfl, T2⟩; have S2 := S1.trans T2; obtain ⟨⟨c200, c201, c202, c203⟩, ⟨c210, c211, c212, c213⟩, ⟨c220, c221, c222, c223⟩⟩ := HKP.out _ S2)
      | (go_at_call 66; (with_reducible refine (HDc.out _ S2).mono ?_); rintro e W3 ⟨rfl, T3⟩; have S3 := S2.trans T3; obtain ⟨⟨c300, c301, c302, c303⟩, ⟨c310, c311, c312, c313⟩, ⟨c320, c321, c322, c323⟩⟩ := HKP.out _ S3)
      | (go_at_call 38; (with_reducible refine (HGa.out HSa.out _ S3).mono ?_); rintro e W4 ⟨rfl, T4⟩; have S4 := S3.trans T4; obtain ⟨⟨c400, c401, c402, c403⟩, ⟨c410, c411, c412, c413⟩, ⟨c420, c421, c422, c423⟩⟩ := HKP.out _ S4)
      | (go_at_call 38; (with_reducible refine (HGb.out HSb.out _ S4).mono ?_); rintro e W5 ⟨rfl, T5⟩; have S5 := S4.trans T5; obtain ⟨⟨c500, c501, c502, c503⟩, ⟨c510, c511, c512, c513⟩, ⟨c520, c521, c522, c523⟩⟩ := HKP.out _ S5))
    go_ret
    exact ⟨rfl, HT1.out.trans S5⟩
  | true =>
  rw [gb] at HGb
  have HQb := Lib.hid gb
  clear gb
  cases gc : goodB c with
  | false =>
    rw [gc] at HGc
    clear gc
    go_enter Try.func13, Try.ntmps13
    go_wp2_with (first
      | (go_at_call 65; refine (awake65 _).mono ?_; rintro e W0 ⟨rfl, T0⟩; rw [← HW.out] at T0; have S0 := T0; obtain ⟨⟨c000, c001, c002, c003⟩, ⟨c010, c011, c012, c013⟩, ⟨c020, c021, c022, c023⟩⟩ := HKP.out _ S0)
      | (go_at_call 66; (with_reducible refine (HDa.out _ S0).mono ?_); rintro e W1 ⟨rfl, T1⟩; have S1 := S0.trans T1; obtain ⟨⟨c100, c101, c102, c103⟩, ⟨c110, c111, c112, c113⟩, ⟨c120, c121, c122, c123⟩⟩ := HKP.out _ S1)
      | (go_at_call 66; (with_reducible refine (HDb.out _ S1).mono ?_); rintro e W2 ⟨rfl, T2⟩; have S2 := S1.trans T2; obtain ⟨⟨c200, c201, c202, c203⟩, ⟨c210, c211, c212, c213⟩, ⟨c220, c221, c222, c223⟩⟩ := HKP.out _ S2)
      | (go_at_call 66; (with_reducible refine (HDc.out _ S2).mono ?_); rintro e W3 ⟨rfl, T3⟩; have S3 := S2.trans T3; obtain ⟨⟨c300, c301, c302, c303⟩, ⟨c310, c311, c312, c313⟩, ⟨c320, c321, c322, c323⟩⟩ := HKP.out _ S3)
      | (go_at_call 38; (with_reducible refine (HGa.out HSa.out _ S3).mono ?_); rintro e W4 ⟨rfl, T4⟩; have S4 := S3.trans T4; obtain ⟨⟨c400, c401, c402, c403⟩, ⟨c410, c411, c412, c413⟩, ⟨c420, c421, c422, c423⟩⟩ := HKP.out _ S4)
      | (go_at_call 38; (with_reducible refine (HGb.out HSb.out _ S4).mono ?_); rintro e W5 ⟨rfl, T5⟩; have S5 := S4.trans T5; obtain ⟨⟨c500, c501, c502, c503⟩, ⟨c510, c511, c512, c513⟩, ⟨c520, c521, c522, c523⟩⟩ := HKP.out _ S5)
      | (go_at_call 38; (with_reducible refine (HGc.out HSc.out _ S5).mono ?_); rintro e W6 ⟨rfl, T6⟩; have S6 := S5.trans T6; obtain ⟨⟨c600, c601, c602, c603⟩, ⟨c610, c611, c612, c613⟩, ⟨c620, c621, c622, c623⟩⟩ := HKP.out _ S6))
    go_ret
    exact ⟨rfl, HT1.out.trans S6⟩
  | true =>
  rw [gc] at HGc
  have HQc := Lib.hid gc
  clear gc
  have ht := Tm.total HQa.out HQb.out HQc.out
  obtain ⟨g1, g2, g3, g4, g5⟩ := ht
  have h1 := HCAB.out HSa.out HSb.out HQa.out HQb.out
  have h2 := HCBC.out HSb.out HSc.out HQb.out HQc.out
  have h3 := HCAC.out HSa.out HSc.out HQa.out HQc.out
  have h4 := HCBA.out HSb.out HSa.out HQb.out HQa.out
  have h5 := HCAA.out HSa.out HSa.out HQa.out HQa.out
  have h6 := HSAB.out HSa.out HSb.out
  have hsv : sameB a b = Tm.same a b := by unfold sameB; rw [HQa.out, HQb.out]; rfl
  rw [g1] at h4
  rw [g5] at h5
  rw [hsv] at h6
  have hr := Tm.cmp_range a b
  obtain ⟨y, hy⟩ : ∃ y, y = Tm.cmp b c := ⟨_, rfl⟩
  obtain ⟨z, hz⟩ : ∃ z, z = Tm.cmp a c := ⟨_, rfl⟩
  have hyr := Tm.cmp_range b c
  have hzr := Tm.cmp_range a c
  rw [← hy] at h2 g3 g4 hyr
  rw [← hz] at h3 g3 g4 hzr
  have H2 := Lib.hid h2
  have H3 := Lib.hid h3
  have H5 := Lib.hid h5
  clear h2 h3 h5 hy hz g1 g5 hsv HCAB HCBC HCAC HCBA HCAA HSAB
  rcases hr with hx | hx | hx
  · rw [hx] at h1 h4
    have hs : Tm.same a b = false := by
      rw [← Bool.not_eq_true, ← g2]; omega
    rw [hs] at h6
    have H1 := Lib.hid h1
    have H4 := Lib.hid h4
    have H6 := Lib.hid h6
    rw [hx] at g3 g4
    by_cases hy : 0 < y
    · have t1 : decide (0 < y) = true := by simp [hy]
      clear h1 h4 h6 hx hs g2 g3 g4 hy hyr hzr
      go_enter Try.func13, Try.ntmps13
      go_wp2_with (first
        | (go_at_call 65; refine (awake65 _).mono ?_; rintro e W0 ⟨rfl, T0⟩; rw [← HW.out] at T0; have S0 := T0; obtain ⟨⟨c000, c001, c002, c003⟩, ⟨c010, c011, c012, c013⟩, ⟨c020, c021, c022, c023⟩⟩ := HKP.out _ S0)
        | (go_at_call 66; (with_reducible refine (HDa.out _ S0).mono ?_); rintro e W1 ⟨rfl, T1⟩; have S1 := S0.trans T1; obtain ⟨⟨c100, c101, c102, c103⟩, ⟨c110, c111, c112, c113⟩, ⟨c120, c121, c122, c123⟩⟩ := HKP.out _ S1)
        | (go_at_call 66; (with_reducible refine (HDb.out _ S1).mono ?_); rintro e W2 ⟨rfl, T2⟩; have S2 := S1.trans T2; obtain ⟨⟨c200, c201, c202, c203⟩, ⟨c210, c211, c212, c213⟩, ⟨c220, c221, c222, c223⟩⟩ := HKP.out _ S2)
        | (go_at_call 66; (with_reducible refine (HDc.out _ S2).mono ?_); rintro e W3 ⟨rfl, T3⟩; have S3 := S2.trans T3; obtain ⟨⟨c300, c301, c302, c303⟩, ⟨c310, c311, c312, c313⟩, ⟨c320, c321, c322, c323⟩⟩ := HKP.out _ S3)
        | (go_at_call 38; (with_reducible refine (HGa.out HSa.out _ S3).mono ?_); rintro e W4 ⟨rfl, T4⟩; have S4 := S3.trans T4; obtain ⟨⟨c400, c401, c402, c403⟩, ⟨c410, c411, c412, c413⟩, ⟨c420, c421, c422, c423⟩⟩ := HKP.out _ S4)
        | (go_at_call 38; (with_reducible refine (HGb.out HSb.out _ S4).mono ?_); rintro e W5 ⟨rfl, T5⟩; have S5 := S4.trans T5; obtain ⟨⟨c500, c501, c502, c503⟩, ⟨c510, c511, c512, c513⟩, ⟨c520, c521, c522, c523⟩⟩ := HKP.out _ S5)
        | (go_at_call 38; (with_reducible refine (HGc.out HSc.out _ S5).mono ?_); rintro e W6 ⟨rfl, T6⟩; have S6 := S5.trans T6; obtain ⟨⟨c600, c601, c602, c603⟩, ⟨c610, c611, c612, c613⟩, ⟨c620, c621, c622, c623⟩⟩ := HKP.out _ S6))
      refine wp_region_hs [37, 38, 39, 40, 41, 42, 43, 44, 45, 7, 8, 9] [] [0, 0, 0, 0, 0, 0, 0, 0, 0, 0, 0, 0] [] (fun d v => (match d with | 37 => v = .agg #[.int .i64 a.kind, .int .i64 a.n, .string a.name, .slice a.at_.1 a.args.length a.at_.2] | 38 => v = .agg #[.int .i64 b.kind, .int .i64 b.n, .string b.name, .slice b.at_.1 b.args.length b.at_.2] | 39 => v = .int .i64 (-1 : Int) | 40 => v = .agg #[.int .i64 b.kind, .int .i64 b.n, .string b.name, .slice b.at_.1 b.args.length b.at_.2] | 41 => v = .agg #[.int .i64 c.kind, .int .i64 c.n, .string c.name, .slice c.at_.1 c.args.length c.at_.2] | 42 => v = .int .i64 y | 43 => v = .agg #[.int .i64 a.kind, .int .i64 a.n, .string a.name, .slice a.at_.1 a.args.length a.at_.2] | 44 => v = .agg #[.int .i64 c.kind, .int .i64 c.n, .string c.name, .slice c.at_.1 c.args.length c.at_.2] | 45 => v = .int .i64 z | 7 => v = .int .i64 (-1 : Int) | 8 => v = .int .i64 y | 9 => v = .int .i64 z | _ => True : Prop)) (fun _ W => Turned (fun _ => False) W6 W) (by kernel_rfl) rfl (by kernel_rfl) (by kernel_rfl) (by kernel_rfl) (by kernel_rfl) (fun _ h => h) (fun _ _ _ h ht => h.trans ht) ?hs ?hQ
      case hs =>
        refine ⟨?s0, ?s1, ?s2, ?s3, ?s4, ?s5, ?s6, ?s7, ?s8, ?s9, ?s10, ?s11, trivial⟩
        case s0 =>
          refine fun hs hle => stepG_free [] [3] (by kernel_rfl) rfl ?_
          · intro ac W hT hI hO
            have h3 : ac.tmps.getD 3 undef = .pointer (some ⟨w.heap.size, 0, none⟩) := hO 3 (by simp)
            show Brings Try.prog (fun v w' => Turned (fun _ => False) W w' ∧ v = .agg #[.int .i64 a.kind, .int .i64 a.n, .string a.name, .slice a.at_.1 a.args.length a.at_.2]) _
            obtain ⟨⟨x0, x1, x2, x3⟩, ⟨y0, y1, y2, y3⟩, ⟨z0, z1, z2, z3⟩⟩ := HKP.out W (S6.trans hT)
            simp only [execOp, Act.eval, h3]
            go_simp
            exact ⟨Turned.refl _ _, rfl⟩
        case s1 =>
          refine fun hs hle => stepG_free [] [4] (by kernel_rfl) rfl ?_
          · intro ac W hT hI hO
            have h4 : ac.tmps.getD 4 undef = .pointer (some ⟨(w.heap.size + 1), 0, none⟩) := hO 4 (by simp)
            show Brings Try.prog (fun v w' => Turned (fun _ => False) W w' ∧ v = .agg #[.int .i64 b.kind, .int .i64 b.n, .string b.name, .slice b.at_.1 b.args.length b.at_.2]) _
            obtain ⟨⟨x0, x1, x2, x3⟩, ⟨y0, y1, y2, y3⟩, ⟨z0, z1, z2, z3⟩⟩ := HKP.out W (S6.trans hT)
            simp only [execOp, Act.eval, h4]
            go_simp
            exact ⟨Turned.refl _ _, rfl⟩
        case s2 =>
          refine fun hs hle => stepG_free [37, 38] [] (by kernel_rfl) rfl ?_
          · intro ac W hT hI hO
            have h37 : ac.tmps.getD 37 undef = .agg #[.int .i64 a.kind, .int .i64 a.n, .string a.name, .slice a.at_.1 a.args.length a.at_.2] := hI 37 (by simp)
            have h38 : ac.tmps.getD 38 undef = .agg #[.int .i64 b.kind, .int .i64 b.n, .string b.name, .slice b.at_.1 b.args.length b.at_.2] := hI 38 (by simp)
            show Brings Try.prog (fun v w' => Turned (fun _ => False) W w' ∧ v = .int .i64 (-1 : Int)) _
            simp only [execOp, Act.eval, h37, h38]
            go_simp
            show Calls Try.prog 68 _ W _
            (with_reducible refine (H1.out W (S6.trans hT)).mono ?_)
            rintro e w' ⟨rfl, T'⟩
            exact ⟨_, rfl, T', rfl⟩
        case s3 =>
          refine fun hs hle => stepG_free [] [4] (by kernel_rfl) rfl ?_
          · intro ac W hT hI hO
            have h4 : ac.tmps.getD 4 undef = .pointer (some ⟨(w.heap.size + 1), 0, none⟩) := hO 4 (by simp)
            show Brings Try.prog (fun v w' => Turned (fun _ => False) W w' ∧ v = .agg #[.int .i64 b.kind, .int .i64 b.n, .string b.name, .slice b.at_.1 b.args.length b.at_.2]) _
            obtain ⟨⟨x0, x1, x2, x3⟩, ⟨y0, y1, y2, y3⟩, ⟨z0, z1, z2, z3⟩⟩ := HKP.out W (S6.trans hT)
            simp only [execOp, Act.eval, h4]
            go_simp
            exact ⟨Turned.refl _ _, rfl⟩
        case s4 =>
          refine fun hs hle => stepG_free [] [5] (by kernel_rfl) rfl ?_
          · intro ac W hT hI hO
            have h5 : ac.tmps.getD 5 undef = .pointer (some ⟨(w.heap.size + 2), 0, none⟩) := hO 5 (by simp)
            show Brings Try.prog (fun v w' => Turned (fun _ => False) W w' ∧ v = .agg #[.int .i64 c.kind, .int .i64 c.n, .string c.name, .slice c.at_.1 c.args.length c.at_.2]) _
            obtain ⟨⟨x0, x1, x2, x3⟩, ⟨y0, y1, y2, y3⟩, ⟨z0, z1, z2, z3⟩⟩ := HKP.out W (S6.trans hT)
            simp only [execOp, Act.eval, h5]
            go_simp
            exact ⟨Turned.refl _ _, rfl⟩
        case s5 =>
          refine fun hs hle => stepG_free [40, 41] [] (by kernel_rfl) rfl ?_
          · intro ac W hT hI hO
            have h40 : ac.tmps.getD 40 undef = .agg #[.int .i64 b.kind, .int .i64 b.n, .string b.name, .slice b.at_.1 b.args.length b.at_.2] := hI 40 (by simp)
            have h41 : ac.tmps.getD 41 undef = .agg #[.int .i64 c.kind, .int .i64 c.n, .string c.name, .slice c.at_.1 c.args.length c.at_.2] := hI 41 (by simp)
            show Brings Try.prog (fun v w' => Turned (fun _ => False) W w' ∧ v = .int .i64 y) _
            simp only [execOp, Act.eval, h40, h41]
            go_simp
            show Calls Try.prog 68 _ W _
            (with_reducible refine (H2.out W (S6.trans hT)).mono ?_)
            rintro e w' ⟨rfl, T'⟩
            exact ⟨_, rfl, T', rfl⟩
        case s6 =>
          refine fun hs hle => stepG_free [] [3] (by kernel_rfl) rfl ?_
          · intro ac W hT hI hO
            have h3 : ac.tmps.getD 3 undef = .pointer (some ⟨w.heap.size, 0, none⟩) := hO 3 (by simp)
            show Brings Try.prog (fun v w' => Turned (fun _ => False) W w' ∧ v = .agg #[.int .i64 a.kind, .int .i64 a.n, .string a.name, .slice a.at_.1 a.args.length a.at_.2]) _
            obtain ⟨⟨x0, x1, x2, x3⟩, ⟨y0, y1, y2, y3⟩, ⟨z0, z1, z2, z3⟩⟩ := HKP.out W (S6.trans hT)
            simp only [execOp, Act.eval, h3]
            go_simp
            exact ⟨Turned.refl _ _, rfl⟩
        case s7 =>
          refine fun hs hle => stepG_free [] [5] (by kernel_rfl) rfl ?_
          · intro ac W hT hI hO
            have h5 : ac.tmps.getD 5 undef = .pointer (some ⟨(w.heap.size + 2), 0, none⟩) := hO 5 (by simp)
            show Brings Try.prog (fun v w' => Turned (fun _ => False) W w' ∧ v = .agg #[.int .i64 c.kind, .int .i64 c.n, .string c.name, .slice c.at_.1 c.args.length c.at_.2]) _
            obtain ⟨⟨x0, x1, x2, x3⟩, ⟨y0, y1, y2, y3⟩, ⟨z0, z1, z2, z3⟩⟩ := HKP.out W (S6.trans hT)
            simp only [execOp, Act.eval, h5]
            go_simp
            exact ⟨Turned.refl _ _, rfl⟩
        case s8 =>
          refine fun hs hle => stepG_free [43, 44] [] (by kernel_rfl) rfl ?_
          · intro ac W hT hI hO
            have h43 : ac.tmps.getD 43 undef = .agg #[.int .i64 a.kind, .int .i64 a.n, .string a.name, .slice a.at_.1 a.args.length a.at_.2] := hI 43 (by simp)
            have h44 : ac.tmps.getD 44 undef = .agg #[.int .i64 c.kind, .int .i64 c.n, .string c.name, .slice c.at_.1 c.args.length c.at_.2] := hI 44 (by simp)
            show Brings Try.prog (fun v w' => Turned (fun _ => False) W w' ∧ v = .int .i64 z) _
            simp only [execOp, Act.eval, h43, h44]
            go_simp
            show Calls Try.prog 68 _ W _
            (with_reducible refine (H3.out W (S6.trans hT)).mono ?_)
            rintro e w' ⟨rfl, T'⟩
            exact ⟨_, rfl, T', rfl⟩
        case s9 =>
          refine fun hs hle => stepG_free [39] [] (by kernel_rfl) rfl ?_
          · intro ac W hT hI hO
            have h39 : ac.tmps.getD 39 undef = .int .i64 (-1 : Int) := hI 39 (by simp)
            show Brings Try.prog (fun v w' => Turned (fun _ => False) W w' ∧ v = .int .i64 (-1 : Int)) _
            simp only [execOp, Act.eval, h39]
            go_simp
            try exact ⟨Turned.refl _ _, rfl⟩
        case s10 =>
          refine fun hs hle => stepG_free [42] [] (by kernel_rfl) rfl ?_
          · intro ac W hT hI hO
            have h42 : ac.tmps.getD 42 undef = .int .i64 y := hI 42 (by simp)
            show Brings Try.prog (fun v w' => Turned (fun _ => False) W w' ∧ v = .int .i64 y) _
            simp only [execOp, Act.eval, h42]
            go_simp
            try exact ⟨Turned.refl _ _, rfl⟩
        case s11 =>
          refine fun hs hle => stepG_free [45] [] (by kernel_rfl) rfl ?_
          · intro ac W hT hI hO
            have h45 : ac.tmps.getD 45 undef = .int .i64 z := hI 45 (by simp)
            show Brings Try.prog (fun v w' => Turned (fun _ => False) W w' ∧ v = .int .i64 z) _
            simp only [execOp, Act.eval, h45]
            go_simp
            try exact ⟨Turned.refl _ _, rfl⟩
      case hQ =>
        intro hs vs W20 hlen T20 hV
        have q7 : vs 7 = .int .i64 (-1 : Int) := hV 7 (by simp)
        have q8 : vs 8 = .int .i64 y := hV 8 (by simp)
        have q9 : vs 9 = .int .i64 z := hV 9 (by simp)
        simp only [List.foldl_cons, List.foldl_nil, List.setIfInBounds_toArray, List.set_cons_zero, List.set_cons_succ, q7, q8, q9]
        clear hV q7 q8 q9 hlen hs
        have S20 := S6.trans T20
        obtain ⟨⟨c2000, c2001, c2002, c2003⟩, ⟨c2010, c2011, c2012, c2013⟩, ⟨c2020, c2021, c2022, c2023⟩⟩ := HKP.out _ S20
        go_wp2_with (first
          | (go_at_call 68; (with_reducible refine (H5.out _ S22).mono ?_); rintro e W23 ⟨rfl, T23⟩; have S23 := S22.trans T23)
          | (go_at_call 52; (with_reducible refine (H6.out _ S21).mono ?_); rintro e W22 ⟨rfl, T22⟩; have S22 := S21.trans T22; obtain ⟨⟨c2200, c2201, c2202, c2203⟩, ⟨c2210, c2211, c2212, c2213⟩, ⟨c2220, c2221, c2222, c2223⟩⟩ := HKP.out _ S22)
          | (go_at_call 68; (with_reducible refine (H4.out _ S20).mono ?_); rintro e W21 ⟨rfl, T21⟩; have S21 := S20.trans T21; obtain ⟨⟨c2100, c2101, c2102, c2103⟩, ⟨c2110, c2111, c2112, c2113⟩, ⟨c2120, c2121, c2122, c2123⟩⟩ := HKP.out _ S21))
        all_goals
          go_ret
          first
            | exact ⟨rfl, HT1.out.trans S23⟩
            | (exfalso; contradiction)
            | (exfalso; omega)
    · have t1 : decide (0 < y) = false := by simp; omega
      have t2 : decide (z ≤ 0) = true := by simp; omega
      have t3 : decide (z < 0) = true := by simp; omega
      clear h1 h4 h6 hx hs g2 g3 g4 hy hyr hzr
      go_enter Try.func13, Try.ntmps13
      go_wp2_with (first
        | (go_at_call 65; refine (awake65 _).mono ?_; rintro e W0 ⟨rfl, T0⟩; rw [← HW.out] at T0; have S0 := T0; obtain ⟨⟨c000, c001, c002, c003⟩, ⟨c010, c011, c012, c013⟩, ⟨c020, c021, c022, c023⟩⟩ := HKP.out _ S0)
        | (go_at_call 66; (with_reducible refine (HDa.out _ S0).mono ?_); rintro e W1 ⟨rfl, T1⟩; have S1 := S0.trans T1; obtain ⟨⟨c100, c101, c102, c103⟩, ⟨c110, c111, c112, c113⟩, ⟨c120, c121, c122, c123⟩⟩ := HKP.out _ S1)
        | (go_at_call 66; (with_reducible refine (HDb.out _ S1).mono ?_); rintro e W2 ⟨rfl, T2⟩; have S2 := S1.trans T2; obtain ⟨⟨c200, c201, c202, c203⟩, ⟨c210, c211, c212, c213⟩, ⟨c220, c221, c222, c223⟩⟩ := HKP.out _ S2)
        | (go_at_call 66; (with_reducible refine (HDc.out _ S2).mono ?_); rintro e W3 ⟨rfl, T3⟩; have S3 := S2.trans T3; obtain ⟨⟨c300, c301, c302, c303⟩, ⟨c310, c311, c312, c313⟩, ⟨c320, c321, c322, c323⟩⟩ := HKP.out _ S3)
        | (go_at_call 38; (with_reducible refine (HGa.out HSa.out _ S3).mono ?_); rintro e W4 ⟨rfl, T4⟩; have S4 := S3.trans T4; obtain ⟨⟨c400, c401, c402, c403⟩, ⟨c410, c411, c412, c413⟩, ⟨c420, c421, c422, c423⟩⟩ := HKP.out _ S4)
        | (go_at_call 38; (with_reducible refine (HGb.out HSb.out _ S4).mono ?_); rintro e W5 ⟨rfl, T5⟩; have S5 := S4.trans T5; obtain ⟨⟨c500, c501, c502, c503⟩, ⟨c510, c511, c512, c513⟩, ⟨c520, c521, c522, c523⟩⟩ := HKP.out _ S5)
        | (go_at_call 38; (with_reducible refine (HGc.out HSc.out _ S5).mono ?_); rintro e W6 ⟨rfl, T6⟩; have S6 := S5.trans T6; obtain ⟨⟨c600, c601, c602, c603⟩, ⟨c610, c611, c612, c613⟩, ⟨c620, c621, c622, c623⟩⟩ := HKP.out _ S6))
      refine wp_region_hs [37, 38, 39, 40, 41, 42, 43, 44, 45, 7, 8, 9] [] [0, 0, 0, 0, 0, 0, 0, 0, 0, 0, 0, 0] [] (fun d v => (match d with | 37 => v = .agg #[.int .i64 a.kind, .int .i64 a.n, .string a.name, .slice a.at_.1 a.args.length a.at_.2] | 38 => v = .agg #[.int .i64 b.kind, .int .i64 b.n, .string b.name, .slice b.at_.1 b.args.length b.at_.2] | 39 => v = .int .i64 (-1 : Int) | 40 => v = .agg #[.int .i64 b.kind, .int .i64 b.n, .string b.name, .slice b.at_.1 b.args.length b.at_.2] | 41 => v = .agg #[.int .i64 c.kind, .int .i64 c.n, .string c.name, .slice c.at_.1 c.args.length c.at_.2] | 42 => v = .int .i64 y | 43 => v = .agg #[.int .i64 a.kind, .int .i64 a.n, .string a.name, .slice a.at_.1 a.args.length a.at_.2] | 44 => v = .agg #[.int .i64 c.kind, .int .i64 c.n, .string c.name, .slice c.at_.1 c.args.length c.at_.2] | 45 => v = .int .i64 z | 7 => v = .int .i64 (-1 : Int) | 8 => v = .int .i64 y | 9 => v = .int .i64 z | _ => True : Prop)) (fun _ W => Turned (fun _ => False) W6 W) (by kernel_rfl) rfl (by kernel_rfl) (by kernel_rfl) (by kernel_rfl) (by kernel_rfl) (fun _ h => h) (fun _ _ _ h ht => h.trans ht) ?hs ?hQ
      case hs =>
        refine ⟨?s0, ?s1, ?s2, ?s3, ?s4, ?s5, ?s6, ?s7, ?s8, ?s9, ?s10, ?s11, trivial⟩
        case s0 =>
          refine fun hs hle => stepG_free [] [3] (by kernel_rfl) rfl ?_
          · intro ac W hT hI hO
            have h3 : ac.tmps.getD 3 undef = .pointer (some ⟨w.heap.size, 0, none⟩) := hO 3 (by simp)
            show Brings Try.prog (fun v w' => Turned (fun _ => False) W w' ∧ v = .agg #[.int .i64 a.kind, .int .i64 a.n, .string a.name, .slice a.at_.1 a.args.length a.at_.2]) _
            obtain ⟨⟨x0, x1, x2, x3⟩, ⟨y0, y1, y2, y3⟩, ⟨z0, z1, z2, z3⟩⟩ := HKP.out W (S6.trans hT)
            simp only [execOp, Act.eval, h3]
            go_simp
            exact ⟨Turned.refl _ _, rfl⟩
        case s1 =>
          refine fun hs hle => stepG_free [] [4] (by kernel_rfl) rfl ?_
          · intro ac W hT hI hO
            have h4 : ac.tmps.getD 4 undef = .pointer (some ⟨(w.heap.size + 1), 0, none⟩) := hO 4 (by simp)
            show Brings Try.prog (fun v w' => Turned (fun _ => False) W w' ∧ v = .agg #[.int .i64 b.kind, .int .i64 b.n, .string b.name, .slice b.at_.1 b.args.length b.at_.2]) _
            obtain ⟨⟨x0, x1, x2, x3⟩, ⟨y0, y1, y2, y3⟩, ⟨z0, z1, z2, z3⟩⟩ := HKP.out W (S6.trans hT)
            simp only [execOp, Act.eval, h4]
            go_simp
            exact ⟨Turned.refl _ _, rfl⟩
        case s2 =>
          refine fun hs hle => stepG_free [37, 38] [] (by kernel_rfl) rfl ?_
          · intro ac W hT hI hO
            have h37 : ac.tmps.getD 37 undef = .agg #[.int .i64 a.kind, .int .i64 a.n, .string a.name, .slice a.at_.1 a.args.length a.at_.2] := hI 37 (by simp)
            have h38 : ac.tmps.getD 38 undef = .agg #[.int .i64 b.kind, .int .i64 b.n, .string b.name, .slice b.at_.1 b.args.length b.at_.2] := hI 38 (by simp)
            show Brings Try.prog (fun v w' => Turned (fun _ => False) W w' ∧ v = .int .i64 (-1 : Int)) _
            simp only [execOp, Act.eval, h37, h38]
            go_simp
            show Calls Try.prog 68 _ W _
            (with_reducible refine (H1.out W (S6.trans hT)).mono ?_)
            rintro e w' ⟨rfl, T'⟩
            exact ⟨_, rfl, T', rfl⟩
        case s3 =>
          refine fun hs hle => stepG_free [] [4] (by kernel_rfl) rfl ?_
          · intro ac W hT hI hO
            have h4 : ac.tmps.getD 4 undef = .pointer (some ⟨(w.heap.size + 1), 0, none⟩) := hO 4 (by simp)
            show Brings Try.prog (fun v w' => Turned (fun _ => False) W w' ∧ v = .agg #[.int .i64 b.kind, .int .i64 b.n, .string b.name, .slice b.at_.1 b.args.length b.at_.2]) _
            obtain ⟨⟨x0, x1, x2, x3⟩, ⟨y0, y1, y2, y3⟩, ⟨z0, z1, z2, z3⟩⟩ := HKP.out W (S6.trans hT)
            simp only [execOp, Act.eval, h4]
            go_simp
            exact ⟨Turned.refl _ _, rfl⟩
        case s4 =>
          refine fun hs hle => stepG_free [] [5] (by kernel_rfl) rfl ?_
          · intro ac W hT hI hO
            have h5 : ac.tmps.getD 5 undef = .pointer (some ⟨(w.heap.size + 2), 0, none⟩) := hO 5 (by simp)
            show Brings Try.prog (fun v w' => Turned (fun _ => False) W w' ∧ v = .agg #[.int .i64 c.kind, .int .i64 c.n, .string c.name, .slice c.at_.1 c.args.length c.at_.2]) _
            obtain ⟨⟨x0, x1, x2, x3⟩, ⟨y0, y1, y2, y3⟩, ⟨z0, z1, z2, z3⟩⟩ := HKP.out W (S6.trans hT)
            simp only [execOp, Act.eval, h5]
            go_simp
            exact ⟨Turned.refl _ _, rfl⟩
        case s5 =>
          refine fun hs hle => stepG_free [40, 41] [] (by kernel_rfl) rfl ?_
          · intro ac W hT hI hO
            have h40 : ac.tmps.getD 40 undef = .agg #[.int .i64 b.kind, .int .i64 b.n, .string b.name, .slice b.at_.1 b.args.length b.at_.2] := hI 40 (by simp)
            have h41 : ac.tmps.getD 41 undef = .agg #[.int .i64 c.kind, .int .i64 c.n, .string c.name, .slice c.at_.1 c.args.length c.at_.2] := hI 41 (by simp)
            show Brings Try.prog (fun v w' => Turned (fun _ => False) W w' ∧ v = .int .i64 y) _
            simp only [execOp, Act.eval, h40, h41]
            go_simp
            show Calls Try.prog 68 _ W _
            (with_reducible refine (H2.out W (S6.trans hT)).mono ?_)
            rintro e w' ⟨rfl, T'⟩
            exact ⟨_, rfl, T', rfl⟩
        case s6 =>
          refine fun hs hle => stepG_free [] [3] (by kernel_rfl) rfl ?_
          · intro ac W hT hI hO
            have h3 : ac.tmps.getD 3 undef = .pointer (some ⟨w.heap.size, 0, none⟩) := hO 3 (by simp)
            show Brings Try.prog (fun v w' => Turned (fun _ => False) W w' ∧ v = .agg #[.int .i64 a.kind, .int .i64 a.n, .string a.name, .slice a.at_.1 a.args.length a.at_.2]) _
            obtain ⟨⟨x0, x1, x2, x3⟩, ⟨y0, y1, y2, y3⟩, ⟨z0, z1, z2, z3⟩⟩ := HKP.out W (S6.trans hT)
            simp only [execOp, Act.eval, h3]
            go_simp
            exact ⟨Turned.refl _ _, rfl⟩
        case s7 =>
          refine fun hs hle => stepG_free [] [5] (by kernel_rfl) rfl ?_
          · intro ac W hT hI hO
            have h5 : ac.tmps.getD 5 undef = .pointer (some ⟨(w.heap.size + 2), 0, none⟩) := hO 5 (by simp)
            show Brings Try.prog (fun v w' => Turned (fun _ => False) W w' ∧ v = .agg #[.int .i64 c.kind, .int .i64 c.n, .string c.name, .slice c.at_.1 c.args.length c.at_.2]) _
            obtain ⟨⟨x0, x1, x2, x3⟩, ⟨y0, y1, y2, y3⟩, ⟨z0, z1, z2, z3⟩⟩ := HKP.out W (S6.trans hT)
            simp only [execOp, Act.eval, h5]
            go_simp
            exact ⟨Turned.refl _ _, rfl⟩
        case s8 =>
          refine fun hs hle => stepG_free [43, 44] [] (by kernel_rfl) rfl ?_
          · intro ac W hT hI hO
            have h43 : ac.tmps.getD 43 undef = .agg #[.int .i64 a.kind, .int .i64 a.n, .string a.name, .slice a.at_.1 a.args.length a.at_.2] := hI 43 (by simp)
            have h44 : ac.tmps.getD 44 undef = .agg #[.int .i64 c.kind, .int .i64 c.n, .string c.name, .slice c.at_.1 c.args.length c.at_.2] := hI 44 (by simp)
            show Brings Try.prog (fun v w' => Turned (fun _ => False) W w' ∧ v = .int .i64 z) _
            simp only [execOp, Act.eval, h43, h44]
            go_simp
            show Calls Try.prog 68 _ W _
            (with_reducible refine (H3.out W (S6.trans hT)).mono ?_)
            rintro e w' ⟨rfl, T'⟩
            exact ⟨_, rfl, T', rfl⟩
        case s9 =>
          refine fun hs hle => stepG_free [39] [] (by kernel_rfl) rfl ?_
          · intro ac W hT hI hO
            have h39 : ac.tmps.getD 39 undef = .int .i64 (-1 : Int) := hI 39 (by simp)
            show Brings Try.prog (fun v w' => Turned (fun _ => False) W w' ∧ v = .int .i64 (-1 : Int)) _
            simp only [execOp, Act.eval, h39]
            go_simp
            try exact ⟨Turned.refl _ _, rfl⟩
        case s10 =>
          refine fun hs hle => stepG_free [42] [] (by kernel_rfl) rfl ?_
          · intro ac W hT hI hO
            have h42 : ac.tmps.getD 42 undef = .int .i64 y := hI 42 (by simp)
            show Brings Try.prog (fun v w' => Turned (fun _ => False) W w' ∧ v = .int .i64 y) _
            simp only [execOp, Act.eval, h42]
            go_simp
            try exact ⟨Turned.refl _ _, rfl⟩
        case s11 =>
          refine fun hs hle => stepG_free [45] [] (by kernel_rfl) rfl ?_
          · intro ac W hT hI hO
            have h45 : ac.tmps.getD 45 undef = .int .i64 z := hI 45 (by simp)
            show Brings Try.prog (fun v w' => Turned (fun _ => False) W w' ∧ v = .int .i64 z) _
            simp only [execOp, Act.eval, h45]
            go_simp
            try exact ⟨Turned.refl _ _, rfl⟩
      case hQ =>
        intro hs vs W20 hlen T20 hV
        have q7 : vs 7 = .int .i64 (-1 : Int) := hV 7 (by simp)
        have q8 : vs 8 = .int .i64 y := hV 8 (by simp)
        have q9 : vs 9 = .int .i64 z := hV 9 (by simp)
        simp only [List.foldl_cons, List.foldl_nil, List.setIfInBounds_toArray, List.set_cons_zero, List.set_cons_succ, q7, q8, q9]
        clear hV q7 q8 q9 hlen hs
        have S20 := S6.trans T20
        obtain ⟨⟨c2000, c2001, c2002, c2003⟩, ⟨c2010, c2011, c2012, c2013⟩, ⟨c2020, c2021, c2022, c2023⟩⟩ := HKP.out _ S20
        go_wp2_with (first
          | (go_at_call 68; (with_reducible refine (H5.out _ S22).mono ?_); rintro e W23 ⟨rfl, T23⟩; have S23 := S22.trans T23)
          | (go_at_call 52; (with_reducible refine (H6.out _ S21).mono ?_); rintro e W22 ⟨rfl, T22⟩; have S22 := S21.trans T22; obtain ⟨⟨c2200, c2201, c2202, c2203⟩, ⟨c2210, c2211, c2212, c2213⟩, ⟨c2220, c2221, c2222, c2223⟩⟩ := HKP.out _ S22)
          | (go_at_call 68; (with_reducible refine (H4.out _ S20).mono ?_); rintro e W21 ⟨rfl, T21⟩; have S21 := S20.trans T21; obtain ⟨⟨c2100, c2101, c2102, c2103⟩, ⟨c2110, c2111, c2112, c2113⟩, ⟨c2120, c2121, c2122, c2123⟩⟩ := HKP.out _ S21))
        all_goals
          go_ret
          first
            | exact ⟨rfl, HT1.out.trans S23⟩
            | (exfalso; contradiction)
            | (exfalso; omega)
  · rw [hx] at h1 h4
    have hs : Tm.same a b = true := g2.1 hx
    rw [hs] at h6
    have H1 := Lib.hid h1
    have H4 := Lib.hid h4
    have H6 := Lib.hid h6
    rw [hx] at g3 g4
    by_cases hy : 0 < y
    · have t1 : decide (0 < y) = true := by simp [hy]
      clear h1 h4 h6 hx hs g2 g3 g4 hy hyr hzr
      go_enter Try.func13, Try.ntmps13
      go_wp2_with (first
        | (go_at_call 65; refine (awake65 _).mono ?_; rintro e W0 ⟨rfl, T0⟩; rw [← HW.out] at T0; have S0 := T0; obtain ⟨⟨c000, c001, c002, c003⟩, ⟨c010, c011, c012, c013⟩, ⟨c020, c021, c022, c023⟩⟩ := HKP.out _ S0)
        | (go_at_call 66; (with_reducible refine (HDa.out _ S0).mono ?_); rintro e W1 ⟨rfl, T1⟩; have S1 := S0.trans T1; obtain ⟨⟨c100, c101, c102, c103⟩, ⟨c110, c111, c112, c113⟩, ⟨c120, c121, c122, c123⟩⟩ := HKP.out _ S1)
        | (go_at_call 66; (with_reducible refine (HDb.out _ S1).mono ?_); rintro e W2 ⟨rfl, T2⟩; have S2 := S1.trans T2; obtain ⟨⟨c200, c201, c202, c203⟩, ⟨c210, c211, c212, c213⟩, ⟨c220, c221, c222, c223⟩⟩ := HKP.out _ S2)
        | (go_at_call 66; (with_reducible refine (HDc.out _ S2).mono ?_); rintro e W3 ⟨rfl, T3⟩; have S3 := S2.trans T3; obtain ⟨⟨c300, c301, c302, c303⟩, ⟨c310, c311, c312, c313⟩, ⟨c320, c321, c322, c323⟩⟩ := HKP.out _ S3)
        | (go_at_call 38; (with_reducible refine (HGa.out HSa.out _ S3).mono ?_); rintro e W4 ⟨rfl, T4⟩; have S4 := S3.trans T4; obtain ⟨⟨c400, c401, c402, c403⟩, ⟨c410, c411, c412, c413⟩, ⟨c420, c421, c422, c423⟩⟩ := HKP.out _ S4)
        | (go_at_call 38; (with_reducible refine (HGb.out HSb.out _ S4).mono ?_); rintro e W5 ⟨rfl, T5⟩; have S5 := S4.trans T5; obtain ⟨⟨c500, c501, c502, c503⟩, ⟨c510, c511, c512, c513⟩, ⟨c520, c521, c522, c523⟩⟩ := HKP.out _ S5)
        | (go_at_call 38; (with_reducible refine (HGc.out HSc.out _ S5).mono ?_); rintro e W6 ⟨rfl, T6⟩; have S6 := S5.trans T6; obtain ⟨⟨c600, c601, c602, c603⟩, ⟨c610, c611, c612, c613⟩, ⟨c620, c621, c622, c623⟩⟩ := HKP.out _ S6))
      refine wp_region_hs [37, 38, 39, 40, 41, 42, 43, 44, 45, 7, 8, 9] [] [0, 0, 0, 0, 0, 0, 0, 0, 0, 0, 0, 0] [] (fun d v => (match d with | 37 => v = .agg #[.int .i64 a.kind, .int .i64 a.n, .string a.name, .slice a.at_.1 a.args.length a.at_.2] | 38 => v = .agg #[.int .i64 b.kind, .int .i64 b.n, .string b.name, .slice b.at_.1 b.args.length b.at_.2] | 39 => v = .int .i64 (0 : Int) | 40 => v = .agg #[.int .i64 b.kind, .int .i64 b.n, .string b.name, .slice b.at_.1 b.args.length b.at_.2] | 41 => v = .agg #[.int .i64 c.kind, .int .i64 c.n, .string c.name, .slice c.at_.1 c.args.length c.at_.2] | 42 => v = .int .i64 y | 43 => v = .agg #[.int .i64 a.kind, .int .i64 a.n, .string a.name, .slice a.at_.1 a.args.length a.at_.2] | 44 => v = .agg #[.int .i64 c.kind, .int .i64 c.n, .string c.name, .slice c.at_.1 c.args.length c.at_.2] | 45 => v = .int .i64 z | 7 => v = .int .i64 (0 : Int) | 8 => v = .int .i64 y | 9 => v = .int .i64 z | _ => True : Prop)) (fun _ W => Turned (fun _ => False) W6 W) (by kernel_rfl) rfl (by kernel_rfl) (by kernel_rfl) (by kernel_rfl) (by kernel_rfl) (fun _ h => h) (fun _ _ _ h ht => h.trans ht) ?hs ?hQ
      case hs =>
        refine ⟨?s0, ?s1, ?s2, ?s3, ?s4, ?s5, ?s6, ?s7, ?s8, ?s9, ?s10, ?s11, trivial⟩
        case s0 =>
          refine fun hs hle => stepG_free [] [3] (by kernel_rfl) rfl ?_
          · intro ac W hT hI hO
            have h3 : ac.tmps.getD 3 undef = .pointer (some ⟨w.heap.size, 0, none⟩) := hO 3 (by simp)
            show Brings Try.prog (fun v w' => Turned (fun _ => False) W w' ∧ v = .agg #[.int .i64 a.kind, .int .i64 a.n, .string a.name, .slice a.at_.1 a.args.length a.at_.2]) _
            obtain ⟨⟨x0, x1, x2, x3⟩, ⟨y0, y1, y2, y3⟩, ⟨z0, z1, z2, z3⟩⟩ := HKP.out W (S6.trans hT)
            simp only [execOp, Act.eval, h3]
            go_simp
            exact ⟨Turned.refl _ _, rfl⟩
        case s1 =>
          refine fun hs hle => stepG_free [] [4] (by kernel_rfl) rfl ?_
          · intro ac W hT hI hO
            have h4 : ac.tmps.getD 4 undef = .pointer (some ⟨(w.heap.size + 1), 0, none⟩) := hO 4 (by simp)
            show Brings Try.prog (fun v w' => Turned (fun _ => False) W w' ∧ v = .agg #[.int .i64 b.kind, .int .i64 b.n, .string b.name, .slice b.at_.1 b.args.length b.at_.2]) _
            obtain ⟨⟨x0, x1, x2, x3⟩, ⟨y0, y1, y2, y3⟩, ⟨z0, z1, z2, z3⟩⟩ := HKP.out W (S6.trans hT)
            simp only [execOp, Act.eval, h4]
            go_simp
            exact ⟨Turned.refl _ _, rfl⟩
        case s2 =>
          refine fun hs hle => stepG_free [37, 38] [] (by kernel_rfl) rfl ?_
          · intro ac W hT hI hO
            have h37 : ac.tmps.getD 37 undef = .agg #[.int .i64 a.kind, .int .i64 a.n, .string a.name, .slice a.at_.1 a.args.length a.at_.2] := hI 37 (by simp)
            have h38 : ac.tmps.getD 38 undef = .agg #[.int .i64 b.kind, .int .i64 b.n, .string b.name, .slice b.at_.1 b.args.length b.at_.2] := hI 38 (by simp)
            show Brings Try.prog (fun v w' => Turned (fun _ => False) W w' ∧ v = .int .i64 (0 : Int)) _
            simp only [execOp, Act.eval, h37, h38]
            go_simp
            show Calls Try.prog 68 _ W _
            (with_reducible refine (H1.out W (S6.trans hT)).mono ?_)
            rintro e w' ⟨rfl, T'⟩
            exact ⟨_, rfl, T', rfl⟩
        case s3 =>
          refine fun hs hle => stepG_free [] [4] (by kernel_rfl) rfl ?_
          · intro ac W hT hI hO
            have h4 : ac.tmps.getD 4 undef = .pointer (some ⟨(w.heap.size + 1), 0, none⟩) := hO 4 (by simp)
            show Brings Try.prog (fun v w' => Turned (fun _ => False) W w' ∧ v = .agg #[.int .i64 b.kind, .int .i64 b.n, .string b.name, .slice b.at_.1 b.args.length b.at_.2]) _
            obtain ⟨⟨x0, x1, x2, x3⟩, ⟨y0, y1, y2, y3⟩, ⟨z0, z1, z2, z3⟩⟩ := HKP.out W (S6.trans hT)
            simp only [execOp, Act.eval, h4]
            go_simp
            exact ⟨Turned.refl _ _, rfl⟩
        case s4 =>
          refine fun hs hle => stepG_free [] [5] (by kernel_rfl) rfl ?_
          · intro ac W hT hI hO
            have h5 : ac.tmps.getD 5 undef = .pointer (some ⟨(w.heap.size + 2), 0, none⟩) := hO 5 (by simp)
            show Brings Try.prog (fun v w' => Turned (fun _ => False) W w' ∧ v = .agg #[.int .i64 c.kind, .int .i64 c.n, .string c.name, .slice c.at_.1 c.args.length c.at_.2]) _
            obtain ⟨⟨x0, x1, x2, x3⟩, ⟨y0, y1, y2, y3⟩, ⟨z0, z1, z2, z3⟩⟩ := HKP.out W (S6.trans hT)
            simp only [execOp, Act.eval, h5]
            go_simp
            exact ⟨Turned.refl _ _, rfl⟩
        case s5 =>
          refine fun hs hle => stepG_free [40, 41] [] (by kernel_rfl) rfl ?_
          · intro ac W hT hI hO
            have h40 : ac.tmps.getD 40 undef = .agg #[.int .i64 b.kind, .int .i64 b.n, .string b.name, .slice b.at_.1 b.args.length b.at_.2] := hI 40 (by simp)
            have h41 : ac.tmps.getD 41 undef = .agg #[.int .i64 c.kind, .int .i64 c.n, .string c.name, .slice c.at_.1 c.args.length c.at_.2] := hI 41 (by simp)
            show Brings Try.prog (fun v w' => Turned (fun _ => False) W w' ∧ v = .int .i64 y) _
            simp only [execOp, Act.eval, h40, h41]
            go_simp
            show Calls Try.prog 68 _ W _
            (with_reducible refine (H2.out W (S6.trans hT)).mono ?_)
            rintro e w' ⟨rfl, T'⟩
            exact ⟨_, rfl, T', rfl⟩
        case s6 =>
          refine fun hs hle => stepG_free [] [3] (by kernel_rfl) rfl ?_
          · intro ac W hT hI hO
            have h3 : ac.tmps.getD 3 undef = .pointer (some ⟨w.heap.size, 0, none⟩) := hO 3 (by simp)
            show Brings Try.prog (fun v w' => Turned (fun _ => False) W w' ∧ v = .agg #[.int .i64 a.kind, .int .i64 a.n, .string a.name, .slice a.at_.1 a.args.length a.at_.2]) _
            obtain ⟨⟨x0, x1, x2, x3⟩, ⟨y0, y1, y2, y3⟩, ⟨z0, z1, z2, z3⟩⟩ := HKP.out W (S6.trans hT)
            simp only [execOp, Act.eval, h3]
            go_simp
            exact ⟨Turned.refl _ _, rfl⟩
        case s7 =>
          refine fun hs hle => stepG_free [] [5] (by kernel_rfl) rfl ?_
          · intro ac W hT hI hO
            have h5 : ac.tmps.getD 5 undef = .pointer (some ⟨(w.heap.size + 2), 0, none⟩) := hO 5 (by simp)
            show Brings Try.prog (fun v w' => Turned (fun _ => False) W w' ∧ v = .agg #[.int .i64 c.kind, .int .i64 c.n, .string c.name, .slice c.at_.1 c.args.length c.at_.2]) _
            obtain ⟨⟨x0, x1, x2, x3⟩, ⟨y0, y1, y2, y3⟩, ⟨z0, z1, z2, z3⟩⟩ := HKP.out W (S6.trans hT)
            simp only [execOp, Act.eval, h5]
            go_simp
            exact ⟨Turned.refl _ _, rfl⟩
        case s8 =>
          refine fun hs hle => stepG_free [43, 44] [] (by kernel_rfl) rfl ?_
          · intro ac W hT hI hO
            have h43 : ac.tmps.getD 43 undef = .agg #[.int .i64 a.kind, .int .i64 a.n, .string a.name, .slice a.at_.1 a.args.length a.at_.2] := hI 43 (by simp)
            have h44 : ac.tmps.getD 44 undef = .agg #[.int .i64 c.kind, .int .i64 c.n, .string c.name, .slice c.at_.1 c.args.length c.at_.2] := hI 44 (by simp)
            show Brings Try.prog (fun v w' => Turned (fun _ => False) W w' ∧ v = .int .i64 z) _
            simp only [execOp, Act.eval, h43, h44]
            go_simp
            show Calls Try.prog 68 _ W _
            (with_reducible refine (H3.out W (S6.trans hT)).mono ?_)
            rintro e w' ⟨rfl, T'⟩
            exact ⟨_, rfl, T', rfl⟩
        case s9 =>
          refine fun hs hle => stepG_free [39] [] (by kernel_rfl) rfl ?_
          · intro ac W hT hI hO
            have h39 : ac.tmps.getD 39 undef = .int .i64 (0 : Int) := hI 39 (by simp)
            show Brings Try.prog (fun v w' => Turned (fun _ => False) W w' ∧ v = .int .i64 (0 : Int)) _
            simp only [execOp, Act.eval, h39]
            go_simp
            try exact ⟨Turned.refl _ _, rfl⟩
        case s10 =>
          refine fun hs hle => stepG_free [42] [] (by kernel_rfl) rfl ?_
          · intro ac W hT hI hO
            have h42 : ac.tmps.getD 42 undef = .int .i64 y := hI 42 (by simp)
            show Brings Try.prog (fun v w' => Turned (fun _ => False) W w' ∧ v = .int .i64 y) _
            simp only [execOp, Act.eval, h42]
            go_simp
            try exact ⟨Turned.refl _ _, rfl⟩
        case s11 =>
          refine fun hs hle => stepG_free [45] [] (by kernel_rfl) rfl ?_
          · intro ac W hT hI hO
            have h45 : ac.tmps.getD 45 undef = .int .i64 z := hI 45 (by simp)
            show Brings Try.prog (fun v w' => Turned (fun _ => False) W w' ∧ v = .int .i64 z) _
            simp only [execOp, Act.eval, h45]
            go_simp
            try exact ⟨Turned.refl _ _, rfl⟩
      case hQ =>
        intro hs vs W20 hlen T20 hV
        have q7 : vs 7 = .int .i64 (0 : Int) := hV 7 (by simp)
        have q8 : vs 8 = .int .i64 y := hV 8 (by simp)
        have q9 : vs 9 = .int .i64 z := hV 9 (by simp)
        simp only [List.foldl_cons, List.foldl_nil, List.setIfInBounds_toArray, List.set_cons_zero, List.set_cons_succ, q7, q8, q9]
        clear hV q7 q8 q9 hlen hs
        have S20 := S6.trans T20
        obtain ⟨⟨c2000, c2001, c2002, c2003⟩, ⟨c2010, c2011, c2012, c2013⟩, ⟨c2020, c2021, c2022, c2023⟩⟩ := HKP.out _ S20
        go_wp2_with (first
          | (go_at_call 68; (with_reducible refine (H5.out _ S22).mono ?_); rintro e W23 ⟨rfl, T23⟩; have S23 := S22.trans T23)
          | (go_at_call 52; (with_reducible refine (H6.out _ S21).mono ?_); rintro e W22 ⟨rfl, T22⟩; have S22 := S21.trans T22; obtain ⟨⟨c2200, c2201, c2202, c2203⟩, ⟨c2210, c2211, c2212, c2213⟩, ⟨c2220, c2221, c2222, c2223⟩⟩ := HKP.out _ S22)
          | (go_at_call 68; (with_reducible refine (H4.out _ S20).mono ?_); rintro e W21 ⟨rfl, T21⟩; have S21 := S20.trans T21; obtain ⟨⟨c2100, c2101, c2102, c2103⟩, ⟨c2110, c2111, c2112, c2113⟩, ⟨c2120, c2121, c2122, c2123⟩⟩ := HKP.out _ S21))
        all_goals
          go_ret
          first
            | exact ⟨rfl, HT1.out.trans S23⟩
            | (exfalso; contradiction)
            | (exfalso; omega)
    · have t1 : decide (0 < y) = false := by simp; omega
      have t2 : decide (z ≤ 0) = true := by simp; omega
      clear h1 h4 h6 hx hs g2 g3 g4 hy hyr hzr
      go_enter Try.func13, Try.ntmps13
      go_wp2_with (first
        | (go_at_call 65; refine (awake65 _).mono ?_; rintro e W0 ⟨rfl, T0⟩; rw [← HW.out] at T0; have S0 := T0; obtain ⟨⟨c000, c001, c002, c003⟩, ⟨c010, c011, c012, c013⟩, ⟨c020, c021, c022, c023⟩⟩ := HKP.out _ S0)
        | (go_at_call 66; (with_reducible refine (HDa.out _ S0).mono ?_); rintro e W1 ⟨rfl, T1⟩; have S1 := S0.trans T1; obtain ⟨⟨c100, c101, c102, c103⟩, ⟨c110, c111, c112, c113⟩, ⟨c120, c121, c122, c123⟩⟩ := HKP.out _ S1)
        | (go_at_call 66; (with_reducible refine (HDb.out _ S1).mono ?_); rintro e W2 ⟨rfl, T2⟩; have S2 := S1.trans T2; obtain ⟨⟨c200, c201, c202, c203⟩, ⟨c210, c211, c212, c213⟩, ⟨c220, c221, c222, c223⟩⟩ := HKP.out _ S2)
        | (go_at_call 66; (with_reducible refine (HDc.out _ S2).mono ?_); rintro e W3 ⟨rfl, T3⟩; have S3 := S2.trans T3; obtain ⟨⟨c300, c301, c302, c303⟩, ⟨c310, c311, c312, c313⟩, ⟨c320, c321, c322, c323⟩⟩ := HKP.out _ S3)
        | (go_at_call 38; (with_reducible refine (HGa.out HSa.out _ S3).mono ?_); rintro e W4 ⟨rfl, T4⟩; have S4 := S3.trans T4; obtain ⟨⟨c400, c401, c402, c403⟩, ⟨c410, c411, c412, c413⟩, ⟨c420, c421, c422, c423⟩⟩ := HKP.out _ S4)
        | (go_at_call 38; (with_reducible refine (HGb.out HSb.out _ S4).mono ?_); rintro e W5 ⟨rfl, T5⟩; have S5 := S4.trans T5; obtain ⟨⟨c500, c501, c502, c503⟩, ⟨c510, c511, c512, c513⟩, ⟨c520, c521, c522, c523⟩⟩ := HKP.out _ S5)
        | (go_at_call 38; (with_reducible refine (HGc.out HSc.out _ S5).mono ?_); rintro e W6 ⟨rfl, T6⟩; have S6 := S5.trans T6; obtain ⟨⟨c600, c601, c602, c603⟩, ⟨c610, c611, c612, c613⟩, ⟨c620, c621, c622, c623⟩⟩ := HKP.out _ S6))
      refine wp_region_hs [37, 38, 39, 40, 41, 42, 43, 44, 45, 7, 8, 9] [] [0, 0, 0, 0, 0, 0, 0, 0, 0, 0, 0, 0] [] (fun d v => (match d with | 37 => v = .agg #[.int .i64 a.kind, .int .i64 a.n, .string a.name, .slice a.at_.1 a.args.length a.at_.2] | 38 => v = .agg #[.int .i64 b.kind, .int .i64 b.n, .string b.name, .slice b.at_.1 b.args.length b.at_.2] | 39 => v = .int .i64 (0 : Int) | 40 => v = .agg #[.int .i64 b.kind, .int .i64 b.n, .string b.name, .slice b.at_.1 b.args.length b.at_.2] | 41 => v = .agg #[.int .i64 c.kind, .int .i64 c.n, .string c.name, .slice c.at_.1 c.args.length c.at_.2] | 42 => v = .int .i64 y | 43 => v = .agg #[.int .i64 a.kind, .int .i64 a.n, .string a.name, .slice a.at_.1 a.args.length a.at_.2] | 44 => v = .agg #[.int .i64 c.kind, .int .i64 c.n, .string c.name, .slice c.at_.1 c.args.length c.at_.2] | 45 => v = .int .i64 z | 7 => v = .int .i64 (0 : Int) | 8 => v = .int .i64 y | 9 => v = .int .i64 z | _ => True : Prop)) (fun _ W => Turned (fun _ => False) W6 W) (by kernel_rfl) rfl (by kernel_rfl) (by kernel_rfl) (by kernel_rfl) (by kernel_rfl) (fun _ h => h) (fun _ _ _ h ht => h.trans ht) ?hs ?hQ
      case hs =>
        refine ⟨?s0, ?s1, ?s2, ?s3, ?s4, ?s5, ?s6, ?s7, ?s8, ?s9, ?s10, ?s11, trivial⟩
        case s0 =>
          refine fun hs hle => stepG_free [] [3] (by kernel_rfl) rfl ?_
          · intro ac W hT hI hO
            have h3 : ac.tmps.getD 3 undef = .pointer (some ⟨w.heap.size, 0, none⟩) := hO 3 (by simp)
            show Brings Try.prog (fun v w' => Turned (fun _ => False) W w' ∧ v = .agg #[.int .i64 a.kind, .int .i64 a.n, .string a.name, .slice a.at_.1 a.args.length a.at_.2]) _
            obtain ⟨⟨x0, x1, x2, x3⟩, ⟨y0, y1, y2, y3⟩, ⟨z0, z1, z2, z3⟩⟩ := HKP.out W (S6.trans hT)
            simp only [execOp, Act.eval, h3]
            go_simp
            exact ⟨Turned.refl _ _, rfl⟩
        case s1 =>
          refine fun hs hle => stepG_free [] [4] (by kernel_rfl) rfl ?_
          · intro ac W hT hI hO
            have h4 : ac.tmps.getD 4 undef = .pointer (some ⟨(w.heap.size + 1), 0, none⟩) := hO 4 (by simp)
            show Brings Try.prog (fun v w' => Turned (fun _ => False) W w' ∧ v = .agg #[.int .i64 b.kind, .int .i64 b.n, .string b.name, .slice b.at_.1 b.args.length b.at_.2]) _
            obtain ⟨⟨x0, x1, x2, x3⟩, ⟨y0, y1, y2, y3⟩, ⟨z0, z1, z2, z3⟩⟩ := HKP.out W (S6.trans hT)
            simp only [execOp, Act.eval, h4]
            go_simp
            exact ⟨Turned.refl _ _, rfl⟩
        case s2 =>
          refine fun hs hle => stepG_free [37, 38] [] (by kernel_rfl) rfl ?_
          · intro ac W hT hI hO
            have h37 : ac.tmps.getD 37 undef = .agg #[.int .i64 a.kind, .int .i64 a.n, .string a.name, .slice a.at_.1 a.args.length a.at_.2] := hI 37 (by simp)
            have h38 : ac.tmps.getD 38 undef = .agg #[.int .i64 b.kind, .int .i64 b.n, .string b.name, .slice b.at_.1 b.args.length b.at_.2] := hI 38 (by simp)
            show Brings Try.prog (fun v w' => Turned (fun _ => False) W w' ∧ v = .int .i64 (0 : Int)) _
            simp only [execOp, Act.eval, h37, h38]
            go_simp
            show Calls Try.prog 68 _ W _
            (with_reducible refine (H1.out W (S6.trans hT)).mono ?_)
            rintro e w' ⟨rfl, T'⟩
            exact ⟨_, rfl, T', rfl⟩
        case s3 =>
          refine fun hs hle => stepG_free [] [4] (by kernel_rfl) rfl ?_
          · intro ac W hT hI hO
            have h4 : ac.tmps.getD 4 undef = .pointer (some ⟨(w.heap.size + 1), 0, none⟩) := hO 4 (by simp)
            show Brings Try.prog (fun v w' => Turned (fun _ => False) W w' ∧ v = .agg #[.int .i64 b.kind, .int .i64 b.n, .string b.name, .slice b.at_.1 b.args.length b.at_.2]) _
            obtain ⟨⟨x0, x1, x2, x3⟩, ⟨y0, y1, y2, y3⟩, ⟨z0, z1, z2, z3⟩⟩ := HKP.out W (S6.trans hT)
            simp only [execOp, Act.eval, h4]
            go_simp
            exact ⟨Turned.refl _ _, rfl⟩
        case s4 =>
          refine fun hs hle => stepG_free [] [5] (by kernel_rfl) rfl ?_
          · intro ac W hT hI hO
            have h5 : ac.tmps.getD 5 undef = .pointer (some ⟨(w.heap.size + 2), 0, none⟩) := hO 5 (by simp)
            show Brings Try.prog (fun v w' => Turned (fun _ => False) W w' ∧ v = .agg #[.int .i64 c.kind, .int .i64 c.n, .string c.name, .slice c.at_.1 c.args.length c.at_.2]) _
            obtain ⟨⟨x0, x1, x2, x3⟩, ⟨y0, y1, y2, y3⟩, ⟨z0, z1, z2, z3⟩⟩ := HKP.out W (S6.trans hT)
            simp only [execOp, Act.eval, h5]
            go_simp
            exact ⟨Turned.refl _ _, rfl⟩
        case s5 =>
          refine fun hs hle => stepG_free [40, 41] [] (by kernel_rfl) rfl ?_
          · intro ac W hT hI hO
            have h40 : ac.tmps.getD 40 undef = .agg #[.int .i64 b.kind, .int .i64 b.n, .string b.name, .slice b.at_.1 b.args.length b.at_.2] := hI 40 (by simp)
            have h41 : ac.tmps.getD 41 undef = .agg #[.int .i64 c.kind, .int .i64 c.n, .string c.name, .slice c.at_.1 c.args.length c.at_.2] := hI 41 (by simp)
            show Brings Try.prog (fun v w' => Turned (fun _ => False) W w' ∧ v = .int .i64 y) _
            simp only [execOp, Act.eval, h40, h41]
            go_simp
            show Calls Try.prog 68 _ W _
            (with_reducible refine (H2.out W (S6.trans hT)).mono ?_)
            rintro e w' ⟨rfl, T'⟩
            exact ⟨_, rfl, T', rfl⟩
        case s6 =>
          refine fun hs hle => stepG_free [] [3] (by kernel_rfl) rfl ?_
          · intro ac W hT hI hO
            have h3 : ac.tmps.getD 3 undef = .pointer (some ⟨w.heap.size, 0, none⟩) := hO 3 (by simp)
            show Brings Try.prog (fun v w' => Turned (fun _ => False) W w' ∧ v = .agg #[.int .i64 a.kind, .int .i64 a.n, .string a.name, .slice a.at_.1 a.args.length a.at_.2]) _
            obtain ⟨⟨x0, x1, x2, x3⟩, ⟨y0, y1, y2, y3⟩, ⟨z0, z1, z2, z3⟩⟩ := HKP.out W (S6.trans hT)
            simp only [execOp, Act.eval, h3]
            go_simp
            exact ⟨Turned.refl _ _, rfl⟩
        case s7 =>
          refine fun hs hle => stepG_free [] [5] (by kernel_rfl) rfl ?_
          · intro ac W hT hI hO
            have h5 : ac.tmps.getD 5 undef = .pointer (some ⟨(w.heap.size + 2), 0, none⟩) := hO 5 (by simp)
            show Brings Try.prog (fun v w' => Turned (fun _ => False) W w' ∧ v = .agg #[.int .i64 c.kind, .int .i64 c.n, .string c.name, .slice c.at_.1 c.args.length c.at_.2]) _
            obtain ⟨⟨x0, x1, x2, x3⟩, ⟨y0, y1, y2, y3⟩, ⟨z0, z1, z2, z3⟩⟩ := HKP.out W (S6.trans hT)
            simp only [execOp, Act.eval, h5]
            go_simp
            exact ⟨Turned.refl _ _, rfl⟩
        case s8 =>
          refine fun hs hle => stepG_free [43, 44] [] (by kernel_rfl) rfl ?_
          · intro ac W hT hI hO
            have h43 : ac.tmps.getD 43 undef = .agg #[.int .i64 a.kind, .int .i64 a.n, .string a.name, .slice a.at_.1 a.args.length a.at_.2] := hI 43 (by simp)
            have h44 : ac.tmps.getD 44 undef = .agg #[.int .i64 c.kind, .int .i64 c.n, .string c.name, .slice c.at_.1 c.args.length c.at_.2] := hI 44 (by simp)
            show Brings Try.prog (fun v w' => Turned (fun _ => False) W w' ∧ v = .int .i64 z) _
            simp only [execOp, Act.eval, h43, h44]
            go_simp
            show Calls Try.prog 68 _ W _
            (with_reducible refine (H3.out W (S6.trans hT)).mono ?_)
            rintro e w' ⟨rfl, T'⟩
            exact ⟨_, rfl, T', rfl⟩
        case s9 =>
          refine fun hs hle => stepG_free [39] [] (by kernel_rfl) rfl ?_
          · intro ac W hT hI hO
            have h39 : ac.tmps.getD 39 undef = .int .i64 (0 : Int) := hI 39 (by simp)
            show Brings Try.prog (fun v w' => Turned (fun _ => False) W w' ∧ v = .int .i64 (0 : Int)) _
            simp only [execOp, Act.eval, h39]
            go_simp
            try exact ⟨Turned.refl _ _, rfl⟩
        case s10 =>
          refine fun hs hle => stepG_free [42] [] (by kernel_rfl) rfl ?_
          · intro ac W hT hI hO
            have h42 : ac.tmps.getD 42 undef = .int .i64 y := hI 42 (by simp)
            show Brings Try.prog (fun v w' => Turned (fun _ => False) W w' ∧ v = .int .i64 y) _
            simp only [execOp, Act.eval, h42]
            go_simp
            try exact ⟨Turned.refl _ _, rfl⟩
        case s11 =>
          refine fun hs hle => stepG_free [45] [] (by kernel_rfl) rfl ?_
          · intro ac W hT hI hO
            have h45 : ac.tmps.getD 45 undef = .int .i64 z := hI 45 (by simp)
            show Brings Try.prog (fun v w' => Turned (fun _ => False) W w' ∧ v = .int .i64 z) _
            simp only [execOp, Act.eval, h45]
            go_simp
            try exact ⟨Turned.refl _ _, rfl⟩
      case hQ =>
        intro hs vs W20 hlen T20 hV
        have q7 : vs 7 = .int .i64 (0 : Int) := hV 7 (by simp)
        have q8 : vs 8 = .int .i64 y := hV 8 (by simp)
        have q9 : vs 9 = .int .i64 z := hV 9 (by simp)
        simp only [List.foldl_cons, List.foldl_nil, List.setIfInBounds_toArray, List.set_cons_zero, List.set_cons_succ, q7, q8, q9]
        clear hV q7 q8 q9 hlen hs
        have S20 := S6.trans T20
        obtain ⟨⟨c2000, c2001, c2002, c2003⟩, ⟨c2010, c2011, c2012, c2013⟩, ⟨c2020, c2021, c2022, c2023⟩⟩ := HKP.out _ S20
        go_wp2_with (first
          | (go_at_call 68; (with_reducible refine (H5.out _ S22).mono ?_); rintro e W23 ⟨rfl, T23⟩; have S23 := S22.trans T23)
          | (go_at_call 52; (with_reducible refine (H6.out _ S21).mono ?_); rintro e W22 ⟨rfl, T22⟩; have S22 := S21.trans T22; obtain ⟨⟨c2200, c2201, c2202, c2203⟩, ⟨c2210, c2211, c2212, c2213⟩, ⟨c2220, c2221, c2222, c2223⟩⟩ := HKP.out _ S22)
          | (go_at_call 68; (with_reducible refine (H4.out _ S20).mono ?_); rintro e W21 ⟨rfl, T21⟩; have S21 := S20.trans T21; obtain ⟨⟨c2100, c2101, c2102, c2103⟩, ⟨c2110, c2111, c2112, c2113⟩, ⟨c2120, c2121, c2122, c2123⟩⟩ := HKP.out _ S21))
        all_goals
          go_ret
          first
            | exact ⟨rfl, HT1.out.trans S23⟩
            | (exfalso; contradiction)
            | (exfalso; omega)
  · rw [hx] at h1 h4
    have hs : Tm.same a b = false := by
      rw [← Bool.not_eq_true, ← g2]; omega
    rw [hs] at h6
    have H1 := Lib.hid h1
    have H4 := Lib.hid h4
    have H6 := Lib.hid h6
    clear h1 h4 h6 hx hs g2 g3 g4 hyr hzr
    go_enter Try.func13, Try.ntmps13
    go_wp2_with (first
      | (go_at_call 65; refine (awake65 _).mono ?_; rintro e W0 ⟨rfl, T0⟩; rw [← HW.out] at T0; have S0 := T0; obtain ⟨⟨c000, c001, c002, c003⟩, ⟨c010, c011, c012, c013⟩, ⟨c020, c021, c022, c023⟩⟩ := HKP.out _ S0)
      | (go_at_call 66; (with_reducible refine (HDa.out _ S0).mono ?_); rintro e W1 ⟨rfl, T1⟩; have S1 := S0.trans T1; obtain ⟨⟨c100, c101, c102, c103⟩, ⟨c110, c111, c112, c113⟩, ⟨c120, c121, c122, c123⟩⟩ := HKP.out _ S1)
      | (go_at_call 66; (with_reducible refine (HDb.out _ S1).mono ?_); rintro e W2 ⟨rfl, T2⟩; have S2 := S1.trans T2; obtain ⟨⟨c200, c201, c202, c203⟩, ⟨c210, c211, c212, c213⟩, ⟨c220, c221, c222, c223⟩⟩ := HKP.out _ S2)
      | (go_at_call 66; (with_reducible refine (HDc.out _ S2).mono ?_); rintro e W3 ⟨rfl, T3⟩; have S3 := S2.trans T3; obtain ⟨⟨c300, c301, c302, c303⟩, ⟨c310, c311, c312, c313⟩, ⟨c320, c321, c322, c323⟩⟩ := HKP.out _ S3)
      | (go_at_call 38; (with_reducible refine (HGa.out HSa.out _ S3).mono ?_); rintro e W4 ⟨rfl, T4⟩; have S4 := S3.trans T4; obtain ⟨⟨c400, c401, c402, c403⟩, ⟨c410, c411, c412, c413⟩, ⟨c420, c421, c422, c423⟩⟩ := HKP.out _ S4)
      | (go_at_call 38; (with_reducible refine (HGb.out HSb.out _ S4).mono ?_); rintro e W5 ⟨rfl, T5⟩; have S5 := S4.trans T5; obtain ⟨⟨c500, c501, c502, c503⟩, ⟨c510, c511, c512, c513⟩, ⟨c520, c521, c522, c523⟩⟩ := HKP.out _ S5)
      | (go_at_call 38; (with_reducible refine (HGc.out HSc.out _ S5).mono ?_); rintro e W6 ⟨rfl, T6⟩; have S6 := S5.trans T6; obtain ⟨⟨c600, c601, c602, c603⟩, ⟨c610, c611, c612, c613⟩, ⟨c620, c621, c622, c623⟩⟩ := HKP.out _ S6))
    refine wp_region_hs [37, 38, 39, 40, 41, 42, 43, 44, 45, 7, 8, 9] [] [0, 0, 0, 0, 0, 0, 0, 0, 0, 0, 0, 0] [] (fun d v => (match d with | 37 => v = .agg #[.int .i64 a.kind, .int .i64 a.n, .string a.name, .slice a.at_.1 a.args.length a.at_.2] | 38 => v = .agg #[.int .i64 b.kind, .int .i64 b.n, .string b.name, .slice b.at_.1 b.args.length b.at_.2] | 39 => v = .int .i64 (1 : Int) | 40 => v = .agg #[.int .i64 b.kind, .int .i64 b.n, .string b.name, .slice b.at_.1 b.args.length b.at_.2] | 41 => v = .agg #[.int .i64 c.kind, .int .i64 c.n, .string c.name, .slice c.at_.1 c.args.length c.at_.2] | 42 => v = .int .i64 y | 43 => v = .agg #[.int .i64 a.kind, .int .i64 a.n, .string a.name, .slice a.at_.1 a.args.length a.at_.2] | 44 => v = .agg #[.int .i64 c.kind, .int .i64 c.n, .string c.name, .slice c.at_.1 c.args.length c.at_.2] | 45 => v = .int .i64 z | 7 => v = .int .i64 (1 : Int) | 8 => v = .int .i64 y | 9 => v = .int .i64 z | _ => True : Prop)) (fun _ W => Turned (fun _ => False) W6 W) (by kernel_rfl) rfl (by kernel_rfl) (by kernel_rfl) (by kernel_rfl) (by kernel_rfl) (fun _ h => h) (fun _ _ _ h ht => h.trans ht) ?hs ?hQ
    case hs =>
      refine ⟨?s0, ?s1, ?s2, ?s3, ?s4, ?s5, ?s6, ?s7, ?s8, ?s9, ?s10, ?s11, trivial⟩
      case s0 =>
        refine fun hs hle => stepG_free [] [3] (by kernel_rfl) rfl ?_
        · intro ac W hT hI hO
          have h3 : ac.tmps.getD 3 undef = .pointer (some ⟨w.heap.size, 0, none⟩) := hO 3 (by simp)
          show Brings Try.prog (fun v w' => Turned (fun _ => False) W w' ∧ v = .agg #[.int .i64 a.kind, .int .i64 a.n, .string a.name, .slice a.at_.1 a.args.length a.at_.2]) _
          obtain ⟨⟨x0, x1, x2, x3⟩, ⟨y0, y1, y2, y3⟩, ⟨z0, z1, z2, z3⟩⟩ := HKP.out W (S6.trans hT)
          simp only [execOp, Act.eval, h3]
          go_simp
          exact ⟨Turned.refl _ _, rfl⟩
      case s1 =>
        refine fun hs hle => stepG_free [] [4] (by kernel_rfl) rfl ?_
        · intro ac W hT hI hO
          have h4 : ac.tmps.getD 4 undef = .pointer (some ⟨(w.heap.size + 1), 0, none⟩) := hO 4 (by simp)
          show Brings Try.prog (fun v w' => Turned (fun _ => False) W w' ∧ v = .agg #[.int .i64 b.kind, .int .i64 b.n, .string b.name, .slice b.at_.1 b.args.length b.at_.2]) _
          obtain ⟨⟨x0, x1, x2, x3⟩, ⟨y0, y1, y2, y3⟩, ⟨z0, z1, z2, z3⟩⟩ := HKP.out W (S6.trans hT)
          simp only [execOp, Act.eval, h4]
          go_simp
          exact ⟨Turned.refl _ _, rfl⟩
      case s2 =>
        refine fun hs hle => stepG_free [37, 38] [] (by kernel_rfl) rfl ?_
        · intro ac W hT hI hO
          have h37 : ac.tmps.getD 37 undef = .agg #[.int .i64 a.kind, .int .i64 a.n, .string a.name, .slice a.at_.1 a.args.length a.at_.2] := hI 37 (by simp)
          have h38 : ac.tmps.getD 38 undef = .agg #[.int .i64 b.kind, .int .i64 b.n, .string b.name, .slice b.at_.1 b.args.length b.at_.2] := hI 38 (by simp)
          show Brings Try.prog (fun v w' => Turned (fun _ => False) W w' ∧ v = .int .i64 (1 : Int)) _
          simp only [execOp, Act.eval, h37, h38]
          go_simp
          show Calls Try.prog 68 _ W _
          (with_reducible refine (H1.out W (S6.trans hT)).mono ?_)
          rintro e w' ⟨rfl, T'⟩
          exact ⟨_, rfl, T', rfl⟩
      case s3 =>
        refine fun hs hle => stepG_free [] [4] (by kernel_rfl) rfl ?_
        · intro ac W hT hI hO
          have h4 : ac.tmps.getD 4 undef = .pointer (some ⟨(w.heap.size + 1), 0, none⟩) := hO 4 (by simp)
          show Brings Try.prog (fun v w' => Turned (fun _ => False) W w' ∧ v = .agg #[.int .i64 b.kind, .int .i64 b.n, .string b.name, .slice b.at_.1 b.args.length b.at_.2]) _
          obtain ⟨⟨x0, x1, x2, x3⟩, ⟨y0, y1, y2, y3⟩, ⟨z0, z1, z2, z3⟩⟩ := HKP.out W (S6.trans hT)
          simp only [execOp, Act.eval, h4]
          go_simp
          exact ⟨Turned.refl _ _, rfl⟩
      case s4 =>
        refine fun hs hle => stepG_free [] [5] (by kernel_rfl) rfl ?_
        · intro ac W hT hI hO
          have h5 : ac.tmps.getD 5 undef = .pointer (some ⟨(w.heap.size + 2), 0, none⟩) := hO 5 (by simp)
          show Brings Try.prog (fun v w' => Turned (fun _ => False) W w' ∧ v = .agg #[.int .i64 c.kind, .int .i64 c.n, .string c.name, .slice c.at_.1 c.args.length c.at_.2]) _
          obtain ⟨⟨x0, x1, x2, x3⟩, ⟨y0, y1, y2, y3⟩, ⟨z0, z1, z2, z3⟩⟩ := HKP.out W (S6.trans hT)
          simp only [execOp, Act.eval, h5]
          go_simp
          exact ⟨Turned.refl _ _, rfl⟩
      case s5 =>
        refine fun hs hle => stepG_free [40, 41] [] (by kernel_rfl) rfl ?_
        · intro ac W hT hI hO
          have h40 : ac.tmps.getD 40 undef = .agg #[.int .i64 b.kind, .int .i64 b.n, .string b.name, .slice b.at_.1 b.args.length b.at_.2] := hI 40 (by simp)
          have h41 : ac.tmps.getD 41 undef = .agg #[.int .i64 c.kind, .int .i64 c.n, .string c.name, .slice c.at_.1 c.args.length c.at_.2] := hI 41 (by simp)
          show Brings Try.prog (fun v w' => Turned (fun _ => False) W w' ∧ v = .int .i64 y) _
          simp only [execOp, Act.eval, h40, h41]
          go_simp
          show Calls Try.prog 68 _ W _
          (with_reducible refine (H2.out W (S6.trans hT)).mono ?_)
          rintro e w' ⟨rfl, T'⟩
          exact ⟨_, rfl, T', rfl⟩
      case s6 =>
        refine fun hs hle => stepG_free [] [3] (by kernel_rfl) rfl ?_
        · intro ac W hT hI hO
          have h3 : ac.tmps.getD 3 undef = .pointer (some ⟨w.heap.size, 0, none⟩) := hO 3 (by simp)
          show Brings Try.prog (fun v w' => Turned (fun _ => False) W w' ∧ v = .agg #[.int .i64 a.kind, .int .i64 a.n, .string a.name, .slice a.at_.1 a.args.length a.at_.2]) _
          obtain ⟨⟨x0, x1, x2, x3⟩, ⟨y0, y1, y2, y3⟩, ⟨z0, z1, z2, z3⟩⟩ := HKP.out W (S6.trans hT)
          simp only [execOp, Act.eval, h3]
          go_simp
          exact ⟨Turned.refl _ _, rfl⟩
      case s7 =>
        refine fun hs hle => stepG_free [] [5] (by kernel_rfl) rfl ?_
        · intro ac W hT hI hO
          have h5 : ac.tmps.getD 5 undef = .pointer (some ⟨(w.heap.size + 2), 0, none⟩) := hO 5 (by simp)
          show Brings Try.prog (fun v w' => Turned (fun _ => False) W w' ∧ v = .agg #[.int .i64 c.kind, .int .i64 c.n, .string c.name, .slice c.at_.1 c.args.length c.at_.2]) _
          obtain ⟨⟨x0, x1, x2, x3⟩, ⟨y0, y1, y2, y3⟩, ⟨z0, z1, z2, z3⟩⟩ := HKP.out W (S6.trans hT)
          simp only [execOp, Act.eval, h5]
          go_simp
          exact ⟨Turned.refl _ _, rfl⟩
      case s8 =>
        refine fun hs hle => stepG_free [43, 44] [] (by kernel_rfl) rfl ?_
        · intro ac W hT hI hO
          have h43 : ac.tmps.getD 43 undef = .agg #[.int .i64 a.kind, .int .i64 a.n, .string a.name, .slice a.at_.1 a.args.length a.at_.2] := hI 43 (by simp)
          have h44 : ac.tmps.getD 44 undef = .agg #[.int .i64 c.kind, .int .i64 c.n, .string c.name, .slice c.at_.1 c.args.length c.at_.2] := hI 44 (by simp)
          show Brings Try.prog (fun v w' => Turned (fun _ => False) W w' ∧ v = .int .i64 z) _
          simp only [execOp, Act.eval, h43, h44]
          go_simp
          show Calls Try.prog 68 _ W _
          (with_reducible refine (H3.out W (S6.trans hT)).mono ?_)
          rintro e w' ⟨rfl, T'⟩
          exact ⟨_, rfl, T', rfl⟩
      case s9 =>
        refine fun hs hle => stepG_free [39] [] (by kernel_rfl) rfl ?_
        · intro ac W hT hI hO
          have h39 : ac.tmps.getD 39 undef = .int .i64 (1 : Int) := hI 39 (by simp)
          show Brings Try.prog (fun v w' => Turned (fun _ => False) W w' ∧ v = .int .i64 (1 : Int)) _
          simp only [execOp, Act.eval, h39]
          go_simp
          try exact ⟨Turned.refl _ _, rfl⟩
      case s10 =>
        refine fun hs hle => stepG_free [42] [] (by kernel_rfl) rfl ?_
        · intro ac W hT hI hO
          have h42 : ac.tmps.getD 42 undef = .int .i64 y := hI 42 (by simp)
          show Brings Try.prog (fun v w' => Turned (fun _ => False) W w' ∧ v = .int .i64 y) _
          simp only [execOp, Act.eval, h42]
          go_simp
          try exact ⟨Turned.refl _ _, rfl⟩
      case s11 =>
        refine fun hs hle => stepG_free [45] [] (by kernel_rfl) rfl ?_
        · intro ac W hT hI hO
          have h45 : ac.tmps.getD 45 undef = .int .i64 z := hI 45 (by simp)
          show Brings Try.prog (fun v w' => Turned (fun _ => False) W w' ∧ v = .int .i64 z) _
          simp only [execOp, Act.eval, h45]
          go_simp
          try exact ⟨Turned.refl _ _, rfl⟩
    case hQ =>
      intro hs vs W20 hlen T20 hV
      have q7 : vs 7 = .int .i64 (1 : Int) := hV 7 (by simp)
      have q8 : vs 8 = .int .i64 y := hV 8 (by simp)
      have q9 : vs 9 = .int .i64 z := hV 9 (by simp)
      simp only [List.foldl_cons, List.foldl_nil, List.setIfInBounds_toArray, List.set_cons_zero, List.set_cons_succ, q7, q8, q9]
      clear hV q7 q8 q9 hlen hs
      have S20 := S6.trans T20
      obtain ⟨⟨c2000, c2001, c2002, c2003⟩, ⟨c2010, c2011, c2012, c2013⟩, ⟨c2020, c2021, c2022, c2023⟩⟩ := HKP.out _ S20
      go_wp2_with (first
        | (go_at_call 68; (with_reducible refine (H5.out _ S22).mono ?_); rintro e W23 ⟨rfl, T23⟩; have S23 := S22.trans T23)
        | (go_at_call 52; (with_reducible refine (H6.out _ S21).mono ?_); rintro e W22 ⟨rfl, T22⟩; have S22 := S21.trans T22; obtain ⟨⟨c2200, c2201, c2202, c2203⟩, ⟨c2210, c2211, c2212, c2213⟩, ⟨c2220, c2221, c2222, c2223⟩⟩ := HKP.out _ S22)
        | (go_at_call 68; (with_reducible refine (H4.out _ S20).mono ?_); rintro e W21 ⟨rfl, T21⟩; have S21 := S20.trans T21; obtain ⟨⟨c2100, c2101, c2102, c2103⟩, ⟨c2110, c2111, c2112, c2113⟩, ⟨c2120, c2121, c2122, c2123⟩⟩ := HKP.out _ S21))
      all_goals
        go_ret
        first
          | exact ⟨rfl, HT1.out.trans S23⟩
          | (exfalso; contradiction)
          | (exfalso; omega)
end Go.Proofs.Ytoihjobdfjajfaa

/- alias.Plain, Alike, Ground. -/
import Derived.Test.YtoihjobdfjajfaaAL3
namespace Go.Proofs.Ytoihjobdfjajfaa
set_option linter.unusedVariables false
set_option linter.unusedSimpArgs false
open Go.RowKit Go.Maps

theorem good_slim {α : Type} {t : Tm α} (h : goodB t = true) : slim t := by
  unfold goodB at h
  simp only [Bool.and_eq_true, decide_eq_true_eq, List.all_eq_true] at h
  intro x hx
  have := h.2.2 x hx
  unfold goodOneB at this
  split at this
  · simp only [Bool.and_eq_true, decide_eq_true_eq] at this; omega
  · split at this
    · simp only [Bool.and_eq_true, decide_eq_true_eq] at this; omega
    · split at this
      · simp only [Bool.and_eq_true, decide_eq_true_eq] at this; omega
      · cases this
theorem fromR_good {t u : Tm Unit} {m er : Int} (hg : goodB t = true) (h : FromR t 0 u m er) : er = 0 ∧ m = (t.vars.length : Int) ∧ u = Tm.plainT t := by
  have hle := varsB_le t
  unfold varsB at hle
  rw [if_pos hg] at hle
  unfold FromR at h
  rw [if_pos ⟨hg, by omega, by omega⟩, if_pos (by omega)] at h
  exact ⟨h.1, by rw [h.2.1]; omega, h.2.2⟩
theorem fromR_bad {t u : Tm Unit} {first m er : Int} (hg : goodB t = false) (h : FromR t first u m er) : er = 1 ∧ m = 0 ∧ u = Tm.V 0 := by
  unfold FromR at h
  rw [if_neg (by rw [hg]; simp)] at h
  exact h
theorem plain_good {t : Tm Unit} (hg : goodB t = true) : goodB (Tm.plainT t) = true := by
  have hle := varsB_le t
  unfold varsB at hle
  rw [if_pos hg] at hle
  exact goodB_fromT hg (by omega) (by omega)
/-- What Plain answers. -/
def PlainR (t u : Tm Unit) (er : Int) : Prop := if goodB t = true then er = 0 ∧ u = Tm.plainT t else er = 1 ∧ u = Tm.V 0
theorem plainR_of {t u : Tm Unit} {m er : Int} (h : FromR t 0 u m er) : PlainR t u er := by
  unfold PlainR
  cases hg : goodB t with
  | true => rw [if_pos rfl]; exact ⟨(fromR_good hg h).1, (fromR_good hg h).2.2⟩
  | false => rw [if_neg (by simp)]; exact ⟨(fromR_bad hg h).1, (fromR_bad hg h).2.2⟩
set_option maxHeartbeats 1600000 in
theorem plain81 {p : Nat → Prop} {t : LT} {w : World} (ht : t.In p w) (hs : slim t) :
    Calls Try.prog 81 #[t.val] w fun e w' => ∃ (u : LT) (er : Int), e = .returned (.tuple #[u.val, .int .i64 er]) ∧ PlainR t.bare u.bare er ∧ u.In (fun _ => True) w' ∧ Turned (fun _ => False) w w' := by
  have h2 := twoBox w (.cells #[.int .i64 t.kind, .int .i64 t.n, .string t.name, .slice t.at_.1 t.args.length t.at_.2] 27) (.cells #[.int .i64 0, .int .i64 0, .string ⟨#[]⟩, .slice none 0 0] 27)
  obtain ⟨p', hp'⟩ : ∃ q : Nat → Prop, q = fun k => k < w.heap.size := ⟨_, rfl⟩
  have ht' : t.In p' w := ht.mono (fun k hk h => by rw [hp']; exact hk)
  have hfr := from71 (first := 0) (ht'.turned0 h2.1) hs (i64_lit 0 (by omega))
  have HPL : Hid (∀ k, p' k → k < w.heap.size) := by intro k hq; rw [hp'] at hq; exact hq
  rw [LT.val_eq] at hfr ⊢
  have HF := Lib.hid hfr
  have H2 := Lib.hid h2
  clear hfr h2 ht ht' hs hp'
  go_enter Try.func81, Try.ntmps81
  go_wp2_with (go_at_call 71; (with_reducible refine HF.out.mono ?_); rintro e w3 ⟨u, m, er, rfl, hR, hin, T3⟩; rw [LT.val_eq u]; have T3u := T3.alloc (.cells #[.int .i64 u.kind, .int .i64 u.n, .string u.name, .slice u.at_.1 u.args.length u.at_.2] 27); have hb1 := (T3u.block _ (Array.getElem?_eq_some_iff.1 H2.out.2.2.2).1 (fun f => f)).trans H2.out.2.2.2; obtain ⟨d0, d1, d2, d3, f0, f1, f2, f3⟩ := cells4 hb1; have HB1 := Lib.hid hb1; clear hb1)
  have hset := set4 (a' := .int .i64 u.kind) (b' := .int .i64 u.n) (c' := .string u.name) (d' := .slice u.at_.1 u.args.length u.at_.2) HB1.out
  have T4 := turned4 (a := .int .i64 u.kind) (b := .int .i64 u.n) (c := .string u.name) (d := .slice u.at_.1 u.args.length u.at_.2) (H2.out.1.trans T3u) (g := w.heap.size + 1) (by omega)
  refine bodyPost_ret (results_cell_tmp1 Try.results81 _ _ (w.heap.size + 1) 27 _ (0, 0) _ rfl hset Try.underlying27 rfl (by kernel_rfl)) rfl ⟨u, er, by rw [LT.val_eq u]; rfl, plainR_of hR, ?_, T4⟩
  have Tq : Turned (fun k => k = w.heap.size + 1) (w3.alloc (.cells #[.int .i64 u.kind, .int .i64 u.n, .string u.name, .slice u.at_.1 u.args.length u.at_.2] 27)) _ := ((((Turned.refl (fun k => k = w.heap.size + 1) _).setCell (p := ⟨w.heap.size + 1, 0, none⟩) (.inr rfl) (.int .i64 u.kind)).setCell (p := ⟨w.heap.size + 1, 1, none⟩) (.inr rfl) (.int .i64 u.n)).setCell (p := ⟨w.heap.size + 1, 2, none⟩) (.inr rfl) (.string u.name)).setCell (p := ⟨w.heap.size + 1, 3, none⟩) (.inr rfl) (.slice u.at_.1 u.args.length u.at_.2)
  have hpl := HPL.out
  have hsz := H2.out.2.1
  refine LT.In.turned Tq (fun k _ hk e => ?_) (fun k _ hk => trivial) u (hin.turned0 ((Turned.refl _ w3).alloc _))
  rcases hk with h | h
  · have := hpl k h; omega
  · omega
theorem plainGood {p : Nat → Prop} {t : LT} {w : World} (ht : t.In p w) (hg : goodB t = true) :
    Calls Try.prog 81 #[.agg #[.int .i64 t.kind, .int .i64 t.n, .string t.name, .slice t.at_.1 t.args.length t.at_.2]] w fun e w' => ∃ (u : LT), e = .returned (.tuple #[.agg #[.int .i64 u.kind, .int .i64 u.n, .string u.name, .slice u.at_.1 u.args.length u.at_.2], .int .i64 0]) ∧ u.bare = Tm.plainT t.bare ∧ u.In (fun _ => True) w' ∧ Turned (fun _ => False) w w' := by
  have h := plain81 ht (good_slim hg)
  rw [LT.val_eq] at h
  refine h.mono ?_
  rintro e w' ⟨u, er, rfl, hR, hi, hT⟩
  unfold PlainR at hR
  rw [if_pos (by rw [goodB_bare]; exact hg)] at hR
  obtain ⟨rfl, hR⟩ := hR
  exact ⟨u, by rw [LT.val_eq u], hR, hi, hT⟩
theorem plainBad {p : Nat → Prop} {t : LT} {w : World} (ht : t.In p w) (hs : slim t) (hg : goodB t = false) :
    Calls Try.prog 81 #[.agg #[.int .i64 t.kind, .int .i64 t.n, .string t.name, .slice t.at_.1 t.args.length t.at_.2]] w fun e w' => ∃ (u : LT), e = .returned (.tuple #[.agg #[.int .i64 u.kind, .int .i64 u.n, .string u.name, .slice u.at_.1 u.args.length u.at_.2], .int .i64 1]) ∧ u.bare = Tm.V 0 ∧ u.In (fun _ => True) w' ∧ Turned (fun _ => False) w w' := by
  have h := plain81 ht hs
  rw [LT.val_eq] at h
  refine h.mono ?_
  rintro e w' ⟨u, er, rfl, hR, hi, hT⟩
  unfold PlainR at hR
  rw [if_neg (by rw [goodB_bare, hg]; simp)] at hR
  obtain ⟨rfl, hR⟩ := hR
  exact ⟨u, by rw [LT.val_eq u], hR, hi, hT⟩
theorem same_bares {α β : Type} (a : Tm α) (b : Tm β) : Tm.same a b = Tm.same a.bare b.bare := by
  rw [Bool.eq_iff_iff, Tm.same_iff, Tm.same_iff, Tm.bare_unit, Tm.bare_unit]
/-- Alike but for the variables' numbers. -/
def alikeB {α β : Type} (a : Tm α) (b : Tm β) : Bool := goodB a && (goodB b && Tm.same (Tm.plainT a.bare) (Tm.plainT b.bare))
set_option maxRecDepth 100000 in
set_option maxHeartbeats 3200000 in
theorem alike72 {p : Nat → Prop} {a b : LT} {w : World} (ha : a.In p w) (hb : b.In p w) (sa : slim a) (sb : slim b) :
    Calls Try.prog 72 #[a.val, b.val] w fun e w' => e = .returned (.bool (alikeB a b)) ∧ Turned (fun _ => False) w w' := by
  have h2 := twoBox w (.cells #[.int .i64 a.kind, .int .i64 a.n, .string a.name, .slice a.at_.1 a.args.length a.at_.2] 27) (.cells #[.int .i64 b.kind, .int .i64 b.n, .string b.name, .slice b.at_.1 b.args.length b.at_.2] 27)
  have ha1 := ha.turned0 h2.1
  have hb1 := hb.turned0 h2.1
  rw [LT.val_eq a, LT.val_eq b]
  have H2 := Lib.hid h2
  have HA := Lib.hid ha1
  have HB := Lib.hid hb1
  have SA := Lib.hid sa
  have SB := Lib.hid sb
  have hbx : ∀ W, Turned (fun _ => False) ((w.alloc (.cells #[.int .i64 a.kind, .int .i64 a.n, .string a.name, .slice a.at_.1 a.args.length a.at_.2] 27)).alloc (.cells #[.int .i64 b.kind, .int .i64 b.n, .string b.name, .slice b.at_.1 b.args.length b.at_.2] 27)) W → W.heap[w.heap.size + 1]? = some (.cells #[.int .i64 b.kind, .int .i64 b.n, .string b.name, .slice b.at_.1 b.args.length b.at_.2] 27 (0, 0)) := fun W h => (h.block _ (Array.getElem?_eq_some_iff.1 H2.out.2.2.2).1 (fun f => f)).trans H2.out.2.2.2
  have HBX := Lib.hid hbx
  clear ha hb sa sb ha1 hb1 h2 hbx
  cases ga : goodB a with
  | false =>
    have e1 : alikeB a b = false := by unfold alikeB; rw [ga]; rfl
    rw [e1]
    have h1 := plainBad HA.out SA.out ga
    have H1 := Lib.hid h1
    clear h1 e1 ga
    cases gb : goodB b with
    | false =>
      have h3 := fun W (h : Turned (fun _ => False) _ W) => plainBad (HB.out.turned0 h) SB.out gb
      have H3 := Lib.hid h3
      clear h3 gb
      go_enter Try.func72, Try.ntmps72
      go_wp2_with (first
        | (go_at_call 81; (with_reducible refine H1.out.mono ?_); rintro e w3 ⟨u, rfl, hub, hui, T3⟩; have TU := T3.alloc (.cells #[.int .i64 u.kind, .int .i64 u.n, .string u.name, .slice u.at_.1 u.args.length u.at_.2] 27); obtain ⟨d0, d1, d2, d3, _⟩ := cells4 (HBX.out _ TU))
        | (go_at_call 81; (with_reducible refine (H3.out _ TU).mono ?_); rintro e w4 ⟨v, rfl, hvb, hvi, T4⟩))
      go_ret
      exact ⟨rfl, H2.out.1.trans ((TU.trans T4).alloc _)⟩
    | true =>
      have h3 := fun W (h : Turned (fun _ => False) _ W) => plainGood (HB.out.turned0 h) gb
      have H3 := Lib.hid h3
      clear h3 gb
      go_enter Try.func72, Try.ntmps72
      go_wp2_with (first
        | (go_at_call 81; (with_reducible refine H1.out.mono ?_); rintro e w3 ⟨u, rfl, hub, hui, T3⟩; have TU := T3.alloc (.cells #[.int .i64 u.kind, .int .i64 u.n, .string u.name, .slice u.at_.1 u.args.length u.at_.2] 27); obtain ⟨d0, d1, d2, d3, _⟩ := cells4 (HBX.out _ TU))
        | (go_at_call 81; (with_reducible refine (H3.out _ TU).mono ?_); rintro e w4 ⟨v, rfl, hvb, hvi, T4⟩))
      go_ret
      exact ⟨rfl, H2.out.1.trans ((TU.trans T4).alloc _)⟩
  | true =>
    have h1 := plainGood HA.out ga
    have H1 := Lib.hid h1
    clear h1
    cases gb : goodB b with
    | false =>
      have e1 : alikeB a b = false := by unfold alikeB; rw [ga, gb]; rfl
      rw [e1]
      have h3 := fun W (h : Turned (fun _ => False) _ W) => plainBad (HB.out.turned0 h) SB.out gb
      have H3 := Lib.hid h3
      clear h3 gb ga e1
      go_enter Try.func72, Try.ntmps72
      go_wp2_with (first
        | (go_at_call 81; (with_reducible refine H1.out.mono ?_); rintro e w3 ⟨u, rfl, hub, hui, T3⟩; have TU := T3.alloc (.cells #[.int .i64 u.kind, .int .i64 u.n, .string u.name, .slice u.at_.1 u.args.length u.at_.2] 27); obtain ⟨d0, d1, d2, d3, _⟩ := cells4 (HBX.out _ TU))
        | (go_at_call 81; (with_reducible refine (H3.out _ TU).mono ?_); rintro e w4 ⟨v, rfl, hvb, hvi, T4⟩))
      go_ret
      exact ⟨rfl, H2.out.1.trans ((TU.trans T4).alloc _)⟩
    | true =>
      have h3 := fun W (h : Turned (fun _ => False) _ W) => plainGood (HB.out.turned0 h) gb
      have H3 := Lib.hid h3
      have GA := Lib.hid ga
      have GB := Lib.hid gb
      clear h3 ga gb
      go_enter Try.func72, Try.ntmps72
      go_wp2_with (first
        | (go_at_call 81; (with_reducible refine H1.out.mono ?_); rintro e w3 ⟨u, rfl, hub, hui, T3⟩; have TU := T3.alloc (.cells #[.int .i64 u.kind, .int .i64 u.n, .string u.name, .slice u.at_.1 u.args.length u.at_.2] 27); obtain ⟨d0, d1, d2, d3, _⟩ := cells4 (HBX.out _ TU); have HUB := Lib.hid hub; have HUI := Lib.hid hui; have hbu := heap_alloc_new w3 (.cells #[.int .i64 u.kind, .int .i64 u.n, .string u.name, .slice u.at_.1 u.args.length u.at_.2] 27); have HBU := Lib.hid hbu; clear hub hui hbu)
        | (go_at_call 81; (with_reducible refine (H3.out _ TU).mono ?_); rintro e w4 ⟨v, rfl, hvb, hvi, T4⟩; have HVB := Lib.hid hvb; have HVI := Lib.hid hvi; have T4v := T4.alloc (.cells #[.int .i64 v.kind, .int .i64 v.n, .string v.name, .slice v.at_.1 v.args.length v.at_.2] 27); obtain ⟨e0, e1, e2, e3, _⟩ := cells4 ((T4v.block _ (Array.getElem?_eq_some_iff.1 HBU.out).1 (fun f => f)).trans HBU.out); clear hvb hvi))
      have hsu : slim u := good_slim (by rw [← goodB_bare, HUB.out]; exact plain_good (by rw [goodB_bare]; exact GA.out))
      have hsv : slim v := good_slim (by rw [← goodB_bare, HVB.out]; exact plain_good (by rw [goodB_bare]; exact GB.out))
      have hgu : goodB u = true := by rw [← goodB_bare, HUB.out]; exact plain_good (by rw [goodB_bare]; exact GA.out)
      have hgv : goodB v = true := by rw [← goodB_bare, HVB.out]; exact plain_good (by rw [goodB_bare]; exact GB.out)
      have hsm := same52 (HUI.out.turned0 (((Turned.refl _ w3).alloc _).trans T4v)) (HVI.out.turned0 ((Turned.refl _ w4).alloc _)) hsu hsv
      have hal : sameB u v = alikeB a b := by
        unfold sameB alikeB
        rw [hgu, hgv, GA.out, GB.out, ← HUB.out, ← HVB.out, same_bares]
      rw [LT.val_eq u, LT.val_eq v, hal] at hsm
      (with_reducible refine hsm.mono ?_)
      rintro e w5 ⟨rfl, T5⟩
      have T5' := H2.out.1.trans ((TU.trans T4v).trans T5)
      go_wp2_with fail
      go_ret
      exact ⟨rfl, T5'⟩
set_option maxHeartbeats 1600000 in
theorem ground73 {p : Nat → Prop} {t : LT} {w : World} (ht : t.In p w) (hs : slim t) :
    Calls Try.prog 73 #[t.val] w fun e w' => e = .returned (.bool (goodB t && decide (t.vars = []))) ∧ Turned (fun _ => False) w w' := by
  have T1 := (Turned.refl (fun _ => False) w).alloc (.cells #[.int .i64 t.kind, .int .i64 t.n, .string t.name, .slice t.at_.1 t.args.length t.at_.2] 27)
  have hg := good38 (ht.turned0 T1) hs
  have hv := fun W (h : Turned (fun _ => False) w W) => vars34 (ht.turned0 h) hs
  have hc : ∀ W, Turned (fun _ => False) (w.alloc (.cells #[.int .i64 t.kind, .int .i64 t.n, .string t.name, .slice t.at_.1 t.args.length t.at_.2] 27)) W → W.cell? ⟨w.heap.size, 0, none⟩ = some (.int .i64 t.kind) ∧ W.cell? ⟨w.heap.size, 1, none⟩ = some (.int .i64 t.n) ∧ W.cell? ⟨w.heap.size, 2, none⟩ = some (.string t.name) ∧ W.cell? ⟨w.heap.size, 3, none⟩ = some (.slice t.at_.1 t.args.length t.at_.2) := fun W h => by
    obtain ⟨c0, c1, c2, c3, _⟩ := boxAt h
    exact ⟨c0, c1, c2, c3⟩
  rw [LT.val_eq] at hg hv ⊢
  have HC := Lib.hid hc
  have HT := Lib.hid T1
  clear hc T1 ht hs
  cases g : goodB t with
  | false =>
    rw [g] at hg
    have HG := Lib.hid hg
    clear hg hv g
    go_enter Try.func73, Try.ntmps73
    go_wp2_with (go_at_call 38; (with_reducible refine HG.out.mono ?_); rintro e w2 ⟨rfl, T2⟩)
    go_ret
    exact ⟨rfl, HT.out.trans T2⟩
  | true =>
    rw [g] at hg
    have HG := Lib.hid hg
    have ev : varsB t = t.vars := by unfold varsB; rw [if_pos g]
    rw [ev] at hv
    obtain ⟨vs, hvs⟩ : ∃ z, z = t.vars := ⟨_, rfl⟩
    rw [← hvs] at hv ⊢
    have HV := Lib.hid hv
    clear hg hv g ev hvs
    cases vs with
    | nil =>
      go_enter Try.func73, Try.ntmps73
      go_wp2_with (first
        | (go_at_call 38; (with_reducible refine HG.out.mono ?_); rintro e w2 ⟨rfl, T2⟩; obtain ⟨c0, c1, c2, c3⟩ := HC.out _ T2; have T2' := HT.out.trans T2)
        | (go_at_call 34; (with_reducible refine (HV.out _ T2').mono ?_); rintro e w3 ⟨v, rfl, hrow, _, T3⟩; obtain ⟨va, vc, rfl⟩ := hrow.shape; clear hrow))
      go_ret
      exact ⟨rfl, T2'.trans T3⟩
    | cons y ys =>
      obtain ⟨m, hm⟩ : ∃ z, z = ys.length := ⟨_, rfl⟩
      have hv := HV.out
      simp only [List.length_cons, ← hm] at hv
      have HV' := Lib.hid hv
      have z1 : ((m + 1 : Nat) : Int) ≠ 0 := by omega
      have z2 : (((m : Int) + 1) == 0) = false := by rw [beq_eq_false_iff_ne]; omega
      clear hv hm HV
      go_enter Try.func73, Try.ntmps73
      go_wp2_with (first
        | (go_at_call 38; (with_reducible refine HG.out.mono ?_); rintro e w2 ⟨rfl, T2⟩; obtain ⟨c0, c1, c2, c3⟩ := HC.out _ T2; have T2' := HT.out.trans T2)
        | (go_at_call 34; (with_reducible refine (HV'.out _ T2').mono ?_); rintro e w3 ⟨v, rfl, hrow, _, T3⟩; obtain ⟨va, vc, rfl⟩ := hrow.shape; clear hrow))
      go_ret
      exact ⟨by simp, T2'.trans T3⟩
end Go.Proofs.Ytoihjobdfjajfaa

/- same, Same: whether two terms are alike. -/
import Derived.Test.YtoihjobdfjajfaaBare
import Derived.Test.YtoihjobdfjajfaaNums
import Derived.Test.YtoihjobdfjajfaaTV1
namespace Go.Proofs.Ytoihjobdfjajfaa
set_option linter.unusedVariables false
set_option linter.unusedSimpArgs false
open Go.RowKit

theorem bares_snoc {α : Type} (l : List (Tm α)) (j : Nat) (x : Tm α) (h : l[j]? = some x) : Tm.bares (l.take (j + 1)) = Tm.bares (l.take j) ++ [x.bare] := by
  rw [take_snoc' _ _ _ h, Tm.bares_eq, List.map_append, Tm.bares_eq]; rfl
theorem sames_no {α β : Type} {l : List (Tm α)} {m : List (Tm β)} {j : Nat} {x : Tm α} {y : Tm β} (hx : l[j]? = some x) (hy : m[j]? = some y) (h : Tm.same x y = false) : Tm.sames l m = false := by
  rw [← Bool.not_eq_true]
  intro e
  rw [Tm.sames_iff, Tm.bares_eq, Tm.bares_eq] at e
  have e1 : (l.map Tm.bare)[j]? = some x.bare := by rw [List.getElem?_map, hx]; rfl
  have e2 : (m.map Tm.bare)[j]? = some y.bare := by rw [List.getElem?_map, hy]; rfl
  rw [e, e2] at e1
  injection e1 with e1
  rw [← Bool.not_eq_true] at h
  exact h ((Tm.same_iff x y).2 e1.symm)
theorem sames_len {α β : Type} {l : List (Tm α)} {m : List (Tm β)} (h : l.length ≠ m.length) : Tm.sames l m = false := by
  rw [← Bool.not_eq_true]
  intro e
  rw [Tm.sames_iff] at e
  have := congrArg List.length e
  rw [Tm.bares_length, Tm.bares_length] at this
  exact h this
theorem same_eq {α β : Type} (a : Tm α) (b : Tm β) : Tm.same a b = (a.kind == b.kind && a.n == b.n && decide (a.name = b.name) && Tm.sames a.args b.args) := by cases a; cases b; rfl
theorem enter132 (args : Array Value) (w : World) : (callFunc 132 args).run Try.prog w = .ok (.enter 132 args) w := by kernel_rfl
theorem str_same (x : ByteArray) : (x.toList == x.toList) = true := by simp

set_option maxHeartbeats 1600000 in
theorem equalFunc162 {p : Nat → Prop} {l m : List LT} {a1 a2 : Option Addr} {c1 c2 : Nat} {w : World} (h1 : LT.Sl p w a1 c1 l) (h2 : LT.Sl p w a2 c2 m)
    (hcall : ∀ x ∈ l, ∀ (y : LT) (W : World), x.In p W → y.In p W → Calls Try.prog 132 #[x.val, y.val] W fun e w' => e = .returned (.bool (Tm.same x y)) ∧ Turned (fun _ => False) W w') :
    Calls Try.prog 162 #[.slice a1 l.length c1, .slice a2 m.length c2, .func (.func 132) #[] #[]] w fun e w' => e = .returned (.bool (Tm.sames l m)) ∧ Turned (fun _ => False) w w' := by
  have hc1 := h1.cap
  have hc2 := h2.cap
  have hm1 := h1.max
  have hm2 := h2.max
  unfold maxLen at hm1 hm2
  have henter := enter132
  by_cases hl : l.length = m.length
  · have HLN := Lib.hid hl
    have hne : ((l.length : Int) != (m.length : Int)) = false := by simp; omega
    have hl1 : l.length ≤ m.length := by omega
    have hl2 : m.length ≤ l.length := by omega
    clear hl
    have H1 := Lib.hid h1
    have H2 := Lib.hid h2
    have HC := Lib.hid hcall
    clear h1 h2 hcall
    go_enter Try.func162, Try.ntmps162
    go_wp2_with fail
    go_loopg [17] l.length (fun g i wr => ∃ j : Nat, Hid (j + g = l.length) ∧ j ≤ l.length ∧ i = .int .i64 j ∧ Hid (Tm.bares (l.take j) = Tm.bares (m.take j)) ∧ Turned (fun _ => False) w wr)
    case atStart => exact ⟨0, Nat.zero_add _, Nat.zero_le _, rfl, rfl, Turned.refl _ _⟩
    case round =>
      obtain ⟨j, HG, hj, rfl, HE, Tr⟩ := hrel
      by_cases hjl : j < l.length
      · have hx : l[j]? = some l[j] := List.getElem?_eq_getElem hjl
        have hy : m[j]? = some (m[j]'(by omega)) := List.getElem?_eq_getElem (by omega)
        obtain ⟨x, hxe⟩ : ∃ x : LT, x = l[j] := ⟨_, rfl⟩
        obtain ⟨y, hye⟩ : ∃ y : LT, y = m[j]'(by omega) := ⟨_, rfl⟩
        rw [← hxe] at hx
        rw [← hye] at hy
        clear hxe hye
        have xin := (LT.ins_iff _).1 (H1.out.turned0 Tr).ins x (List.mem_of_getElem? hx)
        have yin := (LT.ins_iff _).1 (H2.out.turned0 Tr).ins y (List.mem_of_getElem? hy)
        obtain ⟨b1, o1, rfl, _, k0, k1, k2, k3⟩ := (H1.out.turned0 Tr).lies.cell hx
        obtain ⟨b2, o2, rfl, _, q0, q1, q2, q3⟩ := (H2.out.turned0 Tr).lies.cell hy
        have q0 := cell_old (o := .cells #[.int .i64 x.kind, .int .i64 x.n, .string x.name, .slice x.at_.1 x.args.length x.at_.2] 27) q0
        have q1 := cell_old (o := .cells #[.int .i64 x.kind, .int .i64 x.n, .string x.name, .slice x.at_.1 x.args.length x.at_.2] 27) q1
        have q2 := cell_old (o := .cells #[.int .i64 x.kind, .int .i64 x.n, .string x.name, .slice x.at_.1 x.args.length x.at_.2] 27) q2
        have q3 := cell_old (o := .cells #[.int .i64 x.kind, .int .i64 x.n, .string x.name, .slice x.at_.1 x.args.length x.at_.2] 27) q3
        have hcx := fun u v => HC.out x (List.mem_of_getElem? hx) y ((wr.alloc u).alloc v) (xin.turned0 (((Turned.refl _ wr).alloc u).alloc v)) (yin.turned0 (((Turned.refl _ wr).alloc u).alloc v))
        rw [LT.val_eq x, LT.val_eq y] at hcx
        have HX := Lib.hid hx
        have HY := Lib.hid hy
        have HCX := Lib.hid hcx
        clear hx hy hcx xin yin
        have z2 : (j : Int) < (m.length : Int) := by omega
        cases hs : Tm.same x y with
        | true =>
          rw [hs] at HCX
          have HS := Lib.hid hs
          clear hs
          go_wp2_with (go_at_call 132; refine (HCX.out _ _).mono ?_; rintro e w2 ⟨rfl, T2⟩)
          go_roundg (gk - 1)
          case measure => have := HG.out; omega
          case rel =>
            refine ⟨j + 1, show _ = _ by have := HG.out; omega, by omega, by go_num, ?_, Tr.trans ((((Turned.refl _ wr).alloc _).alloc _).trans T2)⟩
            show _ = _
            rw [bares_snoc _ _ _ HX.out, bares_snoc _ _ _ HY.out, HE.out, (Tm.same_iff x y).1 HS.out]
        | false =>
          rw [hs] at HCX
          have HS := Lib.hid hs
          clear hs
          go_wp2_with (go_at_call 132; refine (HCX.out _ _).mono ?_; rintro e w2 ⟨rfl, T2⟩)
          go_ret
          exact ⟨ret_bool (sames_no HX.out HY.out HS.out).symm, Tr.trans ((((Turned.refl _ wr).alloc _).alloc _).trans T2)⟩
      · go_wp2_with fail
        go_ret
        refine ⟨ret_bool ?_, Tr⟩
        symm
        rw [Tm.sames_iff]
        have h := HE.out
        rwa [List.take_of_length_le (by omega), List.take_of_length_le (by omega)] at h
  · have hne : ((l.length : Int) != (m.length : Int)) = true := by simp; omega
    have HL := Lib.hid hl
    clear hl h1 h2 hcall
    go_enter Try.func162, Try.ntmps162
    go_wp2_with fail
    go_ret
    exact ⟨ret_bool (sames_len HL.out).symm, Turned.refl _ _⟩

set_option maxHeartbeats 1600000 in
theorem same132 {p : Nat → Prop} (n : Nat) : ∀ (a b : LT) (w : World), a.depth ≤ n → a.In p w → b.In p w →
    Calls Try.prog 132 #[a.val, b.val] w fun e w' => e = .returned (.bool (Tm.same a b)) ∧ Turned (fun _ => False) w w' := by
  induction n with
  | zero => intro a b w h; have := Tm.depth_pos a; omega
  | succ n ih =>
    intro a b w hd ha hb
    have T0 : ∀ u v, Turned (fun _ => False) w ((w.alloc u).alloc v) := fun u v => ((Turned.refl _ w).alloc u).alloc v
    have heq := fun u v => equalFunc162 (ha.turned0 (T0 u v)).sl (hb.turned0 (T0 u v)).sl (fun x hx y W h1 h2 => ih x y W (by
      have h3 : x.depth ≤ Tm.depths a.args := by
        obtain ⟨j, hj⟩ := List.getElem?_of_mem hx
        have h4 := Tm.depths_snoc _ j x hj
        have h5 := Tm.depths_take_le a.args (j + 1)
        omega
      rw [Tm.depth_eq] at hd
      omega) h1 h2)
    rw [LT.val_eq a, LT.val_eq b]
    have HEQ := Lib.hid heq
    have HV := Lib.hid (same_eq a b)
    clear heq ih ha hb hd
    by_cases hk : a.kind = b.kind
    · have kb : (a.kind == b.kind) = true := by simp [hk]
      have HK := Lib.hid hk
      clear hk
      by_cases hn : a.n = b.n
      · have nb : (a.n == b.n) = true := by simp [hn]
        have HN := Lib.hid hn
        clear hn
        by_cases hs : a.name = b.name
        · have sb : (a.name.toList == b.name.toList) = true := by rw [hs]; exact str_same _
          have HS := Lib.hid hs
          clear hs
          have HR : Hid (Tm.same a b = Tm.sames a.args b.args) := by show _ = _; rw [HV.out, HK.out, HN.out, HS.out]; simp
          go_enter Try.func132, Try.ntmps132
          go_wp2_with (go_at_call 162; refine (HEQ.out _ _).mono ?_; rintro e w2 ⟨rfl, T2⟩)
          go_ret
          exact ⟨ret_bool HR.out.symm, (((Turned.refl _ w).alloc _).alloc _).trans T2⟩
        · have sb : (a.name.toList == b.name.toList) = false := str_neq hs
          have HR : Hid (Tm.same a b = false) := by show _ = _; rw [HV.out]; simp [hs]
          clear hs
          go_enter Try.func132, Try.ntmps132
          go_wp2_with fail
          go_ret
          exact ⟨ret_bool HR.out.symm, ((Turned.refl _ w).alloc _).alloc _⟩
      · have nb : (a.n == b.n) = false := by simp [hn]
        have HR : Hid (Tm.same a b = false) := by show _ = _; rw [HV.out]; simp [hn]
        clear hn
        go_enter Try.func132, Try.ntmps132
        go_wp2_with fail
        go_ret
        exact ⟨ret_bool HR.out.symm, ((Turned.refl _ w).alloc _).alloc _⟩
    · have kb : (a.kind == b.kind) = false := by simp [hk]
      have HR : Hid (Tm.same a b = false) := by show _ = _; rw [HV.out]; simp [hk]
      clear hk
      go_enter Try.func132, Try.ntmps132
      go_wp2_with fail
      go_ret
      exact ⟨ret_bool HR.out.symm, ((Turned.refl _ w).alloc _).alloc _⟩

set_option maxHeartbeats 1600000 in
theorem same52 {p : Nat → Prop} {a b : LT} {w : World} (ha : a.In p w) (hb : b.In p w) (sa : slim a) (sb : slim b) :
    Calls Try.prog 52 #[a.val, b.val] w fun e w' => e = .returned (.bool (sameB a b)) ∧ Turned (fun _ => False) w w' := by
  obtain ⟨b1, hb1⟩ : ∃ bx : Obj, bx = .cells #[.int .i64 a.kind, .int .i64 a.n, .string a.name, .slice a.at_.1 a.args.length a.at_.2] 27 := ⟨_, rfl⟩
  obtain ⟨b2, hb2⟩ : ∃ bx : Obj, bx = .cells #[.int .i64 b.kind, .int .i64 b.n, .string b.name, .slice b.at_.1 b.args.length b.at_.2] 27 := ⟨_, rfl⟩
  have T1 := ((Turned.refl (fun _ => False) w).alloc b1).alloc b2
  have hc : ∀ W, Turned (fun _ => False) ((w.alloc b1).alloc b2) W → W.heap[w.heap.size]? = some b1 ∧ W.heap[w.heap.size + 1]? = some b2 := by
    intro W h
    exact ⟨(h.block _ (by simp; omega) (fun f => f)).trans (heap_alloc2_old w b1 b2), (h.block _ (by simp) (fun f => f)).trans (heap_alloc2_new w b1 b2)⟩
  have g1 := fun W (h : Turned (fun _ => False) ((w.alloc b1).alloc b2) W) => good38 (ha.turned0 (T1.trans h)) sa
  have g2 := fun W (h : Turned (fun _ => False) ((w.alloc b1).alloc b2) W) => good38 (hb.turned0 (T1.trans h)) sb
  have g3 := fun W (h : Turned (fun _ => False) ((w.alloc b1).alloc b2) W) => same132 (p := p) a.depth a b W (Nat.le_refl _) (ha.turned0 (T1.trans h)) (hb.turned0 (T1.trans h))
  rw [LT.val_eq a] at g1 g3 ⊢
  rw [LT.val_eq b] at g2 g3 ⊢
  subst hb1 hb2
  have G1 := Lib.hid g1
  have G2 := Lib.hid g2
  have G3 := Lib.hid g3
  have HC := Lib.hid hc
  have HT := Lib.hid T1
  clear g1 g2 g3 hc T1 ha hb sa sb
  cases ga : goodB a with
  | false =>
    rw [ga] at G1
    have HR : Hid (sameB a b = false) := by show _ = _; unfold sameB; rw [ga]; rfl
    clear ga
    go_enter Try.func52, Try.ntmps52
    go_wp2_with (go_at_call 38; refine (G1.out _ (Turned.refl _ _)).mono ?_; rintro e w2 ⟨rfl, T2⟩)
    go_ret
    exact ⟨ret_bool HR.out.symm, HT.out.trans T2⟩
  | true =>
    rw [ga] at G1
    have HGA := Lib.hid ga
    clear ga
    cases gb : goodB b with
    | false =>
      rw [gb] at G2
      have HR : Hid (sameB a b = false) := by show _ = _; unfold sameB; rw [gb, HGA.out]; rfl
      clear gb
      go_enter Try.func52, Try.ntmps52
      go_wp2_with (first
        | (go_at_call 38; (with_reducible refine (G1.out _ (Turned.refl _ _)).mono ?_); rintro e w2 ⟨rfl, T2⟩; obtain ⟨h1, h2⟩ := HC.out _ T2; obtain ⟨d0, d1, d2, d3, _⟩ := cells4 h2; clear h1 h2)
        | (go_at_call 38; (with_reducible refine (G2.out _ T2).mono ?_); rintro e w3 ⟨rfl, T3⟩))
      go_ret
      exact ⟨ret_bool HR.out.symm, HT.out.trans (T2.trans T3)⟩
    | true =>
      rw [gb] at G2
      have HR : Hid (sameB a b = Tm.same a b) := by show _ = _; unfold sameB; rw [gb, HGA.out]; rfl
      clear gb
      go_enter Try.func52, Try.ntmps52
      go_wp2_with (first
        | (go_at_call 38; (with_reducible refine (G1.out _ (Turned.refl _ _)).mono ?_); rintro e w2 ⟨rfl, T2⟩; obtain ⟨h1, h2⟩ := HC.out _ T2; obtain ⟨d0, d1, d2, d3, _⟩ := cells4 h2; clear h1 h2)
        | (go_at_call 38; (with_reducible refine (G2.out _ T2).mono ?_); rintro e w3 ⟨rfl, T3⟩; obtain ⟨h1, h2⟩ := HC.out _ (T2.trans T3); obtain ⟨d0, d1, d2, d3, _⟩ := cells4 h2; obtain ⟨f0, f1, f2, f3, _⟩ := cells4 h1; clear h1 h2)
        | (go_at_call 132; refine (G3.out _ (T2.trans T3)).mono ?_; rintro e w4 ⟨rfl, T4⟩))
      go_ret
      exact ⟨ret_bool HR.out.symm, HT.out.trans (T2.trans (T3.trans T4))⟩
end Go.Proofs.Ytoihjobdfjajfaa

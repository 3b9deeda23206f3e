/- AliasKnown: the walk. -/
import Derived.Test.YtoihjobdfjajfaaAL9
namespace Go.Proofs.Ytoihjobdfjajfaa
set_option linter.unusedVariables false
set_option linter.unusedSimpArgs false
open Go.RowKit Go.Maps
/-- f of two variables. -/
def fT (m n : Int) : Tm Unit := .mk 2 0 ⟨#[102]⟩ () [Tm.V m, Tm.V n]
def yT : Tm Unit := .mk 2 0 ⟨#[102]⟩ () [.mk 1 1 ByteArray.empty () [], .mk 2 0 ⟨#[103]⟩ () [Tm.V 5]]
theorem fromK {p : Nat → Prop} {t : LT} {w : World} {first m : Int} (ht : t.In p w) (hb : t.bare = fT 5 6) (h0 : 0 ≤ first) (h1 : first ≤ 2147483647) (h2 : first + 2 ≤ 2147483648) (hm : m = first + 2) :
    Calls Try.prog 71 #[.agg #[.int .i64 t.kind, .int .i64 t.n, .string t.name, .slice t.at_.1 t.args.length t.at_.2], .int .i64 first] w fun e w' => ∃ u : LT, e = .returned (.tuple #[.agg #[.int .i64 u.kind, .int .i64 u.n, .string u.name, .slice u.at_.1 u.args.length u.at_.2], .int .i64 m, .int .i64 0]) ∧ u.bare = fT first (first + 1) ∧ u.In (fun _ => True) w' ∧ Turned (fun _ => False) w w' := by
  have hg : goodB t = true := by rw [← goodB_bare, hb]; kernel_rfl
  have hv : t.vars = [5, 6] := by rw [← Tm.vars_bare, hb]; kernel_rfl
  have h := fromOk ht hg h0 h1 (by rw [hv]; simpa using h2)
  rw [hv] at h
  refine h.mono ?_
  rintro e w' ⟨u, rfl, hu, hi, hT⟩
  refine ⟨u, by rw [hm]; rfl, ?_, hi, hT⟩
  rw [hu, hb]
  unfold Tm.fromT
  rw [show (fT 5 6).vars = [5, 6] from by kernel_rfl]
  have e5 : Tm.fromS [5, 6] first 5 = first := by unfold Tm.fromS; rw [show Tm.posOf [5, 6] 5 = 0 from by kernel_rfl]; omega
  have e6 : Tm.fromS [5, 6] first 6 = first + 1 := by unfold Tm.fromS; rw [show Tm.posOf [5, 6] 6 = 1 from by kernel_rfl]; omega
  show Tm.mk 2 0 ⟨#[102]⟩ () [Tm.V (Tm.fromS [5, 6] first 5), Tm.V (Tm.fromS [5, 6] first 6)] = _
  rw [e5, e6]; rfl
theorem fromE {p : Nat → Prop} {t : LT} {w : World} {first er : Int} (ht : t.In p w) (hs : slim t) (hf : I64 first) (hr : ∀ u m e, FromR t.bare first u m e → e = er) :
    Calls Try.prog 71 #[.agg #[.int .i64 t.kind, .int .i64 t.n, .string t.name, .slice t.at_.1 t.args.length t.at_.2], .int .i64 first] w fun e w' => ∃ (u : LT) (m : Int), e = .returned (.tuple #[.agg #[.int .i64 u.kind, .int .i64 u.n, .string u.name, .slice u.at_.1 u.args.length u.at_.2], .int .i64 m, .int .i64 er]) ∧ Turned (fun _ => False) w w' := by
  have h := from71 ht hs hf
  rw [LT.val_eq] at h
  refine h.mono ?_
  rintro e w' ⟨u, m, e2, rfl, hR, hi, hT⟩
  exact ⟨u, m, by rw [LT.val_eq u, hr _ _ _ hR], hT⟩
theorem fT_leafs {t : LT} {m n : Int} (h : t.bare = fT m n) (h0 : 0 ≤ m ∧ m ≤ 2147483647) (h1 : 0 ≤ n ∧ n ≤ 2147483647) : goodB t = true := by
  rw [← goodB_bare, h]
  unfold goodB fT Tm.V
  simp only [Tm.size, Tm.sizes, Tm.depth, Tm.depths, Tm.flat, Tm.flats, List.append_nil, List.nil_append, List.cons_append, List.all_cons, List.all_nil]
  have e0 : ∀ k : Int, (0 ≤ k ∧ k ≤ 2147483647) → goodOneB (Tm.mk 0 k ByteArray.empty () [] : Tm Unit) = true := fun k hk => by
    rw [goodOneB_0 _ rfl]
    show (decide (0 ≤ k) && (decide (k ≤ 2147483647) && (decide (ByteArray.empty.toList = []) && decide (0 = 0)))) = true
    rw [decide_eq_true hk.1, decide_eq_true hk.2, decide_eq_true ((bytes_nil _).2 rfl)]; rfl
  rw [e0 m h0, e0 n h1]
  have e2 : goodOneB (Tm.mk 2 0 ⟨#[102]⟩ () [Tm.mk 0 m ByteArray.empty () [], Tm.mk 0 n ByteArray.empty () []] : Tm Unit) = true := by rfl
  rw [e2]; rfl
theorem moreB_of {a b : LT} {x y : Tm Unit} (ha : a.bare = x) (hb : b.bare = y) : moreB a b = moreB x y := by
  subst ha hb
  unfold moreB
  rw [goodB_bare, goodB_bare, Tm.bare_unit, Tm.bare_unit]
theorem alikeB_of {a b : LT} {x y : Tm Unit} (ha : a.bare = x) (hb : b.bare = y) : alikeB a b = alikeB x y := by
  subst ha hb
  unfold alikeB
  rw [goodB_bare, goodB_bare, Tm.bare_unit, Tm.bare_unit]
theorem boxLetter {w W : World} {k n : Int} {s : ByteArray} {a : Option Addr} {c m : Nat} {l : List LT} {Z : LT} (hZ : Z = .mk k n s (a, c) l) (hm : l.length = m) (hT : Turned (fun _ => False) (w.alloc (.cells #[.int .i64 k, .int .i64 n, .string s, .slice a m c] 27)) W) :
    W.cell? ⟨w.heap.size, 0, none⟩ = some (.int .i64 Z.kind) ∧ W.cell? ⟨w.heap.size, 1, none⟩ = some (.int .i64 Z.n) ∧ W.cell? ⟨w.heap.size, 2, none⟩ = some (.string Z.name) ∧ W.cell? ⟨w.heap.size, 3, none⟩ = some (.slice Z.at_.1 Z.args.length Z.at_.2) := by
  subst hZ hm
  have h := boxAt hT
  exact ⟨h.1, h.2.1, h.2.2.1, h.2.2.2.1⟩
theorem fourT {w w' : World} {B a b c d : Nat} {v1 v2 v3 v4 : Value} (ht : Turned (fun _ => False) w w') (h : w.cell? ⟨B, a, none⟩ = some v1 ∧ w.cell? ⟨B, b, none⟩ = some v2 ∧ w.cell? ⟨B, c, none⟩ = some v3 ∧ w.cell? ⟨B, d, none⟩ = some v4) : w'.cell? ⟨B, a, none⟩ = some v1 ∧ w'.cell? ⟨B, b, none⟩ = some v2 ∧ w'.cell? ⟨B, c, none⟩ = some v3 ∧ w'.cell? ⟨B, d, none⟩ = some v4 :=
  ⟨ht.cell0 h.1, ht.cell0 h.2.1, ht.cell0 h.2.2.1, ht.cell0 h.2.2.2⟩
structure KnA (B1 B2 B17 B18 : Nat) (X U Y Z : LT) (W : World) : Prop where
  c1 : (W.cell? ⟨B1, 0, none⟩ = some (.int .i64 X.kind) ∧ W.cell? ⟨B1, 1, none⟩ = some (.int .i64 X.n) ∧ W.cell? ⟨B1, 2, none⟩ = some (.string X.name) ∧ W.cell? ⟨B1, 3, none⟩ = some (.slice X.at_.1 X.args.length X.at_.2))
  c2 : (W.cell? ⟨B2, 0, none⟩ = some (.int .i64 U.kind) ∧ W.cell? ⟨B2, 1, none⟩ = some (.int .i64 U.n) ∧ W.cell? ⟨B2, 2, none⟩ = some (.string U.name) ∧ W.cell? ⟨B2, 3, none⟩ = some (.slice U.at_.1 U.args.length U.at_.2))
  c17 : (W.cell? ⟨B17, 0, none⟩ = some (.int .i64 Y.kind) ∧ W.cell? ⟨B17, 1, none⟩ = some (.int .i64 Y.n) ∧ W.cell? ⟨B17, 2, none⟩ = some (.string Y.name) ∧ W.cell? ⟨B17, 3, none⟩ = some (.slice Y.at_.1 Y.args.length Y.at_.2))
  c18 : (W.cell? ⟨B18, 0, none⟩ = some (.int .i64 Z.kind) ∧ W.cell? ⟨B18, 1, none⟩ = some (.int .i64 Z.n) ∧ W.cell? ⟨B18, 2, none⟩ = some (.string Z.name) ∧ W.cell? ⟨B18, 3, none⟩ = some (.slice Z.at_.1 Z.args.length Z.at_.2))
  i1 : X.In (fun _ => True) W
  i2 : U.In (fun _ => True) W
  i17 : Y.In (fun _ => True) W
  i18 : Z.In (fun _ => True) W
theorem KnA.turned0 {B1 B2 B17 B18 : Nat} {X U Y Z : LT} {w w' : World} (h : KnA B1 B2 B17 B18 X U Y Z w) (ht : Turned (fun _ => False) w w') : KnA B1 B2 B17 B18 X U Y Z w' :=
  ⟨fourT ht h.c1, fourT ht h.c2, fourT ht h.c17, fourT ht h.c18, h.i1.turned0 ht, h.i2.turned0 ht, h.i17.turned0 ht, h.i18.turned0 ht⟩
def KaS (wz : World) : List Value → World → Prop
  | [], W => Turned (fun _ => False) wz W
  | [v], W => Turned (fun _ => False) wz W ∧ ∃ g : Nat, v = .slice (some ⟨g, 0, none⟩) 2 2 ∧ LT.Sl (fun _ => True) W (some ⟨g, 0, none⟩) 2 [leaf 0 10 ByteArray.empty, leaf 0 11 ByteArray.empty]
  | [_, v], W => Turned (fun _ => False) wz W ∧ ∃ u : LT, v = u.val ∧ u.bare = fT 10 11 ∧ u.In (fun _ => True) W
  | [_, _, v], W => Turned (fun _ => False) wz W ∧ ∃ g : Nat, v = .slice (some ⟨g, 0, none⟩) 2 2 ∧ LT.Sl (fun _ => True) W (some ⟨g, 0, none⟩) 2 [leaf 0 9 ByteArray.empty, leaf 0 9 ByteArray.empty]
  | [_, _, _, v], W => Turned (fun _ => False) wz W ∧ ∃ u : LT, v = u.val ∧ u.bare = fT 9 9 ∧ u.In (fun _ => True) W
  | [_, _, _, _, v], W => Turned (fun _ => False) wz W ∧ ∃ g : Nat, v = .slice (some ⟨g, 0, none⟩) 2 2 ∧ LT.Sl (fun _ => True) W (some ⟨g, 0, none⟩) 2 [leaf 0 1 ByteArray.empty, leaf 0 0 ByteArray.empty]
  | [_, _, _, _, _, v], W => Turned (fun _ => False) wz W ∧ ∃ u : LT, v = u.val ∧ u.bare = fT 1 0 ∧ u.In (fun _ => True) W
  | _, _ => False
theorem KaS.turned {wz : World} : ∀ (hs : List Value) (W : World), KaS wz hs W → Turned (fun _ => False) wz W
  | [], _, h => h
  | [_], _, h => h.1
  | [_, _], _, h => h.1
  | [_, _, _], _, h => h.1
  | [_, _, _, _], _, h => h.1
  | [_, _, _, _, _], _, h => h.1
  | [_, _, _, _, _, _], _, h => h.1
  | _ :: _ :: _ :: _ :: _ :: _ :: _ :: _, _, h => h.elim
theorem KaS.turned0 {wz : World} : ∀ (hs : List Value) (w w' : World), KaS wz hs w → Turned (fun _ => False) w w' → KaS wz hs w'
  | [], _, _, h, ht => Turned.trans h ht
  | [_], _, _, h, ht => by obtain ⟨h1, g, h2, h3⟩ := h; exact ⟨h1.trans ht, g, h2, h3.turned0 ht⟩
  | [_, _], _, _, h, ht => by obtain ⟨h1, u, h2, h3, h4⟩ := h; exact ⟨h1.trans ht, u, h2, h3, h4.turned0 ht⟩
  | [_, _, _], _, _, h, ht => by obtain ⟨h1, g, h2, h3⟩ := h; exact ⟨h1.trans ht, g, h2, h3.turned0 ht⟩
  | [_, _, _, _], _, _, h, ht => by obtain ⟨h1, u, h2, h3, h4⟩ := h; exact ⟨h1.trans ht, u, h2, h3, h4.turned0 ht⟩
  | [_, _, _, _, _], _, _, h, ht => by obtain ⟨h1, g, h2, h3⟩ := h; exact ⟨h1.trans ht, g, h2, h3.turned0 ht⟩
  | [_, _, _, _, _, _], _, _, h, ht => by obtain ⟨h1, u, h2, h3, h4⟩ := h; exact ⟨h1.trans ht, u, h2, h3, h4.turned0 ht⟩
  | _ :: _ :: _ :: _ :: _ :: _ :: _ :: _, _, _, h, _ => h.elim
theorem KaS.at1 {wz W : World} {hs : List Value} (h : KaS wz hs W) (hl : hs.length ≤ 2) {v : Value} (hv : hs[1]? = some v) : ∃ u : LT, v = u.val ∧ u.bare = fT 10 11 ∧ u.In (fun _ => True) W := by
  match hs, h, hv, hl with
  | [_, _], h, hv, _ => simp at hv; subst hv; exact h.2
theorem KaS.at3 {wz W : World} {hs : List Value} (h : KaS wz hs W) (hl : hs.length ≤ 4) {v : Value} (hv : hs[3]? = some v) : ∃ u : LT, v = u.val ∧ u.bare = fT 9 9 ∧ u.In (fun _ => True) W := by
  match hs, h, hv, hl with
  | [_, _, _, _], h, hv, _ => simp at hv; subst hv; exact h.2
theorem KaS.at5 {wz W : World} {hs : List Value} (h : KaS wz hs W) (hl : hs.length ≤ 6) {v : Value} (hv : hs[5]? = some v) : ∃ u : LT, v = u.val ∧ u.bare = fT 1 0 ∧ u.In (fun _ => True) W := by
  match hs, h, hv, hl with
  | [_, _, _, _, _, _], h, hv, _ => simp at hv; subst hv; exact h.2
theorem brings_build2 {o : Oper} {a : Act} {w : World} {F : Value → World → Prop} (x y : Tmp) (ho : o.op = Op.buildSlice 22 2 #[(0, .tmp x), (1, .tmp y)]) {a0 a1 a2 a3 b0 b1 b2 b3 : Value} (hx : a.tmps.getD x undef = .agg #[a0, a1, a2, a3]) (hy : a.tmps.getD y undef = .agg #[b0, b1, b2, b3])
    (h : F (.slice (some ⟨w.heap.size, 0, none⟩) 2 2) (w.alloc (.cells #[a0, a1, a2, a3, b0, b1, b2, b3] 27))) : Brings Try.prog F ((execOp a.eval o).run Try.prog w) := by
  have hx' : a.tmps[x]?.getD undef = .agg #[a0, a1, a2, a3] := by rw [← Array.getD_eq_getD_getElem?]; exact hx
  have hy' : a.tmps[y]?.getD undef = .agg #[b0, b1, b2, b3] := by rw [← Array.getD_eq_getD_getElem?]; exact hy
  simp only [execOp, ho, Act.eval]
  go_simp
  exact h
theorem list5' {α : Type} {l : List α} (h : l.length = 5) : ∃ a b c d e, l = [a, b, c, d, e] := by
  match l, h with
  | [a, b, c, d, e], _ => exact ⟨a, b, c, d, e, rfl⟩
set_option maxRecDepth 100000 in
set_option maxHeartbeats 6400000 in
theorem aliasKnown (w : World) : Calls Try.prog 16 #[] w fun e w' => e = .returned (.bool true) ∧ Turned (fun _ => False) w w' := by
  have lv : ∀ (n : Int) W, (-1000000 ≤ n ∧ n ≤ 1000000) → (leaf 0 n ByteArray.empty).In (fun _ => True) W := fun n W h => leafIn' (i64_lit _ (by omega)) (i64_lit _ h) (by unfold maxLen; decide)
  have LVV := Lib.hid lv
  clear lv
  go_enter Try.func16, Try.ntmps16
  go_wp2_with (first
    | (go_at_call 37; have := T2; refine (compV ⟨#[102]⟩ (by unfold maxLen; decide) 2 (by decide) rfl (sl_made (l := [leaf 0 5 ByteArray.empty, leaf 0 6 ByteArray.empty]) ⟨LVV.out _ _ (by omega), LVV.out _ _ (by omega), trivial⟩ 2 (by decide) rfl _ rfl)).mono ?_; rintro e W3 ⟨aX, cX, rfl, iX, T3⟩)
    | (go_at_call 62; have := T1; refine (varV 6 (i64_lit _ (by omega)) _).mono ?_; rintro e W2 ⟨rfl, _, T2⟩)
    | (go_at_call 62; have := T0; refine (varV 5 (i64_lit _ (by omega)) _).mono ?_; rintro e W1 ⟨rfl, _, T1⟩)
    | (go_at_call 69; refine (awake69 _).mono ?_; rintro e W0 ⟨rfl, T0⟩))
  have TX : Turned (fun _ => False) w (W3.alloc (.cells #[.int .i64 2, .int .i64 0, .string ⟨#[102]⟩, .slice aX 2 cX] 27)) := (T0.trans (T1.trans (T2.trans (((Turned.refl _ W2).alloc _).trans T3)))).alloc _
  have hbX := boxAt (Turned.refl (fun _ => False) (W3.alloc (.cells #[.int .i64 2, .int .i64 0, .string ⟨#[102]⟩, .slice aX 2 cX] 27)))
  obtain ⟨X, hX⟩ : ∃ z : LT, z = .mk 2 0 ⟨#[102]⟩ (aX, cX) [leaf 0 5 ByteArray.empty, leaf 0 6 ByteArray.empty] := ⟨_, rfl⟩
  have e : X.kind = 2 ∧ X.n = 0 ∧ X.name = ⟨#[102]⟩ ∧ X.at_ = (aX, cX) ∧ X.args.length = 2 := by rw [hX]; exact ⟨rfl, rfl, rfl, rfl, rfl⟩
  have hiX := iX.turned0 ((Turned.refl (fun _ => False) W3).alloc (.cells #[.int .i64 2, .int .i64 0, .string ⟨#[102]⟩, .slice aX 2 cX] 27))
  rw [← hX] at hiX
  have hcX : ((W3.alloc (.cells #[.int .i64 2, .int .i64 0, .string ⟨#[102]⟩, .slice aX 2 cX] 27)).cell? ⟨W3.heap.size, 0, none⟩ = some (.int .i64 X.kind) ∧ (W3.alloc (.cells #[.int .i64 2, .int .i64 0, .string ⟨#[102]⟩, .slice aX 2 cX] 27)).cell? ⟨W3.heap.size, 1, none⟩ = some (.int .i64 X.n) ∧ (W3.alloc (.cells #[.int .i64 2, .int .i64 0, .string ⟨#[102]⟩, .slice aX 2 cX] 27)).cell? ⟨W3.heap.size, 2, none⟩ = some (.string X.name) ∧ (W3.alloc (.cells #[.int .i64 2, .int .i64 0, .string ⟨#[102]⟩, .slice aX 2 cX] 27)).cell? ⟨W3.heap.size, 3, none⟩ = some (.slice X.at_.1 X.args.length X.at_.2)) := by
    rw [e.1, e.2.1, e.2.2.1, e.2.2.2.1, e.2.2.2.2]
    exact ⟨hbX.1, hbX.2.1, hbX.2.2.1, hbX.2.2.2.1⟩
  have HXB : Hid (X.bare = fT 5 6) := by show _ = _; rw [hX]; kernel_rfl
  have hcx : ∀ W, Turned (fun _ => False) (W3.alloc (.cells #[.int .i64 2, .int .i64 0, .string ⟨#[102]⟩, .slice aX 2 cX] 27)) W → (W.cell? ⟨W3.heap.size, 0, none⟩ = some (.int .i64 X.kind) ∧ W.cell? ⟨W3.heap.size, 1, none⟩ = some (.int .i64 X.n) ∧ W.cell? ⟨W3.heap.size, 2, none⟩ = some (.string X.name) ∧ W.cell? ⟨W3.heap.size, 3, none⟩ = some (.slice X.at_.1 X.args.length X.at_.2)) := fun W h => fourT h hcX
  have HIX := Lib.hid hiX
  have TWX := Lib.hid TX
  have HE := Lib.hid e
  have HCX := Lib.hid hcx
  clear hcx hcX hiX e hbX TX iX T0 T1 T2 T3 hX
  have hgX : goodB X = true := by rw [← goodB_bare, HXB.out]; kernel_rfl
  have HSX := Lib.hid (good_slim hgX)
  have hvX : (fT 5 6).vars = [5, 6] := by kernel_rfl
  have hgf : goodB (fT 5 6) = true := by kernel_rfl
  have R3 : Hid (∀ u m e, FromR X.bare 2147483647 u m e → e = 3) := fun u m e h => by
    unfold FromR at h
    rw [HXB.out, if_pos ⟨hgf, by omega, by omega⟩, hvX, if_neg (by simp)] at h
    exact h.1
  have R1 : Hid (∀ u m e, FromR X.bare (-1) u m e → e = 1) := fun u m e h => by
    unfold FromR at h
    rw [if_neg (by omega)] at h
    exact h.1
  have R8 : Hid (∀ u m e, FromR (leaf 8 0 ByteArray.empty).bare 0 u m e → e = 1) := fun u m e h => by
    unfold FromR at h
    rw [if_neg (by rw [show goodB (leaf 8 0 ByteArray.empty).bare = false from by kernel_rfl]; simp)] at h
    exact h.1
  clear hvX hgf
  have h1 := fromK (first := 10) (m := 12) HIX.out HXB.out (by omega) (by omega) (by omega) (by omega)
  rw [HE.out.1, HE.out.2.1, HE.out.2.2.1, HE.out.2.2.2.1, HE.out.2.2.2.2] at h1
  have H1 := Lib.hid h1
  clear h1
  (refine H1.out.mono ?_)
  rintro e W4 ⟨U, rfl, hUb, hUi, T4⟩
  have S4 : Turned (fun _ => False) (W3.alloc (.cells #[.int .i64 2, .int .i64 0, .string ⟨#[102]⟩, .slice aX 2 cX] 27)) (W4.alloc (.cells #[.int .i64 U.kind, .int .i64 U.n, .string U.name, .slice U.at_.1 U.args.length U.at_.2] 27)) := T4.alloc _
  have HU := Lib.hid (And.intro hUb (And.intro (hUi.turned0 ((Turned.refl (fun _ => False) W4).alloc (.cells #[.int .i64 U.kind, .int .i64 U.n, .string U.name, .slice U.at_.1 U.args.length U.at_.2] 27))) (boxAt (Turned.refl (fun _ => False) (W4.alloc (.cells #[.int .i64 U.kind, .int .i64 U.n, .string U.name, .slice U.at_.1 U.args.length U.at_.2] 27))))))
  obtain ⟨c0, c1, c2, c3⟩ := HCX.out _ S4
  clear hUb hUi T4
  go_wp2_with fail
  have h2 := fromE (first := 2147483647) (er := 3) (HIX.out.turned0 S4) HSX.out (by unfold I64; omega) R3.out
  have H2 := Lib.hid h2
  clear h2
  (with_reducible refine H2.out.mono ?_)
  rintro e W5 ⟨u2, m2, rfl, T5⟩
  have S5 : Turned (fun _ => False) (W3.alloc (.cells #[.int .i64 2, .int .i64 0, .string ⟨#[102]⟩, .slice aX 2 cX] 27)) (W5.alloc (.cells #[.int .i64 u2.kind, .int .i64 u2.n, .string u2.name, .slice u2.at_.1 u2.args.length u2.at_.2] 27)) := S4.trans (T5.alloc _)
  have V5 : Turned (fun _ => False) (W4.alloc (.cells #[.int .i64 U.kind, .int .i64 U.n, .string U.name, .slice U.at_.1 U.args.length U.at_.2] 27)) (W5.alloc (.cells #[.int .i64 u2.kind, .int .i64 u2.n, .string u2.name, .slice u2.at_.1 u2.args.length u2.at_.2] 27)) := T5.alloc _
  clear c0 c1 c2 c3
  obtain ⟨c0, c1, c2, c3⟩ := HCX.out _ S5
  go_wp2_with fail
  have h3 := fromE (first := -1) (er := 1) (HIX.out.turned0 S5) HSX.out (by unfold I64; omega) R1.out
  have H3 := Lib.hid h3
  clear h3
  (with_reducible refine H3.out.mono ?_)
  rintro e W6 ⟨u3, m3, rfl, T6⟩
  have S6 : Turned (fun _ => False) (W3.alloc (.cells #[.int .i64 2, .int .i64 0, .string ⟨#[102]⟩, .slice aX 2 cX] 27)) (W6.alloc (.cells #[.int .i64 u3.kind, .int .i64 u3.n, .string u3.name, .slice u3.at_.1 u3.args.length u3.at_.2] 27)) := S5.trans (T6.alloc _)
  have V6 : Turned (fun _ => False) (W4.alloc (.cells #[.int .i64 U.kind, .int .i64 U.n, .string U.name, .slice U.at_.1 U.args.length U.at_.2] 27)) (W6.alloc (.cells #[.int .i64 u3.kind, .int .i64 u3.n, .string u3.name, .slice u3.at_.1 u3.args.length u3.at_.2] 27)) := V5.trans (T6.alloc _)
  clear c0 c1 c2 c3
  obtain ⟨c0, c1, c2, c3⟩ := HCX.out _ S6
  go_wp2_with fail
  have H4 : Hid (∀ W, Calls Try.prog 71 #[.agg #[.int .i64 8, .int .i64 0, .string ⟨#[]⟩, .slice none 0 0], .int .i64 0] W fun e w' => ∃ (u : LT) (m : Int), e = .returned (.tuple #[.agg #[.int .i64 u.kind, .int .i64 u.n, .string u.name, .slice u.at_.1 u.args.length u.at_.2], .int .i64 m, .int .i64 1]) ∧ Turned (fun _ => False) W w') := fun W => fromE (p := fun _ => True) (t := leaf 8 0 ByteArray.empty) (first := 0) (er := 1) (leafIn' (i64_lit _ (by omega)) (i64_lit _ (by omega)) (by unfold maxLen; decide)) (leafSlim' _ _ _) (by unfold I64; omega) R8.out
  (with_reducible refine (H4.out _).mono ?_)
  rintro e W7 ⟨u4, m4, rfl, T7⟩
  have S7 : Turned (fun _ => False) (W3.alloc (.cells #[.int .i64 2, .int .i64 0, .string ⟨#[102]⟩, .slice aX 2 cX] 27)) (W7.alloc (.cells #[.int .i64 u4.kind, .int .i64 u4.n, .string u4.name, .slice u4.at_.1 u4.args.length u4.at_.2] 27)) := S6.trans (T7.alloc _)
  have V7 : Turned (fun _ => False) (W4.alloc (.cells #[.int .i64 U.kind, .int .i64 U.n, .string U.name, .slice U.at_.1 U.args.length U.at_.2] 27)) (W7.alloc (.cells #[.int .i64 u4.kind, .int .i64 u4.n, .string u4.name, .slice u4.at_.1 u4.args.length u4.at_.2] 27)) := V6.trans (T7.alloc _)
  clear c0 c1 c2 c3
  obtain ⟨c0, c1, c2, c3⟩ := HCX.out _ S7
  go_wp2_with fail
  have h5 := fromK (first := 2147483646) (m := 2147483648) (HIX.out.turned0 S7) HXB.out (by omega) (by omega) (by omega) (by omega)
  have H5 := Lib.hid h5
  clear h5
  (with_reducible refine H5.out.mono ?_)
  rintro e W8 ⟨u5, rfl, _, _, T8⟩
  have S8 : Turned (fun _ => False) (W3.alloc (.cells #[.int .i64 2, .int .i64 0, .string ⟨#[102]⟩, .slice aX 2 cX] 27)) (W8.alloc (.cells #[.int .i64 u5.kind, .int .i64 u5.n, .string u5.name, .slice u5.at_.1 u5.args.length u5.at_.2] 27)) := S7.trans (T8.alloc _)
  have V8 : Turned (fun _ => False) (W4.alloc (.cells #[.int .i64 U.kind, .int .i64 U.n, .string U.name, .slice U.at_.1 U.args.length U.at_.2] 27)) (W8.alloc (.cells #[.int .i64 u5.kind, .int .i64 u5.n, .string u5.name, .slice u5.at_.1 u5.args.length u5.at_.2] 27)) := V7.trans (T8.alloc _)
  clear c0 c1 c2 c3
  go_wp2_with (first
    | (go_at_call 37; have := T14; refine (compV ⟨#[102]⟩ (by unfold maxLen; decide) 2 (by decide) rfl (sl_made (l := [leaf 0 1 ByteArray.empty, leaf 0 1 ByteArray.empty]) ⟨LVV.out _ _ (by omega), LVV.out _ _ (by omega), trivial⟩ 2 (by decide) rfl _ rfl)).mono ?_; rintro e W15 ⟨aZ, cZ, rfl, iZ, T15⟩)
    | (go_at_call 62; have := T13; refine (varV 1 (i64_lit _ (by omega)) _).mono ?_; rintro e W14 ⟨rfl, _, T14⟩)
    | (go_at_call 62; have := T12; refine (varV 1 (i64_lit _ (by omega)) _).mono ?_; rintro e W13 ⟨rfl, _, T13⟩)
    | (go_at_call 37; have := T11; refine (compV ⟨#[102]⟩ (by unfold maxLen; decide) 2 (by decide) rfl (sl_made (l := [leaf 1 1 ByteArray.empty, .mk 2 0 ⟨#[103]⟩ (aG, cG) [leaf 0 5 ByteArray.empty]]) ⟨leafIn' (i64_lit _ (by omega)) (i64_lit _ (by omega)) (by unfold maxLen; decide), iG, trivial⟩ 2 (by decide) rfl _ rfl)).mono ?_; rintro e W12 ⟨aY, cY, rfl, iY, T12⟩)
    | (go_at_call 37; have := T10; refine (compV ⟨#[103]⟩ (by unfold maxLen; decide) 1 (by decide) rfl (sl_made (l := [leaf 0 5 ByteArray.empty]) ⟨LVV.out _ _ (by omega), trivial⟩ 1 (by decide) rfl _ rfl)).mono ?_; rintro e W11 ⟨aG, cG, rfl, iG, T11⟩)
    | (go_at_call 62; have := T9; refine (varV 5 (i64_lit _ (by omega)) _).mono ?_; rintro e W10 ⟨rfl, _, T10⟩)
    | (go_at_call 61; refine (intV 1 (i64_lit _ (by omega)) _).mono ?_; rintro e W9 ⟨rfl, _, T9⟩))
  have V12 : Turned (fun _ => False) (W4.alloc (.cells #[.int .i64 U.kind, .int .i64 U.n, .string U.name, .slice U.at_.1 U.args.length U.at_.2] 27)) W12 := (((V8.trans (T9.trans T10)).alloc _).trans T11 |>.alloc _).trans T12
  have P15 : Turned (fun _ => False) (W12.alloc (.cells #[.int .i64 2, .int .i64 0, .string ⟨#[102]⟩, .slice aY 2 cY] 27)) W15 := ((T13.trans T14).alloc _).trans T15
  have PZ : Turned (fun _ => False) (W12.alloc (.cells #[.int .i64 2, .int .i64 0, .string ⟨#[102]⟩, .slice aY 2 cY] 27)) (W15.alloc (.cells #[.int .i64 2, .int .i64 0, .string ⟨#[102]⟩, .slice aZ 2 cZ] 27)) := P15.alloc _
  have VZ : Turned (fun _ => False) (W4.alloc (.cells #[.int .i64 U.kind, .int .i64 U.n, .string U.name, .slice U.at_.1 U.args.length U.at_.2] 27)) (W15.alloc (.cells #[.int .i64 2, .int .i64 0, .string ⟨#[102]⟩, .slice aZ 2 cZ] 27)) := (V12.alloc _).trans PZ
  have SZ := S4.trans VZ
  obtain ⟨Y, hY⟩ : ∃ z : LT, z = .mk 2 0 ⟨#[102]⟩ (aY, cY) [leaf 1 1 ByteArray.empty, .mk 2 0 ⟨#[103]⟩ (aG, cG) [leaf 0 5 ByteArray.empty]] := ⟨_, rfl⟩
  obtain ⟨Z, hZ⟩ : ∃ z : LT, z = .mk 2 0 ⟨#[102]⟩ (aZ, cZ) [leaf 0 1 ByteArray.empty, leaf 0 1 ByteArray.empty] := ⟨_, rfl⟩
  have hyb : Y.bare = yT := by rw [hY]; kernel_rfl
  have hzb : Z.bare = fT 1 1 := by rw [hZ]; kernel_rfl
  have HKN : Hid (KnA W3.heap.size W4.heap.size W12.heap.size W15.heap.size X U Y Z (W15.alloc (.cells #[.int .i64 2, .int .i64 0, .string ⟨#[102]⟩, .slice aZ 2 cZ] 27))) := by
    have hUc := HU.out.2.2
    exact ⟨HCX.out _ SZ, fourT VZ ⟨hUc.1, hUc.2.1, hUc.2.2.1, hUc.2.2.2.1⟩, boxLetter hY rfl PZ, boxLetter hZ rfl (Turned.refl _ _), HIX.out.turned0 SZ, HU.out.2.1.turned0 VZ, by rw [hY]; exact iY.turned0 ((((Turned.refl _ W12).alloc _)).trans PZ), by rw [hZ]; exact iZ.turned0 ((Turned.refl _ W15).alloc _)⟩
  have U6 : Hid (Turned (fun _ => False) w (W15.alloc (.cells #[.int .i64 2, .int .i64 0, .string ⟨#[102]⟩, .slice aZ 2 cZ] 27))) := TWX.out.trans SZ
  have HTB := And.intro HKN U6
  have HUb := Lib.hid HU.out.1
  clear HKN U6 SZ VZ PZ P15 V12 V8 V7 V6 V5 S4 S5 S6 S7 S8 T9 T10 T11 T12 T13 T14 T15 iY iZ iG hY hZ HU H1 H2 H3 H4 H5 R1 R3 R8 T5 T6 T7 T8 HIX TWX HE HCX
  revert HTB
  generalize W15.alloc (.cells #[.int .i64 2, .int .i64 0, .string ⟨#[102]⟩, .slice aZ 2 cZ] 27) = wz
  generalize W15.heap.size = B18
  generalize W12.heap.size = B17
  generalize W4.heap.size = B2
  generalize W3.heap.size = B1
  intro HTB
  obtain ⟨HKN, U6⟩ := HTB
  have sY : slim Y := good_slim (by rw [← goodB_bare, hyb]; kernel_rfl)
  have sZ : slim Z := good_slim (by rw [← goodB_bare, hzb]; kernel_rfl)
  have gU : goodB U = true := fT_leafs HUb.out (by omega) (by omega)
  have HXY := Lib.hid (fun W (h : Turned (fun _ => False) wz W) => moreVal (r := true) (HKN.out.turned0 h).i1 (HKN.out.turned0 h).i17 HSX.out sY ((moreB_of HXB.out hyb).trans (by kernel_rfl)))
  have HYX := Lib.hid (fun W (h : Turned (fun _ => False) wz W) => moreVal (r := false) (HKN.out.turned0 h).i17 (HKN.out.turned0 h).i1 sY HSX.out ((moreB_of hyb HXB.out).trans (by kernel_rfl)))
  have HXZ := Lib.hid (fun W (h : Turned (fun _ => False) wz W) => moreVal (r := true) (HKN.out.turned0 h).i1 (HKN.out.turned0 h).i18 HSX.out sZ ((moreB_of HXB.out hzb).trans (by kernel_rfl)))
  have HZX := Lib.hid (fun W (h : Turned (fun _ => False) wz W) => moreVal (r := false) (HKN.out.turned0 h).i18 (HKN.out.turned0 h).i1 sZ HSX.out ((moreB_of hzb HXB.out).trans (by kernel_rfl)))
  have HZY := Lib.hid (fun W (h : Turned (fun _ => False) wz W) => moreVal (r := false) (HKN.out.turned0 h).i18 (HKN.out.turned0 h).i17 sZ sY ((moreB_of hzb hyb).trans (by kernel_rfl)))
  have AXZ := Lib.hid (fun W (h : Turned (fun _ => False) wz W) => alikeVal (r := false) (HKN.out.turned0 h).i1 (HKN.out.turned0 h).i18 HSX.out sZ ((alikeB_of HXB.out hzb).trans (by kernel_rfl)))
  have GY := Lib.hid (fun W (h : Turned (fun _ => False) wz W) => groundVal (r := false) (HKN.out.turned0 h).i17 sY (by rw [← goodB_bare, ← Tm.vars_bare, hyb]; kernel_rfl))
  have G8 : Hid (∀ W, Calls Try.prog 73 #[.agg #[.int .i64 8, .int .i64 0, .string ⟨#[]⟩, .slice none 0 0]] W fun e w' => e = .returned (.bool false) ∧ Turned (fun _ => False) W w') := fun W => groundVal (p := fun _ => True) (t := leaf 8 0 ByteArray.empty) (leafIn' (i64_lit _ (by omega)) (i64_lit _ (by omega)) (by unfold maxLen; decide)) (leafSlim' _ _ _) (by kernel_rfl)
  have A8 : Hid (∀ W, Calls Try.prog 72 #[.agg #[.int .i64 8, .int .i64 0, .string ⟨#[]⟩, .slice none 0 0], .agg #[.int .i64 8, .int .i64 0, .string ⟨#[]⟩, .slice none 0 0]] W fun e w' => e = .returned (.bool false) ∧ Turned (fun _ => False) W w') := fun W => alikeVal (p := fun _ => True) (a := leaf 8 0 ByteArray.empty) (b := leaf 8 0 ByteArray.empty) (leafIn' (i64_lit _ (by omega)) (i64_lit _ (by omega)) (by unfold maxLen; decide)) (leafIn' (i64_lit _ (by omega)) (i64_lit _ (by omega)) (by unfold maxLen; decide)) (leafSlim' _ _ _) (leafSlim' _ _ _) (by kernel_rfl)
  have HSZ := Lib.hid (And.intro sZ hzb)
  have HGU := Lib.hid gU
  clear sY sZ gU hyb hzb
  obtain ⟨B66, HB66⟩ : ∃ B, Hid (B = ((0 : Int) == 0)) := ⟨_, rfl⟩
  obtain ⟨B69, HB69⟩ : ∃ B, Hid (B = ((12 : Int) == 12)) := ⟨_, rfl⟩
  obtain ⟨B70, HB70⟩ : ∃ B, Hid (B = (B66 && B69)) := ⟨_, rfl⟩
  obtain ⟨B78, HB78⟩ : ∃ B, Hid (B = (B70 && true)) := ⟨_, rfl⟩
  obtain ⟨B81, HB81⟩ : ∃ B, Hid (B = ((3 : Int) == 3)) := ⟨_, rfl⟩
  obtain ⟨B82, HB82⟩ : ∃ B, Hid (B = (B78 && B81)) := ⟨_, rfl⟩
  obtain ⟨B85, HB85⟩ : ∃ B, Hid (B = ((1 : Int) == 1)) := ⟨_, rfl⟩
  obtain ⟨B86, HB86⟩ : ∃ B, Hid (B = (B82 && B85)) := ⟨_, rfl⟩
  obtain ⟨B89, HB89⟩ : ∃ B, Hid (B = ((1 : Int) == 1)) := ⟨_, rfl⟩
  obtain ⟨B90, HB90⟩ : ∃ B, Hid (B = (B86 && B89)) := ⟨_, rfl⟩
  obtain ⟨B93, HB93⟩ : ∃ B, Hid (B = ((0 : Int) == 0)) := ⟨_, rfl⟩
  obtain ⟨B94, HB94⟩ : ∃ B, Hid (B = (B90 && B93)) := ⟨_, rfl⟩
  obtain ⟨B97, HB97⟩ : ∃ B, Hid (B = ((2147483648 : Int) == 2147483648)) := ⟨_, rfl⟩
  obtain ⟨B98, HB98⟩ : ∃ B, Hid (B = (B94 && B97)) := ⟨_, rfl⟩
  obtain ⟨B103, HB103⟩ : ∃ B, Hid (B = (B98 && true)) := ⟨_, rfl⟩
  obtain ⟨B108, HB108⟩ : ∃ B, Hid (B = (!false)) := ⟨_, rfl⟩
  obtain ⟨B109, HB109⟩ : ∃ B, Hid (B = (B103 && B108)) := ⟨_, rfl⟩
  obtain ⟨B114, HB114⟩ : ∃ B, Hid (B = (B109 && true)) := ⟨_, rfl⟩
  obtain ⟨B119, HB119⟩ : ∃ B, Hid (B = (!false)) := ⟨_, rfl⟩
  obtain ⟨B120, HB120⟩ : ∃ B, Hid (B = (B114 && B119)) := ⟨_, rfl⟩
  obtain ⟨B125, HB125⟩ : ∃ B, Hid (B = (!false)) := ⟨_, rfl⟩
  obtain ⟨B126, HB126⟩ : ∃ B, Hid (B = (B120 && B125)) := ⟨_, rfl⟩
  obtain ⟨B134, HB134⟩ : ∃ B, Hid (B = (B126 && true)) := ⟨_, rfl⟩
  obtain ⟨B139, HB139⟩ : ∃ B, Hid (B = (!false)) := ⟨_, rfl⟩
  obtain ⟨B140, HB140⟩ : ∃ B, Hid (B = (B134 && B139)) := ⟨_, rfl⟩
  obtain ⟨B148, HB148⟩ : ∃ B, Hid (B = (B140 && true)) := ⟨_, rfl⟩
  obtain ⟨B152, HB152⟩ : ∃ B, Hid (B = (!false)) := ⟨_, rfl⟩
  obtain ⟨B153, HB153⟩ : ∃ B, Hid (B = (B148 && B152)) := ⟨_, rfl⟩
  obtain ⟨B157, HB157⟩ : ∃ B, Hid (B = (!false)) := ⟨_, rfl⟩
  obtain ⟨B158, HB158⟩ : ∃ B, Hid (B = (B153 && B157)) := ⟨_, rfl⟩
  obtain ⟨B163, HB163⟩ : ∃ B, Hid (B = (!false)) := ⟨_, rfl⟩
  obtain ⟨B164, HB164⟩ : ∃ B, Hid (B = (B158 && B163)) := ⟨_, rfl⟩
  have hB70 : B70 = true := by rw [HB70.out, HB66.out, HB69.out]; rfl
  have hB78 : B78 = true := by rw [HB78.out, hB70]; rfl
  have hB82 : B82 = true := by rw [HB82.out, hB78, HB81.out]; rfl
  have hB86 : B86 = true := by rw [HB86.out, hB82, HB85.out]; rfl
  have hB90 : B90 = true := by rw [HB90.out, hB86, HB89.out]; rfl
  have hB94 : B94 = true := by rw [HB94.out, hB90, HB93.out]; rfl
  have hB98 : B98 = true := by rw [HB98.out, hB94, HB97.out]; rfl
  have hB103 : B103 = true := by rw [HB103.out, hB98]; rfl
  have hB109 : B109 = true := by rw [HB109.out, hB103, HB108.out]; rfl
  have hB114 : B114 = true := by rw [HB114.out, hB109]; rfl
  have hB120 : B120 = true := by rw [HB120.out, hB114, HB119.out]; rfl
  have hB126 : B126 = true := by rw [HB126.out, hB120, HB125.out]; rfl
  have hB134 : B134 = true := by rw [HB134.out, hB126]; rfl
  have hB140 : B140 = true := by rw [HB140.out, hB134, HB139.out]; rfl
  have hB148 : B148 = true := by rw [HB148.out, hB140]; rfl
  have hB153 : B153 = true := by rw [HB153.out, hB148, HB152.out]; rfl
  have hB158 : B158 = true := by rw [HB158.out, hB153, HB157.out]; rfl
  have hB164 : B164 = true := by rw [HB164.out, hB158, HB163.out]; rfl
  refine wp_region_hsW [65, 66, 67, 68, 69, 70, 71, 72, 73, 74, 75, 76, 77, 78, 79, 80, 81, 82, 83, 84, 85, 86, 87, 88, 89, 90, 91, 92, 93, 94, 95, 96, 97, 98, 99, 100, 101, 102, 103, 104, 105, 106, 107, 108, 109, 110, 111, 112, 113, 114, 115, 116, 117, 118, 119, 120, 121, 122, 123, 124, 125, 126, 127, 128, 129, 130, 131, 132, 133, 134, 135, 136, 137, 138, 139, 140, 141, 142, 143, 144, 145, 146, 147, 148, 149, 150, 151, 152, 153, 154, 155, 156, 157, 158, 159, 160, 161, 162, 163, 164, 0] [10, 11, 66, 67, 80, 81] [0, 0, 0, 0, 0, 0, 0, 2, 0, 0, 1, 2, 2, 2, 2, 2, 2, 2, 2, 2, 2, 2, 2, 2, 2, 2, 2, 2, 2, 2, 2, 2, 2, 2, 2, 2, 2, 2, 2, 2, 2, 2, 2, 2, 2, 2, 2, 2, 2, 2, 2, 2, 2, 2, 2, 2, 2, 2, 2, 2, 2, 2, 2, 4, 2, 2, 3, 4, 4, 4, 4, 4, 4, 4, 4, 4, 4, 6, 4, 4, 5, 6, 6, 6, 6, 6, 6, 6, 6, 6, 6, 6, 6, 6, 6, 6, 6, 6, 6, 6, 6] [75, 76, 131, 132, 145, 146] (fun d v => (match d with | 65 => v = .int .i64 0 | 66 => v = .bool B66 | 67 => v = .bool B66 | 68 => v = bif (true && (B66 == true)) then .int .i64 12 else undef | 69 => v = bif (true && (B66 == true)) then .bool B69 else undef | 70 => v = .bool B70 | 71 => v = .bool B70 | 72 => v = bif (true && (B70 == true)) then .agg #[.int .i64 U.kind, .int .i64 U.n, .string U.name, .slice U.at_.1 U.args.length U.at_.2] else undef | 73 => v = bif (true && (B70 == true)) then .agg #[.int .i64 0, .int .i64 10, .string ByteArray.empty, .slice none 0 0] else undef | 74 => v = bif (true && (B70 == true)) then .agg #[.int .i64 0, .int .i64 11, .string ByteArray.empty, .slice none 0 0] else undef | 77 => v = bif (true && (B70 == true)) then .bool true else undef | 78 => v = .bool B78 | 79 => v = .bool B78 | 80 => v = bif (true && (B78 == true)) then .int .i64 3 else undef | 81 => v = bif (true && (B78 == true)) then .bool B81 else undef | 82 => v = .bool B82 | 83 => v = .bool B82 | 84 => v = bif (true && (B82 == true)) then .int .i64 1 else undef | 85 => v = bif (true && (B82 == true)) then .bool B85 else undef | 86 => v = .bool B86 | 87 => v = .bool B86 | 88 => v = bif (true && (B86 == true)) then .int .i64 1 else undef | 89 => v = bif (true && (B86 == true)) then .bool B89 else undef | 90 => v = .bool B90 | 91 => v = .bool B90 | 92 => v = bif (true && (B90 == true)) then .int .i64 0 else undef | 93 => v = bif (true && (B90 == true)) then .bool B93 else undef | 94 => v = .bool B94 | 95 => v = .bool B94 | 96 => v = bif (true && (B94 == true)) then .int .i64 2147483648 else undef | 97 => v = bif (true && (B94 == true)) then .bool B97 else undef | 98 => v = .bool B98 | 99 => v = .bool B98 | 100 => v = bif (true && (B98 == true)) then .agg #[.int .i64 X.kind, .int .i64 X.n, .string X.name, .slice X.at_.1 X.args.length X.at_.2] else undef | 101 => v = bif (true && (B98 == true)) then .agg #[.int .i64 Y.kind, .int .i64 Y.n, .string Y.name, .slice Y.at_.1 Y.args.length Y.at_.2] else undef | 102 => v = bif (true && (B98 == true)) then .bool true else undef | 103 => v = .bool B103 | 104 => v = .bool B103 | 105 => v = bif (true && (B103 == true)) then .agg #[.int .i64 Y.kind, .int .i64 Y.n, .string Y.name, .slice Y.at_.1 Y.args.length Y.at_.2] else undef | 106 => v = bif (true && (B103 == true)) then .agg #[.int .i64 X.kind, .int .i64 X.n, .string X.name, .slice X.at_.1 X.args.length X.at_.2] else undef | 107 => v = bif (true && (B103 == true)) then .bool false else undef | 108 => v = bif (true && (B103 == true)) then .bool B108 else undef | 109 => v = .bool B109 | 110 => v = .bool B109 | 111 => v = bif (true && (B109 == true)) then .agg #[.int .i64 X.kind, .int .i64 X.n, .string X.name, .slice X.at_.1 X.args.length X.at_.2] else undef | 112 => v = bif (true && (B109 == true)) then .agg #[.int .i64 Z.kind, .int .i64 Z.n, .string Z.name, .slice Z.at_.1 Z.args.length Z.at_.2] else undef | 113 => v = bif (true && (B109 == true)) then .bool true else undef | 114 => v = .bool B114 | 115 => v = .bool B114 | 116 => v = bif (true && (B114 == true)) then .agg #[.int .i64 Z.kind, .int .i64 Z.n, .string Z.name, .slice Z.at_.1 Z.args.length Z.at_.2] else undef | 117 => v = bif (true && (B114 == true)) then .agg #[.int .i64 X.kind, .int .i64 X.n, .string X.name, .slice X.at_.1 X.args.length X.at_.2] else undef | 118 => v = bif (true && (B114 == true)) then .bool false else undef | 119 => v = bif (true && (B114 == true)) then .bool B119 else undef | 120 => v = .bool B120 | 121 => v = .bool B120 | 122 => v = bif (true && (B120 == true)) then .agg #[.int .i64 Z.kind, .int .i64 Z.n, .string Z.name, .slice Z.at_.1 Z.args.length Z.at_.2] else undef | 123 => v = bif (true && (B120 == true)) then .agg #[.int .i64 Y.kind, .int .i64 Y.n, .string Y.name, .slice Y.at_.1 Y.args.length Y.at_.2] else undef | 124 => v = bif (true && (B120 == true)) then .bool false else undef | 125 => v = bif (true && (B120 == true)) then .bool B125 else undef | 126 => v = .bool B126 | 127 => v = .bool B126 | 128 => v = bif (true && (B126 == true)) then .agg #[.int .i64 Z.kind, .int .i64 Z.n, .string Z.name, .slice Z.at_.1 Z.args.length Z.at_.2] else undef | 129 => v = bif (true && (B126 == true)) then .agg #[.int .i64 0, .int .i64 9, .string ByteArray.empty, .slice none 0 0] else undef | 130 => v = bif (true && (B126 == true)) then .agg #[.int .i64 0, .int .i64 9, .string ByteArray.empty, .slice none 0 0] else undef | 133 => v = bif (true && (B126 == true)) then .bool true else undef | 134 => v = .bool B134 | 135 => v = .bool B134 | 136 => v = bif (true && (B134 == true)) then .agg #[.int .i64 X.kind, .int .i64 X.n, .string X.name, .slice X.at_.1 X.args.length X.at_.2] else undef | 137 => v = bif (true && (B134 == true)) then .agg #[.int .i64 Z.kind, .int .i64 Z.n, .string Z.name, .slice Z.at_.1 Z.args.length Z.at_.2] else undef | 138 => v = bif (true && (B134 == true)) then .bool false else undef | 139 => v = bif (true && (B134 == true)) then .bool B139 else undef | 140 => v = .bool B140 | 141 => v = .bool B140 | 142 => v = bif (true && (B140 == true)) then .agg #[.int .i64 X.kind, .int .i64 X.n, .string X.name, .slice X.at_.1 X.args.length X.at_.2] else undef | 143 => v = bif (true && (B140 == true)) then .agg #[.int .i64 0, .int .i64 1, .string ByteArray.empty, .slice none 0 0] else undef | 144 => v = bif (true && (B140 == true)) then .agg #[.int .i64 0, .int .i64 0, .string ByteArray.empty, .slice none 0 0] else undef | 147 => v = bif (true && (B140 == true)) then .bool true else undef | 148 => v = .bool B148 | 149 => v = .bool B148 | 150 => v = bif (true && (B148 == true)) then .agg #[.int .i64 Y.kind, .int .i64 Y.n, .string Y.name, .slice Y.at_.1 Y.args.length Y.at_.2] else undef | 151 => v = bif (true && (B148 == true)) then .bool false else undef | 152 => v = bif (true && (B148 == true)) then .bool B152 else undef | 153 => v = .bool B153 | 154 => v = .bool B153 | 155 => v = bif (true && (B153 == true)) then .agg #[.int .i64 8, .int .i64 0, .string ⟨#[]⟩, .slice none 0 0] else undef | 156 => v = bif (true && (B153 == true)) then .bool false else undef | 157 => v = bif (true && (B153 == true)) then .bool B157 else undef | 158 => v = .bool B158 | 159 => v = .bool B158 | 160 => v = bif (true && (B158 == true)) then .agg #[.int .i64 8, .int .i64 0, .string ⟨#[]⟩, .slice none 0 0] else undef | 161 => v = bif (true && (B158 == true)) then .agg #[.int .i64 8, .int .i64 0, .string ⟨#[]⟩, .slice none 0 0] else undef | 162 => v = bif (true && (B158 == true)) then .bool false else undef | 163 => v = bif (true && (B158 == true)) then .bool B163 else undef | 164 => v = .bool B164 | 0 => v = .bool B164 | _ => True : Prop)) (KaS wz) (by kernel_rfl) rfl (by kernel_rfl) (by kernel_rfl) (by kernel_rfl) (by kernel_rfl) (fun _ h => h) (fun hs w w' h ht => KaS.turned0 hs w w' h ht) ?hs ?hQ
  case hs =>
    refine ⟨?s0, ?s1, ?s2, ?s3, ?s4, ?s5, ?s6, ?s7, ?s8, ?s9, ?s10, ?s11, ?s12, ?s13, ?s14, ?s15, ?s16, ?s17, ?s18, ?s19, ?s20, ?s21, ?s22, ?s23, ?s24, ?s25, ?s26, ?s27, ?s28, ?s29, ?s30, ?s31, ?s32, ?s33, ?s34, ?s35, ?s36, ?s37, ?s38, ?s39, ?s40, ?s41, ?s42, ?s43, ?s44, ?s45, ?s46, ?s47, ?s48, ?s49, ?s50, ?s51, ?s52, ?s53, ?s54, ?s55, ?s56, ?s57, ?s58, ?s59, ?s60, ?s61, ?s62, ?s63, ?s64, ?s65, ?s66, ?s67, ?s68, ?s69, ?s70, ?s71, ?s72, ?s73, ?s74, ?s75, ?s76, ?s77, ?s78, ?s79, ?s80, ?s81, ?s82, ?s83, ?s84, ?s85, ?s86, ?s87, ?s88, ?s89, ?s90, ?s91, ?s92, ?s93, ?s94, ?s95, ?s96, ?s97, ?s98, ?s99, ?s100, trivial⟩
    case s0 => as_aux_lemma =>
      refine fun hs hle => stepG_free [] [4] (by kernel_rfl) rfl ?_
      · intro ac W hT hI hO
        have hle : hs.length ≤ 0 := hle
        have h4 : ac.tmps.getD 4 undef = .int .i64 0 := hO 4 (by simp)
        show Brings Try.prog (fun v w' => Turned (fun _ => False) W w' ∧ v = .int .i64 0) _
        simp only [execOp, Act.eval, h4]
        go_simp
        try exact ⟨Turned.refl _ _, rfl⟩
    case s1 => as_aux_lemma =>
      refine fun hs hle => stepG_free [65] [] (by kernel_rfl) rfl ?_
      · intro ac W hT hI hO
        have hle : hs.length ≤ 0 := hle
        have h65 : ac.tmps.getD 65 undef = .int .i64 0 := hI 65 (by simp)
        show Brings Try.prog (fun v w' => Turned (fun _ => False) W w' ∧ v = .bool B66) _
        rw [HB66.out]
        simp only [execOp, Act.eval, h65]
        go_simp
        try exact ⟨Turned.refl _ _, rfl⟩
    case s2 => as_aux_lemma =>
      refine fun hs hle => stepG_free [66] [] (by kernel_rfl) rfl ?_
      · intro ac W hT hI hO
        have hle : hs.length ≤ 0 := hle
        have h66 : ac.tmps.getD 66 undef = .bool B66 := hI 66 (by simp)
        show Brings Try.prog (fun v w' => Turned (fun _ => False) W w' ∧ v = .bool B66) _
        simp only [execOp, Act.eval, h66]
        go_simp
        try exact ⟨Turned.refl _ _, rfl⟩
    case s3 => as_aux_lemma =>
      refine fun hs hle => stepG_guard [67] [3] (by kernel_rfl) 2 true 67 rfl rfl (by simp) true B66 (fun _ _ h => h) (fun hc => ?_) (fun hc _ _ => ?_)
      rotate_left
      · refine ⟨Turned.refl _ _, ?_⟩
        show undef = bif (true && (B66 == true)) then _ else undef
        rw [hc]; rfl
      · intro ac W hT hI hO
        have hle : hs.length ≤ 0 := hle
        have h67 : ac.tmps.getD 67 undef = .bool B66 := hI 67 (by simp)
        have h3 : ac.tmps.getD 3 undef = .int .i64 12 := hO 3 (by simp)
        show Brings Try.prog (fun v w' => Turned (fun _ => False) W w' ∧ v = bif (true && (B66 == true)) then .int .i64 12 else undef) _
        rw [hc, cond_true]
        simp only [execOp, Act.eval, h67, h3]
        go_simp
        try exact ⟨Turned.refl _ _, rfl⟩
    case s4 => as_aux_lemma =>
      refine fun hs hle => stepG_guard [68, 67] [] (by kernel_rfl) 2 true 67 rfl rfl (by simp) true B66 (fun _ _ h => h) (fun hc => ?_) (fun hc _ _ => ?_)
      rotate_left
      · refine ⟨Turned.refl _ _, ?_⟩
        show undef = bif (true && (B66 == true)) then _ else undef
        rw [hc]; rfl
      · intro ac W hT hI hO
        have hle : hs.length ≤ 0 := hle
        have h68 : ac.tmps.getD 68 undef = bif (true && (B66 == true)) then .int .i64 12 else undef := hI 68 (by simp)
        rw [hc, cond_true] at h68
        have h67 : ac.tmps.getD 67 undef = .bool B66 := hI 67 (by simp)
        show Brings Try.prog (fun v w' => Turned (fun _ => False) W w' ∧ v = bif (true && (B66 == true)) then .bool B69 else undef) _
        rw [hc, cond_true]
        rw [HB69.out]
        simp only [execOp, Act.eval, h68, h67]
        go_simp
        try exact ⟨Turned.refl _ _, rfl⟩
    case s5 => as_aux_lemma =>
      refine fun hs hle => stepG_free [67, 69] [] (by kernel_rfl) rfl ?_
      · intro ac W hT hI hO
        have hle : hs.length ≤ 0 := hle
        have h67 : ac.tmps.getD 67 undef = .bool B66 := hI 67 (by simp)
        have h69 : ac.tmps.getD 69 undef = bif (true && (B66 == true)) then .bool B69 else undef := hI 69 (by simp)
        show Brings Try.prog (fun v w' => Turned (fun _ => False) W w' ∧ v = .bool B70) _
        rw [HB70.out]
        cases hB : B66
        · simp only [hB] at *
          simp [execOp, Act.eval, go_sem, Brings, h67, h69]
          try exact Turned.refl _ _
        · simp only [hB] at *
          simp [execOp, Act.eval, go_sem, Brings, h67, h69]
          try exact Turned.refl _ _
    case s6 => as_aux_lemma =>
      refine fun hs hle => stepG_free [70] [] (by kernel_rfl) rfl ?_
      · intro ac W hT hI hO
        have hle : hs.length ≤ 0 := hle
        have h70 : ac.tmps.getD 70 undef = .bool B70 := hI 70 (by simp)
        show Brings Try.prog (fun v w' => Turned (fun _ => False) W w' ∧ v = .bool B70) _
        simp only [execOp, Act.eval, h70]
        go_simp
        try exact ⟨Turned.refl _ _, rfl⟩
    case s7 => as_aux_lemma =>
      refine fun hs hle => stepG_guard [71] [2] (by kernel_rfl) 6 true 71 rfl rfl (by simp) true B70 (fun _ _ h => h) (fun hc => ?_) (fun hc _ _ => ?_)
      rotate_left
      · refine ⟨Turned.refl _ _, ?_⟩
        show undef = bif (true && (B70 == true)) then _ else undef
        rw [hc]; rfl
      · intro ac W hT hI hO
        have hle : hs.length ≤ 2 := hle
        have h71 : ac.tmps.getD 71 undef = .bool B70 := hI 71 (by simp)
        have h2 : ac.tmps.getD 2 undef = .pointer (some ⟨B2, 0, none⟩) := hO 2 (by simp)
        show Brings Try.prog (fun v w' => Turned (fun _ => False) W w' ∧ v = bif (true && (B70 == true)) then .agg #[.int .i64 U.kind, .int .i64 U.n, .string U.name, .slice U.at_.1 U.args.length U.at_.2] else undef) _
        rw [hc, cond_true]
        have SW := HKN.out.turned0 (KaS.turned hs W hT); obtain ⟨a0, a1, a2, a3⟩ := SW.c1; obtain ⟨b0, b1, b2, b3⟩ := SW.c2; obtain ⟨c0, c1, c2, c3⟩ := SW.c17; obtain ⟨d0, d1, d2, d3⟩ := SW.c18
        simp only [execOp, Act.eval, h71, h2]
        go_simp
        exact ⟨Turned.refl _ _, rfl⟩
    case s8 => as_aux_lemma =>
      refine fun hs hle => stepG_guard [71] [] (by kernel_rfl) 6 true 71 rfl rfl (by simp) true B70 (fun _ _ h => h) (fun hc => ?_) (fun hc _ _ => ?_)
      rotate_left
      · refine ⟨Turned.refl _ _, ?_⟩
        show undef = bif (true && (B70 == true)) then _ else undef
        rw [hc]; rfl
      · intro ac W hT hI hO
        have hle : hs.length ≤ 0 := hle
        have h71 : ac.tmps.getD 71 undef = .bool B70 := hI 71 (by simp)
        show Brings Try.prog (fun v w' => Turned (fun _ => False) W w' ∧ v = bif (true && (B70 == true)) then .agg #[.int .i64 0, .int .i64 10, .string ByteArray.empty, .slice none 0 0] else undef) _
        rw [hc, cond_true]
        simp only [execOp, Act.eval, h71]
        go_simp
        show Calls Try.prog 62 _ W _
        refine (varV 10 (i64_lit _ (by omega)) W).mono ?_
        rintro e w' ⟨rfl, _, T'⟩
        exact ⟨_, rfl, T', rfl⟩
    case s9 => as_aux_lemma =>
      refine fun hs hle => stepG_guard [71] [] (by kernel_rfl) 6 true 71 rfl rfl (by simp) true B70 (fun _ _ h => h) (fun hc => ?_) (fun hc _ _ => ?_)
      rotate_left
      · refine ⟨Turned.refl _ _, ?_⟩
        show undef = bif (true && (B70 == true)) then _ else undef
        rw [hc]; rfl
      · intro ac W hT hI hO
        have hle : hs.length ≤ 0 := hle
        have h71 : ac.tmps.getD 71 undef = .bool B70 := hI 71 (by simp)
        show Brings Try.prog (fun v w' => Turned (fun _ => False) W w' ∧ v = bif (true && (B70 == true)) then .agg #[.int .i64 0, .int .i64 11, .string ByteArray.empty, .slice none 0 0] else undef) _
        rw [hc, cond_true]
        simp only [execOp, Act.eval, h71]
        go_simp
        show Calls Try.prog 62 _ W _
        refine (varV 11 (i64_lit _ (by omega)) W).mono ?_
        rintro e w' ⟨rfl, _, T'⟩
        exact ⟨_, rfl, T', rfl⟩
    case s10 => as_aux_lemma =>
      refine fun hs hlen => stepG_guard [73, 74, 71] [] (by kernel_rfl) 6 true 71 rfl rfl (by simp) true B70 (fun _ _ h => h) (fun hc => ?_) (fun hc _ _ => ?_)
      rotate_left
      · exact absurd hc (by rw [hB70]; decide)
      · intro ac W hT hI hO
        have h73 : ac.tmps.getD 73 undef = bif (true && (B70 == true)) then .agg #[.int .i64 0, .int .i64 10, .string ByteArray.empty, .slice none 0 0] else undef := hI 73 (by simp)
        rw [hc, cond_true] at h73
        have h74 : ac.tmps.getD 74 undef = bif (true && (B70 == true)) then .agg #[.int .i64 0, .int .i64 11, .string ByteArray.empty, .slice none 0 0] else undef := hI 74 (by simp)
        rw [hc, cond_true] at h74
        have h71 : ac.tmps.getD 71 undef = .bool B70 := hI 71 (by simp)
        show Brings Try.prog (fun v w' => KaS wz (hs ++ [v]) w') _
        obtain rfl : hs = [] := List.eq_nil_of_length_eq_zero hlen
        have hT1 : Turned (fun _ => False) wz W := hT
        refine brings_build2 73 74 rfl h73 h74 ?_
        exact ⟨hT1.alloc _, W.heap.size, rfl, sl_made (w := W) (l := [leaf 0 10 ByteArray.empty, leaf 0 11 ByteArray.empty]) ⟨LVV.out _ _ (by omega), LVV.out _ _ (by omega), trivial⟩ 2 (by decide) rfl _ rfl⟩
    case s11 => as_aux_lemma =>
      refine fun hs hlen => stepG_guard [75, 71] [] (by kernel_rfl) 6 true 71 rfl rfl (by simp) true B70 (fun _ _ h => h) (fun hc => ?_) (fun hc _ _ => ?_)
      rotate_left
      · exact absurd hc (by rw [hB70]; decide)
      · intro ac W hT hI hO
        have h75 : hs[0]? = some (ac.tmps.getD 75 undef) := hI 75 (by simp)
        have h71 : ac.tmps.getD 71 undef = .bool B70 := hI 71 (by simp)
        show Brings Try.prog (fun v w' => KaS wz (hs ++ [v]) w') _
        obtain ⟨v0, rfl⟩ := List.length_eq_one_iff.1 hlen
        obtain ⟨hT1, g, rfl, hsl⟩ := hT
        replace h75 : ac.tmps.getD 75 undef = .slice (some ⟨g, 0, none⟩) 2 2 := by simpa using h75.symm
        simp only [execOp, Act.eval, h75]
        go_simp
        show Calls Try.prog 37 _ W _
        refine (compV ⟨#[102]⟩ (by unfold maxLen; decide) 2 (by decide) rfl hsl).mono ?_
        rintro e w' ⟨a', c', rfl, hi, T'⟩
        exact ⟨_, rfl, hT1.trans T', .mk 2 0 ⟨#[102]⟩ (a', c') [leaf 0 10 ByteArray.empty, leaf 0 11 ByteArray.empty], rfl, rfl, hi⟩
    case s12 => as_aux_lemma =>
      refine fun hs hle => stepG_guard [72, 76, 71] [] (by kernel_rfl) 6 true 71 rfl rfl (by simp) true B70 (fun _ _ h => h) (fun hc => ?_) (fun hc _ _ => ?_)
      rotate_left
      · refine ⟨Turned.refl _ _, ?_⟩
        show undef = bif (true && (B70 == true)) then _ else undef
        rw [hc]; rfl
      · intro ac W hT hI hO
        have hle : hs.length ≤ 2 := hle
        have h72 : ac.tmps.getD 72 undef = bif (true && (B70 == true)) then .agg #[.int .i64 U.kind, .int .i64 U.n, .string U.name, .slice U.at_.1 U.args.length U.at_.2] else undef := hI 72 (by simp)
        rw [hc, cond_true] at h72
        have h76 : hs[1]? = some (ac.tmps.getD 76 undef) := hI 76 (by simp)
        have h71 : ac.tmps.getD 71 undef = .bool B70 := hI 71 (by simp)
        show Brings Try.prog (fun v w' => Turned (fun _ => False) W w' ∧ v = bif (true && (B70 == true)) then .bool true else undef) _
        rw [hc, cond_true]
        obtain ⟨u, eu, hub, hui⟩ := KaS.at1 hT hle h76
        rw [LT.val_eq] at eu
        have SW := HKN.out.turned0 (KaS.turned hs W hT)
        have gu : goodB u = true := fT_leafs hub (by omega) (by omega)
        have hsv := sameVal' (r := true) SW.i2 hui (good_slim HGU.out) (good_slim gu) (sameB_of (HUb.out.trans hub.symm) HGU.out)
        simp only [execOp, Act.eval, eu, h72]
        go_simp
        show Calls Try.prog 52 _ W _
        (with_reducible refine hsv.mono ?_)
        rintro e w' ⟨rfl, T'⟩
        exact ⟨_, rfl, T', rfl⟩
    case s13 => as_aux_lemma =>
      refine fun hs hle => stepG_free [71, 77] [] (by kernel_rfl) rfl ?_
      · intro ac W hT hI hO
        have hle : hs.length ≤ 2 := hle
        have h71 : ac.tmps.getD 71 undef = .bool B70 := hI 71 (by simp)
        have h77 : ac.tmps.getD 77 undef = bif (true && (B70 == true)) then .bool true else undef := hI 77 (by simp)
        show Brings Try.prog (fun v w' => Turned (fun _ => False) W w' ∧ v = .bool B78) _
        rw [HB78.out]
        cases hB : B70
        · simp only [hB] at *
          simp [execOp, Act.eval, go_sem, Brings, h71, h77]
          try exact Turned.refl _ _
        · simp only [hB] at *
          simp [execOp, Act.eval, go_sem, Brings, h71, h77]
          try exact Turned.refl _ _
    case s14 => as_aux_lemma =>
      refine fun hs hle => stepG_free [78] [] (by kernel_rfl) rfl ?_
      · intro ac W hT hI hO
        have hle : hs.length ≤ 2 := hle
        have h78 : ac.tmps.getD 78 undef = .bool B78 := hI 78 (by simp)
        show Brings Try.prog (fun v w' => Turned (fun _ => False) W w' ∧ v = .bool B78) _
        simp only [execOp, Act.eval, h78]
        go_simp
        try exact ⟨Turned.refl _ _, rfl⟩
    case s15 => as_aux_lemma =>
      refine fun hs hle => stepG_guard [79] [7] (by kernel_rfl) 14 true 79 rfl rfl (by simp) true B78 (fun _ _ h => h) (fun hc => ?_) (fun hc _ _ => ?_)
      rotate_left
      · refine ⟨Turned.refl _ _, ?_⟩
        show undef = bif (true && (B78 == true)) then _ else undef
        rw [hc]; rfl
      · intro ac W hT hI hO
        have hle : hs.length ≤ 2 := hle
        have h79 : ac.tmps.getD 79 undef = .bool B78 := hI 79 (by simp)
        have h7 : ac.tmps.getD 7 undef = .int .i64 3 := hO 7 (by simp)
        show Brings Try.prog (fun v w' => Turned (fun _ => False) W w' ∧ v = bif (true && (B78 == true)) then .int .i64 3 else undef) _
        rw [hc, cond_true]
        simp only [execOp, Act.eval, h79, h7]
        go_simp
        try exact ⟨Turned.refl _ _, rfl⟩
    case s16 => as_aux_lemma =>
      refine fun hs hle => stepG_guard [80, 79] [] (by kernel_rfl) 14 true 79 rfl rfl (by simp) true B78 (fun _ _ h => h) (fun hc => ?_) (fun hc _ _ => ?_)
      rotate_left
      · refine ⟨Turned.refl _ _, ?_⟩
        show undef = bif (true && (B78 == true)) then _ else undef
        rw [hc]; rfl
      · intro ac W hT hI hO
        have hle : hs.length ≤ 2 := hle
        have h80 : ac.tmps.getD 80 undef = bif (true && (B78 == true)) then .int .i64 3 else undef := hI 80 (by simp)
        rw [hc, cond_true] at h80
        have h79 : ac.tmps.getD 79 undef = .bool B78 := hI 79 (by simp)
        show Brings Try.prog (fun v w' => Turned (fun _ => False) W w' ∧ v = bif (true && (B78 == true)) then .bool B81 else undef) _
        rw [hc, cond_true]
        rw [HB81.out]
        simp only [execOp, Act.eval, h80, h79]
        go_simp
        try exact ⟨Turned.refl _ _, rfl⟩
    case s17 => as_aux_lemma =>
      refine fun hs hle => stepG_free [79, 81] [] (by kernel_rfl) rfl ?_
      · intro ac W hT hI hO
        have hle : hs.length ≤ 2 := hle
        have h79 : ac.tmps.getD 79 undef = .bool B78 := hI 79 (by simp)
        have h81 : ac.tmps.getD 81 undef = bif (true && (B78 == true)) then .bool B81 else undef := hI 81 (by simp)
        show Brings Try.prog (fun v w' => Turned (fun _ => False) W w' ∧ v = .bool B82) _
        rw [HB82.out]
        cases hB : B78
        · simp only [hB] at *
          simp [execOp, Act.eval, go_sem, Brings, h79, h81]
          try exact Turned.refl _ _
        · simp only [hB] at *
          simp [execOp, Act.eval, go_sem, Brings, h79, h81]
          try exact Turned.refl _ _
    case s18 => as_aux_lemma =>
      refine fun hs hle => stepG_free [82] [] (by kernel_rfl) rfl ?_
      · intro ac W hT hI hO
        have hle : hs.length ≤ 2 := hle
        have h82 : ac.tmps.getD 82 undef = .bool B82 := hI 82 (by simp)
        show Brings Try.prog (fun v w' => Turned (fun _ => False) W w' ∧ v = .bool B82) _
        simp only [execOp, Act.eval, h82]
        go_simp
        try exact ⟨Turned.refl _ _, rfl⟩
    case s19 => as_aux_lemma =>
      refine fun hs hle => stepG_guard [83] [10] (by kernel_rfl) 18 true 83 rfl rfl (by simp) true B82 (fun _ _ h => h) (fun hc => ?_) (fun hc _ _ => ?_)
      rotate_left
      · refine ⟨Turned.refl _ _, ?_⟩
        show undef = bif (true && (B82 == true)) then _ else undef
        rw [hc]; rfl
      · intro ac W hT hI hO
        have hle : hs.length ≤ 2 := hle
        have h83 : ac.tmps.getD 83 undef = .bool B82 := hI 83 (by simp)
        have h10 : ac.tmps.getD 10 undef = .int .i64 1 := hO 10 (by simp)
        show Brings Try.prog (fun v w' => Turned (fun _ => False) W w' ∧ v = bif (true && (B82 == true)) then .int .i64 1 else undef) _
        rw [hc, cond_true]
        simp only [execOp, Act.eval, h83, h10]
        go_simp
        try exact ⟨Turned.refl _ _, rfl⟩
    case s20 => as_aux_lemma =>
      refine fun hs hle => stepG_guard [84, 83] [] (by kernel_rfl) 18 true 83 rfl rfl (by simp) true B82 (fun _ _ h => h) (fun hc => ?_) (fun hc _ _ => ?_)
      rotate_left
      · refine ⟨Turned.refl _ _, ?_⟩
        show undef = bif (true && (B82 == true)) then _ else undef
        rw [hc]; rfl
      · intro ac W hT hI hO
        have hle : hs.length ≤ 2 := hle
        have h84 : ac.tmps.getD 84 undef = bif (true && (B82 == true)) then .int .i64 1 else undef := hI 84 (by simp)
        rw [hc, cond_true] at h84
        have h83 : ac.tmps.getD 83 undef = .bool B82 := hI 83 (by simp)
        show Brings Try.prog (fun v w' => Turned (fun _ => False) W w' ∧ v = bif (true && (B82 == true)) then .bool B85 else undef) _
        rw [hc, cond_true]
        rw [HB85.out]
        simp only [execOp, Act.eval, h84, h83]
        go_simp
        try exact ⟨Turned.refl _ _, rfl⟩
    case s21 => as_aux_lemma =>
      refine fun hs hle => stepG_free [83, 85] [] (by kernel_rfl) rfl ?_
      · intro ac W hT hI hO
        have hle : hs.length ≤ 2 := hle
        have h83 : ac.tmps.getD 83 undef = .bool B82 := hI 83 (by simp)
        have h85 : ac.tmps.getD 85 undef = bif (true && (B82 == true)) then .bool B85 else undef := hI 85 (by simp)
        show Brings Try.prog (fun v w' => Turned (fun _ => False) W w' ∧ v = .bool B86) _
        rw [HB86.out]
        cases hB : B82
        · simp only [hB] at *
          simp [execOp, Act.eval, go_sem, Brings, h83, h85]
          try exact Turned.refl _ _
        · simp only [hB] at *
          simp [execOp, Act.eval, go_sem, Brings, h83, h85]
          try exact Turned.refl _ _
    case s22 => as_aux_lemma =>
      refine fun hs hle => stepG_free [86] [] (by kernel_rfl) rfl ?_
      · intro ac W hT hI hO
        have hle : hs.length ≤ 2 := hle
        have h86 : ac.tmps.getD 86 undef = .bool B86 := hI 86 (by simp)
        show Brings Try.prog (fun v w' => Turned (fun _ => False) W w' ∧ v = .bool B86) _
        simp only [execOp, Act.eval, h86]
        go_simp
        try exact ⟨Turned.refl _ _, rfl⟩
    case s23 => as_aux_lemma =>
      refine fun hs hle => stepG_guard [87] [13] (by kernel_rfl) 22 true 87 rfl rfl (by simp) true B86 (fun _ _ h => h) (fun hc => ?_) (fun hc _ _ => ?_)
      rotate_left
      · refine ⟨Turned.refl _ _, ?_⟩
        show undef = bif (true && (B86 == true)) then _ else undef
        rw [hc]; rfl
      · intro ac W hT hI hO
        have hle : hs.length ≤ 2 := hle
        have h87 : ac.tmps.getD 87 undef = .bool B86 := hI 87 (by simp)
        have h13 : ac.tmps.getD 13 undef = .int .i64 1 := hO 13 (by simp)
        show Brings Try.prog (fun v w' => Turned (fun _ => False) W w' ∧ v = bif (true && (B86 == true)) then .int .i64 1 else undef) _
        rw [hc, cond_true]
        simp only [execOp, Act.eval, h87, h13]
        go_simp
        try exact ⟨Turned.refl _ _, rfl⟩
    case s24 => as_aux_lemma =>
      refine fun hs hle => stepG_guard [88, 87] [] (by kernel_rfl) 22 true 87 rfl rfl (by simp) true B86 (fun _ _ h => h) (fun hc => ?_) (fun hc _ _ => ?_)
      rotate_left
      · refine ⟨Turned.refl _ _, ?_⟩
        show undef = bif (true && (B86 == true)) then _ else undef
        rw [hc]; rfl
      · intro ac W hT hI hO
        have hle : hs.length ≤ 2 := hle
        have h88 : ac.tmps.getD 88 undef = bif (true && (B86 == true)) then .int .i64 1 else undef := hI 88 (by simp)
        rw [hc, cond_true] at h88
        have h87 : ac.tmps.getD 87 undef = .bool B86 := hI 87 (by simp)
        show Brings Try.prog (fun v w' => Turned (fun _ => False) W w' ∧ v = bif (true && (B86 == true)) then .bool B89 else undef) _
        rw [hc, cond_true]
        rw [HB89.out]
        simp only [execOp, Act.eval, h88, h87]
        go_simp
        try exact ⟨Turned.refl _ _, rfl⟩
    case s25 => as_aux_lemma =>
      refine fun hs hle => stepG_free [87, 89] [] (by kernel_rfl) rfl ?_
      · intro ac W hT hI hO
        have hle : hs.length ≤ 2 := hle
        have h87 : ac.tmps.getD 87 undef = .bool B86 := hI 87 (by simp)
        have h89 : ac.tmps.getD 89 undef = bif (true && (B86 == true)) then .bool B89 else undef := hI 89 (by simp)
        show Brings Try.prog (fun v w' => Turned (fun _ => False) W w' ∧ v = .bool B90) _
        rw [HB90.out]
        cases hB : B86
        · simp only [hB] at *
          simp [execOp, Act.eval, go_sem, Brings, h87, h89]
          try exact Turned.refl _ _
        · simp only [hB] at *
          simp [execOp, Act.eval, go_sem, Brings, h87, h89]
          try exact Turned.refl _ _
    case s26 => as_aux_lemma =>
      refine fun hs hle => stepG_free [90] [] (by kernel_rfl) rfl ?_
      · intro ac W hT hI hO
        have hle : hs.length ≤ 2 := hle
        have h90 : ac.tmps.getD 90 undef = .bool B90 := hI 90 (by simp)
        show Brings Try.prog (fun v w' => Turned (fun _ => False) W w' ∧ v = .bool B90) _
        simp only [execOp, Act.eval, h90]
        go_simp
        try exact ⟨Turned.refl _ _, rfl⟩
    case s27 => as_aux_lemma =>
      refine fun hs hle => stepG_guard [91] [16] (by kernel_rfl) 26 true 91 rfl rfl (by simp) true B90 (fun _ _ h => h) (fun hc => ?_) (fun hc _ _ => ?_)
      rotate_left
      · refine ⟨Turned.refl _ _, ?_⟩
        show undef = bif (true && (B90 == true)) then _ else undef
        rw [hc]; rfl
      · intro ac W hT hI hO
        have hle : hs.length ≤ 2 := hle
        have h91 : ac.tmps.getD 91 undef = .bool B90 := hI 91 (by simp)
        have h16 : ac.tmps.getD 16 undef = .int .i64 0 := hO 16 (by simp)
        show Brings Try.prog (fun v w' => Turned (fun _ => False) W w' ∧ v = bif (true && (B90 == true)) then .int .i64 0 else undef) _
        rw [hc, cond_true]
        simp only [execOp, Act.eval, h91, h16]
        go_simp
        try exact ⟨Turned.refl _ _, rfl⟩
    case s28 => as_aux_lemma =>
      refine fun hs hle => stepG_guard [92, 91] [] (by kernel_rfl) 26 true 91 rfl rfl (by simp) true B90 (fun _ _ h => h) (fun hc => ?_) (fun hc _ _ => ?_)
      rotate_left
      · refine ⟨Turned.refl _ _, ?_⟩
        show undef = bif (true && (B90 == true)) then _ else undef
        rw [hc]; rfl
      · intro ac W hT hI hO
        have hle : hs.length ≤ 2 := hle
        have h92 : ac.tmps.getD 92 undef = bif (true && (B90 == true)) then .int .i64 0 else undef := hI 92 (by simp)
        rw [hc, cond_true] at h92
        have h91 : ac.tmps.getD 91 undef = .bool B90 := hI 91 (by simp)
        show Brings Try.prog (fun v w' => Turned (fun _ => False) W w' ∧ v = bif (true && (B90 == true)) then .bool B93 else undef) _
        rw [hc, cond_true]
        rw [HB93.out]
        simp only [execOp, Act.eval, h92, h91]
        go_simp
        try exact ⟨Turned.refl _ _, rfl⟩
    case s29 => as_aux_lemma =>
      refine fun hs hle => stepG_free [91, 93] [] (by kernel_rfl) rfl ?_
      · intro ac W hT hI hO
        have hle : hs.length ≤ 2 := hle
        have h91 : ac.tmps.getD 91 undef = .bool B90 := hI 91 (by simp)
        have h93 : ac.tmps.getD 93 undef = bif (true && (B90 == true)) then .bool B93 else undef := hI 93 (by simp)
        show Brings Try.prog (fun v w' => Turned (fun _ => False) W w' ∧ v = .bool B94) _
        rw [HB94.out]
        cases hB : B90
        · simp only [hB] at *
          simp [execOp, Act.eval, go_sem, Brings, h91, h93]
          try exact Turned.refl _ _
        · simp only [hB] at *
          simp [execOp, Act.eval, go_sem, Brings, h91, h93]
          try exact Turned.refl _ _
    case s30 => as_aux_lemma =>
      refine fun hs hle => stepG_free [94] [] (by kernel_rfl) rfl ?_
      · intro ac W hT hI hO
        have hle : hs.length ≤ 2 := hle
        have h94 : ac.tmps.getD 94 undef = .bool B94 := hI 94 (by simp)
        show Brings Try.prog (fun v w' => Turned (fun _ => False) W w' ∧ v = .bool B94) _
        simp only [execOp, Act.eval, h94]
        go_simp
        try exact ⟨Turned.refl _ _, rfl⟩
    case s31 => as_aux_lemma =>
      refine fun hs hle => stepG_guard [95] [15] (by kernel_rfl) 30 true 95 rfl rfl (by simp) true B94 (fun _ _ h => h) (fun hc => ?_) (fun hc _ _ => ?_)
      rotate_left
      · refine ⟨Turned.refl _ _, ?_⟩
        show undef = bif (true && (B94 == true)) then _ else undef
        rw [hc]; rfl
      · intro ac W hT hI hO
        have hle : hs.length ≤ 2 := hle
        have h95 : ac.tmps.getD 95 undef = .bool B94 := hI 95 (by simp)
        have h15 : ac.tmps.getD 15 undef = .int .i64 2147483648 := hO 15 (by simp)
        show Brings Try.prog (fun v w' => Turned (fun _ => False) W w' ∧ v = bif (true && (B94 == true)) then .int .i64 2147483648 else undef) _
        rw [hc, cond_true]
        simp only [execOp, Act.eval, h95, h15]
        go_simp
        try exact ⟨Turned.refl _ _, rfl⟩
    case s32 => as_aux_lemma =>
      refine fun hs hle => stepG_guard [96, 95] [] (by kernel_rfl) 30 true 95 rfl rfl (by simp) true B94 (fun _ _ h => h) (fun hc => ?_) (fun hc _ _ => ?_)
      rotate_left
      · refine ⟨Turned.refl _ _, ?_⟩
        show undef = bif (true && (B94 == true)) then _ else undef
        rw [hc]; rfl
      · intro ac W hT hI hO
        have hle : hs.length ≤ 2 := hle
        have h96 : ac.tmps.getD 96 undef = bif (true && (B94 == true)) then .int .i64 2147483648 else undef := hI 96 (by simp)
        rw [hc, cond_true] at h96
        have h95 : ac.tmps.getD 95 undef = .bool B94 := hI 95 (by simp)
        show Brings Try.prog (fun v w' => Turned (fun _ => False) W w' ∧ v = bif (true && (B94 == true)) then .bool B97 else undef) _
        rw [hc, cond_true]
        rw [HB97.out]
        simp only [execOp, Act.eval, h96, h95]
        go_simp
        try exact ⟨Turned.refl _ _, rfl⟩
    case s33 => as_aux_lemma =>
      refine fun hs hle => stepG_free [95, 97] [] (by kernel_rfl) rfl ?_
      · intro ac W hT hI hO
        have hle : hs.length ≤ 2 := hle
        have h95 : ac.tmps.getD 95 undef = .bool B94 := hI 95 (by simp)
        have h97 : ac.tmps.getD 97 undef = bif (true && (B94 == true)) then .bool B97 else undef := hI 97 (by simp)
        show Brings Try.prog (fun v w' => Turned (fun _ => False) W w' ∧ v = .bool B98) _
        rw [HB98.out]
        cases hB : B94
        · simp only [hB] at *
          simp [execOp, Act.eval, go_sem, Brings, h95, h97]
          try exact Turned.refl _ _
        · simp only [hB] at *
          simp [execOp, Act.eval, go_sem, Brings, h95, h97]
          try exact Turned.refl _ _
    case s34 => as_aux_lemma =>
      refine fun hs hle => stepG_free [98] [] (by kernel_rfl) rfl ?_
      · intro ac W hT hI hO
        have hle : hs.length ≤ 2 := hle
        have h98 : ac.tmps.getD 98 undef = .bool B98 := hI 98 (by simp)
        show Brings Try.prog (fun v w' => Turned (fun _ => False) W w' ∧ v = .bool B98) _
        simp only [execOp, Act.eval, h98]
        go_simp
        try exact ⟨Turned.refl _ _, rfl⟩
    case s35 => as_aux_lemma =>
      refine fun hs hle => stepG_guard [99] [1] (by kernel_rfl) 34 true 99 rfl rfl (by simp) true B98 (fun _ _ h => h) (fun hc => ?_) (fun hc _ _ => ?_)
      rotate_left
      · refine ⟨Turned.refl _ _, ?_⟩
        show undef = bif (true && (B98 == true)) then _ else undef
        rw [hc]; rfl
      · intro ac W hT hI hO
        have hle : hs.length ≤ 2 := hle
        have h99 : ac.tmps.getD 99 undef = .bool B98 := hI 99 (by simp)
        have h1 : ac.tmps.getD 1 undef = .pointer (some ⟨B1, 0, none⟩) := hO 1 (by simp)
        show Brings Try.prog (fun v w' => Turned (fun _ => False) W w' ∧ v = bif (true && (B98 == true)) then .agg #[.int .i64 X.kind, .int .i64 X.n, .string X.name, .slice X.at_.1 X.args.length X.at_.2] else undef) _
        rw [hc, cond_true]
        have SW := HKN.out.turned0 (KaS.turned hs W hT); obtain ⟨a0, a1, a2, a3⟩ := SW.c1; obtain ⟨b0, b1, b2, b3⟩ := SW.c2; obtain ⟨c0, c1, c2, c3⟩ := SW.c17; obtain ⟨d0, d1, d2, d3⟩ := SW.c18
        simp only [execOp, Act.eval, h99, h1]
        go_simp
        exact ⟨Turned.refl _ _, rfl⟩
    case s36 => as_aux_lemma =>
      refine fun hs hle => stepG_guard [99] [17] (by kernel_rfl) 34 true 99 rfl rfl (by simp) true B98 (fun _ _ h => h) (fun hc => ?_) (fun hc _ _ => ?_)
      rotate_left
      · refine ⟨Turned.refl _ _, ?_⟩
        show undef = bif (true && (B98 == true)) then _ else undef
        rw [hc]; rfl
      · intro ac W hT hI hO
        have hle : hs.length ≤ 2 := hle
        have h99 : ac.tmps.getD 99 undef = .bool B98 := hI 99 (by simp)
        have h17 : ac.tmps.getD 17 undef = .pointer (some ⟨B17, 0, none⟩) := hO 17 (by simp)
        show Brings Try.prog (fun v w' => Turned (fun _ => False) W w' ∧ v = bif (true && (B98 == true)) then .agg #[.int .i64 Y.kind, .int .i64 Y.n, .string Y.name, .slice Y.at_.1 Y.args.length Y.at_.2] else undef) _
        rw [hc, cond_true]
        have SW := HKN.out.turned0 (KaS.turned hs W hT); obtain ⟨a0, a1, a2, a3⟩ := SW.c1; obtain ⟨b0, b1, b2, b3⟩ := SW.c2; obtain ⟨c0, c1, c2, c3⟩ := SW.c17; obtain ⟨d0, d1, d2, d3⟩ := SW.c18
        simp only [execOp, Act.eval, h99, h17]
        go_simp
        exact ⟨Turned.refl _ _, rfl⟩
    case s37 => as_aux_lemma =>
      refine fun hs hle => stepG_guard [100, 101, 99] [] (by kernel_rfl) 34 true 99 rfl rfl (by simp) true B98 (fun _ _ h => h) (fun hc => ?_) (fun hc _ _ => ?_)
      rotate_left
      · refine ⟨Turned.refl _ _, ?_⟩
        show undef = bif (true && (B98 == true)) then _ else undef
        rw [hc]; rfl
      · intro ac W hT hI hO
        have hle : hs.length ≤ 2 := hle
        have h100 : ac.tmps.getD 100 undef = bif (true && (B98 == true)) then .agg #[.int .i64 X.kind, .int .i64 X.n, .string X.name, .slice X.at_.1 X.args.length X.at_.2] else undef := hI 100 (by simp)
        rw [hc, cond_true] at h100
        have h101 : ac.tmps.getD 101 undef = bif (true && (B98 == true)) then .agg #[.int .i64 Y.kind, .int .i64 Y.n, .string Y.name, .slice Y.at_.1 Y.args.length Y.at_.2] else undef := hI 101 (by simp)
        rw [hc, cond_true] at h101
        have h99 : ac.tmps.getD 99 undef = .bool B98 := hI 99 (by simp)
        show Brings Try.prog (fun v w' => Turned (fun _ => False) W w' ∧ v = bif (true && (B98 == true)) then .bool true else undef) _
        rw [hc, cond_true]
        simp only [execOp, Act.eval, h100, h101, h99]
        go_simp
        show Calls Try.prog 78 _ W _
        (with_reducible refine (HXY.out W (KaS.turned hs W hT)).mono ?_)
        rintro e w' ⟨rfl, T'⟩
        exact ⟨_, rfl, T', rfl⟩
    case s38 => as_aux_lemma =>
      refine fun hs hle => stepG_free [99, 102] [] (by kernel_rfl) rfl ?_
      · intro ac W hT hI hO
        have hle : hs.length ≤ 2 := hle
        have h99 : ac.tmps.getD 99 undef = .bool B98 := hI 99 (by simp)
        have h102 : ac.tmps.getD 102 undef = bif (true && (B98 == true)) then .bool true else undef := hI 102 (by simp)
        show Brings Try.prog (fun v w' => Turned (fun _ => False) W w' ∧ v = .bool B103) _
        rw [HB103.out]
        cases hB : B98
        · simp only [hB] at *
          simp [execOp, Act.eval, go_sem, Brings, h99, h102]
          try exact Turned.refl _ _
        · simp only [hB] at *
          simp [execOp, Act.eval, go_sem, Brings, h99, h102]
          try exact Turned.refl _ _
    case s39 => as_aux_lemma =>
      refine fun hs hle => stepG_free [103] [] (by kernel_rfl) rfl ?_
      · intro ac W hT hI hO
        have hle : hs.length ≤ 2 := hle
        have h103 : ac.tmps.getD 103 undef = .bool B103 := hI 103 (by simp)
        show Brings Try.prog (fun v w' => Turned (fun _ => False) W w' ∧ v = .bool B103) _
        simp only [execOp, Act.eval, h103]
        go_simp
        try exact ⟨Turned.refl _ _, rfl⟩
    case s40 => as_aux_lemma =>
      refine fun hs hle => stepG_guard [104] [17] (by kernel_rfl) 39 true 104 rfl rfl (by simp) true B103 (fun _ _ h => h) (fun hc => ?_) (fun hc _ _ => ?_)
      rotate_left
      · refine ⟨Turned.refl _ _, ?_⟩
        show undef = bif (true && (B103 == true)) then _ else undef
        rw [hc]; rfl
      · intro ac W hT hI hO
        have hle : hs.length ≤ 2 := hle
        have h104 : ac.tmps.getD 104 undef = .bool B103 := hI 104 (by simp)
        have h17 : ac.tmps.getD 17 undef = .pointer (some ⟨B17, 0, none⟩) := hO 17 (by simp)
        show Brings Try.prog (fun v w' => Turned (fun _ => False) W w' ∧ v = bif (true && (B103 == true)) then .agg #[.int .i64 Y.kind, .int .i64 Y.n, .string Y.name, .slice Y.at_.1 Y.args.length Y.at_.2] else undef) _
        rw [hc, cond_true]
        have SW := HKN.out.turned0 (KaS.turned hs W hT); obtain ⟨a0, a1, a2, a3⟩ := SW.c1; obtain ⟨b0, b1, b2, b3⟩ := SW.c2; obtain ⟨c0, c1, c2, c3⟩ := SW.c17; obtain ⟨d0, d1, d2, d3⟩ := SW.c18
        simp only [execOp, Act.eval, h104, h17]
        go_simp
        exact ⟨Turned.refl _ _, rfl⟩
    case s41 => as_aux_lemma =>
      refine fun hs hle => stepG_guard [104] [1] (by kernel_rfl) 39 true 104 rfl rfl (by simp) true B103 (fun _ _ h => h) (fun hc => ?_) (fun hc _ _ => ?_)
      rotate_left
      · refine ⟨Turned.refl _ _, ?_⟩
        show undef = bif (true && (B103 == true)) then _ else undef
        rw [hc]; rfl
      · intro ac W hT hI hO
        have hle : hs.length ≤ 2 := hle
        have h104 : ac.tmps.getD 104 undef = .bool B103 := hI 104 (by simp)
        have h1 : ac.tmps.getD 1 undef = .pointer (some ⟨B1, 0, none⟩) := hO 1 (by simp)
        show Brings Try.prog (fun v w' => Turned (fun _ => False) W w' ∧ v = bif (true && (B103 == true)) then .agg #[.int .i64 X.kind, .int .i64 X.n, .string X.name, .slice X.at_.1 X.args.length X.at_.2] else undef) _
        rw [hc, cond_true]
        have SW := HKN.out.turned0 (KaS.turned hs W hT); obtain ⟨a0, a1, a2, a3⟩ := SW.c1; obtain ⟨b0, b1, b2, b3⟩ := SW.c2; obtain ⟨c0, c1, c2, c3⟩ := SW.c17; obtain ⟨d0, d1, d2, d3⟩ := SW.c18
        simp only [execOp, Act.eval, h104, h1]
        go_simp
        exact ⟨Turned.refl _ _, rfl⟩
    case s42 => as_aux_lemma =>
      refine fun hs hle => stepG_guard [105, 106, 104] [] (by kernel_rfl) 39 true 104 rfl rfl (by simp) true B103 (fun _ _ h => h) (fun hc => ?_) (fun hc _ _ => ?_)
      rotate_left
      · refine ⟨Turned.refl _ _, ?_⟩
        show undef = bif (true && (B103 == true)) then _ else undef
        rw [hc]; rfl
      · intro ac W hT hI hO
        have hle : hs.length ≤ 2 := hle
        have h105 : ac.tmps.getD 105 undef = bif (true && (B103 == true)) then .agg #[.int .i64 Y.kind, .int .i64 Y.n, .string Y.name, .slice Y.at_.1 Y.args.length Y.at_.2] else undef := hI 105 (by simp)
        rw [hc, cond_true] at h105
        have h106 : ac.tmps.getD 106 undef = bif (true && (B103 == true)) then .agg #[.int .i64 X.kind, .int .i64 X.n, .string X.name, .slice X.at_.1 X.args.length X.at_.2] else undef := hI 106 (by simp)
        rw [hc, cond_true] at h106
        have h104 : ac.tmps.getD 104 undef = .bool B103 := hI 104 (by simp)
        show Brings Try.prog (fun v w' => Turned (fun _ => False) W w' ∧ v = bif (true && (B103 == true)) then .bool false else undef) _
        rw [hc, cond_true]
        simp only [execOp, Act.eval, h105, h106, h104]
        go_simp
        show Calls Try.prog 78 _ W _
        (with_reducible refine (HYX.out W (KaS.turned hs W hT)).mono ?_)
        rintro e w' ⟨rfl, T'⟩
        exact ⟨_, rfl, T', rfl⟩
    case s43 => as_aux_lemma =>
      refine fun hs hle => stepG_guard [107, 104] [] (by kernel_rfl) 39 true 104 rfl rfl (by simp) true B103 (fun _ _ h => h) (fun hc => ?_) (fun hc _ _ => ?_)
      rotate_left
      · refine ⟨Turned.refl _ _, ?_⟩
        show undef = bif (true && (B103 == true)) then _ else undef
        rw [hc]; rfl
      · intro ac W hT hI hO
        have hle : hs.length ≤ 2 := hle
        have h107 : ac.tmps.getD 107 undef = bif (true && (B103 == true)) then .bool false else undef := hI 107 (by simp)
        rw [hc, cond_true] at h107
        have h104 : ac.tmps.getD 104 undef = .bool B103 := hI 104 (by simp)
        show Brings Try.prog (fun v w' => Turned (fun _ => False) W w' ∧ v = bif (true && (B103 == true)) then .bool B108 else undef) _
        rw [hc, cond_true]
        rw [HB108.out]
        simp only [execOp, Act.eval, h107, h104]
        go_simp
        try exact ⟨Turned.refl _ _, rfl⟩
    case s44 => as_aux_lemma =>
      refine fun hs hle => stepG_free [104, 108] [] (by kernel_rfl) rfl ?_
      · intro ac W hT hI hO
        have hle : hs.length ≤ 2 := hle
        have h104 : ac.tmps.getD 104 undef = .bool B103 := hI 104 (by simp)
        have h108 : ac.tmps.getD 108 undef = bif (true && (B103 == true)) then .bool B108 else undef := hI 108 (by simp)
        show Brings Try.prog (fun v w' => Turned (fun _ => False) W w' ∧ v = .bool B109) _
        rw [HB109.out]
        cases hB : B103
        · simp only [hB] at *
          simp [execOp, Act.eval, go_sem, Brings, h104, h108]
          try exact Turned.refl _ _
        · simp only [hB] at *
          simp [execOp, Act.eval, go_sem, Brings, h104, h108]
          try exact Turned.refl _ _
    case s45 => as_aux_lemma =>
      refine fun hs hle => stepG_free [109] [] (by kernel_rfl) rfl ?_
      · intro ac W hT hI hO
        have hle : hs.length ≤ 2 := hle
        have h109 : ac.tmps.getD 109 undef = .bool B109 := hI 109 (by simp)
        show Brings Try.prog (fun v w' => Turned (fun _ => False) W w' ∧ v = .bool B109) _
        simp only [execOp, Act.eval, h109]
        go_simp
        try exact ⟨Turned.refl _ _, rfl⟩
    case s46 => as_aux_lemma =>
      refine fun hs hle => stepG_guard [110] [1] (by kernel_rfl) 45 true 110 rfl rfl (by simp) true B109 (fun _ _ h => h) (fun hc => ?_) (fun hc _ _ => ?_)
      rotate_left
      · refine ⟨Turned.refl _ _, ?_⟩
        show undef = bif (true && (B109 == true)) then _ else undef
        rw [hc]; rfl
      · intro ac W hT hI hO
        have hle : hs.length ≤ 2 := hle
        have h110 : ac.tmps.getD 110 undef = .bool B109 := hI 110 (by simp)
        have h1 : ac.tmps.getD 1 undef = .pointer (some ⟨B1, 0, none⟩) := hO 1 (by simp)
        show Brings Try.prog (fun v w' => Turned (fun _ => False) W w' ∧ v = bif (true && (B109 == true)) then .agg #[.int .i64 X.kind, .int .i64 X.n, .string X.name, .slice X.at_.1 X.args.length X.at_.2] else undef) _
        rw [hc, cond_true]
        have SW := HKN.out.turned0 (KaS.turned hs W hT); obtain ⟨a0, a1, a2, a3⟩ := SW.c1; obtain ⟨b0, b1, b2, b3⟩ := SW.c2; obtain ⟨c0, c1, c2, c3⟩ := SW.c17; obtain ⟨d0, d1, d2, d3⟩ := SW.c18
        simp only [execOp, Act.eval, h110, h1]
        go_simp
        exact ⟨Turned.refl _ _, rfl⟩
    case s47 => as_aux_lemma =>
      refine fun hs hle => stepG_guard [110] [18] (by kernel_rfl) 45 true 110 rfl rfl (by simp) true B109 (fun _ _ h => h) (fun hc => ?_) (fun hc _ _ => ?_)
      rotate_left
      · refine ⟨Turned.refl _ _, ?_⟩
        show undef = bif (true && (B109 == true)) then _ else undef
        rw [hc]; rfl
      · intro ac W hT hI hO
        have hle : hs.length ≤ 2 := hle
        have h110 : ac.tmps.getD 110 undef = .bool B109 := hI 110 (by simp)
        have h18 : ac.tmps.getD 18 undef = .pointer (some ⟨B18, 0, none⟩) := hO 18 (by simp)
        show Brings Try.prog (fun v w' => Turned (fun _ => False) W w' ∧ v = bif (true && (B109 == true)) then .agg #[.int .i64 Z.kind, .int .i64 Z.n, .string Z.name, .slice Z.at_.1 Z.args.length Z.at_.2] else undef) _
        rw [hc, cond_true]
        have SW := HKN.out.turned0 (KaS.turned hs W hT); obtain ⟨a0, a1, a2, a3⟩ := SW.c1; obtain ⟨b0, b1, b2, b3⟩ := SW.c2; obtain ⟨c0, c1, c2, c3⟩ := SW.c17; obtain ⟨d0, d1, d2, d3⟩ := SW.c18
        simp only [execOp, Act.eval, h110, h18]
        go_simp
        exact ⟨Turned.refl _ _, rfl⟩
    case s48 => as_aux_lemma =>
      refine fun hs hle => stepG_guard [111, 112, 110] [] (by kernel_rfl) 45 true 110 rfl rfl (by simp) true B109 (fun _ _ h => h) (fun hc => ?_) (fun hc _ _ => ?_)
      rotate_left
      · refine ⟨Turned.refl _ _, ?_⟩
        show undef = bif (true && (B109 == true)) then _ else undef
        rw [hc]; rfl
      · intro ac W hT hI hO
        have hle : hs.length ≤ 2 := hle
        have h111 : ac.tmps.getD 111 undef = bif (true && (B109 == true)) then .agg #[.int .i64 X.kind, .int .i64 X.n, .string X.name, .slice X.at_.1 X.args.length X.at_.2] else undef := hI 111 (by simp)
        rw [hc, cond_true] at h111
        have h112 : ac.tmps.getD 112 undef = bif (true && (B109 == true)) then .agg #[.int .i64 Z.kind, .int .i64 Z.n, .string Z.name, .slice Z.at_.1 Z.args.length Z.at_.2] else undef := hI 112 (by simp)
        rw [hc, cond_true] at h112
        have h110 : ac.tmps.getD 110 undef = .bool B109 := hI 110 (by simp)
        show Brings Try.prog (fun v w' => Turned (fun _ => False) W w' ∧ v = bif (true && (B109 == true)) then .bool true else undef) _
        rw [hc, cond_true]
        simp only [execOp, Act.eval, h111, h112, h110]
        go_simp
        show Calls Try.prog 78 _ W _
        (with_reducible refine (HXZ.out W (KaS.turned hs W hT)).mono ?_)
        rintro e w' ⟨rfl, T'⟩
        exact ⟨_, rfl, T', rfl⟩
    case s49 => as_aux_lemma =>
      refine fun hs hle => stepG_free [110, 113] [] (by kernel_rfl) rfl ?_
      · intro ac W hT hI hO
        have hle : hs.length ≤ 2 := hle
        have h110 : ac.tmps.getD 110 undef = .bool B109 := hI 110 (by simp)
        have h113 : ac.tmps.getD 113 undef = bif (true && (B109 == true)) then .bool true else undef := hI 113 (by simp)
        show Brings Try.prog (fun v w' => Turned (fun _ => False) W w' ∧ v = .bool B114) _
        rw [HB114.out]
        cases hB : B109
        · simp only [hB] at *
          simp [execOp, Act.eval, go_sem, Brings, h110, h113]
          try exact Turned.refl _ _
        · simp only [hB] at *
          simp [execOp, Act.eval, go_sem, Brings, h110, h113]
          try exact Turned.refl _ _
    case s50 => as_aux_lemma =>
      refine fun hs hle => stepG_free [114] [] (by kernel_rfl) rfl ?_
      · intro ac W hT hI hO
        have hle : hs.length ≤ 2 := hle
        have h114 : ac.tmps.getD 114 undef = .bool B114 := hI 114 (by simp)
        show Brings Try.prog (fun v w' => Turned (fun _ => False) W w' ∧ v = .bool B114) _
        simp only [execOp, Act.eval, h114]
        go_simp
        try exact ⟨Turned.refl _ _, rfl⟩
    case s51 => as_aux_lemma =>
      refine fun hs hle => stepG_guard [115] [18] (by kernel_rfl) 50 true 115 rfl rfl (by simp) true B114 (fun _ _ h => h) (fun hc => ?_) (fun hc _ _ => ?_)
      rotate_left
      · refine ⟨Turned.refl _ _, ?_⟩
        show undef = bif (true && (B114 == true)) then _ else undef
        rw [hc]; rfl
      · intro ac W hT hI hO
        have hle : hs.length ≤ 2 := hle
        have h115 : ac.tmps.getD 115 undef = .bool B114 := hI 115 (by simp)
        have h18 : ac.tmps.getD 18 undef = .pointer (some ⟨B18, 0, none⟩) := hO 18 (by simp)
        show Brings Try.prog (fun v w' => Turned (fun _ => False) W w' ∧ v = bif (true && (B114 == true)) then .agg #[.int .i64 Z.kind, .int .i64 Z.n, .string Z.name, .slice Z.at_.1 Z.args.length Z.at_.2] else undef) _
        rw [hc, cond_true]
        have SW := HKN.out.turned0 (KaS.turned hs W hT); obtain ⟨a0, a1, a2, a3⟩ := SW.c1; obtain ⟨b0, b1, b2, b3⟩ := SW.c2; obtain ⟨c0, c1, c2, c3⟩ := SW.c17; obtain ⟨d0, d1, d2, d3⟩ := SW.c18
        simp only [execOp, Act.eval, h115, h18]
        go_simp
        exact ⟨Turned.refl _ _, rfl⟩
    case s52 => as_aux_lemma =>
      refine fun hs hle => stepG_guard [115] [1] (by kernel_rfl) 50 true 115 rfl rfl (by simp) true B114 (fun _ _ h => h) (fun hc => ?_) (fun hc _ _ => ?_)
      rotate_left
      · refine ⟨Turned.refl _ _, ?_⟩
        show undef = bif (true && (B114 == true)) then _ else undef
        rw [hc]; rfl
      · intro ac W hT hI hO
        have hle : hs.length ≤ 2 := hle
        have h115 : ac.tmps.getD 115 undef = .bool B114 := hI 115 (by simp)
        have h1 : ac.tmps.getD 1 undef = .pointer (some ⟨B1, 0, none⟩) := hO 1 (by simp)
        show Brings Try.prog (fun v w' => Turned (fun _ => False) W w' ∧ v = bif (true && (B114 == true)) then .agg #[.int .i64 X.kind, .int .i64 X.n, .string X.name, .slice X.at_.1 X.args.length X.at_.2] else undef) _
        rw [hc, cond_true]
        have SW := HKN.out.turned0 (KaS.turned hs W hT); obtain ⟨a0, a1, a2, a3⟩ := SW.c1; obtain ⟨b0, b1, b2, b3⟩ := SW.c2; obtain ⟨c0, c1, c2, c3⟩ := SW.c17; obtain ⟨d0, d1, d2, d3⟩ := SW.c18
        simp only [execOp, Act.eval, h115, h1]
        go_simp
        exact ⟨Turned.refl _ _, rfl⟩
    case s53 => as_aux_lemma =>
      refine fun hs hle => stepG_guard [116, 117, 115] [] (by kernel_rfl) 50 true 115 rfl rfl (by simp) true B114 (fun _ _ h => h) (fun hc => ?_) (fun hc _ _ => ?_)
      rotate_left
      · refine ⟨Turned.refl _ _, ?_⟩
        show undef = bif (true && (B114 == true)) then _ else undef
        rw [hc]; rfl
      · intro ac W hT hI hO
        have hle : hs.length ≤ 2 := hle
        have h116 : ac.tmps.getD 116 undef = bif (true && (B114 == true)) then .agg #[.int .i64 Z.kind, .int .i64 Z.n, .string Z.name, .slice Z.at_.1 Z.args.length Z.at_.2] else undef := hI 116 (by simp)
        rw [hc, cond_true] at h116
        have h117 : ac.tmps.getD 117 undef = bif (true && (B114 == true)) then .agg #[.int .i64 X.kind, .int .i64 X.n, .string X.name, .slice X.at_.1 X.args.length X.at_.2] else undef := hI 117 (by simp)
        rw [hc, cond_true] at h117
        have h115 : ac.tmps.getD 115 undef = .bool B114 := hI 115 (by simp)
        show Brings Try.prog (fun v w' => Turned (fun _ => False) W w' ∧ v = bif (true && (B114 == true)) then .bool false else undef) _
        rw [hc, cond_true]
        simp only [execOp, Act.eval, h116, h117, h115]
        go_simp
        show Calls Try.prog 78 _ W _
        (with_reducible refine (HZX.out W (KaS.turned hs W hT)).mono ?_)
        rintro e w' ⟨rfl, T'⟩
        exact ⟨_, rfl, T', rfl⟩
    case s54 => as_aux_lemma =>
      refine fun hs hle => stepG_guard [118, 115] [] (by kernel_rfl) 50 true 115 rfl rfl (by simp) true B114 (fun _ _ h => h) (fun hc => ?_) (fun hc _ _ => ?_)
      rotate_left
      · refine ⟨Turned.refl _ _, ?_⟩
        show undef = bif (true && (B114 == true)) then _ else undef
        rw [hc]; rfl
      · intro ac W hT hI hO
        have hle : hs.length ≤ 2 := hle
        have h118 : ac.tmps.getD 118 undef = bif (true && (B114 == true)) then .bool false else undef := hI 118 (by simp)
        rw [hc, cond_true] at h118
        have h115 : ac.tmps.getD 115 undef = .bool B114 := hI 115 (by simp)
        show Brings Try.prog (fun v w' => Turned (fun _ => False) W w' ∧ v = bif (true && (B114 == true)) then .bool B119 else undef) _
        rw [hc, cond_true]
        rw [HB119.out]
        simp only [execOp, Act.eval, h118, h115]
        go_simp
        try exact ⟨Turned.refl _ _, rfl⟩
    case s55 => as_aux_lemma =>
      refine fun hs hle => stepG_free [115, 119] [] (by kernel_rfl) rfl ?_
      · intro ac W hT hI hO
        have hle : hs.length ≤ 2 := hle
        have h115 : ac.tmps.getD 115 undef = .bool B114 := hI 115 (by simp)
        have h119 : ac.tmps.getD 119 undef = bif (true && (B114 == true)) then .bool B119 else undef := hI 119 (by simp)
        show Brings Try.prog (fun v w' => Turned (fun _ => False) W w' ∧ v = .bool B120) _
        rw [HB120.out]
        cases hB : B114
        · simp only [hB] at *
          simp [execOp, Act.eval, go_sem, Brings, h115, h119]
          try exact Turned.refl _ _
        · simp only [hB] at *
          simp [execOp, Act.eval, go_sem, Brings, h115, h119]
          try exact Turned.refl _ _
    case s56 => as_aux_lemma =>
      refine fun hs hle => stepG_free [120] [] (by kernel_rfl) rfl ?_
      · intro ac W hT hI hO
        have hle : hs.length ≤ 2 := hle
        have h120 : ac.tmps.getD 120 undef = .bool B120 := hI 120 (by simp)
        show Brings Try.prog (fun v w' => Turned (fun _ => False) W w' ∧ v = .bool B120) _
        simp only [execOp, Act.eval, h120]
        go_simp
        try exact ⟨Turned.refl _ _, rfl⟩
    case s57 => as_aux_lemma =>
      refine fun hs hle => stepG_guard [121] [18] (by kernel_rfl) 56 true 121 rfl rfl (by simp) true B120 (fun _ _ h => h) (fun hc => ?_) (fun hc _ _ => ?_)
      rotate_left
      · refine ⟨Turned.refl _ _, ?_⟩
        show undef = bif (true && (B120 == true)) then _ else undef
        rw [hc]; rfl
      · intro ac W hT hI hO
        have hle : hs.length ≤ 2 := hle
        have h121 : ac.tmps.getD 121 undef = .bool B120 := hI 121 (by simp)
        have h18 : ac.tmps.getD 18 undef = .pointer (some ⟨B18, 0, none⟩) := hO 18 (by simp)
        show Brings Try.prog (fun v w' => Turned (fun _ => False) W w' ∧ v = bif (true && (B120 == true)) then .agg #[.int .i64 Z.kind, .int .i64 Z.n, .string Z.name, .slice Z.at_.1 Z.args.length Z.at_.2] else undef) _
        rw [hc, cond_true]
        have SW := HKN.out.turned0 (KaS.turned hs W hT); obtain ⟨a0, a1, a2, a3⟩ := SW.c1; obtain ⟨b0, b1, b2, b3⟩ := SW.c2; obtain ⟨c0, c1, c2, c3⟩ := SW.c17; obtain ⟨d0, d1, d2, d3⟩ := SW.c18
        simp only [execOp, Act.eval, h121, h18]
        go_simp
        exact ⟨Turned.refl _ _, rfl⟩
    case s58 => as_aux_lemma =>
      refine fun hs hle => stepG_guard [121] [17] (by kernel_rfl) 56 true 121 rfl rfl (by simp) true B120 (fun _ _ h => h) (fun hc => ?_) (fun hc _ _ => ?_)
      rotate_left
      · refine ⟨Turned.refl _ _, ?_⟩
        show undef = bif (true && (B120 == true)) then _ else undef
        rw [hc]; rfl
      · intro ac W hT hI hO
        have hle : hs.length ≤ 2 := hle
        have h121 : ac.tmps.getD 121 undef = .bool B120 := hI 121 (by simp)
        have h17 : ac.tmps.getD 17 undef = .pointer (some ⟨B17, 0, none⟩) := hO 17 (by simp)
        show Brings Try.prog (fun v w' => Turned (fun _ => False) W w' ∧ v = bif (true && (B120 == true)) then .agg #[.int .i64 Y.kind, .int .i64 Y.n, .string Y.name, .slice Y.at_.1 Y.args.length Y.at_.2] else undef) _
        rw [hc, cond_true]
        have SW := HKN.out.turned0 (KaS.turned hs W hT); obtain ⟨a0, a1, a2, a3⟩ := SW.c1; obtain ⟨b0, b1, b2, b3⟩ := SW.c2; obtain ⟨c0, c1, c2, c3⟩ := SW.c17; obtain ⟨d0, d1, d2, d3⟩ := SW.c18
        simp only [execOp, Act.eval, h121, h17]
        go_simp
        exact ⟨Turned.refl _ _, rfl⟩
    case s59 => as_aux_lemma =>
      refine fun hs hle => stepG_guard [122, 123, 121] [] (by kernel_rfl) 56 true 121 rfl rfl (by simp) true B120 (fun _ _ h => h) (fun hc => ?_) (fun hc _ _ => ?_)
      rotate_left
      · refine ⟨Turned.refl _ _, ?_⟩
        show undef = bif (true && (B120 == true)) then _ else undef
        rw [hc]; rfl
      · intro ac W hT hI hO
        have hle : hs.length ≤ 2 := hle
        have h122 : ac.tmps.getD 122 undef = bif (true && (B120 == true)) then .agg #[.int .i64 Z.kind, .int .i64 Z.n, .string Z.name, .slice Z.at_.1 Z.args.length Z.at_.2] else undef := hI 122 (by simp)
        rw [hc, cond_true] at h122
        have h123 : ac.tmps.getD 123 undef = bif (true && (B120 == true)) then .agg #[.int .i64 Y.kind, .int .i64 Y.n, .string Y.name, .slice Y.at_.1 Y.args.length Y.at_.2] else undef := hI 123 (by simp)
        rw [hc, cond_true] at h123
        have h121 : ac.tmps.getD 121 undef = .bool B120 := hI 121 (by simp)
        show Brings Try.prog (fun v w' => Turned (fun _ => False) W w' ∧ v = bif (true && (B120 == true)) then .bool false else undef) _
        rw [hc, cond_true]
        simp only [execOp, Act.eval, h122, h123, h121]
        go_simp
        show Calls Try.prog 78 _ W _
        (with_reducible refine (HZY.out W (KaS.turned hs W hT)).mono ?_)
        rintro e w' ⟨rfl, T'⟩
        exact ⟨_, rfl, T', rfl⟩
    case s60 => as_aux_lemma =>
      refine fun hs hle => stepG_guard [124, 121] [] (by kernel_rfl) 56 true 121 rfl rfl (by simp) true B120 (fun _ _ h => h) (fun hc => ?_) (fun hc _ _ => ?_)
      rotate_left
      · refine ⟨Turned.refl _ _, ?_⟩
        show undef = bif (true && (B120 == true)) then _ else undef
        rw [hc]; rfl
      · intro ac W hT hI hO
        have hle : hs.length ≤ 2 := hle
        have h124 : ac.tmps.getD 124 undef = bif (true && (B120 == true)) then .bool false else undef := hI 124 (by simp)
        rw [hc, cond_true] at h124
        have h121 : ac.tmps.getD 121 undef = .bool B120 := hI 121 (by simp)
        show Brings Try.prog (fun v w' => Turned (fun _ => False) W w' ∧ v = bif (true && (B120 == true)) then .bool B125 else undef) _
        rw [hc, cond_true]
        rw [HB125.out]
        simp only [execOp, Act.eval, h124, h121]
        go_simp
        try exact ⟨Turned.refl _ _, rfl⟩
    case s61 => as_aux_lemma =>
      refine fun hs hle => stepG_free [121, 125] [] (by kernel_rfl) rfl ?_
      · intro ac W hT hI hO
        have hle : hs.length ≤ 2 := hle
        have h121 : ac.tmps.getD 121 undef = .bool B120 := hI 121 (by simp)
        have h125 : ac.tmps.getD 125 undef = bif (true && (B120 == true)) then .bool B125 else undef := hI 125 (by simp)
        show Brings Try.prog (fun v w' => Turned (fun _ => False) W w' ∧ v = .bool B126) _
        rw [HB126.out]
        cases hB : B120
        · simp only [hB] at *
          simp [execOp, Act.eval, go_sem, Brings, h121, h125]
          try exact Turned.refl _ _
        · simp only [hB] at *
          simp [execOp, Act.eval, go_sem, Brings, h121, h125]
          try exact Turned.refl _ _
    case s62 => as_aux_lemma =>
      refine fun hs hle => stepG_free [126] [] (by kernel_rfl) rfl ?_
      · intro ac W hT hI hO
        have hle : hs.length ≤ 2 := hle
        have h126 : ac.tmps.getD 126 undef = .bool B126 := hI 126 (by simp)
        show Brings Try.prog (fun v w' => Turned (fun _ => False) W w' ∧ v = .bool B126) _
        simp only [execOp, Act.eval, h126]
        go_simp
        try exact ⟨Turned.refl _ _, rfl⟩
    case s63 => as_aux_lemma =>
      refine fun hs hle => stepG_guard [127] [18] (by kernel_rfl) 62 true 127 rfl rfl (by simp) true B126 (fun _ _ h => h) (fun hc => ?_) (fun hc _ _ => ?_)
      rotate_left
      · refine ⟨Turned.refl _ _, ?_⟩
        show undef = bif (true && (B126 == true)) then _ else undef
        rw [hc]; rfl
      · intro ac W hT hI hO
        have hle : hs.length ≤ 4 := hle
        have h127 : ac.tmps.getD 127 undef = .bool B126 := hI 127 (by simp)
        have h18 : ac.tmps.getD 18 undef = .pointer (some ⟨B18, 0, none⟩) := hO 18 (by simp)
        show Brings Try.prog (fun v w' => Turned (fun _ => False) W w' ∧ v = bif (true && (B126 == true)) then .agg #[.int .i64 Z.kind, .int .i64 Z.n, .string Z.name, .slice Z.at_.1 Z.args.length Z.at_.2] else undef) _
        rw [hc, cond_true]
        have SW := HKN.out.turned0 (KaS.turned hs W hT); obtain ⟨a0, a1, a2, a3⟩ := SW.c1; obtain ⟨b0, b1, b2, b3⟩ := SW.c2; obtain ⟨c0, c1, c2, c3⟩ := SW.c17; obtain ⟨d0, d1, d2, d3⟩ := SW.c18
        simp only [execOp, Act.eval, h127, h18]
        go_simp
        exact ⟨Turned.refl _ _, rfl⟩
    case s64 => as_aux_lemma =>
      refine fun hs hle => stepG_guard [127] [] (by kernel_rfl) 62 true 127 rfl rfl (by simp) true B126 (fun _ _ h => h) (fun hc => ?_) (fun hc _ _ => ?_)
      rotate_left
      · refine ⟨Turned.refl _ _, ?_⟩
        show undef = bif (true && (B126 == true)) then _ else undef
        rw [hc]; rfl
      · intro ac W hT hI hO
        have hle : hs.length ≤ 2 := hle
        have h127 : ac.tmps.getD 127 undef = .bool B126 := hI 127 (by simp)
        show Brings Try.prog (fun v w' => Turned (fun _ => False) W w' ∧ v = bif (true && (B126 == true)) then .agg #[.int .i64 0, .int .i64 9, .string ByteArray.empty, .slice none 0 0] else undef) _
        rw [hc, cond_true]
        simp only [execOp, Act.eval, h127]
        go_simp
        show Calls Try.prog 62 _ W _
        refine (varV 9 (i64_lit _ (by omega)) W).mono ?_
        rintro e w' ⟨rfl, _, T'⟩
        exact ⟨_, rfl, T', rfl⟩
    case s65 => as_aux_lemma =>
      refine fun hs hle => stepG_guard [127] [] (by kernel_rfl) 62 true 127 rfl rfl (by simp) true B126 (fun _ _ h => h) (fun hc => ?_) (fun hc _ _ => ?_)
      rotate_left
      · refine ⟨Turned.refl _ _, ?_⟩
        show undef = bif (true && (B126 == true)) then _ else undef
        rw [hc]; rfl
      · intro ac W hT hI hO
        have hle : hs.length ≤ 2 := hle
        have h127 : ac.tmps.getD 127 undef = .bool B126 := hI 127 (by simp)
        show Brings Try.prog (fun v w' => Turned (fun _ => False) W w' ∧ v = bif (true && (B126 == true)) then .agg #[.int .i64 0, .int .i64 9, .string ByteArray.empty, .slice none 0 0] else undef) _
        rw [hc, cond_true]
        simp only [execOp, Act.eval, h127]
        go_simp
        show Calls Try.prog 62 _ W _
        refine (varV 9 (i64_lit _ (by omega)) W).mono ?_
        rintro e w' ⟨rfl, _, T'⟩
        exact ⟨_, rfl, T', rfl⟩
    case s66 => as_aux_lemma =>
      refine fun hs hlen => stepG_guard [129, 130, 127] [] (by kernel_rfl) 62 true 127 rfl rfl (by simp) true B126 (fun _ _ h => h) (fun hc => ?_) (fun hc _ _ => ?_)
      rotate_left
      · exact absurd hc (by rw [hB126]; decide)
      · intro ac W hT hI hO
        have h129 : ac.tmps.getD 129 undef = bif (true && (B126 == true)) then .agg #[.int .i64 0, .int .i64 9, .string ByteArray.empty, .slice none 0 0] else undef := hI 129 (by simp)
        rw [hc, cond_true] at h129
        have h130 : ac.tmps.getD 130 undef = bif (true && (B126 == true)) then .agg #[.int .i64 0, .int .i64 9, .string ByteArray.empty, .slice none 0 0] else undef := hI 130 (by simp)
        rw [hc, cond_true] at h130
        have h127 : ac.tmps.getD 127 undef = .bool B126 := hI 127 (by simp)
        show Brings Try.prog (fun v w' => KaS wz (hs ++ [v]) w') _
        obtain ⟨v0, v1, rfl⟩ := list2' hlen
        obtain ⟨hT1, _⟩ := hT
        refine brings_build2 129 130 rfl h129 h130 ?_
        exact ⟨hT1.alloc _, W.heap.size, rfl, sl_made (w := W) (l := [leaf 0 9 ByteArray.empty, leaf 0 9 ByteArray.empty]) ⟨LVV.out _ _ (by omega), LVV.out _ _ (by omega), trivial⟩ 2 (by decide) rfl _ rfl⟩
    case s67 => as_aux_lemma =>
      refine fun hs hlen => stepG_guard [131, 127] [] (by kernel_rfl) 62 true 127 rfl rfl (by simp) true B126 (fun _ _ h => h) (fun hc => ?_) (fun hc _ _ => ?_)
      rotate_left
      · exact absurd hc (by rw [hB126]; decide)
      · intro ac W hT hI hO
        have h131 : hs[2]? = some (ac.tmps.getD 131 undef) := hI 131 (by simp)
        have h127 : ac.tmps.getD 127 undef = .bool B126 := hI 127 (by simp)
        show Brings Try.prog (fun v w' => KaS wz (hs ++ [v]) w') _
        obtain ⟨v0, v1, v2, rfl⟩ := list3' hlen
        obtain ⟨hT1, g, rfl, hsl⟩ := hT
        replace h131 : ac.tmps.getD 131 undef = .slice (some ⟨g, 0, none⟩) 2 2 := by simpa using h131.symm
        simp only [execOp, Act.eval, h131]
        go_simp
        show Calls Try.prog 37 _ W _
        refine (compV ⟨#[102]⟩ (by unfold maxLen; decide) 2 (by decide) rfl hsl).mono ?_
        rintro e w' ⟨a', c', rfl, hi, T'⟩
        exact ⟨_, rfl, hT1.trans T', .mk 2 0 ⟨#[102]⟩ (a', c') [leaf 0 9 ByteArray.empty, leaf 0 9 ByteArray.empty], rfl, rfl, hi⟩
    case s68 => as_aux_lemma =>
      refine fun hs hle => stepG_guard [128, 132, 127] [] (by kernel_rfl) 62 true 127 rfl rfl (by simp) true B126 (fun _ _ h => h) (fun hc => ?_) (fun hc _ _ => ?_)
      rotate_left
      · refine ⟨Turned.refl _ _, ?_⟩
        show undef = bif (true && (B126 == true)) then _ else undef
        rw [hc]; rfl
      · intro ac W hT hI hO
        have hle : hs.length ≤ 4 := hle
        have h128 : ac.tmps.getD 128 undef = bif (true && (B126 == true)) then .agg #[.int .i64 Z.kind, .int .i64 Z.n, .string Z.name, .slice Z.at_.1 Z.args.length Z.at_.2] else undef := hI 128 (by simp)
        rw [hc, cond_true] at h128
        have h132 : hs[3]? = some (ac.tmps.getD 132 undef) := hI 132 (by simp)
        have h127 : ac.tmps.getD 127 undef = .bool B126 := hI 127 (by simp)
        show Brings Try.prog (fun v w' => Turned (fun _ => False) W w' ∧ v = bif (true && (B126 == true)) then .bool true else undef) _
        rw [hc, cond_true]
        obtain ⟨u, eu, hub, hui⟩ := KaS.at3 hT hle h132
        rw [LT.val_eq] at eu
        have SW := HKN.out.turned0 (KaS.turned hs W hT)
        have gu : goodB u = true := fT_leafs hub (by omega) (by omega)
        have hsv := moreVal (r := true) SW.i18 hui HSZ.out.1 (good_slim gu) ((moreB_of HSZ.out.2 hub).trans (by kernel_rfl))
        simp only [execOp, Act.eval, eu, h128]
        go_simp
        show Calls Try.prog 78 _ W _
        (with_reducible refine hsv.mono ?_)
        rintro e w' ⟨rfl, T'⟩
        exact ⟨_, rfl, T', rfl⟩
    case s69 => as_aux_lemma =>
      refine fun hs hle => stepG_free [127, 133] [] (by kernel_rfl) rfl ?_
      · intro ac W hT hI hO
        have hle : hs.length ≤ 4 := hle
        have h127 : ac.tmps.getD 127 undef = .bool B126 := hI 127 (by simp)
        have h133 : ac.tmps.getD 133 undef = bif (true && (B126 == true)) then .bool true else undef := hI 133 (by simp)
        show Brings Try.prog (fun v w' => Turned (fun _ => False) W w' ∧ v = .bool B134) _
        rw [HB134.out]
        cases hB : B126
        · simp only [hB] at *
          simp [execOp, Act.eval, go_sem, Brings, h127, h133]
          try exact Turned.refl _ _
        · simp only [hB] at *
          simp [execOp, Act.eval, go_sem, Brings, h127, h133]
          try exact Turned.refl _ _
    case s70 => as_aux_lemma =>
      refine fun hs hle => stepG_free [134] [] (by kernel_rfl) rfl ?_
      · intro ac W hT hI hO
        have hle : hs.length ≤ 4 := hle
        have h134 : ac.tmps.getD 134 undef = .bool B134 := hI 134 (by simp)
        show Brings Try.prog (fun v w' => Turned (fun _ => False) W w' ∧ v = .bool B134) _
        simp only [execOp, Act.eval, h134]
        go_simp
        try exact ⟨Turned.refl _ _, rfl⟩
    case s71 => as_aux_lemma =>
      refine fun hs hle => stepG_guard [135] [1] (by kernel_rfl) 70 true 135 rfl rfl (by simp) true B134 (fun _ _ h => h) (fun hc => ?_) (fun hc _ _ => ?_)
      rotate_left
      · refine ⟨Turned.refl _ _, ?_⟩
        show undef = bif (true && (B134 == true)) then _ else undef
        rw [hc]; rfl
      · intro ac W hT hI hO
        have hle : hs.length ≤ 4 := hle
        have h135 : ac.tmps.getD 135 undef = .bool B134 := hI 135 (by simp)
        have h1 : ac.tmps.getD 1 undef = .pointer (some ⟨B1, 0, none⟩) := hO 1 (by simp)
        show Brings Try.prog (fun v w' => Turned (fun _ => False) W w' ∧ v = bif (true && (B134 == true)) then .agg #[.int .i64 X.kind, .int .i64 X.n, .string X.name, .slice X.at_.1 X.args.length X.at_.2] else undef) _
        rw [hc, cond_true]
        have SW := HKN.out.turned0 (KaS.turned hs W hT); obtain ⟨a0, a1, a2, a3⟩ := SW.c1; obtain ⟨b0, b1, b2, b3⟩ := SW.c2; obtain ⟨c0, c1, c2, c3⟩ := SW.c17; obtain ⟨d0, d1, d2, d3⟩ := SW.c18
        simp only [execOp, Act.eval, h135, h1]
        go_simp
        exact ⟨Turned.refl _ _, rfl⟩
    case s72 => as_aux_lemma =>
      refine fun hs hle => stepG_guard [135] [18] (by kernel_rfl) 70 true 135 rfl rfl (by simp) true B134 (fun _ _ h => h) (fun hc => ?_) (fun hc _ _ => ?_)
      rotate_left
      · refine ⟨Turned.refl _ _, ?_⟩
        show undef = bif (true && (B134 == true)) then _ else undef
        rw [hc]; rfl
      · intro ac W hT hI hO
        have hle : hs.length ≤ 4 := hle
        have h135 : ac.tmps.getD 135 undef = .bool B134 := hI 135 (by simp)
        have h18 : ac.tmps.getD 18 undef = .pointer (some ⟨B18, 0, none⟩) := hO 18 (by simp)
        show Brings Try.prog (fun v w' => Turned (fun _ => False) W w' ∧ v = bif (true && (B134 == true)) then .agg #[.int .i64 Z.kind, .int .i64 Z.n, .string Z.name, .slice Z.at_.1 Z.args.length Z.at_.2] else undef) _
        rw [hc, cond_true]
        have SW := HKN.out.turned0 (KaS.turned hs W hT); obtain ⟨a0, a1, a2, a3⟩ := SW.c1; obtain ⟨b0, b1, b2, b3⟩ := SW.c2; obtain ⟨c0, c1, c2, c3⟩ := SW.c17; obtain ⟨d0, d1, d2, d3⟩ := SW.c18
        simp only [execOp, Act.eval, h135, h18]
        go_simp
        exact ⟨Turned.refl _ _, rfl⟩
    case s73 => as_aux_lemma =>
      refine fun hs hle => stepG_guard [136, 137, 135] [] (by kernel_rfl) 70 true 135 rfl rfl (by simp) true B134 (fun _ _ h => h) (fun hc => ?_) (fun hc _ _ => ?_)
      rotate_left
      · refine ⟨Turned.refl _ _, ?_⟩
        show undef = bif (true && (B134 == true)) then _ else undef
        rw [hc]; rfl
      · intro ac W hT hI hO
        have hle : hs.length ≤ 4 := hle
        have h136 : ac.tmps.getD 136 undef = bif (true && (B134 == true)) then .agg #[.int .i64 X.kind, .int .i64 X.n, .string X.name, .slice X.at_.1 X.args.length X.at_.2] else undef := hI 136 (by simp)
        rw [hc, cond_true] at h136
        have h137 : ac.tmps.getD 137 undef = bif (true && (B134 == true)) then .agg #[.int .i64 Z.kind, .int .i64 Z.n, .string Z.name, .slice Z.at_.1 Z.args.length Z.at_.2] else undef := hI 137 (by simp)
        rw [hc, cond_true] at h137
        have h135 : ac.tmps.getD 135 undef = .bool B134 := hI 135 (by simp)
        show Brings Try.prog (fun v w' => Turned (fun _ => False) W w' ∧ v = bif (true && (B134 == true)) then .bool false else undef) _
        rw [hc, cond_true]
        simp only [execOp, Act.eval, h136, h137, h135]
        go_simp
        show Calls Try.prog 72 _ W _
        (with_reducible refine (AXZ.out W (KaS.turned hs W hT)).mono ?_)
        rintro e w' ⟨rfl, T'⟩
        exact ⟨_, rfl, T', rfl⟩
    case s74 => as_aux_lemma =>
      refine fun hs hle => stepG_guard [138, 135] [] (by kernel_rfl) 70 true 135 rfl rfl (by simp) true B134 (fun _ _ h => h) (fun hc => ?_) (fun hc _ _ => ?_)
      rotate_left
      · refine ⟨Turned.refl _ _, ?_⟩
        show undef = bif (true && (B134 == true)) then _ else undef
        rw [hc]; rfl
      · intro ac W hT hI hO
        have hle : hs.length ≤ 4 := hle
        have h138 : ac.tmps.getD 138 undef = bif (true && (B134 == true)) then .bool false else undef := hI 138 (by simp)
        rw [hc, cond_true] at h138
        have h135 : ac.tmps.getD 135 undef = .bool B134 := hI 135 (by simp)
        show Brings Try.prog (fun v w' => Turned (fun _ => False) W w' ∧ v = bif (true && (B134 == true)) then .bool B139 else undef) _
        rw [hc, cond_true]
        rw [HB139.out]
        simp only [execOp, Act.eval, h138, h135]
        go_simp
        try exact ⟨Turned.refl _ _, rfl⟩
    case s75 => as_aux_lemma =>
      refine fun hs hle => stepG_free [135, 139] [] (by kernel_rfl) rfl ?_
      · intro ac W hT hI hO
        have hle : hs.length ≤ 4 := hle
        have h135 : ac.tmps.getD 135 undef = .bool B134 := hI 135 (by simp)
        have h139 : ac.tmps.getD 139 undef = bif (true && (B134 == true)) then .bool B139 else undef := hI 139 (by simp)
        show Brings Try.prog (fun v w' => Turned (fun _ => False) W w' ∧ v = .bool B140) _
        rw [HB140.out]
        cases hB : B134
        · simp only [hB] at *
          simp [execOp, Act.eval, go_sem, Brings, h135, h139]
          try exact Turned.refl _ _
        · simp only [hB] at *
          simp [execOp, Act.eval, go_sem, Brings, h135, h139]
          try exact Turned.refl _ _
    case s76 => as_aux_lemma =>
      refine fun hs hle => stepG_free [140] [] (by kernel_rfl) rfl ?_
      · intro ac W hT hI hO
        have hle : hs.length ≤ 4 := hle
        have h140 : ac.tmps.getD 140 undef = .bool B140 := hI 140 (by simp)
        show Brings Try.prog (fun v w' => Turned (fun _ => False) W w' ∧ v = .bool B140) _
        simp only [execOp, Act.eval, h140]
        go_simp
        try exact ⟨Turned.refl _ _, rfl⟩
    case s77 => as_aux_lemma =>
      refine fun hs hle => stepG_guard [141] [1] (by kernel_rfl) 76 true 141 rfl rfl (by simp) true B140 (fun _ _ h => h) (fun hc => ?_) (fun hc _ _ => ?_)
      rotate_left
      · refine ⟨Turned.refl _ _, ?_⟩
        show undef = bif (true && (B140 == true)) then _ else undef
        rw [hc]; rfl
      · intro ac W hT hI hO
        have hle : hs.length ≤ 6 := hle
        have h141 : ac.tmps.getD 141 undef = .bool B140 := hI 141 (by simp)
        have h1 : ac.tmps.getD 1 undef = .pointer (some ⟨B1, 0, none⟩) := hO 1 (by simp)
        show Brings Try.prog (fun v w' => Turned (fun _ => False) W w' ∧ v = bif (true && (B140 == true)) then .agg #[.int .i64 X.kind, .int .i64 X.n, .string X.name, .slice X.at_.1 X.args.length X.at_.2] else undef) _
        rw [hc, cond_true]
        have SW := HKN.out.turned0 (KaS.turned hs W hT); obtain ⟨a0, a1, a2, a3⟩ := SW.c1; obtain ⟨b0, b1, b2, b3⟩ := SW.c2; obtain ⟨c0, c1, c2, c3⟩ := SW.c17; obtain ⟨d0, d1, d2, d3⟩ := SW.c18
        simp only [execOp, Act.eval, h141, h1]
        go_simp
        exact ⟨Turned.refl _ _, rfl⟩
    case s78 => as_aux_lemma =>
      refine fun hs hle => stepG_guard [141] [] (by kernel_rfl) 76 true 141 rfl rfl (by simp) true B140 (fun _ _ h => h) (fun hc => ?_) (fun hc _ _ => ?_)
      rotate_left
      · refine ⟨Turned.refl _ _, ?_⟩
        show undef = bif (true && (B140 == true)) then _ else undef
        rw [hc]; rfl
      · intro ac W hT hI hO
        have hle : hs.length ≤ 4 := hle
        have h141 : ac.tmps.getD 141 undef = .bool B140 := hI 141 (by simp)
        show Brings Try.prog (fun v w' => Turned (fun _ => False) W w' ∧ v = bif (true && (B140 == true)) then .agg #[.int .i64 0, .int .i64 1, .string ByteArray.empty, .slice none 0 0] else undef) _
        rw [hc, cond_true]
        simp only [execOp, Act.eval, h141]
        go_simp
        show Calls Try.prog 62 _ W _
        refine (varV 1 (i64_lit _ (by omega)) W).mono ?_
        rintro e w' ⟨rfl, _, T'⟩
        exact ⟨_, rfl, T', rfl⟩
    case s79 => as_aux_lemma =>
      refine fun hs hle => stepG_guard [141] [] (by kernel_rfl) 76 true 141 rfl rfl (by simp) true B140 (fun _ _ h => h) (fun hc => ?_) (fun hc _ _ => ?_)
      rotate_left
      · refine ⟨Turned.refl _ _, ?_⟩
        show undef = bif (true && (B140 == true)) then _ else undef
        rw [hc]; rfl
      · intro ac W hT hI hO
        have hle : hs.length ≤ 4 := hle
        have h141 : ac.tmps.getD 141 undef = .bool B140 := hI 141 (by simp)
        show Brings Try.prog (fun v w' => Turned (fun _ => False) W w' ∧ v = bif (true && (B140 == true)) then .agg #[.int .i64 0, .int .i64 0, .string ByteArray.empty, .slice none 0 0] else undef) _
        rw [hc, cond_true]
        simp only [execOp, Act.eval, h141]
        go_simp
        show Calls Try.prog 62 _ W _
        refine (varV 0 (i64_lit _ (by omega)) W).mono ?_
        rintro e w' ⟨rfl, _, T'⟩
        exact ⟨_, rfl, T', rfl⟩
    case s80 => as_aux_lemma =>
      refine fun hs hlen => stepG_guard [143, 144, 141] [] (by kernel_rfl) 76 true 141 rfl rfl (by simp) true B140 (fun _ _ h => h) (fun hc => ?_) (fun hc _ _ => ?_)
      rotate_left
      · exact absurd hc (by rw [hB140]; decide)
      · intro ac W hT hI hO
        have h143 : ac.tmps.getD 143 undef = bif (true && (B140 == true)) then .agg #[.int .i64 0, .int .i64 1, .string ByteArray.empty, .slice none 0 0] else undef := hI 143 (by simp)
        rw [hc, cond_true] at h143
        have h144 : ac.tmps.getD 144 undef = bif (true && (B140 == true)) then .agg #[.int .i64 0, .int .i64 0, .string ByteArray.empty, .slice none 0 0] else undef := hI 144 (by simp)
        rw [hc, cond_true] at h144
        have h141 : ac.tmps.getD 141 undef = .bool B140 := hI 141 (by simp)
        show Brings Try.prog (fun v w' => KaS wz (hs ++ [v]) w') _
        obtain ⟨v0, v1, v2, v3, rfl⟩ := list4' hlen
        obtain ⟨hT1, _⟩ := hT
        refine brings_build2 143 144 rfl h143 h144 ?_
        exact ⟨hT1.alloc _, W.heap.size, rfl, sl_made (w := W) (l := [leaf 0 1 ByteArray.empty, leaf 0 0 ByteArray.empty]) ⟨LVV.out _ _ (by omega), LVV.out _ _ (by omega), trivial⟩ 2 (by decide) rfl _ rfl⟩
    case s81 => as_aux_lemma =>
      refine fun hs hlen => stepG_guard [145, 141] [] (by kernel_rfl) 76 true 141 rfl rfl (by simp) true B140 (fun _ _ h => h) (fun hc => ?_) (fun hc _ _ => ?_)
      rotate_left
      · exact absurd hc (by rw [hB140]; decide)
      · intro ac W hT hI hO
        have h145 : hs[4]? = some (ac.tmps.getD 145 undef) := hI 145 (by simp)
        have h141 : ac.tmps.getD 141 undef = .bool B140 := hI 141 (by simp)
        show Brings Try.prog (fun v w' => KaS wz (hs ++ [v]) w') _
        obtain ⟨v0, v1, v2, v3, v4, rfl⟩ := list5' hlen
        obtain ⟨hT1, g, rfl, hsl⟩ := hT
        replace h145 : ac.tmps.getD 145 undef = .slice (some ⟨g, 0, none⟩) 2 2 := by simpa using h145.symm
        simp only [execOp, Act.eval, h145]
        go_simp
        show Calls Try.prog 37 _ W _
        refine (compV ⟨#[102]⟩ (by unfold maxLen; decide) 2 (by decide) rfl hsl).mono ?_
        rintro e w' ⟨a', c', rfl, hi, T'⟩
        exact ⟨_, rfl, hT1.trans T', .mk 2 0 ⟨#[102]⟩ (a', c') [leaf 0 1 ByteArray.empty, leaf 0 0 ByteArray.empty], rfl, rfl, hi⟩
    case s82 => as_aux_lemma =>
      refine fun hs hle => stepG_guard [142, 146, 141] [] (by kernel_rfl) 76 true 141 rfl rfl (by simp) true B140 (fun _ _ h => h) (fun hc => ?_) (fun hc _ _ => ?_)
      rotate_left
      · refine ⟨Turned.refl _ _, ?_⟩
        show undef = bif (true && (B140 == true)) then _ else undef
        rw [hc]; rfl
      · intro ac W hT hI hO
        have hle : hs.length ≤ 6 := hle
        have h142 : ac.tmps.getD 142 undef = bif (true && (B140 == true)) then .agg #[.int .i64 X.kind, .int .i64 X.n, .string X.name, .slice X.at_.1 X.args.length X.at_.2] else undef := hI 142 (by simp)
        rw [hc, cond_true] at h142
        have h146 : hs[5]? = some (ac.tmps.getD 146 undef) := hI 146 (by simp)
        have h141 : ac.tmps.getD 141 undef = .bool B140 := hI 141 (by simp)
        show Brings Try.prog (fun v w' => Turned (fun _ => False) W w' ∧ v = bif (true && (B140 == true)) then .bool true else undef) _
        rw [hc, cond_true]
        obtain ⟨u, eu, hub, hui⟩ := KaS.at5 hT hle h146
        rw [LT.val_eq] at eu
        have SW := HKN.out.turned0 (KaS.turned hs W hT)
        have gu : goodB u = true := fT_leafs hub (by omega) (by omega)
        have hsv := alikeVal (r := true) SW.i1 hui HSX.out (good_slim gu) ((alikeB_of HXB.out hub).trans (by kernel_rfl))
        simp only [execOp, Act.eval, eu, h142]
        go_simp
        show Calls Try.prog 72 _ W _
        (with_reducible refine hsv.mono ?_)
        rintro e w' ⟨rfl, T'⟩
        exact ⟨_, rfl, T', rfl⟩
    case s83 => as_aux_lemma =>
      refine fun hs hle => stepG_free [141, 147] [] (by kernel_rfl) rfl ?_
      · intro ac W hT hI hO
        have hle : hs.length ≤ 6 := hle
        have h141 : ac.tmps.getD 141 undef = .bool B140 := hI 141 (by simp)
        have h147 : ac.tmps.getD 147 undef = bif (true && (B140 == true)) then .bool true else undef := hI 147 (by simp)
        show Brings Try.prog (fun v w' => Turned (fun _ => False) W w' ∧ v = .bool B148) _
        rw [HB148.out]
        cases hB : B140
        · simp only [hB] at *
          simp [execOp, Act.eval, go_sem, Brings, h141, h147]
          try exact Turned.refl _ _
        · simp only [hB] at *
          simp [execOp, Act.eval, go_sem, Brings, h141, h147]
          try exact Turned.refl _ _
    case s84 => as_aux_lemma =>
      refine fun hs hle => stepG_free [148] [] (by kernel_rfl) rfl ?_
      · intro ac W hT hI hO
        have hle : hs.length ≤ 6 := hle
        have h148 : ac.tmps.getD 148 undef = .bool B148 := hI 148 (by simp)
        show Brings Try.prog (fun v w' => Turned (fun _ => False) W w' ∧ v = .bool B148) _
        simp only [execOp, Act.eval, h148]
        go_simp
        try exact ⟨Turned.refl _ _, rfl⟩
    case s85 => as_aux_lemma =>
      refine fun hs hle => stepG_guard [149] [17] (by kernel_rfl) 84 true 149 rfl rfl (by simp) true B148 (fun _ _ h => h) (fun hc => ?_) (fun hc _ _ => ?_)
      rotate_left
      · refine ⟨Turned.refl _ _, ?_⟩
        show undef = bif (true && (B148 == true)) then _ else undef
        rw [hc]; rfl
      · intro ac W hT hI hO
        have hle : hs.length ≤ 6 := hle
        have h149 : ac.tmps.getD 149 undef = .bool B148 := hI 149 (by simp)
        have h17 : ac.tmps.getD 17 undef = .pointer (some ⟨B17, 0, none⟩) := hO 17 (by simp)
        show Brings Try.prog (fun v w' => Turned (fun _ => False) W w' ∧ v = bif (true && (B148 == true)) then .agg #[.int .i64 Y.kind, .int .i64 Y.n, .string Y.name, .slice Y.at_.1 Y.args.length Y.at_.2] else undef) _
        rw [hc, cond_true]
        have SW := HKN.out.turned0 (KaS.turned hs W hT); obtain ⟨a0, a1, a2, a3⟩ := SW.c1; obtain ⟨b0, b1, b2, b3⟩ := SW.c2; obtain ⟨c0, c1, c2, c3⟩ := SW.c17; obtain ⟨d0, d1, d2, d3⟩ := SW.c18
        simp only [execOp, Act.eval, h149, h17]
        go_simp
        exact ⟨Turned.refl _ _, rfl⟩
    case s86 => as_aux_lemma =>
      refine fun hs hle => stepG_guard [150, 149] [] (by kernel_rfl) 84 true 149 rfl rfl (by simp) true B148 (fun _ _ h => h) (fun hc => ?_) (fun hc _ _ => ?_)
      rotate_left
      · refine ⟨Turned.refl _ _, ?_⟩
        show undef = bif (true && (B148 == true)) then _ else undef
        rw [hc]; rfl
      · intro ac W hT hI hO
        have hle : hs.length ≤ 6 := hle
        have h150 : ac.tmps.getD 150 undef = bif (true && (B148 == true)) then .agg #[.int .i64 Y.kind, .int .i64 Y.n, .string Y.name, .slice Y.at_.1 Y.args.length Y.at_.2] else undef := hI 150 (by simp)
        rw [hc, cond_true] at h150
        have h149 : ac.tmps.getD 149 undef = .bool B148 := hI 149 (by simp)
        show Brings Try.prog (fun v w' => Turned (fun _ => False) W w' ∧ v = bif (true && (B148 == true)) then .bool false else undef) _
        rw [hc, cond_true]
        simp only [execOp, Act.eval, h150, h149]
        go_simp
        show Calls Try.prog 73 _ W _
        (with_reducible refine (GY.out W (KaS.turned hs W hT)).mono ?_)
        rintro e w' ⟨rfl, T'⟩
        exact ⟨_, rfl, T', rfl⟩
    case s87 => as_aux_lemma =>
      refine fun hs hle => stepG_guard [151, 149] [] (by kernel_rfl) 84 true 149 rfl rfl (by simp) true B148 (fun _ _ h => h) (fun hc => ?_) (fun hc _ _ => ?_)
      rotate_left
      · refine ⟨Turned.refl _ _, ?_⟩
        show undef = bif (true && (B148 == true)) then _ else undef
        rw [hc]; rfl
      · intro ac W hT hI hO
        have hle : hs.length ≤ 6 := hle
        have h151 : ac.tmps.getD 151 undef = bif (true && (B148 == true)) then .bool false else undef := hI 151 (by simp)
        rw [hc, cond_true] at h151
        have h149 : ac.tmps.getD 149 undef = .bool B148 := hI 149 (by simp)
        show Brings Try.prog (fun v w' => Turned (fun _ => False) W w' ∧ v = bif (true && (B148 == true)) then .bool B152 else undef) _
        rw [hc, cond_true]
        rw [HB152.out]
        simp only [execOp, Act.eval, h151, h149]
        go_simp
        try exact ⟨Turned.refl _ _, rfl⟩
    case s88 => as_aux_lemma =>
      refine fun hs hle => stepG_free [149, 152] [] (by kernel_rfl) rfl ?_
      · intro ac W hT hI hO
        have hle : hs.length ≤ 6 := hle
        have h149 : ac.tmps.getD 149 undef = .bool B148 := hI 149 (by simp)
        have h152 : ac.tmps.getD 152 undef = bif (true && (B148 == true)) then .bool B152 else undef := hI 152 (by simp)
        show Brings Try.prog (fun v w' => Turned (fun _ => False) W w' ∧ v = .bool B153) _
        rw [HB153.out]
        cases hB : B148
        · simp only [hB] at *
          simp [execOp, Act.eval, go_sem, Brings, h149, h152]
          try exact Turned.refl _ _
        · simp only [hB] at *
          simp [execOp, Act.eval, go_sem, Brings, h149, h152]
          try exact Turned.refl _ _
    case s89 => as_aux_lemma =>
      refine fun hs hle => stepG_free [153] [] (by kernel_rfl) rfl ?_
      · intro ac W hT hI hO
        have hle : hs.length ≤ 6 := hle
        have h153 : ac.tmps.getD 153 undef = .bool B153 := hI 153 (by simp)
        show Brings Try.prog (fun v w' => Turned (fun _ => False) W w' ∧ v = .bool B153) _
        simp only [execOp, Act.eval, h153]
        go_simp
        try exact ⟨Turned.refl _ _, rfl⟩
    case s90 => as_aux_lemma =>
      refine fun hs hle => stepG_guard [154] [] (by kernel_rfl) 89 true 154 rfl rfl (by simp) true B153 (fun _ _ h => h) (fun hc => ?_) (fun hc _ _ => ?_)
      rotate_left
      · refine ⟨Turned.refl _ _, ?_⟩
        show undef = bif (true && (B153 == true)) then _ else undef
        rw [hc]; rfl
      · intro ac W hT hI hO
        have hle : hs.length ≤ 6 := hle
        have h154 : ac.tmps.getD 154 undef = .bool B153 := hI 154 (by simp)
        show Brings Try.prog (fun v w' => Turned (fun _ => False) W w' ∧ v = bif (true && (B153 == true)) then .agg #[.int .i64 8, .int .i64 0, .string ⟨#[]⟩, .slice none 0 0] else undef) _
        rw [hc, cond_true]
        simp only [execOp, Act.eval, h154]
        go_simp
        try exact ⟨Turned.refl _ _, rfl⟩
    case s91 => as_aux_lemma =>
      refine fun hs hle => stepG_guard [155, 154] [] (by kernel_rfl) 89 true 154 rfl rfl (by simp) true B153 (fun _ _ h => h) (fun hc => ?_) (fun hc _ _ => ?_)
      rotate_left
      · refine ⟨Turned.refl _ _, ?_⟩
        show undef = bif (true && (B153 == true)) then _ else undef
        rw [hc]; rfl
      · intro ac W hT hI hO
        have hle : hs.length ≤ 6 := hle
        have h155 : ac.tmps.getD 155 undef = bif (true && (B153 == true)) then .agg #[.int .i64 8, .int .i64 0, .string ⟨#[]⟩, .slice none 0 0] else undef := hI 155 (by simp)
        rw [hc, cond_true] at h155
        have h154 : ac.tmps.getD 154 undef = .bool B153 := hI 154 (by simp)
        show Brings Try.prog (fun v w' => Turned (fun _ => False) W w' ∧ v = bif (true && (B153 == true)) then .bool false else undef) _
        rw [hc, cond_true]
        simp only [execOp, Act.eval, h155, h154]
        go_simp
        show Calls Try.prog 73 _ W _
        (with_reducible refine (G8.out W).mono ?_)
        rintro e w' ⟨rfl, T'⟩
        exact ⟨_, rfl, T', rfl⟩
    case s92 => as_aux_lemma =>
      refine fun hs hle => stepG_guard [156, 154] [] (by kernel_rfl) 89 true 154 rfl rfl (by simp) true B153 (fun _ _ h => h) (fun hc => ?_) (fun hc _ _ => ?_)
      rotate_left
      · refine ⟨Turned.refl _ _, ?_⟩
        show undef = bif (true && (B153 == true)) then _ else undef
        rw [hc]; rfl
      · intro ac W hT hI hO
        have hle : hs.length ≤ 6 := hle
        have h156 : ac.tmps.getD 156 undef = bif (true && (B153 == true)) then .bool false else undef := hI 156 (by simp)
        rw [hc, cond_true] at h156
        have h154 : ac.tmps.getD 154 undef = .bool B153 := hI 154 (by simp)
        show Brings Try.prog (fun v w' => Turned (fun _ => False) W w' ∧ v = bif (true && (B153 == true)) then .bool B157 else undef) _
        rw [hc, cond_true]
        rw [HB157.out]
        simp only [execOp, Act.eval, h156, h154]
        go_simp
        try exact ⟨Turned.refl _ _, rfl⟩
    case s93 => as_aux_lemma =>
      refine fun hs hle => stepG_free [154, 157] [] (by kernel_rfl) rfl ?_
      · intro ac W hT hI hO
        have hle : hs.length ≤ 6 := hle
        have h154 : ac.tmps.getD 154 undef = .bool B153 := hI 154 (by simp)
        have h157 : ac.tmps.getD 157 undef = bif (true && (B153 == true)) then .bool B157 else undef := hI 157 (by simp)
        show Brings Try.prog (fun v w' => Turned (fun _ => False) W w' ∧ v = .bool B158) _
        rw [HB158.out]
        cases hB : B153
        · simp only [hB] at *
          simp [execOp, Act.eval, go_sem, Brings, h154, h157]
          try exact Turned.refl _ _
        · simp only [hB] at *
          simp [execOp, Act.eval, go_sem, Brings, h154, h157]
          try exact Turned.refl _ _
    case s94 => as_aux_lemma =>
      refine fun hs hle => stepG_free [158] [] (by kernel_rfl) rfl ?_
      · intro ac W hT hI hO
        have hle : hs.length ≤ 6 := hle
        have h158 : ac.tmps.getD 158 undef = .bool B158 := hI 158 (by simp)
        show Brings Try.prog (fun v w' => Turned (fun _ => False) W w' ∧ v = .bool B158) _
        simp only [execOp, Act.eval, h158]
        go_simp
        try exact ⟨Turned.refl _ _, rfl⟩
    case s95 => as_aux_lemma =>
      refine fun hs hle => stepG_guard [159] [] (by kernel_rfl) 94 true 159 rfl rfl (by simp) true B158 (fun _ _ h => h) (fun hc => ?_) (fun hc _ _ => ?_)
      rotate_left
      · refine ⟨Turned.refl _ _, ?_⟩
        show undef = bif (true && (B158 == true)) then _ else undef
        rw [hc]; rfl
      · intro ac W hT hI hO
        have hle : hs.length ≤ 6 := hle
        have h159 : ac.tmps.getD 159 undef = .bool B158 := hI 159 (by simp)
        show Brings Try.prog (fun v w' => Turned (fun _ => False) W w' ∧ v = bif (true && (B158 == true)) then .agg #[.int .i64 8, .int .i64 0, .string ⟨#[]⟩, .slice none 0 0] else undef) _
        rw [hc, cond_true]
        simp only [execOp, Act.eval, h159]
        go_simp
        try exact ⟨Turned.refl _ _, rfl⟩
    case s96 => as_aux_lemma =>
      refine fun hs hle => stepG_guard [159] [] (by kernel_rfl) 94 true 159 rfl rfl (by simp) true B158 (fun _ _ h => h) (fun hc => ?_) (fun hc _ _ => ?_)
      rotate_left
      · refine ⟨Turned.refl _ _, ?_⟩
        show undef = bif (true && (B158 == true)) then _ else undef
        rw [hc]; rfl
      · intro ac W hT hI hO
        have hle : hs.length ≤ 6 := hle
        have h159 : ac.tmps.getD 159 undef = .bool B158 := hI 159 (by simp)
        show Brings Try.prog (fun v w' => Turned (fun _ => False) W w' ∧ v = bif (true && (B158 == true)) then .agg #[.int .i64 8, .int .i64 0, .string ⟨#[]⟩, .slice none 0 0] else undef) _
        rw [hc, cond_true]
        simp only [execOp, Act.eval, h159]
        go_simp
        try exact ⟨Turned.refl _ _, rfl⟩
    case s97 => as_aux_lemma =>
      refine fun hs hle => stepG_guard [160, 161, 159] [] (by kernel_rfl) 94 true 159 rfl rfl (by simp) true B158 (fun _ _ h => h) (fun hc => ?_) (fun hc _ _ => ?_)
      rotate_left
      · refine ⟨Turned.refl _ _, ?_⟩
        show undef = bif (true && (B158 == true)) then _ else undef
        rw [hc]; rfl
      · intro ac W hT hI hO
        have hle : hs.length ≤ 6 := hle
        have h160 : ac.tmps.getD 160 undef = bif (true && (B158 == true)) then .agg #[.int .i64 8, .int .i64 0, .string ⟨#[]⟩, .slice none 0 0] else undef := hI 160 (by simp)
        rw [hc, cond_true] at h160
        have h161 : ac.tmps.getD 161 undef = bif (true && (B158 == true)) then .agg #[.int .i64 8, .int .i64 0, .string ⟨#[]⟩, .slice none 0 0] else undef := hI 161 (by simp)
        rw [hc, cond_true] at h161
        have h159 : ac.tmps.getD 159 undef = .bool B158 := hI 159 (by simp)
        show Brings Try.prog (fun v w' => Turned (fun _ => False) W w' ∧ v = bif (true && (B158 == true)) then .bool false else undef) _
        rw [hc, cond_true]
        simp only [execOp, Act.eval, h160, h161, h159]
        go_simp
        show Calls Try.prog 72 _ W _
        (with_reducible refine (A8.out W).mono ?_)
        rintro e w' ⟨rfl, T'⟩
        exact ⟨_, rfl, T', rfl⟩
    case s98 => as_aux_lemma =>
      refine fun hs hle => stepG_guard [162, 159] [] (by kernel_rfl) 94 true 159 rfl rfl (by simp) true B158 (fun _ _ h => h) (fun hc => ?_) (fun hc _ _ => ?_)
      rotate_left
      · refine ⟨Turned.refl _ _, ?_⟩
        show undef = bif (true && (B158 == true)) then _ else undef
        rw [hc]; rfl
      · intro ac W hT hI hO
        have hle : hs.length ≤ 6 := hle
        have h162 : ac.tmps.getD 162 undef = bif (true && (B158 == true)) then .bool false else undef := hI 162 (by simp)
        rw [hc, cond_true] at h162
        have h159 : ac.tmps.getD 159 undef = .bool B158 := hI 159 (by simp)
        show Brings Try.prog (fun v w' => Turned (fun _ => False) W w' ∧ v = bif (true && (B158 == true)) then .bool B163 else undef) _
        rw [hc, cond_true]
        rw [HB163.out]
        simp only [execOp, Act.eval, h162, h159]
        go_simp
        try exact ⟨Turned.refl _ _, rfl⟩
    case s99 => as_aux_lemma =>
      refine fun hs hle => stepG_free [159, 163] [] (by kernel_rfl) rfl ?_
      · intro ac W hT hI hO
        have hle : hs.length ≤ 6 := hle
        have h159 : ac.tmps.getD 159 undef = .bool B158 := hI 159 (by simp)
        have h163 : ac.tmps.getD 163 undef = bif (true && (B158 == true)) then .bool B163 else undef := hI 163 (by simp)
        show Brings Try.prog (fun v w' => Turned (fun _ => False) W w' ∧ v = .bool B164) _
        rw [HB164.out]
        cases hB : B158
        · simp only [hB] at *
          simp [execOp, Act.eval, go_sem, Brings, h159, h163]
          try exact Turned.refl _ _
        · simp only [hB] at *
          simp [execOp, Act.eval, go_sem, Brings, h159, h163]
          try exact Turned.refl _ _
    case s100 => as_aux_lemma =>
      refine fun hs hle => stepG_free [164] [] (by kernel_rfl) rfl ?_
      · intro ac W hT hI hO
        have hle : hs.length ≤ 6 := hle
        have h164 : ac.tmps.getD 164 undef = .bool B164 := hI 164 (by simp)
        show Brings Try.prog (fun v w' => Turned (fun _ => False) W w' ∧ v = .bool B164) _
        simp only [execOp, Act.eval, h164]
        go_simp
        try exact ⟨Turned.refl _ _, rfl⟩
  case hQ =>
    intro hs vq w20 hlen hR hV
    have q0 : vq 0 = .bool B164 := hV 0 (by simp)
    rw [hB164] at q0
    have T20 := KaS.turned hs w20 hR
    simp only [List.foldl_cons, List.foldl_nil, List.setIfInBounds_toArray, List.set_cons_zero, List.set_cons_succ, q0]
    clear hV q0 hlen hR hs
    go_wp2_with fail
    go_ret
    exact ⟨rfl, U6.out.trans T20⟩
end Go.Proofs.Ytoihjobdfjajfaa

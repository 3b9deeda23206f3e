/- sizarlaw13's awake: what the document tells of two variables. -/
import Derived.Test.YtoihjobdfjajfaaAL6
import Derived.Test.YtoihjobdfjajfaaDeeps
namespace Go.Proofs.Ytoihjobdfjajfaa
set_option linter.unusedVariables false
set_option linter.unusedSimpArgs false
open Go.RowKit Go.Maps
def pT : Tm Unit := .mk 2 0 ⟨#[102]⟩ () [Tm.V 0, Tm.V 1, Tm.V 0]
theorem pT_good : goodB pT = true := by kernel_rfl
theorem goodVal' {p : Nat → Prop} {t : LT} {w : World} {b : Bool} (ht : t.In p w) (hs : slim t) (hg : goodB t = b) : Calls Try.prog 38 #[.agg #[.int .i64 t.kind, .int .i64 t.n, .string t.name, .slice t.at_.1 t.args.length t.at_.2]] w fun e w' => e = .returned (.bool b) ∧ Turned (fun _ => False) w w' := by
  have h := good38 ht hs
  rw [LT.val_eq, hg] at h
  exact h
theorem sameVal' {p : Nat → Prop} {a b : LT} {w : World} {r : Bool} (ha : a.In p w) (hb : b.In p w) (sa : slim a) (sb : slim b) (hr : sameB a b = r) : Calls Try.prog 52 #[.agg #[.int .i64 a.kind, .int .i64 a.n, .string a.name, .slice a.at_.1 a.args.length a.at_.2], .agg #[.int .i64 b.kind, .int .i64 b.n, .string b.name, .slice b.at_.1 b.args.length b.at_.2]] w fun e w' => e = .returned (.bool r) ∧ Turned (fun _ => False) w w' := by
  have h := same52 ha hb sa sb
  rw [LT.val_eq a, LT.val_eq b, hr] at h
  exact h
theorem moreVal {p : Nat → Prop} {a b : LT} {w : World} {r : Bool} (ha : a.In p w) (hb : b.In p w) (sa : slim a) (sb : slim b) (hr : moreB a b = r) : Calls Try.prog 78 #[.agg #[.int .i64 a.kind, .int .i64 a.n, .string a.name, .slice a.at_.1 a.args.length a.at_.2], .agg #[.int .i64 b.kind, .int .i64 b.n, .string b.name, .slice b.at_.1 b.args.length b.at_.2]] w fun e w' => e = .returned (.bool r) ∧ Turned (fun _ => False) w w' := by
  have h := more78 ha hb sa sb
  rw [LT.val_eq a, LT.val_eq b, hr] at h
  exact h
theorem alikeVal {p : Nat → Prop} {a b : LT} {w : World} {r : Bool} (ha : a.In p w) (hb : b.In p w) (sa : slim a) (sb : slim b) (hr : alikeB a b = r) : Calls Try.prog 72 #[.agg #[.int .i64 a.kind, .int .i64 a.n, .string a.name, .slice a.at_.1 a.args.length a.at_.2], .agg #[.int .i64 b.kind, .int .i64 b.n, .string b.name, .slice b.at_.1 b.args.length b.at_.2]] w fun e w' => e = .returned (.bool r) ∧ Turned (fun _ => False) w w' := by
  have h := alike72 ha hb sa sb
  rw [LT.val_eq a, LT.val_eq b, hr] at h
  exact h
theorem groundVal {p : Nat → Prop} {t : LT} {w : World} {r : Bool} (ht : t.In p w) (hs : slim t) (hr : (goodB t && decide (t.vars = [])) = r) : Calls Try.prog 73 #[.agg #[.int .i64 t.kind, .int .i64 t.n, .string t.name, .slice t.at_.1 t.args.length t.at_.2]] w fun e w' => e = .returned (.bool r) ∧ Turned (fun _ => False) w w' := by
  have h := ground73 ht hs
  rw [LT.val_eq, hr] at h
  exact h
theorem deepVal (k : Nat) (t : LT) (W : World) (n : Int) (hn : n = (k : Int)) (hk : k ≤ 1000) (h : t.In (fun _ => True) W) : Calls Try.prog 70 #[.agg #[.int .i64 t.kind, .int .i64 t.n, .string t.name, .slice t.at_.1 t.args.length t.at_.2], .int .i64 n] W fun e w' => e = .returned (.bool (deepB k t)) ∧ Turned (fun _ => False) W w' := by
  subst hn
  have := deep70 (fun _ => True) k t W hk h
  rw [LT.val_eq] at this
  exact this
def Aw13 (wz : World) : List Value → World → Prop
  | [], W => Turned (fun _ => False) wz W
  | [v], W => Turned (fun _ => False) wz W ∧ ∃ g : Nat, v = .slice (some ⟨g, 0, none⟩) 3 3 ∧ LT.Sl (fun _ => True) W (some ⟨g, 0, none⟩) 3 [leaf 0 0 ByteArray.empty, leaf 0 1 ByteArray.empty, leaf 0 0 ByteArray.empty]
  | [_, v], W => Turned (fun _ => False) wz W ∧ ∃ u : LT, v = u.val ∧ u.bare = pT ∧ u.In (fun _ => True) W
  | _, _ => False
theorem Aw13.turned {wz : World} : ∀ (hs : List Value) (W : World), Aw13 wz hs W → Turned (fun _ => False) wz W
  | [], _, h => h
  | [_], _, h => h.1
  | [_, _], _, h => h.1
  | _ :: _ :: _ :: _, _, h => h.elim
theorem Aw13.turned0 {wz : World} : ∀ (hs : List Value) (w w' : World), Aw13 wz hs w → Turned (fun _ => False) w w' → Aw13 wz hs w'
  | [], _, _, h, ht => Turned.trans h ht
  | [_], _, _, h, ht => by obtain ⟨h1, g, h2, h3⟩ := h; exact ⟨h1.trans ht, g, h2, h3.turned0 ht⟩
  | [_, _], _, _, h, ht => by obtain ⟨h1, u, h2, h3, h4⟩ := h; exact ⟨h1.trans ht, u, h2, h3, h4.turned0 ht⟩
  | _ :: _ :: _ :: _, _, _, h, _ => h.elim
theorem Aw13.at1 {wz W : World} {hs : List Value} (h : Aw13 wz hs W) {v : Value} (hv : hs[1]? = some v) : ∃ u : LT, v = u.val ∧ u.bare = pT ∧ u.In (fun _ => True) W := by
  match hs, h, hv with
  | [_, _], h, hv => simp at hv; subst hv; exact h.2
set_option maxRecDepth 100000 in
set_option maxHeartbeats 3200000 in
theorem awake69 (w : World) : Calls Try.prog 69 #[] w fun e w' => e = .returned (.bool true) ∧ Turned (fun _ => False) w w' := by
  go_enter Try.func69, Try.ntmps69
  go_wp2_with (first
    | (go_at_call 81; refine (plainGood (t := .mk 2 0 ⟨#[102]⟩ (a4, c4) [leaf 0 7 ByteArray.empty, leaf 0 3 ByteArray.empty, leaf 0 7 ByteArray.empty]) i4 (by kernel_rfl)).mono ?_; rintro e W5 ⟨u, rfl, hub, hui, T5⟩)
    | (go_at_call 37; have := T3; refine (compV ⟨#[102]⟩ (by unfold maxLen; decide) 3 (by decide) rfl (sl_made (l := [leaf 0 7 ByteArray.empty, leaf 0 3 ByteArray.empty, leaf 0 7 ByteArray.empty]) ⟨i1.turned0 (T2.trans T3), i2.turned0 T3, i3, trivial⟩ 3 (by decide) rfl _ rfl)).mono ?_; rintro e W4 ⟨a4, c4, rfl, i4, T4⟩)
    | (go_at_call 62; have := T2; refine (varV 7 (i64_lit _ (by omega)) _).mono ?_; rintro e W3 ⟨rfl, i3, T3⟩)
    | (go_at_call 62; have := T1; refine (varV 3 (i64_lit _ (by omega)) _).mono ?_; rintro e W2 ⟨rfl, i2, T2⟩)
    | (go_at_call 62; refine (varV 7 (i64_lit _ (by omega)) _).mono ?_; rintro e W1 ⟨rfl, i1, T1⟩))
  have hup : u.bare = pT := hub.trans (by kernel_rfl)
  have TZ : Turned (fun _ => False) w (W5.alloc (.cells #[.int .i64 u.kind, .int .i64 u.n, .string u.name, .slice u.at_.1 u.args.length u.at_.2] 27)) := (T1.trans (T2.trans (T3.trans (((Turned.refl _ W3).alloc _).trans (T4.trans T5))))).alloc _
  obtain ⟨d0, d1, d2, d3, _⟩ := boxAt (Turned.refl (fun _ => False) (W5.alloc (.cells #[.int .i64 u.kind, .int .i64 u.n, .string u.name, .slice u.at_.1 u.args.length u.at_.2] 27)))
  have hu2 := hui.turned0 ((Turned.refl (fun _ => False) W5).alloc (.cells #[.int .i64 u.kind, .int .i64 u.n, .string u.name, .slice u.at_.1 u.args.length u.at_.2] 27))
  have HTB := And.intro (Lib.hid TZ) (And.intro d0 (And.intro d1 (And.intro d2 (And.intro d3 (Lib.hid hu2)))))
  have HUP := Lib.hid hup
  clear hup TZ d0 d1 d2 d3 hu2 hui hub T1 T2 T3 T4 T5 i1 i2 i3 i4
  revert HTB
  generalize W5.alloc (.cells #[.int .i64 u.kind, .int .i64 u.n, .string u.name, .slice u.at_.1 u.args.length u.at_.2] 27) = wz
  generalize W5.heap.size = B1
  intro HTB
  obtain ⟨HTZ, d0, d1, d2, d3, HU⟩ := HTB
  obtain ⟨B13, HB13⟩ : ∃ B, Hid (B = ((0 : Int) == 0)) := ⟨_, rfl⟩
  obtain ⟨B22, HB22⟩ : ∃ B, Hid (B = (B13 && true)) := ⟨_, rfl⟩
  obtain ⟨B26, HB26⟩ : ∃ B, Hid (B = (B22 && true)) := ⟨_, rfl⟩
  have hB13 : B13 = true := by rw [HB13.out]; rfl
  have hB26 : B26 = true := by rw [HB26.out, HB22.out, hB13]; rfl
  refine wp_region_hsW [12, 13, 14, 15, 16, 17, 18, 19, 20, 21, 22, 23, 24, 25, 26, 0] [7, 8] [0, 0, 0, 2, 0, 0, 0, 1, 2, 2, 2, 2, 2, 2, 2, 2] [19, 20] (fun d v => (match d with | 12 => v = .int .i64 0 | 13 => v = .bool B13 | 14 => v = .bool B13 | 15 => v = bif (true && (B13 == true)) then .agg #[.int .i64 u.kind, .int .i64 u.n, .string u.name, .slice u.at_.1 u.args.length u.at_.2] else undef | 16 => v = bif (true && (B13 == true)) then .agg #[.int .i64 0, .int .i64 0, .string ByteArray.empty, .slice none 0 0] else undef | 17 => v = bif (true && (B13 == true)) then .agg #[.int .i64 0, .int .i64 1, .string ByteArray.empty, .slice none 0 0] else undef | 18 => v = bif (true && (B13 == true)) then .agg #[.int .i64 0, .int .i64 0, .string ByteArray.empty, .slice none 0 0] else undef | 21 => v = bif (true && (B13 == true)) then .bool true else undef | 22 => v = .bool B22 | 23 => v = .bool B22 | 24 => v = bif (true && (B22 == true)) then .agg #[.int .i64 1, .int .i64 1, .string ByteArray.empty, .slice none 0 0] else undef | 25 => v = bif (true && (B22 == true)) then .bool true else undef | 26 => v = .bool B26 | 0 => v = .bool B26 | _ => True : Prop)) (Aw13 wz) (by kernel_rfl) rfl (by kernel_rfl) (by kernel_rfl) (by kernel_rfl) (by kernel_rfl) (fun _ h => h) (fun hs w w' h ht => Aw13.turned0 hs w w' h ht) ?hs ?hQ
  case hs =>
    refine ⟨?s0, ?s1, ?s2, ?s3, ?s4, ?s5, ?s6, ?s7, ?s8, ?s9, ?s10, ?s11, ?s12, ?s13, ?s14, ?s15, trivial⟩
    case s0 =>
      refine fun hs hle => stepG_free [] [2] (by kernel_rfl) rfl ?_
      · intro ac W hT hI hO
        have hle : hs.length ≤ 0 := hle
        have h2 : ac.tmps.getD 2 undef = .int .i64 0 := hO 2 (by simp)
        show Brings Try.prog (fun v w' => Turned (fun _ => False) W w' ∧ v = .int .i64 0) _
        simp only [execOp, Act.eval, h2]
        go_simp
        try exact ⟨Turned.refl _ _, rfl⟩
    case s1 =>
      refine fun hs hle => stepG_free [12] [] (by kernel_rfl) rfl ?_
      · intro ac W hT hI hO
        have hle : hs.length ≤ 0 := hle
        have h12 : ac.tmps.getD 12 undef = .int .i64 0 := hI 12 (by simp)
        show Brings Try.prog (fun v w' => Turned (fun _ => False) W w' ∧ v = .bool B13) _
        rw [HB13.out]
        simp only [execOp, Act.eval, h12]
        go_simp
        try exact ⟨Turned.refl _ _, rfl⟩
    case s2 =>
      refine fun hs hle => stepG_free [13] [] (by kernel_rfl) rfl ?_
      · intro ac W hT hI hO
        have hle : hs.length ≤ 0 := hle
        have h13 : ac.tmps.getD 13 undef = .bool B13 := hI 13 (by simp)
        show Brings Try.prog (fun v w' => Turned (fun _ => False) W w' ∧ v = .bool B13) _
        simp only [execOp, Act.eval, h13]
        go_simp
        try exact ⟨Turned.refl _ _, rfl⟩
    case s3 =>
      refine fun hs hle => stepG_guard [14] [1] (by kernel_rfl) 2 true 14 rfl rfl (by simp) true B13 (fun _ _ h => h) (fun hc => ?_) (fun hc _ _ => ?_)
      rotate_left
      · refine ⟨Turned.refl _ _, ?_⟩
        show undef = bif (true && (B13 == true)) then _ else undef
        rw [hc]; rfl
      · intro ac W hT hI hO
        have hle : hs.length ≤ 2 := hle
        have h14 : ac.tmps.getD 14 undef = .bool B13 := hI 14 (by simp)
        have h1 : ac.tmps.getD 1 undef = .pointer (some ⟨B1, 0, none⟩) := hO 1 (by simp)
        show Brings Try.prog (fun v w' => Turned (fun _ => False) W w' ∧ v = bif (true && (B13 == true)) then .agg #[.int .i64 u.kind, .int .i64 u.n, .string u.name, .slice u.at_.1 u.args.length u.at_.2] else undef) _
        rw [hc, cond_true]
        have Tq := Aw13.turned hs W hT; have d0 := Tq.cell0 d0; have d1 := Tq.cell0 d1; have d2 := Tq.cell0 d2; have d3 := Tq.cell0 d3
        simp only [execOp, Act.eval, h14, h1]
        go_simp
        exact ⟨Turned.refl _ _, rfl⟩
    case s4 =>
      refine fun hs hle => stepG_guard [14] [] (by kernel_rfl) 2 true 14 rfl rfl (by simp) true B13 (fun _ _ h => h) (fun hc => ?_) (fun hc _ _ => ?_)
      rotate_left
      · refine ⟨Turned.refl _ _, ?_⟩
        show undef = bif (true && (B13 == true)) then _ else undef
        rw [hc]; rfl
      · intro ac W hT hI hO
        have hle : hs.length ≤ 0 := hle
        have h14 : ac.tmps.getD 14 undef = .bool B13 := hI 14 (by simp)
        show Brings Try.prog (fun v w' => Turned (fun _ => False) W w' ∧ v = bif (true && (B13 == true)) then .agg #[.int .i64 0, .int .i64 0, .string ByteArray.empty, .slice none 0 0] else undef) _
        rw [hc, cond_true]
        simp only [execOp, Act.eval, h14]
        go_simp
        show Calls Try.prog 62 _ W _
        refine (varV 0 (i64_lit _ (by omega)) W).mono ?_
        rintro e w' ⟨rfl, _, T'⟩
        exact ⟨_, rfl, T', rfl⟩
    case s5 =>
      refine fun hs hle => stepG_guard [14] [] (by kernel_rfl) 2 true 14 rfl rfl (by simp) true B13 (fun _ _ h => h) (fun hc => ?_) (fun hc _ _ => ?_)
      rotate_left
      · refine ⟨Turned.refl _ _, ?_⟩
        show undef = bif (true && (B13 == true)) then _ else undef
        rw [hc]; rfl
      · intro ac W hT hI hO
        have hle : hs.length ≤ 0 := hle
        have h14 : ac.tmps.getD 14 undef = .bool B13 := hI 14 (by simp)
        show Brings Try.prog (fun v w' => Turned (fun _ => False) W w' ∧ v = bif (true && (B13 == true)) then .agg #[.int .i64 0, .int .i64 1, .string ByteArray.empty, .slice none 0 0] else undef) _
        rw [hc, cond_true]
        simp only [execOp, Act.eval, h14]
        go_simp
        show Calls Try.prog 62 _ W _
        refine (varV 1 (i64_lit _ (by omega)) W).mono ?_
        rintro e w' ⟨rfl, _, T'⟩
        exact ⟨_, rfl, T', rfl⟩
    case s6 =>
      refine fun hs hle => stepG_guard [14] [] (by kernel_rfl) 2 true 14 rfl rfl (by simp) true B13 (fun _ _ h => h) (fun hc => ?_) (fun hc _ _ => ?_)
      rotate_left
      · refine ⟨Turned.refl _ _, ?_⟩
        show undef = bif (true && (B13 == true)) then _ else undef
        rw [hc]; rfl
      · intro ac W hT hI hO
        have hle : hs.length ≤ 0 := hle
        have h14 : ac.tmps.getD 14 undef = .bool B13 := hI 14 (by simp)
        show Brings Try.prog (fun v w' => Turned (fun _ => False) W w' ∧ v = bif (true && (B13 == true)) then .agg #[.int .i64 0, .int .i64 0, .string ByteArray.empty, .slice none 0 0] else undef) _
        rw [hc, cond_true]
        simp only [execOp, Act.eval, h14]
        go_simp
        show Calls Try.prog 62 _ W _
        refine (varV 0 (i64_lit _ (by omega)) W).mono ?_
        rintro e w' ⟨rfl, _, T'⟩
        exact ⟨_, rfl, T', rfl⟩
    case s7 =>
      refine fun hs hlen => stepG_guard [16, 17, 18, 14] [] (by kernel_rfl) 2 true 14 rfl rfl (by simp) true B13 (fun _ _ h => h) (fun hc => ?_) (fun hc _ _ => ?_)
      rotate_left
      · exact absurd hc (by rw [hB13]; decide)
      · intro ac W hT hI hO
        have h16 : ac.tmps.getD 16 undef = bif (true && (B13 == true)) then .agg #[.int .i64 0, .int .i64 0, .string ByteArray.empty, .slice none 0 0] else undef := hI 16 (by simp)
        rw [hc, cond_true] at h16
        have h17 : ac.tmps.getD 17 undef = bif (true && (B13 == true)) then .agg #[.int .i64 0, .int .i64 1, .string ByteArray.empty, .slice none 0 0] else undef := hI 17 (by simp)
        rw [hc, cond_true] at h17
        have h18 : ac.tmps.getD 18 undef = bif (true && (B13 == true)) then .agg #[.int .i64 0, .int .i64 0, .string ByteArray.empty, .slice none 0 0] else undef := hI 18 (by simp)
        rw [hc, cond_true] at h18
        have h14 : ac.tmps.getD 14 undef = .bool B13 := hI 14 (by simp)
        show Brings Try.prog (fun v w' => Aw13 wz (hs ++ [v]) w') _
        obtain rfl : hs = [] := List.eq_nil_of_length_eq_zero hlen
        replace hT : Turned (fun _ => False) wz W := hT
        have h16' : ac.tmps[16]?.getD undef = .agg #[.int .i64 0, .int .i64 0, .string ByteArray.empty, .slice none 0 0] := by rw [← Array.getD_eq_getD_getElem?]; exact h16
        have h17' : ac.tmps[17]?.getD undef = .agg #[.int .i64 0, .int .i64 1, .string ByteArray.empty, .slice none 0 0] := by rw [← Array.getD_eq_getD_getElem?]; exact h17
        have h18' : ac.tmps[18]?.getD undef = .agg #[.int .i64 0, .int .i64 0, .string ByteArray.empty, .slice none 0 0] := by rw [← Array.getD_eq_getD_getElem?]; exact h18
        simp only [execOp, Act.eval, h16, h17, h18, h14]
        go_simp
        refine ⟨hT.alloc _, W.heap.size, rfl, ?_⟩
        have li : ∀ n : Int, (-10 ≤ n ∧ n ≤ 10) → (leaf 0 n ByteArray.empty).In (fun _ => True) W := fun n hn => leafIn' (i64_lit _ (by omega)) (i64_lit _ (by omega)) (by unfold maxLen; decide)
        exact sl_made (w := W) (l := [leaf 0 0 ByteArray.empty, leaf 0 1 ByteArray.empty, leaf 0 0 ByteArray.empty]) ⟨li _ (by omega), li _ (by omega), li _ (by omega), trivial⟩ 3 (by decide) rfl _ rfl
    case s8 =>
      refine fun hs hlen => stepG_guard [19, 14] [] (by kernel_rfl) 2 true 14 rfl rfl (by simp) true B13 (fun _ _ h => h) (fun hc => ?_) (fun hc _ _ => ?_)
      rotate_left
      · exact absurd hc (by rw [hB13]; decide)
      · intro ac W hT hI hO
        have h19 : hs[0]? = some (ac.tmps.getD 19 undef) := hI 19 (by simp)
        have h14 : ac.tmps.getD 14 undef = .bool B13 := hI 14 (by simp)
        show Brings Try.prog (fun v w' => Aw13 wz (hs ++ [v]) w') _
        obtain ⟨v0, rfl⟩ := List.length_eq_one_iff.1 hlen
        obtain ⟨hT1, g, rfl, hsl⟩ := hT
        replace h19 : ac.tmps.getD 19 undef = .slice (some ⟨g, 0, none⟩) 3 3 := by simpa using h19.symm
        simp only [execOp, Act.eval, h19]
        go_simp
        show Calls Try.prog 37 _ W _
        refine (compV ⟨#[102]⟩ (by unfold maxLen; decide) 3 (by decide) rfl hsl).mono ?_
        rintro e w' ⟨a', c', rfl, hi, T'⟩
        exact ⟨_, rfl, hT1.trans T', .mk 2 0 ⟨#[102]⟩ (a', c') [leaf 0 0 ByteArray.empty, leaf 0 1 ByteArray.empty, leaf 0 0 ByteArray.empty], rfl, rfl, hi⟩
    case s9 =>
      refine fun hs hle => stepG_guard [15, 20, 14] [] (by kernel_rfl) 2 true 14 rfl rfl (by simp) true B13 (fun _ _ h => h) (fun hc => ?_) (fun hc _ _ => ?_)
      rotate_left
      · refine ⟨Turned.refl _ _, ?_⟩
        show undef = bif (true && (B13 == true)) then _ else undef
        rw [hc]; rfl
      · intro ac W hT hI hO
        have hle : hs.length ≤ 2 := hle
        have h15 : ac.tmps.getD 15 undef = bif (true && (B13 == true)) then .agg #[.int .i64 u.kind, .int .i64 u.n, .string u.name, .slice u.at_.1 u.args.length u.at_.2] else undef := hI 15 (by simp)
        rw [hc, cond_true] at h15
        have h20 : hs[1]? = some (ac.tmps.getD 20 undef) := hI 20 (by simp)
        have h14 : ac.tmps.getD 14 undef = .bool B13 := hI 14 (by simp)
        show Brings Try.prog (fun v w' => Turned (fun _ => False) W w' ∧ v = bif (true && (B13 == true)) then .bool true else undef) _
        rw [hc, cond_true]
        obtain ⟨z, ez, hzb, hzi⟩ := Aw13.at1 hT h20
        rw [LT.val_eq] at ez
        have Tq := Aw13.turned hs W hT
        have hgu : goodB u = true := by rw [← goodB_bare, HUP.out]; exact pT_good
        have hgz : goodB z = true := by rw [← goodB_bare, hzb]; exact pT_good
        have hsv := sameVal' (r := true) (HU.out.turned0 Tq) hzi (good_slim hgu) (good_slim hgz) (sameB_of (HUP.out.trans hzb.symm) hgu)
        simp only [execOp, Act.eval, ez, h15]
        go_simp
        show Calls Try.prog 52 _ W _
        (with_reducible refine hsv.mono ?_)
        rintro e w' ⟨rfl, T'⟩
        exact ⟨_, rfl, T', rfl⟩
    case s10 =>
      refine fun hs hle => stepG_free [14, 21] [] (by kernel_rfl) rfl ?_
      · intro ac W hT hI hO
        have hle : hs.length ≤ 2 := hle
        have h14 : ac.tmps.getD 14 undef = .bool B13 := hI 14 (by simp)
        have h21 : ac.tmps.getD 21 undef = bif (true && (B13 == true)) then .bool true else undef := hI 21 (by simp)
        show Brings Try.prog (fun v w' => Turned (fun _ => False) W w' ∧ v = .bool B22) _
        rw [HB22.out]
        cases hB : B13
        · simp only [hB] at *
          simp [execOp, Act.eval, go_sem, Brings, h14, h21]
          try exact Turned.refl _ _
        · simp only [hB] at *
          simp [execOp, Act.eval, go_sem, Brings, h14, h21]
          try exact Turned.refl _ _
    case s11 =>
      refine fun hs hle => stepG_free [22] [] (by kernel_rfl) rfl ?_
      · intro ac W hT hI hO
        have hle : hs.length ≤ 2 := hle
        have h22 : ac.tmps.getD 22 undef = .bool B22 := hI 22 (by simp)
        show Brings Try.prog (fun v w' => Turned (fun _ => False) W w' ∧ v = .bool B22) _
        simp only [execOp, Act.eval, h22]
        go_simp
        try exact ⟨Turned.refl _ _, rfl⟩
    case s12 =>
      refine fun hs hle => stepG_guard [23] [] (by kernel_rfl) 11 true 23 rfl rfl (by simp) true B22 (fun _ _ h => h) (fun hc => ?_) (fun hc _ _ => ?_)
      rotate_left
      · refine ⟨Turned.refl _ _, ?_⟩
        show undef = bif (true && (B22 == true)) then _ else undef
        rw [hc]; rfl
      · intro ac W hT hI hO
        have hle : hs.length ≤ 2 := hle
        have h23 : ac.tmps.getD 23 undef = .bool B22 := hI 23 (by simp)
        show Brings Try.prog (fun v w' => Turned (fun _ => False) W w' ∧ v = bif (true && (B22 == true)) then .agg #[.int .i64 1, .int .i64 1, .string ByteArray.empty, .slice none 0 0] else undef) _
        rw [hc, cond_true]
        simp only [execOp, Act.eval, h23]
        go_simp
        show Calls Try.prog 61 _ W _
        refine (intV 1 (i64_lit _ (by omega)) W).mono ?_
        rintro e w' ⟨rfl, _, T'⟩
        exact ⟨_, rfl, T', rfl⟩
    case s13 =>
      refine fun hs hle => stepG_guard [24, 23] [] (by kernel_rfl) 11 true 23 rfl rfl (by simp) true B22 (fun _ _ h => h) (fun hc => ?_) (fun hc _ _ => ?_)
      rotate_left
      · refine ⟨Turned.refl _ _, ?_⟩
        show undef = bif (true && (B22 == true)) then _ else undef
        rw [hc]; rfl
      · intro ac W hT hI hO
        have hle : hs.length ≤ 2 := hle
        have h24 : ac.tmps.getD 24 undef = bif (true && (B22 == true)) then .agg #[.int .i64 1, .int .i64 1, .string ByteArray.empty, .slice none 0 0] else undef := hI 24 (by simp)
        rw [hc, cond_true] at h24
        have h23 : ac.tmps.getD 23 undef = .bool B22 := hI 23 (by simp)
        show Brings Try.prog (fun v w' => Turned (fun _ => False) W w' ∧ v = bif (true && (B22 == true)) then .bool true else undef) _
        rw [hc, cond_true]
        have hgr : Calls Try.prog 73 #[.agg #[.int .i64 1, .int .i64 1, .string ByteArray.empty, .slice none 0 0]] W fun e w' => e = .returned (.bool true) ∧ Turned (fun _ => False) W w' := groundVal (p := fun _ => True) (t := leaf 1 1 ByteArray.empty) (leafIn' (i64_lit _ (by omega)) (i64_lit _ (by omega)) (by unfold maxLen; decide)) (leafSlim' _ _ _) (by kernel_rfl)
        simp only [execOp, Act.eval, h24, h23]
        go_simp
        show Calls Try.prog 73 _ W _
        (with_reducible refine hgr.mono ?_)
        rintro e w' ⟨rfl, T'⟩
        exact ⟨_, rfl, T', rfl⟩
    case s14 =>
      refine fun hs hle => stepG_free [23, 25] [] (by kernel_rfl) rfl ?_
      · intro ac W hT hI hO
        have hle : hs.length ≤ 2 := hle
        have h23 : ac.tmps.getD 23 undef = .bool B22 := hI 23 (by simp)
        have h25 : ac.tmps.getD 25 undef = bif (true && (B22 == true)) then .bool true else undef := hI 25 (by simp)
        show Brings Try.prog (fun v w' => Turned (fun _ => False) W w' ∧ v = .bool B26) _
        rw [HB26.out]
        cases hB : B22
        · simp only [hB] at *
          simp [execOp, Act.eval, go_sem, Brings, h23, h25]
          try exact Turned.refl _ _
        · simp only [hB] at *
          simp [execOp, Act.eval, go_sem, Brings, h23, h25]
          try exact Turned.refl _ _
    case s15 =>
      refine fun hs hle => stepG_free [26] [] (by kernel_rfl) rfl ?_
      · intro ac W hT hI hO
        have hle : hs.length ≤ 2 := hle
        have h26 : ac.tmps.getD 26 undef = .bool B26 := hI 26 (by simp)
        show Brings Try.prog (fun v w' => Turned (fun _ => False) W w' ∧ v = .bool B26) _
        simp only [execOp, Act.eval, h26]
        go_simp
        try exact ⟨Turned.refl _ _, rfl⟩
  case hQ =>
    intro hs vq w9 hlen hR hV
    have q0 : vq 0 = .bool B26 := hV 0 (by simp)
    rw [hB26] at q0
    have T9 := Aw13.turned hs w9 hR
    simp only [List.foldl_cons, List.foldl_nil, List.setIfInBounds_toArray, List.set_cons_zero, List.set_cons_succ, q0]
    clear hV q0 hlen hR hs
    go_wp2_with fail
    go_ret
    exact ⟨rfl, HTZ.out.trans T9⟩
end Go.Proofs.Ytoihjobdfjajfaa

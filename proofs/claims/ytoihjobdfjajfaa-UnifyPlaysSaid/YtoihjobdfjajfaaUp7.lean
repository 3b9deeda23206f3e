/- Merged texts: UP1. -/
import Derived.Test.YtoihjobdfjajfaaUp6
namespace Go.Proofs.Ytoihjobdfjajfaa
open Go.RowKit Go.Maps
set_option linter.unusedVariables false
set_option linter.unusedSimpArgs false
theorem deepV26 (k : Nat) (t : LT) (W : World) (n : Int) (hn : n = (k : Int)) (hk : k ≤ 1000) {p : Nat → Prop} (h : t.In p W) : Calls Try.prog 113 #[.agg #[.int .i64 t.kind, .int .i64 t.n, .string t.name, .slice t.at_.1 t.args.length t.at_.2], .int .i64 n] W fun e w' => e = .returned (.bool (deepB k t)) ∧ Turned (fun _ => False) W w' := by
  subst hn
  have := deep113 p k t W hk h
  rw [LT.val_eq] at this
  exact this
theorem own26 {u : LT} {w : World} (hu : u.In (fun _ => True) w) (hs : slim u) : Calls Try.prog 114 #[.agg #[.int .i64 u.kind, .int .i64 u.n, .string u.name, .slice u.at_.1 u.args.length u.at_.2]] w fun e w' => ∃ o : LT, e = .returned (.agg #[.int .i64 o.kind, .int .i64 o.n, .string o.name, .slice o.at_.1 o.args.length o.at_.2]) ∧ o.bare = u.bare ∧ o.In (fun k => w.heap.size ≤ k) w' ∧ Turned (fun _ => False) w w' := by
  have := own114 u.depth u w (Nat.le_refl _) hu hs
  rw [LT.val_eq] at this
  refine this.mono ?_
  rintro e w' ⟨o, rfl, h1, h2, h3⟩
  exact ⟨o, by rw [LT.val_eq], h1, h2, h3⟩
theorem couldP112 {u q : LT} {w : World} (hu : u.In (fun _ => True) w) (hq : q.In (fun _ => True) w) (hs : slim u) (hs' : slim q) {b : Bool} (h : couldB u.bare q.bare = b) :
    Calls Try.prog 112 #[.agg #[.int .i64 u.kind, .int .i64 u.n, .string u.name, .slice u.at_.1 u.args.length u.at_.2], .agg #[.int .i64 q.kind, .int .i64 q.n, .string q.name, .slice q.at_.1 q.args.length q.at_.2]] w fun e w' => e = .returned (.bool b) ∧ Turned (fun _ => False) w w' := by
  have := could112 hu hs hq hs'
  rw [LT.val_eq, LT.val_eq, h] at this
  exact this
theorem couldP119 {u q : LT} {w : World} (hu : u.In (fun _ => True) w) (hq : q.In (fun _ => True) w) {b : Bool} (h : couldB u.bare q.bare = b) :
    Calls Try.prog 119 #[.agg #[.int .i64 u.kind, .int .i64 u.n, .string u.name, .slice u.at_.1 u.args.length u.at_.2], .agg #[.int .i64 q.kind, .int .i64 q.n, .string q.name, .slice q.at_.1 q.args.length q.at_.2]] w fun e w' => e = .returned (.bool b) ∧ Turned (fun _ => False) w w' := by
  have := could119 hu hq
  rw [h] at this
  exact this
def OneC (V : Value) (Q : World → Prop) (w0 : World) : List Value → World → Prop
  | [], W => Turned (fun _ => False) w0 W
  | [a], W => a = V ∧ Q W
  | _, _ => False
def OwnX (b : Tm Unit) (w0 : World) (a : Value) (W : World) : Prop := ∃ X : LT, a = .agg #[.int .i64 X.kind, .int .i64 X.n, .string X.name, .slice X.at_.1 X.args.length X.at_.2] ∧ X.In (fun k => w0.heap.size ≤ k) W ∧ X.bare = b
def ThreeC (xb yb : Tm Unit) (V : Value) (Q : World → Prop) (w0 : World) : List Value → World → Prop
  | [], W => Turned (fun _ => False) w0 W
  | [a], W => Turned (fun _ => False) w0 W ∧ OwnX xb w0 a W
  | [a, b], W => Turned (fun _ => False) w0 W ∧ OwnX xb w0 a W ∧ OwnX yb w0 b W
  | [_, _, c], W => c = V ∧ Q W
  | _, _ => False
section
variable {V : Value} {Q : World → Prop} {w0 : World} {xb yb : Tm Unit}
theorem OwnX.turned0 {a : Value} {W W' : World} (h : OwnX xb w0 a W) (T : Turned (fun _ => False) W W') : OwnX xb w0 a W' := by
  obtain ⟨X, h1, h2, h3⟩ := h
  exact ⟨X, h1, h2.turned0 T, h3⟩
theorem OneC.turned0 (hQ : ∀ W W', Q W → Turned (fun _ => False) W W' → Q W') : ∀ (hs : List Value) (w w' : World), OneC V Q w0 hs w → Turned (fun _ => False) w w' → OneC V Q w0 hs w'
  | [], _, _, h, T => Turned.trans h T
  | [_], _, _, h, T => ⟨h.1, hQ _ _ h.2 T⟩
  | _ :: _ :: _, _, _, h, _ => h.elim
theorem OneC.early : ∀ (hs : List Value) (W : World), hs.length ≤ 0 → OneC V Q w0 hs W → Turned (fun _ => False) w0 W
  | [], _, _, h => h
theorem OneC.val : ∀ (hs : List Value) (W : World) {x : Value}, OneC V Q w0 hs W → hs[0]? = some x → x = V
  | [], _, _, _, e => by simp at e
  | [_], _, _, h, e => by simp at e; rw [← e]; exact h.1
  | _ :: _ :: _, _, _, h, _ => h.elim
theorem ThreeC.turned0 (hQ : ∀ W W', Q W → Turned (fun _ => False) W W' → Q W') : ∀ (hs : List Value) (w w' : World), ThreeC xb yb V Q w0 hs w → Turned (fun _ => False) w w' → ThreeC xb yb V Q w0 hs w'
  | [], _, _, h, T => Turned.trans h T
  | [_], _, _, h, T => ⟨h.1.trans T, h.2.turned0 T⟩
  | [_, _], _, _, h, T => ⟨h.1.trans T, h.2.1.turned0 T, h.2.2.turned0 T⟩
  | [_, _, _], _, _, h, T => ⟨h.1, hQ _ _ h.2 T⟩
  | _ :: _ :: _ :: _ :: _, _, _, h, _ => h.elim
theorem ThreeC.early : ∀ (hs : List Value) (W : World), hs.length ≤ 2 → ThreeC xb yb V Q w0 hs W → Turned (fun _ => False) w0 W
  | [], _, _, h => h
  | [_], _, _, h => h.1
  | [_, _], _, _, h => h.1
theorem ThreeC.val : ∀ (hs : List Value) (W : World) {x : Value}, ThreeC xb yb V Q w0 hs W → hs[2]? = some x → x = V
  | [], _, _, _, e => by simp at e
  | [_], _, _, _, e => by simp at e
  | [_, _], _, _, _, e => by simp at e
  | [_, _, _], _, _, h, e => by simp at e; rw [← e]; exact h.1
  | _ :: _ :: _ :: _ :: _, _, _, h, _ => h.elim
end
def UPQ (N bb wb : Nat) (lw tr : Tm.Trail) (w1 W : World) : Prop := ∃ (q : Nat → Prop) (l2 : TL), (∀ k, k < N → q k) ∧ bt l2 = tr ∧ BDq q N bb wb 8 8 l2 lw w1 W
theorem UPQ.turned0 {N bb wb : Nat} {lw tr : Tm.Trail} {w1 : World} : ∀ W W' : World, UPQ N bb wb lw tr w1 W → Turned (fun _ => False) W W' → UPQ N bb wb lw tr w1 W'
  | _, _, ⟨q, l2, h1, h2, h3⟩, T => ⟨q, l2, h1, h2, h3.turned0 T⟩
def UPL (N bb wb n : Nat) (w1 : World) (k : Nat) (i : Value) (wr : World) : Prop :=
  ∃ (j : Nat) (tr : Tm.Trail), Hid (j + k = n) ∧ j ≤ n ∧ i = .int .i64 (j : Int) ∧ Hid (UPQ N bb wb tr tr w1 wr)
theorem both8 (w : World) : Calls Try.prog 109 #[.int .i64 8] w fun e w' => ∃ bb wb, e = .returned (.tuple #[.pointer (some ⟨bb, 0, none⟩), .pointer (some ⟨wb, 0, none⟩)]) ∧ UPQ w.heap.size bb wb [] [] w w' := by
  refine (both109 8 (by omega) w).mono ?_
  rintro e w' ⟨bb, wb, rfl, hB⟩
  exact ⟨bb, wb, rfl, fun k => k < w.heap.size, [], fun _ h => h, rfl, hB⟩
theorem alk26 {N bb wb : Nat} {tr : Tm.Trail} {w1 W : World} (h : UPQ N bb wb tr tr w1 W) : Calls Try.prog 118 #[.pointer (some ⟨bb, 0, none⟩), .pointer (some ⟨wb, 0, none⟩), .int .i64 8] W fun e w' => e = .returned (.bool true) ∧ Turned (fun _ => False) W w' := by
  obtain ⟨q, l2, g1, rfl, O, D, b1, b2, b3, b4⟩ := h
  exact alike118 b1 8 (by omega)
set_option maxRecDepth 100000 in
set_option maxHeartbeats 25600000 in
theorem unifyPlays {w : World} {a : Option Addr} {c : Nat} {l : List PairT} (hl : PASl w a c l) : Calls Try.prog 26 #[.slice a l.length c] w fun e w' => e = .returned (.bool true) ∧ Turned (fun _ => False) w w' := by
  have hmax := hl.max
  have hcap := hl.cap
  have HL := Lib.hid hl
  clear hl
  by_cases h20 : 20 < l.length
  · have d20 : decide (20 < (l.length : Int)) = true := decide_eq_true (by omega)
    go_enter Try.func26, Try.ntmps26
    go_wp2_with (go_at_call 108; refine (awake108 _).mono ?_; rintro e w1 ⟨rfl, T1⟩)
    go_ret
    exact ⟨rfl, T1⟩
  have d20 : decide (20 < (l.length : Int)) = false := decide_eq_false (by omega)
  go_enter Try.func26, Try.ntmps26
  go_wp2_with (first
    | (go_at_call 109; have HT1 := HT1; (with_reducible refine (both8 w1).mono ?_); rintro e w2 ⟨bb, wb, rfl, hB⟩; have HB := Lib.hid hB; clear hB)
    | (go_at_call 108; refine (awake108 _).mono ?_; rintro e w1 ⟨rfl, T1⟩; have HT1 := Lib.hid T1; clear T1))
  go_loopg [5] l.length (fun k i wr => UPL w1.heap.size bb wb l.length w1 k i wr)
  case atStart => exact ⟨0, [], Nat.zero_add _, Nat.zero_le _, rfl, HB⟩
  case round =>
    obtain ⟨j, tr0, HG, hj, rfl, HQ0⟩ := hrel
    have hold : Turned (fun _ => False) w1 wr := by obtain ⟨q, l2, _, _, h3⟩ := HQ0.out; exact h3.old
    have HOLD := Lib.hid hold
    clear hold
    by_cases hjl : j < l.length
    · have dj : decide ((j : Int) < (l.length : Int)) = true := decide_eq_true (by omega)
      obtain ⟨⟨x, y⟩, hx⟩ : ∃ z : PairT, l[j]? = some z := ⟨_, List.getElem?_eq_getElem hjl⟩
      have hx1 := (HL.out.turned0 HT1.out).wf _ (List.mem_of_getElem? hx)
      simp only [] at hx1
      have hat1 := fun W (T : Turned (fun _ => False) w1 W) => ((HL.out.turned0 HT1.out).turned0 T)
      have HXO : Hid (∀ W, Turned (fun _ => False) w1 W → (x.In (fun k => k < w1.heap.size) W ∧ y.In (fun k => k < w1.heap.size) W)) := Lib.hid (fun W T => ⟨(hx1.1.mono (q := fun k => k < w1.heap.size) (fun k hk _ => hk)).turned0 T, (hx1.2.mono (q := fun k => k < w1.heap.size) (fun k hk _ => hk)).turned0 T⟩)
      have hpr := HL.out.turned0 (HT1.out.trans HOLD.out)
      obtain ⟨gb, go, hgo, _⟩ := hpr.lies (by omega)
      subst hgo
      have hat := fun W (T : Turned (fun _ => False) wr W) => (hpr.turned0 T).at hx
      have hatO := fun W (T : Turned (fun _ => False) w1 W) => (hat1 W T).at hx
      have hwf := hpr.wf _ (List.mem_of_getElem? hx)
      simp only [] at hat hwf hatO
      have HATO := Lib.hid hatO
      have HAT := Lib.hid hat
      have HX := Lib.hid hwf.1
      have HY := Lib.hid hwf.2
      clear hpr hat hwf hx hx1 hat1 hatO
      cases dx : deepB 30 x with
      | true =>
        have HDX := Lib.hid dx
        clear dx
        obtain ⟨c0, c1, c2, c3, c4, c5, c6, c7⟩ := HAT.out wr (Turned.refl _ _)
        go_wp2_with (go_at_call 113; (with_reducible refine (deepV26 30 x _ 30 rfl (by omega) HX.out).mono ?_); rintro e W1 ⟨rfl, T1⟩; rw [HDX.out]; have HT2 := Lib.hid T1; clear T1)
        go_ret
        exact ⟨rfl, (HT1.out.trans HOLD.out).trans HT2.out⟩
      | false =>
      have HDX := Lib.hid dx
      have HSX := Lib.hid (deep_slim 30 x dx)
      clear dx
      obtain ⟨c0, c1, c2, c3, c4, c5, c6, c7⟩ := HAT.out wr (Turned.refl _ _)
      cases dy : deepB 30 y with
      | true =>
        have HDY := Lib.hid dy
        clear dy
        go_wp2_with (first
          | (go_at_call 113; have HT2 := HT2; (with_reducible refine (deepV26 30 y _ 30 rfl (by omega) (HY.out.turned0 HT2.out)).mono ?_); rintro e W2 ⟨rfl, T2⟩; rw [HDY.out]; have HT3 := Lib.hid T2; clear T2)
          | (go_at_call 113; (with_reducible refine (deepV26 30 x _ 30 rfl (by omega) HX.out).mono ?_); rintro e W1 ⟨rfl, T1⟩; rw [HDX.out]; have HT2 := Lib.hid T1; obtain ⟨c0, c1, c2, c3, c4, c5, c6, c7⟩ := HAT.out W1 T1; clear T1))
        go_ret
        exact ⟨rfl, ((HT1.out.trans HOLD.out).trans HT2.out).trans HT3.out⟩
      | false =>
      have HDY := Lib.hid dy
      have HSY := Lib.hid (deep_slim 30 y dy)
      clear dy
      go_wp2_with (first
        | (go_at_call 113; have HT2 := HT2; (with_reducible refine (deepV26 30 y _ 30 rfl (by omega) (HY.out.turned0 HT2.out)).mono ?_); rintro e W2 ⟨rfl, T2⟩; rw [HDY.out]; have HT3 := Lib.hid (HT2.out.trans T2); clear T2)
        | (go_at_call 113; (with_reducible refine (deepV26 30 x _ 30 rfl (by omega) HX.out).mono ?_); rintro e W1 ⟨rfl, T1⟩; rw [HDX.out]; have HT2 := Lib.hid T1; obtain ⟨c0, c1, c2, c3, c4, c5, c6, c7⟩ := HAT.out W1 T1; clear T1))
      obtain ⟨R, hR⟩ : ∃ z, z = bothR 8 tr0 x.bare y.bare := ⟨_, rfl⟩
      obtain ⟨r1, r2, r3, tr⟩ := R
      have HR := Lib.hid hR.symm
      have HXw := Lib.hid (HX.out.turned0 HT3.out)
      have HYw := Lib.hid (HY.out.turned0 HT3.out)
      have HQW := Lib.hid (UPQ.turned0 _ _ HQ0.out HT3.out)
      clear hR c0 c1 c2 c3 c4 c5 c6 c7
      refine wp_region_hsW [42, 43, 44, 45, 46, 47, 48, 49, 50, 51, 52, 53, 41, 54, 55, 56, 6, 7, 8] [11] [0, 0, 0, 0, 0, 0, 0, 0, 0, 0, 0, 1, 1, 1, 1, 1, 1, 1, 1] [53] (fun dd vv => (match dd with | 42 => vv = .pointer (some ⟨bb, 0, none⟩) | 43 => vv = .slice (some ⟨gb, go, none⟩) l.length c | 44 => vv = .int .i64 (j : Int) | 45 => vv = .pointer (some ⟨gb, go + j * 8, none⟩) | 46 => vv = .pointer (some ⟨gb, go + j * 8, none⟩) | 47 => vv = .agg #[.int .i64 x.kind, .int .i64 x.n, .string x.name, .slice x.at_.1 x.args.length x.at_.2] | 48 => vv = .slice (some ⟨gb, go, none⟩) l.length c | 49 => vv = .int .i64 (j : Int) | 50 => vv = .pointer (some ⟨gb, go + j * 8, none⟩) | 51 => vv = .pointer (some ⟨gb, go + j * 8 + 4, none⟩) | 52 => vv = .agg #[.int .i64 y.kind, .int .i64 y.n, .string y.name, .slice y.at_.1 y.args.length y.at_.2] | 41 => vv = .tuple #[.bool r1, .int .i64 r2, .int .i64 r3] | 54 => vv = .bool r1 | 55 => vv = .int .i64 r2 | 56 => vv = .int .i64 r3 | 6 => vv = .bool r1 | 7 => vv = .int .i64 r2 | 8 => vv = .int .i64 r3 | _ => True : Prop)) (OneC (.tuple #[.bool r1, .int .i64 r2, .int .i64 r3]) (UPQ w1.heap.size bb wb tr0 tr w1) W2) (by kernel_rfl) rfl (by kernel_rfl) (by kernel_rfl) (by kernel_rfl) (by kernel_rfl) (fun w h => h) (fun hs w w' h T => OneC.turned0 UPQ.turned0 hs w w' h T) ?hs ?hQ
      case hs =>
        refine ⟨?s0, ?s1, ?s2, ?s3, ?s4, ?s5, ?s6, ?s7, ?s8, ?s9, ?s10, ?s11, ?s12, ?s13, ?s14, ?s15, ?s16, ?s17, ?s18, trivial⟩
        case s0 =>
          refine fun hs hle => stepG_free [] [3] (by kernel_rfl) rfl ?_
          intro ac W hT hI hO
          have hle : hs.length ≤ 0 := hle
          have h3 : ac.tmps.getD 3 undef = .pointer (some ⟨bb, 0, none⟩) := hO 3 (by simp)
          show Brings Try.prog (fun vv w' => Turned (fun _ => False) W w' ∧ vv = .pointer (some ⟨bb, 0, none⟩)) _
          simp only [execOp, Act.eval, h3]
          go_simp
          try exact ⟨Turned.refl _ _, rfl⟩
        case s1 =>
          refine fun hs hle => stepG_free [] [0] (by kernel_rfl) rfl ?_
          intro ac W hT hI hO
          have hle : hs.length ≤ 0 := hle
          have h0 : ac.tmps.getD 0 undef = .slice (some ⟨gb, go, none⟩) l.length c := hO 0 (by simp)
          show Brings Try.prog (fun vv w' => Turned (fun _ => False) W w' ∧ vv = .slice (some ⟨gb, go, none⟩) l.length c) _
          simp only [execOp, Act.eval, h0]
          go_simp
          try exact ⟨Turned.refl _ _, rfl⟩
        case s2 =>
          refine fun hs hle => stepG_free [] [5] (by kernel_rfl) rfl ?_
          intro ac W hT hI hO
          have hle : hs.length ≤ 0 := hle
          have h5 : ac.tmps.getD 5 undef = .int .i64 (j : Int) := hO 5 (by simp)
          show Brings Try.prog (fun vv w' => Turned (fun _ => False) W w' ∧ vv = .int .i64 (j : Int)) _
          simp only [execOp, Act.eval, h5]
          go_simp
          try exact ⟨Turned.refl _ _, rfl⟩
        case s3 =>
          refine fun hs hle => stepG_free [43, 44] [] (by kernel_rfl) rfl ?_
          intro ac W hT hI hO
          have hle : hs.length ≤ 0 := hle
          have h43 : ac.tmps.getD 43 undef = .slice (some ⟨gb, go, none⟩) l.length c := hI 43 (by simp)
          have h44 : ac.tmps.getD 44 undef = .int .i64 (j : Int) := hI 44 (by simp)
          show Brings Try.prog (fun vv w' => Turned (fun _ => False) W w' ∧ vv = .pointer (some ⟨gb, go + j * 8, none⟩)) _
          have hjj : j < l.length := hjl
          simp only [execOp, Act.eval, h43, h44]
          go_simp
          try exact ⟨Turned.refl _ _, rfl⟩
        case s4 =>
          refine fun hs hle => stepG_free [45] [] (by kernel_rfl) rfl ?_
          intro ac W hT hI hO
          have hle : hs.length ≤ 0 := hle
          have h45 : ac.tmps.getD 45 undef = .pointer (some ⟨gb, go + j * 8, none⟩) := hI 45 (by simp)
          show Brings Try.prog (fun vv w' => Turned (fun _ => False) W w' ∧ vv = .pointer (some ⟨gb, go + j * 8, none⟩)) _
          simp only [execOp, Act.eval, h45]
          go_simp
          try exact ⟨Turned.refl _ _, rfl⟩
        case s5 =>
          refine fun hs hle => stepG_free [46] [] (by kernel_rfl) rfl ?_
          intro ac W hT hI hO
          have hle : hs.length ≤ 0 := hle
          have h46 : ac.tmps.getD 46 undef = .pointer (some ⟨gb, go + j * 8, none⟩) := hI 46 (by simp)
          show Brings Try.prog (fun vv w' => Turned (fun _ => False) W w' ∧ vv = .agg #[.int .i64 x.kind, .int .i64 x.n, .string x.name, .slice x.at_.1 x.args.length x.at_.2]) _
          obtain ⟨c0, c1, c2, c3, c4, c5, c6, c7⟩ := HATO.out W ((HOLD.out.trans HT3.out).trans (OneC.early hs W (by omega) hT))
          simp only [execOp, Act.eval, h46]
          go_simp
          try exact ⟨Turned.refl _ _, rfl⟩
        case s6 =>
          refine fun hs hle => stepG_free [] [0] (by kernel_rfl) rfl ?_
          intro ac W hT hI hO
          have hle : hs.length ≤ 0 := hle
          have h0 : ac.tmps.getD 0 undef = .slice (some ⟨gb, go, none⟩) l.length c := hO 0 (by simp)
          show Brings Try.prog (fun vv w' => Turned (fun _ => False) W w' ∧ vv = .slice (some ⟨gb, go, none⟩) l.length c) _
          simp only [execOp, Act.eval, h0]
          go_simp
          try exact ⟨Turned.refl _ _, rfl⟩
        case s7 =>
          refine fun hs hle => stepG_free [] [5] (by kernel_rfl) rfl ?_
          intro ac W hT hI hO
          have hle : hs.length ≤ 0 := hle
          have h5 : ac.tmps.getD 5 undef = .int .i64 (j : Int) := hO 5 (by simp)
          show Brings Try.prog (fun vv w' => Turned (fun _ => False) W w' ∧ vv = .int .i64 (j : Int)) _
          simp only [execOp, Act.eval, h5]
          go_simp
          try exact ⟨Turned.refl _ _, rfl⟩
        case s8 =>
          refine fun hs hle => stepG_free [48, 49] [] (by kernel_rfl) rfl ?_
          intro ac W hT hI hO
          have hle : hs.length ≤ 0 := hle
          have h48 : ac.tmps.getD 48 undef = .slice (some ⟨gb, go, none⟩) l.length c := hI 48 (by simp)
          have h49 : ac.tmps.getD 49 undef = .int .i64 (j : Int) := hI 49 (by simp)
          show Brings Try.prog (fun vv w' => Turned (fun _ => False) W w' ∧ vv = .pointer (some ⟨gb, go + j * 8, none⟩)) _
          have hjj : j < l.length := hjl
          simp only [execOp, Act.eval, h48, h49]
          go_simp
          try exact ⟨Turned.refl _ _, rfl⟩
        case s9 =>
          refine fun hs hle => stepG_free [50] [] (by kernel_rfl) rfl ?_
          intro ac W hT hI hO
          have hle : hs.length ≤ 0 := hle
          have h50 : ac.tmps.getD 50 undef = .pointer (some ⟨gb, go + j * 8, none⟩) := hI 50 (by simp)
          show Brings Try.prog (fun vv w' => Turned (fun _ => False) W w' ∧ vv = .pointer (some ⟨gb, go + j * 8 + 4, none⟩)) _
          simp only [execOp, Act.eval, h50]
          go_simp
          try exact ⟨Turned.refl _ _, rfl⟩
        case s10 =>
          refine fun hs hle => stepG_free [51] [] (by kernel_rfl) rfl ?_
          intro ac W hT hI hO
          have hle : hs.length ≤ 0 := hle
          have h51 : ac.tmps.getD 51 undef = .pointer (some ⟨gb, go + j * 8 + 4, none⟩) := hI 51 (by simp)
          show Brings Try.prog (fun vv w' => Turned (fun _ => False) W w' ∧ vv = .agg #[.int .i64 y.kind, .int .i64 y.n, .string y.name, .slice y.at_.1 y.args.length y.at_.2]) _
          obtain ⟨c0, c1, c2, c3, c4, c5, c6, c7⟩ := HATO.out W ((HOLD.out.trans HT3.out).trans (OneC.early hs W (by omega) hT))
          simp only [execOp, Act.eval, h51]
          go_simp
          try exact ⟨Turned.refl _ _, rfl⟩
        case s11 =>
          refine fun hs hlen => stepG_free [42, 47, 52] [] (by kernel_rfl) rfl ?_
          intro ac W hT hI hO
          have h42 : ac.tmps.getD 42 undef = .pointer (some ⟨bb, 0, none⟩) := hI 42 (by simp)
          have h47 : ac.tmps.getD 47 undef = .agg #[.int .i64 x.kind, .int .i64 x.n, .string x.name, .slice x.at_.1 x.args.length x.at_.2] := hI 47 (by simp)
          have h52 : ac.tmps.getD 52 undef = .agg #[.int .i64 y.kind, .int .i64 y.n, .string y.name, .slice y.at_.1 y.args.length y.at_.2] := hI 52 (by simp)
          obtain rfl : hs = [] := List.eq_nil_of_length_eq_zero hlen
          replace hT : Turned (fun _ => False) W2 W := hT
          show Brings Try.prog (fun vv w' => OneC (.tuple #[.bool r1, .int .i64 r2, .int .i64 r3]) (UPQ w1.heap.size bb wb tr0 tr w1) W2 [vv] w') _
          simp only [execOp, Act.eval, h42, h47, h52]
          go_simp
          show Calls Try.prog 110 _ W _
          obtain ⟨q, l2, g1, g2, O, D, b1, b2, b3, b4⟩ := UPQ.turned0 _ _ HQW.out hT
          have hxy := HXO.out W b4
          (with_reducible refine (bothVal b1.b (hxy.1.mono (fun k _ hk => g1 k hk)) HSX.out (hxy.2.mono (fun k _ hk => g1 k hk)) HSY.out (show bothR 8 (bt l2) x.bare y.bare = (r1, r2, r3, tr) by rw [g2]; exact HR.out)).mono ?_)
          rintro e w' ⟨rfl, l3, hl3, ha⟩
          exact ⟨_, rfl, rfl, q, l3, g1, hl3, BDq.stepB (Nat.le_refl _) b1 b2 b3 b2 b4 ha⟩
        case s12 =>
          refine fun hs hle => stepG_free [53] [] (by kernel_rfl) rfl ?_
          intro ac W hT hI hO
          have hle : hs.length ≤ 1 := hle
          have h53 : hs[0]? = some (ac.tmps.getD 53 undef) := hI 53 (by simp)
          have e53 := OneC.val hs W hT h53
          show Brings Try.prog (fun vv w' => Turned (fun _ => False) W w' ∧ vv = .tuple #[.bool r1, .int .i64 r2, .int .i64 r3]) _
          simp only [execOp, Act.eval, e53]
          go_simp
          try exact ⟨Turned.refl _ _, rfl⟩
        case s13 =>
          refine fun hs hle => stepG_free [41] [] (by kernel_rfl) rfl ?_
          intro ac W hT hI hO
          have hle : hs.length ≤ 1 := hle
          have h41 : ac.tmps.getD 41 undef = .tuple #[.bool r1, .int .i64 r2, .int .i64 r3] := hI 41 (by simp)
          show Brings Try.prog (fun vv w' => Turned (fun _ => False) W w' ∧ vv = .bool r1) _
          simp only [execOp, Act.eval, h41]
          go_simp
          try exact ⟨Turned.refl _ _, rfl⟩
        case s14 =>
          refine fun hs hle => stepG_free [41] [] (by kernel_rfl) rfl ?_
          intro ac W hT hI hO
          have hle : hs.length ≤ 1 := hle
          have h41 : ac.tmps.getD 41 undef = .tuple #[.bool r1, .int .i64 r2, .int .i64 r3] := hI 41 (by simp)
          show Brings Try.prog (fun vv w' => Turned (fun _ => False) W w' ∧ vv = .int .i64 r2) _
          simp only [execOp, Act.eval, h41]
          go_simp
          try exact ⟨Turned.refl _ _, rfl⟩
        case s15 =>
          refine fun hs hle => stepG_free [41] [] (by kernel_rfl) rfl ?_
          intro ac W hT hI hO
          have hle : hs.length ≤ 1 := hle
          have h41 : ac.tmps.getD 41 undef = .tuple #[.bool r1, .int .i64 r2, .int .i64 r3] := hI 41 (by simp)
          show Brings Try.prog (fun vv w' => Turned (fun _ => False) W w' ∧ vv = .int .i64 r3) _
          simp only [execOp, Act.eval, h41]
          go_simp
          try exact ⟨Turned.refl _ _, rfl⟩
        case s16 =>
          refine fun hs hle => stepG_free [54] [] (by kernel_rfl) rfl ?_
          intro ac W hT hI hO
          have hle : hs.length ≤ 1 := hle
          have h54 : ac.tmps.getD 54 undef = .bool r1 := hI 54 (by simp)
          show Brings Try.prog (fun vv w' => Turned (fun _ => False) W w' ∧ vv = .bool r1) _
          simp only [execOp, Act.eval, h54]
          go_simp
          try exact ⟨Turned.refl _ _, rfl⟩
        case s17 =>
          refine fun hs hle => stepG_free [55] [] (by kernel_rfl) rfl ?_
          intro ac W hT hI hO
          have hle : hs.length ≤ 1 := hle
          have h55 : ac.tmps.getD 55 undef = .int .i64 r2 := hI 55 (by simp)
          show Brings Try.prog (fun vv w' => Turned (fun _ => False) W w' ∧ vv = .int .i64 r2) _
          simp only [execOp, Act.eval, h55]
          go_simp
          try exact ⟨Turned.refl _ _, rfl⟩
        case s18 =>
          refine fun hs hle => stepG_free [56] [] (by kernel_rfl) rfl ?_
          intro ac W hT hI hO
          have hle : hs.length ≤ 1 := hle
          have h56 : ac.tmps.getD 56 undef = .int .i64 r3 := hI 56 (by simp)
          show Brings Try.prog (fun vv w' => Turned (fun _ => False) W w' ∧ vv = .int .i64 r3) _
          simp only [execOp, Act.eval, h56]
          go_simp
          try exact ⟨Turned.refl _ _, rfl⟩
      case hQ =>
        intro hs vs w5 hlen hR hV
        have q6 : vs 6 = .bool r1 := hV 6 (by simp)
        have q7 : vs 7 = .int .i64 r2 := hV 7 (by simp)
        have q8 : vs 8 = .int .i64 r3 := hV 8 (by simp)
        simp only [List.foldl_cons, List.foldl_nil, List.setIfInBounds_toArray, List.set_cons_zero, List.set_cons_succ, q6, q7, q8]
        obtain ⟨a1, rfl⟩ := List.length_eq_one_iff.1 hlen
        have HQ5 := Lib.hid hR.2
        clear hlen hR hV q6 q7 q8
        have hold5 : Turned (fun _ => False) w1 w5 := by obtain ⟨q, l2, _, _, h3⟩ := HQ5.out; exact h3.old
        have HO5 := Lib.hid hold5
        clear hold5
        go_wp2_with fail
        refine wp_region_hsW [58, 59, 60, 61, 62, 63, 64, 65, 66, 67, 68, 69, 70, 71, 57, 72, 73, 74, 9, 10, 11] [6, 12, 13] [2, 0, 0, 0, 0, 0, 1, 1, 1, 1, 1, 1, 2, 3, 3, 3, 3, 3, 3, 3, 3] [64, 70, 71] (fun dd vv => (match dd with | 58 => vv = .pointer (some ⟨wb, 0, none⟩) | 59 => vv = .slice (some ⟨gb, go, none⟩) l.length c | 60 => vv = .int .i64 (j : Int) | 61 => vv = .pointer (some ⟨gb, go + j * 8, none⟩) | 62 => vv = .pointer (some ⟨gb, go + j * 8, none⟩) | 63 => vv = .agg #[.int .i64 x.kind, .int .i64 x.n, .string x.name, .slice x.at_.1 x.args.length x.at_.2] | 65 => vv = .slice (some ⟨gb, go, none⟩) l.length c | 66 => vv = .int .i64 (j : Int) | 67 => vv = .pointer (some ⟨gb, go + j * 8, none⟩) | 68 => vv = .pointer (some ⟨gb, go + j * 8 + 4, none⟩) | 69 => vv = .agg #[.int .i64 y.kind, .int .i64 y.n, .string y.name, .slice y.at_.1 y.args.length y.at_.2] | 57 => vv = .tuple #[.bool r1, .int .i64 r2, .int .i64 r3] | 72 => vv = .bool r1 | 73 => vv = .int .i64 r2 | 74 => vv = .int .i64 r3 | 9 => vv = .bool r1 | 10 => vv = .int .i64 r2 | 11 => vv = .int .i64 r3 | _ => True : Prop)) (ThreeC x.bare y.bare (.tuple #[.bool r1, .int .i64 r2, .int .i64 r3]) (UPQ w1.heap.size bb wb tr tr w1) w5) (by kernel_rfl) rfl (by kernel_rfl) (by kernel_rfl) (by kernel_rfl) (by kernel_rfl) (fun w h => h) (fun hs w w' h T => ThreeC.turned0 UPQ.turned0 hs w w' h T) ?hs ?hQ
        case hs =>
          refine ⟨?s0, ?s1, ?s2, ?s3, ?s4, ?s5, ?s6, ?s7, ?s8, ?s9, ?s10, ?s11, ?s12, ?s13, ?s14, ?s15, ?s16, ?s17, ?s18, ?s19, ?s20, trivial⟩
          case s0 =>
            refine fun hs hle => stepG_free [] [4] (by kernel_rfl) rfl ?_
            intro ac W hT hI hO
            have hle : hs.length ≤ 2 := hle
            have h4 : ac.tmps.getD 4 undef = .pointer (some ⟨wb, 0, none⟩) := hO 4 (by simp)
            show Brings Try.prog (fun vv w' => Turned (fun _ => False) W w' ∧ vv = .pointer (some ⟨wb, 0, none⟩)) _
            simp only [execOp, Act.eval, h4]
            go_simp
            try exact ⟨Turned.refl _ _, rfl⟩
          case s1 =>
            refine fun hs hle => stepG_free [] [0] (by kernel_rfl) rfl ?_
            intro ac W hT hI hO
            have hle : hs.length ≤ 0 := hle
            have h0 : ac.tmps.getD 0 undef = .slice (some ⟨gb, go, none⟩) l.length c := hO 0 (by simp)
            show Brings Try.prog (fun vv w' => Turned (fun _ => False) W w' ∧ vv = .slice (some ⟨gb, go, none⟩) l.length c) _
            simp only [execOp, Act.eval, h0]
            go_simp
            try exact ⟨Turned.refl _ _, rfl⟩
          case s2 =>
            refine fun hs hle => stepG_free [] [5] (by kernel_rfl) rfl ?_
            intro ac W hT hI hO
            have hle : hs.length ≤ 0 := hle
            have h5 : ac.tmps.getD 5 undef = .int .i64 (j : Int) := hO 5 (by simp)
            show Brings Try.prog (fun vv w' => Turned (fun _ => False) W w' ∧ vv = .int .i64 (j : Int)) _
            simp only [execOp, Act.eval, h5]
            go_simp
            try exact ⟨Turned.refl _ _, rfl⟩
          case s3 =>
            refine fun hs hle => stepG_free [59, 60] [] (by kernel_rfl) rfl ?_
            intro ac W hT hI hO
            have hle : hs.length ≤ 0 := hle
            have h59 : ac.tmps.getD 59 undef = .slice (some ⟨gb, go, none⟩) l.length c := hI 59 (by simp)
            have h60 : ac.tmps.getD 60 undef = .int .i64 (j : Int) := hI 60 (by simp)
            show Brings Try.prog (fun vv w' => Turned (fun _ => False) W w' ∧ vv = .pointer (some ⟨gb, go + j * 8, none⟩)) _
            have hjj : j < l.length := hjl
            simp only [execOp, Act.eval, h59, h60]
            go_simp
            try exact ⟨Turned.refl _ _, rfl⟩
          case s4 =>
            refine fun hs hle => stepG_free [61] [] (by kernel_rfl) rfl ?_
            intro ac W hT hI hO
            have hle : hs.length ≤ 0 := hle
            have h61 : ac.tmps.getD 61 undef = .pointer (some ⟨gb, go + j * 8, none⟩) := hI 61 (by simp)
            show Brings Try.prog (fun vv w' => Turned (fun _ => False) W w' ∧ vv = .pointer (some ⟨gb, go + j * 8, none⟩)) _
            simp only [execOp, Act.eval, h61]
            go_simp
            try exact ⟨Turned.refl _ _, rfl⟩
          case s5 =>
            refine fun hs hle => stepG_free [62] [] (by kernel_rfl) rfl ?_
            intro ac W hT hI hO
            have hle : hs.length ≤ 0 := hle
            have h62 : ac.tmps.getD 62 undef = .pointer (some ⟨gb, go + j * 8, none⟩) := hI 62 (by simp)
            show Brings Try.prog (fun vv w' => Turned (fun _ => False) W w' ∧ vv = .agg #[.int .i64 x.kind, .int .i64 x.n, .string x.name, .slice x.at_.1 x.args.length x.at_.2]) _
            obtain ⟨c0, c1, c2, c3, c4, c5, c6, c7⟩ := HATO.out W (HO5.out.trans (ThreeC.early hs W (by omega) hT))
            simp only [execOp, Act.eval, h62]
            go_simp
            try exact ⟨Turned.refl _ _, rfl⟩
          case s6 =>
            refine fun hs hlen => stepG_free [63] [] (by kernel_rfl) rfl ?_
            intro ac W hT hI hO
            have h63 : ac.tmps.getD 63 undef = .agg #[.int .i64 x.kind, .int .i64 x.n, .string x.name, .slice x.at_.1 x.args.length x.at_.2] := hI 63 (by simp)
            obtain rfl : hs = [] := List.eq_nil_of_length_eq_zero hlen
            replace hT : Turned (fun _ => False) w5 W := hT
            show Brings Try.prog (fun vv w' => ThreeC x.bare y.bare (.tuple #[.bool r1, .int .i64 r2, .int .i64 r3]) (UPQ w1.heap.size bb wb tr tr w1) w5 [vv] w') _
            simp only [execOp, Act.eval, h63]
            go_simp
            show Calls Try.prog 114 _ W _
            have hxy := HXO.out W (HO5.out.trans hT)
            (with_reducible refine (own26 (hxy.1.mono (fun _ _ _ => trivial)) HSX.out).mono ?_)
            rintro e w' ⟨X, rfl, g1, g2, T'⟩
            exact ⟨_, rfl, hT.trans T', X, rfl, g2.mono (fun k _ hk => Nat.le_trans hT.size hk), g1⟩
          case s7 =>
            refine fun hs hle => stepG_free [] [0] (by kernel_rfl) rfl ?_
            intro ac W hT hI hO
            have hle : hs.length ≤ 1 := hle
            have h0 : ac.tmps.getD 0 undef = .slice (some ⟨gb, go, none⟩) l.length c := hO 0 (by simp)
            show Brings Try.prog (fun vv w' => Turned (fun _ => False) W w' ∧ vv = .slice (some ⟨gb, go, none⟩) l.length c) _
            simp only [execOp, Act.eval, h0]
            go_simp
            try exact ⟨Turned.refl _ _, rfl⟩
          case s8 =>
            refine fun hs hle => stepG_free [] [5] (by kernel_rfl) rfl ?_
            intro ac W hT hI hO
            have hle : hs.length ≤ 1 := hle
            have h5 : ac.tmps.getD 5 undef = .int .i64 (j : Int) := hO 5 (by simp)
            show Brings Try.prog (fun vv w' => Turned (fun _ => False) W w' ∧ vv = .int .i64 (j : Int)) _
            simp only [execOp, Act.eval, h5]
            go_simp
            try exact ⟨Turned.refl _ _, rfl⟩
          case s9 =>
            refine fun hs hle => stepG_free [65, 66] [] (by kernel_rfl) rfl ?_
            intro ac W hT hI hO
            have hle : hs.length ≤ 1 := hle
            have h65 : ac.tmps.getD 65 undef = .slice (some ⟨gb, go, none⟩) l.length c := hI 65 (by simp)
            have h66 : ac.tmps.getD 66 undef = .int .i64 (j : Int) := hI 66 (by simp)
            show Brings Try.prog (fun vv w' => Turned (fun _ => False) W w' ∧ vv = .pointer (some ⟨gb, go + j * 8, none⟩)) _
            have hjj : j < l.length := hjl
            simp only [execOp, Act.eval, h65, h66]
            go_simp
            try exact ⟨Turned.refl _ _, rfl⟩
          case s10 =>
            refine fun hs hle => stepG_free [67] [] (by kernel_rfl) rfl ?_
            intro ac W hT hI hO
            have hle : hs.length ≤ 1 := hle
            have h67 : ac.tmps.getD 67 undef = .pointer (some ⟨gb, go + j * 8, none⟩) := hI 67 (by simp)
            show Brings Try.prog (fun vv w' => Turned (fun _ => False) W w' ∧ vv = .pointer (some ⟨gb, go + j * 8 + 4, none⟩)) _
            simp only [execOp, Act.eval, h67]
            go_simp
            try exact ⟨Turned.refl _ _, rfl⟩
          case s11 =>
            refine fun hs hle => stepG_free [68] [] (by kernel_rfl) rfl ?_
            intro ac W hT hI hO
            have hle : hs.length ≤ 1 := hle
            have h68 : ac.tmps.getD 68 undef = .pointer (some ⟨gb, go + j * 8 + 4, none⟩) := hI 68 (by simp)
            show Brings Try.prog (fun vv w' => Turned (fun _ => False) W w' ∧ vv = .agg #[.int .i64 y.kind, .int .i64 y.n, .string y.name, .slice y.at_.1 y.args.length y.at_.2]) _
            obtain ⟨c0, c1, c2, c3, c4, c5, c6, c7⟩ := HATO.out W (HO5.out.trans (ThreeC.early hs W (by omega) hT))
            simp only [execOp, Act.eval, h68]
            go_simp
            try exact ⟨Turned.refl _ _, rfl⟩
          case s12 =>
            refine fun hs hlen => stepG_free [69] [] (by kernel_rfl) rfl ?_
            intro ac W hT hI hO
            have h69 : ac.tmps.getD 69 undef = .agg #[.int .i64 y.kind, .int .i64 y.n, .string y.name, .slice y.at_.1 y.args.length y.at_.2] := hI 69 (by simp)
            obtain ⟨a, rfl⟩ := List.length_eq_one_iff.1 hlen
            obtain ⟨hT, hA⟩ := hT
            show Brings Try.prog (fun vv w' => ThreeC x.bare y.bare (.tuple #[.bool r1, .int .i64 r2, .int .i64 r3]) (UPQ w1.heap.size bb wb tr tr w1) w5 [a, vv] w') _
            simp only [execOp, Act.eval, h69]
            go_simp
            show Calls Try.prog 114 _ W _
            have hxy := HXO.out W (HO5.out.trans hT)
            (with_reducible refine (own26 (hxy.2.mono (fun _ _ _ => trivial)) HSY.out).mono ?_)
            rintro e w' ⟨X, rfl, g1, g2, T'⟩
            exact ⟨_, rfl, hT.trans T', hA.turned0 T', X, rfl, g2.mono (fun k _ hk => Nat.le_trans hT.size hk), g1⟩
          case s13 =>
            refine fun hs hlen => stepG_free [58, 64, 70] [] (by kernel_rfl) rfl ?_
            intro ac W hT hI hO
            have h58 : ac.tmps.getD 58 undef = .pointer (some ⟨wb, 0, none⟩) := hI 58 (by simp)
            have h64 : hs[0]? = some (ac.tmps.getD 64 undef) := hI 64 (by simp)
            have h70 : hs[1]? = some (ac.tmps.getD 70 undef) := hI 70 (by simp)
            obtain ⟨a, b, rfl⟩ := list2' hlen
            have e64 : a = ac.tmps.getD 64 undef := by simpa using h64
            have e70 : b = ac.tmps.getD 70 undef := by simpa using h70
            obtain ⟨hT1, ⟨X, x1, x2, x3⟩, Y, y1, y2, y3⟩ := hT
            rw [e64] at x1
            rw [e70] at y1
            show Brings Try.prog (fun vv w' => ThreeC x.bare y.bare (.tuple #[.bool r1, .int .i64 r2, .int .i64 r3]) (UPQ w1.heap.size bb wb tr tr w1) w5 [a, b, vv] w') _
            simp only [execOp, Act.eval, h58, x1, y1]
            go_simp
            show Calls Try.prog 117 _ W _
            obtain ⟨q, l2, g1, g2, O, D, b1, b2, b3, b4⟩ := HQ5.out
            have hB := b1.grown hT1
            have hx2 := x2.mono (q := fun k => q k ∨ (w5.heap.size ≤ k ∧ k < W.heap.size)) (fun k hk h => .inr ⟨h, hk⟩)
            have hy2 := y2.mono (q := fun k => q k ∨ (w5.heap.size ≤ k ∧ k < W.heap.size)) (fun k hk h => .inr ⟨h, hk⟩)
            have hbo := both117 hB.d hx2 hy2
            rw [x3, y3, HR.out, LT.val_eq, LT.val_eq] at hbo
            (with_reducible refine hbo.mono ?_)
            rintro e w' ⟨rfl, ha⟩
            have hs := BDq.stepD (Nat.le_refl _) hB b2 b3 b3 (b4.trans hT1) ha
            exact ⟨_, rfl, rfl, _, l2, fun k hk => .inl (g1 k hk), g2, hs⟩
          case s14 =>
            refine fun hs hle => stepG_free [71] [] (by kernel_rfl) rfl ?_
            intro ac W hT hI hO
            have hle : hs.length ≤ 3 := hle
            have h71 : hs[2]? = some (ac.tmps.getD 71 undef) := hI 71 (by simp)
            have e71 := ThreeC.val hs W hT h71
            show Brings Try.prog (fun vv w' => Turned (fun _ => False) W w' ∧ vv = .tuple #[.bool r1, .int .i64 r2, .int .i64 r3]) _
            simp only [execOp, Act.eval, e71]
            go_simp
            try exact ⟨Turned.refl _ _, rfl⟩
          case s15 =>
            refine fun hs hle => stepG_free [57] [] (by kernel_rfl) rfl ?_
            intro ac W hT hI hO
            have hle : hs.length ≤ 3 := hle
            have h57 : ac.tmps.getD 57 undef = .tuple #[.bool r1, .int .i64 r2, .int .i64 r3] := hI 57 (by simp)
            show Brings Try.prog (fun vv w' => Turned (fun _ => False) W w' ∧ vv = .bool r1) _
            simp only [execOp, Act.eval, h57]
            go_simp
            try exact ⟨Turned.refl _ _, rfl⟩
          case s16 =>
            refine fun hs hle => stepG_free [57] [] (by kernel_rfl) rfl ?_
            intro ac W hT hI hO
            have hle : hs.length ≤ 3 := hle
            have h57 : ac.tmps.getD 57 undef = .tuple #[.bool r1, .int .i64 r2, .int .i64 r3] := hI 57 (by simp)
            show Brings Try.prog (fun vv w' => Turned (fun _ => False) W w' ∧ vv = .int .i64 r2) _
            simp only [execOp, Act.eval, h57]
            go_simp
            try exact ⟨Turned.refl _ _, rfl⟩
          case s17 =>
            refine fun hs hle => stepG_free [57] [] (by kernel_rfl) rfl ?_
            intro ac W hT hI hO
            have hle : hs.length ≤ 3 := hle
            have h57 : ac.tmps.getD 57 undef = .tuple #[.bool r1, .int .i64 r2, .int .i64 r3] := hI 57 (by simp)
            show Brings Try.prog (fun vv w' => Turned (fun _ => False) W w' ∧ vv = .int .i64 r3) _
            simp only [execOp, Act.eval, h57]
            go_simp
            try exact ⟨Turned.refl _ _, rfl⟩
          case s18 =>
            refine fun hs hle => stepG_free [72] [] (by kernel_rfl) rfl ?_
            intro ac W hT hI hO
            have hle : hs.length ≤ 3 := hle
            have h72 : ac.tmps.getD 72 undef = .bool r1 := hI 72 (by simp)
            show Brings Try.prog (fun vv w' => Turned (fun _ => False) W w' ∧ vv = .bool r1) _
            simp only [execOp, Act.eval, h72]
            go_simp
            try exact ⟨Turned.refl _ _, rfl⟩
          case s19 =>
            refine fun hs hle => stepG_free [73] [] (by kernel_rfl) rfl ?_
            intro ac W hT hI hO
            have hle : hs.length ≤ 3 := hle
            have h73 : ac.tmps.getD 73 undef = .int .i64 r2 := hI 73 (by simp)
            show Brings Try.prog (fun vv w' => Turned (fun _ => False) W w' ∧ vv = .int .i64 r2) _
            simp only [execOp, Act.eval, h73]
            go_simp
            try exact ⟨Turned.refl _ _, rfl⟩
          case s20 =>
            refine fun hs hle => stepG_free [74] [] (by kernel_rfl) rfl ?_
            intro ac W hT hI hO
            have hle : hs.length ≤ 3 := hle
            have h74 : ac.tmps.getD 74 undef = .int .i64 r3 := hI 74 (by simp)
            show Brings Try.prog (fun vv w' => Turned (fun _ => False) W w' ∧ vv = .int .i64 r3) _
            simp only [execOp, Act.eval, h74]
            go_simp
            try exact ⟨Turned.refl _ _, rfl⟩
        case hQ =>
          intro hs vs w6 hlen hR hV
          have q9 : vs 9 = .bool r1 := hV 9 (by simp)
          have q10 : vs 10 = .int .i64 r2 := hV 10 (by simp)
          have q11 : vs 11 = .int .i64 r3 := hV 11 (by simp)
          simp only [List.foldl_cons, List.foldl_nil, List.setIfInBounds_toArray, List.set_cons_zero, List.set_cons_succ, q9, q10, q11]
          obtain ⟨a2, a3, a4, rfl⟩ := list3' hlen
          have HQ6 := Lib.hid hR.2
          clear hlen hR hV q9 q10 q11
          have hold6 : Turned (fun _ => False) w1 w6 := by obtain ⟨q, l2, _, _, h3⟩ := HQ6.out; exact h3.old
          have HO6 := Lib.hid hold6
          obtain ⟨cb, hcb⟩ : ∃ z, z = couldB x.bare y.bare := ⟨_, rfl⟩
          have HCB := Lib.hid hcb.symm
          clear hold6 hcb
          go_wp2_with fail
          refine wp_region_ssa' (G := (fun dd vv W => (match dd with | 75 => vv = .bool r1 | 76 => vv = .bool r1 | 77 => vv = .bool false | 78 => vv = .bool false | 79 => vv = .int .i64 r2 | 80 => vv = .int .i64 r2 | 81 => vv = .bool false | 82 => vv = .bool false | 83 => vv = .bool false | 84 => vv = .int .i64 r3 | 85 => vv = .int .i64 r3 | 86 => vv = .bool false | 87 => vv = .bool false | 88 => vv = .bool false | 89 => vv = .pointer (some ⟨bb, 0, none⟩) | 90 => vv = .pointer (some ⟨wb, 0, none⟩) | 91 => vv = .bool true | 92 => vv = .bool false | 93 => vv = .bool false | 94 => vv = .bool false | 95 => vv = .slice (some ⟨gb, go, none⟩) l.length c | 96 => vv = .int .i64 (j : Int) | 97 => vv = .pointer (some ⟨gb, go + j * 8, none⟩) | 98 => vv = .pointer (some ⟨gb, go + j * 8, none⟩) | 99 => vv = .agg #[.int .i64 x.kind, .int .i64 x.n, .string x.name, .slice x.at_.1 x.args.length x.at_.2] | 100 => vv = .slice (some ⟨gb, go, none⟩) l.length c | 101 => vv = .int .i64 (j : Int) | 102 => vv = .pointer (some ⟨gb, go + j * 8, none⟩) | 103 => vv = .pointer (some ⟨gb, go + j * 8 + 4, none⟩) | 104 => vv = .agg #[.int .i64 y.kind, .int .i64 y.n, .string y.name, .slice y.at_.1 y.args.length y.at_.2] | 105 => vv = .bool cb | 106 => vv = .slice (some ⟨gb, go, none⟩) l.length c | 107 => vv = .int .i64 (j : Int) | 108 => vv = .pointer (some ⟨gb, go + j * 8, none⟩) | 109 => vv = .pointer (some ⟨gb, go + j * 8, none⟩) | 110 => vv = .agg #[.int .i64 x.kind, .int .i64 x.n, .string x.name, .slice x.at_.1 x.args.length x.at_.2] | 112 => vv = .slice (some ⟨gb, go, none⟩) l.length c | 113 => vv = .int .i64 (j : Int) | 114 => vv = .pointer (some ⟨gb, go + j * 8, none⟩) | 115 => vv = .pointer (some ⟨gb, go + j * 8 + 4, none⟩) | 116 => vv = .agg #[.int .i64 y.kind, .int .i64 y.n, .string y.name, .slice y.at_.1 y.args.length y.at_.2] | 118 => vv = .bool cb | 119 => vv = .bool false | 120 => vv = .bool false | 111 => AlkO x.bare (vv) W | 117 => AlkO y.bare (vv) W | _ => True : Prop))) [75, 76, 77, 78, 79, 80, 81, 82, 83, 84, 85, 86, 87, 88, 89, 90, 91, 92, 93, 94, 95, 96, 97, 98, 99, 100, 101, 102, 103, 104, 105, 106, 107, 108, 109, 110, 111, 112, 113, 114, 115, 116, 117, 118, 119, 120] (by kernel_rfl) rfl (by kernel_rfl) ?hG ?hs ?hQ
          case hG =>
            intro d vv W W2 T h
            split at h <;> first
              | exact h
              | (obtain ⟨x, x1, x2, x3⟩ := h; exact ⟨x, x1, x2.turned0 T, x3⟩)
          case hs =>
            refine ⟨?s0, ?s1, ?s2, ?s3, ?s4, ?s5, ?s6, ?s7, ?s8, ?s9, ?s10, ?s11, ?s12, ?s13, ?s14, ?s15, ?s16, ?s17, ?s18, ?s19, ?s20, ?s21, ?s22, ?s23, ?s24, ?s25, ?s26, ?s27, ?s28, ?s29, ?s30, ?s31, ?s32, ?s33, ?s34, ?s35, ?s36, ?s37, ?s38, ?s39, ?s40, ?s41, ?s42, ?s43, ?s44, ?s45, trivial⟩
            case s0 =>
              refine stepOk_free [] [6] (by kernel_rfl) rfl ?_
              intro ac W hT hI hO
              have h6 : ac.tmps.getD 6 undef = .bool r1 := hO 6 (by simp)
              show Brings Try.prog (fun vv w' => Turned (fun _ => False) W w' ∧ vv = .bool r1) _
              simp only [execOp, Act.eval, h6]
              go_simp
              try exact ⟨Turned.refl _ _, rfl⟩
            case s1 =>
              refine stepOk_free [] [9] (by kernel_rfl) rfl ?_
              intro ac W hT hI hO
              have h9 : ac.tmps.getD 9 undef = .bool r1 := hO 9 (by simp)
              show Brings Try.prog (fun vv w' => Turned (fun _ => False) W w' ∧ vv = .bool r1) _
              simp only [execOp, Act.eval, h9]
              go_simp
              try exact ⟨Turned.refl _ _, rfl⟩
            case s2 =>
              refine stepOk_free [75, 76] [] (by kernel_rfl) rfl ?_
              intro ac W hT hI hO
              have h75 : ac.tmps.getD 75 undef = .bool r1 := hI 75 (by simp)
              have h76 : ac.tmps.getD 76 undef = .bool r1 := hI 76 (by simp)
              show Brings Try.prog (fun vv w' => Turned (fun _ => False) W w' ∧ vv = .bool false) _
              simp only [execOp, Act.eval, h75, h76]
              go_simp
              try exact ⟨Turned.refl _ _, rfl⟩
            case s3 =>
              refine stepOk_free [77] [] (by kernel_rfl) rfl ?_
              intro ac W hT hI hO
              have h77 : ac.tmps.getD 77 undef = .bool false := hI 77 (by simp)
              show Brings Try.prog (fun vv w' => Turned (fun _ => False) W w' ∧ vv = .bool false) _
              simp only [execOp, Act.eval, h77]
              go_simp
              try exact ⟨Turned.refl _ _, rfl⟩
            case s4 =>
              refine stepOk_guard [78] [7] (by kernel_rfl) 3 false 78 rfl rfl (by simp) true false (fun _ _ h => h) (fun hc => ?_) (fun hc => by cases hc)
              intro ac W hT hI hO
              have h7 : ac.tmps.getD 7 undef = .int .i64 r2 := hO 7 (by simp)
              show Brings Try.prog (fun vv w' => Turned (fun _ => False) W w' ∧ vv = .int .i64 r2) _
              simp only [execOp, Act.eval, h7]
              go_simp
              try exact ⟨Turned.refl _ _, rfl⟩
            case s5 =>
              refine stepOk_guard [78] [10] (by kernel_rfl) 3 false 78 rfl rfl (by simp) true false (fun _ _ h => h) (fun hc => ?_) (fun hc => by cases hc)
              intro ac W hT hI hO
              have h10 : ac.tmps.getD 10 undef = .int .i64 r2 := hO 10 (by simp)
              show Brings Try.prog (fun vv w' => Turned (fun _ => False) W w' ∧ vv = .int .i64 r2) _
              simp only [execOp, Act.eval, h10]
              go_simp
              try exact ⟨Turned.refl _ _, rfl⟩
            case s6 =>
              refine stepOk_guard [79, 80, 78] [] (by kernel_rfl) 3 false 78 rfl rfl (by simp) true false (fun _ _ h => h) (fun hc => ?_) (fun hc => by cases hc)
              intro ac W hT hI hO
              have h79 : ac.tmps.getD 79 undef = .int .i64 r2 := hI 79 (by simp)
              have h80 : ac.tmps.getD 80 undef = .int .i64 r2 := hI 80 (by simp)
              show Brings Try.prog (fun vv w' => Turned (fun _ => False) W w' ∧ vv = .bool false) _
              simp only [execOp, Act.eval, h79, h80]
              go_simp
              try exact ⟨Turned.refl _ _, rfl⟩
            case s7 =>
              refine stepOk_free [78, 81] [] (by kernel_rfl) rfl ?_
              intro ac W hT hI hO
              have h78 : ac.tmps.getD 78 undef = .bool false := hI 78 (by simp)
              have h81 : ac.tmps.getD 81 undef = .bool false := hI 81 (by simp)
              show Brings Try.prog (fun vv w' => Turned (fun _ => False) W w' ∧ vv = .bool false) _
              simp only [execOp, Act.eval, h78, h81]
              go_simp
              try exact ⟨Turned.refl _ _, rfl⟩
            case s8 =>
              refine stepOk_free [82] [] (by kernel_rfl) rfl ?_
              intro ac W hT hI hO
              have h82 : ac.tmps.getD 82 undef = .bool false := hI 82 (by simp)
              show Brings Try.prog (fun vv w' => Turned (fun _ => False) W w' ∧ vv = .bool false) _
              simp only [execOp, Act.eval, h82]
              go_simp
              try exact ⟨Turned.refl _ _, rfl⟩
            case s9 =>
              refine stepOk_guard [83] [8] (by kernel_rfl) 8 false 83 rfl rfl (by simp) true false (fun _ _ h => h) (fun hc => ?_) (fun hc => by cases hc)
              intro ac W hT hI hO
              have h8 : ac.tmps.getD 8 undef = .int .i64 r3 := hO 8 (by simp)
              show Brings Try.prog (fun vv w' => Turned (fun _ => False) W w' ∧ vv = .int .i64 r3) _
              simp only [execOp, Act.eval, h8]
              go_simp
              try exact ⟨Turned.refl _ _, rfl⟩
            case s10 =>
              refine stepOk_guard [83] [11] (by kernel_rfl) 8 false 83 rfl rfl (by simp) true false (fun _ _ h => h) (fun hc => ?_) (fun hc => by cases hc)
              intro ac W hT hI hO
              have h11 : ac.tmps.getD 11 undef = .int .i64 r3 := hO 11 (by simp)
              show Brings Try.prog (fun vv w' => Turned (fun _ => False) W w' ∧ vv = .int .i64 r3) _
              simp only [execOp, Act.eval, h11]
              go_simp
              try exact ⟨Turned.refl _ _, rfl⟩
            case s11 =>
              refine stepOk_guard [84, 85, 83] [] (by kernel_rfl) 8 false 83 rfl rfl (by simp) true false (fun _ _ h => h) (fun hc => ?_) (fun hc => by cases hc)
              intro ac W hT hI hO
              have h84 : ac.tmps.getD 84 undef = .int .i64 r3 := hI 84 (by simp)
              have h85 : ac.tmps.getD 85 undef = .int .i64 r3 := hI 85 (by simp)
              show Brings Try.prog (fun vv w' => Turned (fun _ => False) W w' ∧ vv = .bool false) _
              simp only [execOp, Act.eval, h84, h85]
              go_simp
              try exact ⟨Turned.refl _ _, rfl⟩
            case s12 =>
              refine stepOk_free [83, 86] [] (by kernel_rfl) rfl ?_
              intro ac W hT hI hO
              have h83 : ac.tmps.getD 83 undef = .bool false := hI 83 (by simp)
              have h86 : ac.tmps.getD 86 undef = .bool false := hI 86 (by simp)
              show Brings Try.prog (fun vv w' => Turned (fun _ => False) W w' ∧ vv = .bool false) _
              simp only [execOp, Act.eval, h83, h86]
              go_simp
              try exact ⟨Turned.refl _ _, rfl⟩
            case s13 =>
              refine stepOk_free [87] [] (by kernel_rfl) rfl ?_
              intro ac W hT hI hO
              have h87 : ac.tmps.getD 87 undef = .bool false := hI 87 (by simp)
              show Brings Try.prog (fun vv w' => Turned (fun _ => False) W w' ∧ vv = .bool false) _
              simp only [execOp, Act.eval, h87]
              go_simp
              try exact ⟨Turned.refl _ _, rfl⟩
            case s14 =>
              refine stepOk_guard [88] [3] (by kernel_rfl) 13 false 88 rfl rfl (by simp) true false (fun _ _ h => h) (fun hc => ?_) (fun hc => by cases hc)
              intro ac W hT hI hO
              have h3 : ac.tmps.getD 3 undef = .pointer (some ⟨bb, 0, none⟩) := hO 3 (by simp)
              show Brings Try.prog (fun vv w' => Turned (fun _ => False) W w' ∧ vv = .pointer (some ⟨bb, 0, none⟩)) _
              simp only [execOp, Act.eval, h3]
              go_simp
              try exact ⟨Turned.refl _ _, rfl⟩
            case s15 =>
              refine stepOk_guard [88] [4] (by kernel_rfl) 13 false 88 rfl rfl (by simp) true false (fun _ _ h => h) (fun hc => ?_) (fun hc => by cases hc)
              intro ac W hT hI hO
              have h4 : ac.tmps.getD 4 undef = .pointer (some ⟨wb, 0, none⟩) := hO 4 (by simp)
              show Brings Try.prog (fun vv w' => Turned (fun _ => False) W w' ∧ vv = .pointer (some ⟨wb, 0, none⟩)) _
              simp only [execOp, Act.eval, h4]
              go_simp
              try exact ⟨Turned.refl _ _, rfl⟩
            case s16 =>
              refine stepOk_guard [89, 90, 88] [] (by kernel_rfl) 13 false 88 rfl rfl (by simp) true false (fun _ _ h => h) (fun hc => ?_) (fun hc => by cases hc)
              intro ac W hT hI hO
              have h89 : ac.tmps.getD 89 undef = .pointer (some ⟨bb, 0, none⟩) := hI 89 (by simp)
              have h90 : ac.tmps.getD 90 undef = .pointer (some ⟨wb, 0, none⟩) := hI 90 (by simp)
              show Brings Try.prog (fun vv w' => Turned (fun _ => False) W w' ∧ vv = .bool true) _
              simp only [execOp, Act.eval, h89, h90]
              go_simp
              show Calls Try.prog 118 _ W _
              (with_reducible refine (alk26 (UPQ.turned0 _ _ HQ6.out hT)).mono ?_)
              rintro e w' ⟨rfl, T'⟩
              exact ⟨_, rfl, T', rfl⟩
            case s17 =>
              refine stepOk_guard [91, 88] [] (by kernel_rfl) 13 false 88 rfl rfl (by simp) true false (fun _ _ h => h) (fun hc => ?_) (fun hc => by cases hc)
              intro ac W hT hI hO
              have h91 : ac.tmps.getD 91 undef = .bool true := hI 91 (by simp)
              show Brings Try.prog (fun vv w' => Turned (fun _ => False) W w' ∧ vv = .bool false) _
              simp only [execOp, Act.eval, h91]
              go_simp
              try exact ⟨Turned.refl _ _, rfl⟩
            case s18 =>
              refine stepOk_free [88, 92] [] (by kernel_rfl) rfl ?_
              intro ac W hT hI hO
              have h88 : ac.tmps.getD 88 undef = .bool false := hI 88 (by simp)
              have h92 : ac.tmps.getD 92 undef = .bool false := hI 92 (by simp)
              show Brings Try.prog (fun vv w' => Turned (fun _ => False) W w' ∧ vv = .bool false) _
              simp only [execOp, Act.eval, h88, h92]
              go_simp
              try exact ⟨Turned.refl _ _, rfl⟩
            case s19 =>
              refine stepOk_free [93] [] (by kernel_rfl) rfl ?_
              intro ac W hT hI hO
              have h93 : ac.tmps.getD 93 undef = .bool false := hI 93 (by simp)
              show Brings Try.prog (fun vv w' => Turned (fun _ => False) W w' ∧ vv = .bool false) _
              simp only [execOp, Act.eval, h93]
              go_simp
              try exact ⟨Turned.refl _ _, rfl⟩
            case s20 =>
              refine stepOk_guard [94] [0] (by kernel_rfl) 19 false 94 rfl rfl (by simp) true false (fun _ _ h => h) (fun hc => ?_) (fun hc => by cases hc)
              intro ac W hT hI hO
              have h0 : ac.tmps.getD 0 undef = .slice (some ⟨gb, go, none⟩) l.length c := hO 0 (by simp)
              show Brings Try.prog (fun vv w' => Turned (fun _ => False) W w' ∧ vv = .slice (some ⟨gb, go, none⟩) l.length c) _
              simp only [execOp, Act.eval, h0]
              go_simp
              try exact ⟨Turned.refl _ _, rfl⟩
            case s21 =>
              refine stepOk_guard [94] [5] (by kernel_rfl) 19 false 94 rfl rfl (by simp) true false (fun _ _ h => h) (fun hc => ?_) (fun hc => by cases hc)
              intro ac W hT hI hO
              have h5 : ac.tmps.getD 5 undef = .int .i64 (j : Int) := hO 5 (by simp)
              show Brings Try.prog (fun vv w' => Turned (fun _ => False) W w' ∧ vv = .int .i64 (j : Int)) _
              simp only [execOp, Act.eval, h5]
              go_simp
              try exact ⟨Turned.refl _ _, rfl⟩
            case s22 =>
              refine stepOk_guard [95, 96, 94] [] (by kernel_rfl) 19 false 94 rfl rfl (by simp) true false (fun _ _ h => h) (fun hc => ?_) (fun hc => by cases hc)
              intro ac W hT hI hO
              have h95 : ac.tmps.getD 95 undef = .slice (some ⟨gb, go, none⟩) l.length c := hI 95 (by simp)
              have h96 : ac.tmps.getD 96 undef = .int .i64 (j : Int) := hI 96 (by simp)
              show Brings Try.prog (fun vv w' => Turned (fun _ => False) W w' ∧ vv = .pointer (some ⟨gb, go + j * 8, none⟩)) _
              have hjj : j < l.length := hjl
              simp only [execOp, Act.eval, h95, h96]
              go_simp
              try exact ⟨Turned.refl _ _, rfl⟩
            case s23 =>
              refine stepOk_guard [97, 94] [] (by kernel_rfl) 19 false 94 rfl rfl (by simp) true false (fun _ _ h => h) (fun hc => ?_) (fun hc => by cases hc)
              intro ac W hT hI hO
              have h97 : ac.tmps.getD 97 undef = .pointer (some ⟨gb, go + j * 8, none⟩) := hI 97 (by simp)
              show Brings Try.prog (fun vv w' => Turned (fun _ => False) W w' ∧ vv = .pointer (some ⟨gb, go + j * 8, none⟩)) _
              simp only [execOp, Act.eval, h97]
              go_simp
              try exact ⟨Turned.refl _ _, rfl⟩
            case s24 =>
              refine stepOk_guard [98, 94] [] (by kernel_rfl) 19 false 94 rfl rfl (by simp) true false (fun _ _ h => h) (fun hc => ?_) (fun hc => by cases hc)
              intro ac W hT hI hO
              have h98 : ac.tmps.getD 98 undef = .pointer (some ⟨gb, go + j * 8, none⟩) := hI 98 (by simp)
              show Brings Try.prog (fun vv w' => Turned (fun _ => False) W w' ∧ vv = .agg #[.int .i64 x.kind, .int .i64 x.n, .string x.name, .slice x.at_.1 x.args.length x.at_.2]) _
              obtain ⟨c0, c1, c2, c3, c4, c5, c6, c7⟩ := HATO.out W (HO6.out.trans hT)
              simp only [execOp, Act.eval, h98]
              go_simp
              try exact ⟨Turned.refl _ _, rfl⟩
            case s25 =>
              refine stepOk_guard [94] [0] (by kernel_rfl) 19 false 94 rfl rfl (by simp) true false (fun _ _ h => h) (fun hc => ?_) (fun hc => by cases hc)
              intro ac W hT hI hO
              have h0 : ac.tmps.getD 0 undef = .slice (some ⟨gb, go, none⟩) l.length c := hO 0 (by simp)
              show Brings Try.prog (fun vv w' => Turned (fun _ => False) W w' ∧ vv = .slice (some ⟨gb, go, none⟩) l.length c) _
              simp only [execOp, Act.eval, h0]
              go_simp
              try exact ⟨Turned.refl _ _, rfl⟩
            case s26 =>
              refine stepOk_guard [94] [5] (by kernel_rfl) 19 false 94 rfl rfl (by simp) true false (fun _ _ h => h) (fun hc => ?_) (fun hc => by cases hc)
              intro ac W hT hI hO
              have h5 : ac.tmps.getD 5 undef = .int .i64 (j : Int) := hO 5 (by simp)
              show Brings Try.prog (fun vv w' => Turned (fun _ => False) W w' ∧ vv = .int .i64 (j : Int)) _
              simp only [execOp, Act.eval, h5]
              go_simp
              try exact ⟨Turned.refl _ _, rfl⟩
            case s27 =>
              refine stepOk_guard [100, 101, 94] [] (by kernel_rfl) 19 false 94 rfl rfl (by simp) true false (fun _ _ h => h) (fun hc => ?_) (fun hc => by cases hc)
              intro ac W hT hI hO
              have h100 : ac.tmps.getD 100 undef = .slice (some ⟨gb, go, none⟩) l.length c := hI 100 (by simp)
              have h101 : ac.tmps.getD 101 undef = .int .i64 (j : Int) := hI 101 (by simp)
              show Brings Try.prog (fun vv w' => Turned (fun _ => False) W w' ∧ vv = .pointer (some ⟨gb, go + j * 8, none⟩)) _
              have hjj : j < l.length := hjl
              simp only [execOp, Act.eval, h100, h101]
              go_simp
              try exact ⟨Turned.refl _ _, rfl⟩
            case s28 =>
              refine stepOk_guard [102, 94] [] (by kernel_rfl) 19 false 94 rfl rfl (by simp) true false (fun _ _ h => h) (fun hc => ?_) (fun hc => by cases hc)
              intro ac W hT hI hO
              have h102 : ac.tmps.getD 102 undef = .pointer (some ⟨gb, go + j * 8, none⟩) := hI 102 (by simp)
              show Brings Try.prog (fun vv w' => Turned (fun _ => False) W w' ∧ vv = .pointer (some ⟨gb, go + j * 8 + 4, none⟩)) _
              simp only [execOp, Act.eval, h102]
              go_simp
              try exact ⟨Turned.refl _ _, rfl⟩
            case s29 =>
              refine stepOk_guard [103, 94] [] (by kernel_rfl) 19 false 94 rfl rfl (by simp) true false (fun _ _ h => h) (fun hc => ?_) (fun hc => by cases hc)
              intro ac W hT hI hO
              have h103 : ac.tmps.getD 103 undef = .pointer (some ⟨gb, go + j * 8 + 4, none⟩) := hI 103 (by simp)
              show Brings Try.prog (fun vv w' => Turned (fun _ => False) W w' ∧ vv = .agg #[.int .i64 y.kind, .int .i64 y.n, .string y.name, .slice y.at_.1 y.args.length y.at_.2]) _
              obtain ⟨c0, c1, c2, c3, c4, c5, c6, c7⟩ := HATO.out W (HO6.out.trans hT)
              simp only [execOp, Act.eval, h103]
              go_simp
              try exact ⟨Turned.refl _ _, rfl⟩
            case s30 =>
              refine stepOk_guard [99, 104, 94] [] (by kernel_rfl) 19 false 94 rfl rfl (by simp) true false (fun _ _ h => h) (fun hc => ?_) (fun hc => by cases hc)
              intro ac W hT hI hO
              have h99 : ac.tmps.getD 99 undef = .agg #[.int .i64 x.kind, .int .i64 x.n, .string x.name, .slice x.at_.1 x.args.length x.at_.2] := hI 99 (by simp)
              have h104 : ac.tmps.getD 104 undef = .agg #[.int .i64 y.kind, .int .i64 y.n, .string y.name, .slice y.at_.1 y.args.length y.at_.2] := hI 104 (by simp)
              show Brings Try.prog (fun vv w' => Turned (fun _ => False) W w' ∧ vv = .bool cb) _
              simp only [execOp, Act.eval, h99, h104]
              go_simp
              show Calls Try.prog 112 _ W _
              (with_reducible refine (couldP112 ((HXO.out W (HO6.out.trans hT)).1.mono (fun _ _ _ => trivial)) ((HXO.out W (HO6.out.trans hT)).2.mono (fun _ _ _ => trivial)) HSX.out HSY.out HCB.out).mono ?_)
              rintro e w' ⟨rfl, T'⟩
              exact ⟨_, rfl, T', rfl⟩
            case s31 =>
              refine stepOk_guard [94] [0] (by kernel_rfl) 19 false 94 rfl rfl (by simp) true false (fun _ _ h => h) (fun hc => ?_) (fun hc => by cases hc)
              intro ac W hT hI hO
              have h0 : ac.tmps.getD 0 undef = .slice (some ⟨gb, go, none⟩) l.length c := hO 0 (by simp)
              show Brings Try.prog (fun vv w' => Turned (fun _ => False) W w' ∧ vv = .slice (some ⟨gb, go, none⟩) l.length c) _
              simp only [execOp, Act.eval, h0]
              go_simp
              try exact ⟨Turned.refl _ _, rfl⟩
            case s32 =>
              refine stepOk_guard [94] [5] (by kernel_rfl) 19 false 94 rfl rfl (by simp) true false (fun _ _ h => h) (fun hc => ?_) (fun hc => by cases hc)
              intro ac W hT hI hO
              have h5 : ac.tmps.getD 5 undef = .int .i64 (j : Int) := hO 5 (by simp)
              show Brings Try.prog (fun vv w' => Turned (fun _ => False) W w' ∧ vv = .int .i64 (j : Int)) _
              simp only [execOp, Act.eval, h5]
              go_simp
              try exact ⟨Turned.refl _ _, rfl⟩
            case s33 =>
              refine stepOk_guard [106, 107, 94] [] (by kernel_rfl) 19 false 94 rfl rfl (by simp) true false (fun _ _ h => h) (fun hc => ?_) (fun hc => by cases hc)
              intro ac W hT hI hO
              have h106 : ac.tmps.getD 106 undef = .slice (some ⟨gb, go, none⟩) l.length c := hI 106 (by simp)
              have h107 : ac.tmps.getD 107 undef = .int .i64 (j : Int) := hI 107 (by simp)
              show Brings Try.prog (fun vv w' => Turned (fun _ => False) W w' ∧ vv = .pointer (some ⟨gb, go + j * 8, none⟩)) _
              have hjj : j < l.length := hjl
              simp only [execOp, Act.eval, h106, h107]
              go_simp
              try exact ⟨Turned.refl _ _, rfl⟩
            case s34 =>
              refine stepOk_guard [108, 94] [] (by kernel_rfl) 19 false 94 rfl rfl (by simp) true false (fun _ _ h => h) (fun hc => ?_) (fun hc => by cases hc)
              intro ac W hT hI hO
              have h108 : ac.tmps.getD 108 undef = .pointer (some ⟨gb, go + j * 8, none⟩) := hI 108 (by simp)
              show Brings Try.prog (fun vv w' => Turned (fun _ => False) W w' ∧ vv = .pointer (some ⟨gb, go + j * 8, none⟩)) _
              simp only [execOp, Act.eval, h108]
              go_simp
              try exact ⟨Turned.refl _ _, rfl⟩
            case s35 =>
              refine stepOk_guard [109, 94] [] (by kernel_rfl) 19 false 94 rfl rfl (by simp) true false (fun _ _ h => h) (fun hc => ?_) (fun hc => by cases hc)
              intro ac W hT hI hO
              have h109 : ac.tmps.getD 109 undef = .pointer (some ⟨gb, go + j * 8, none⟩) := hI 109 (by simp)
              show Brings Try.prog (fun vv w' => Turned (fun _ => False) W w' ∧ vv = .agg #[.int .i64 x.kind, .int .i64 x.n, .string x.name, .slice x.at_.1 x.args.length x.at_.2]) _
              obtain ⟨c0, c1, c2, c3, c4, c5, c6, c7⟩ := HATO.out W (HO6.out.trans hT)
              simp only [execOp, Act.eval, h109]
              go_simp
              try exact ⟨Turned.refl _ _, rfl⟩
            case s36 =>
              refine stepOk_guard [110, 94] [] (by kernel_rfl) 19 false 94 rfl rfl (by simp) true false (fun _ _ h => h) (fun hc => ?_) (fun hc => by cases hc)
              intro ac W hT hI hO
              have h110 : ac.tmps.getD 110 undef = .agg #[.int .i64 x.kind, .int .i64 x.n, .string x.name, .slice x.at_.1 x.args.length x.at_.2] := hI 110 (by simp)
              show Brings Try.prog (fun vv w' => Turned (fun _ => False) W w' ∧ AlkO x.bare (vv) w') _
              simp only [execOp, Act.eval, h110]
              go_simp
              show Calls Try.prog 114 _ W _
              have hxy := HXO.out W (HO6.out.trans hT)
              refine (own26 (hxy.1.mono (fun _ _ _ => trivial)) HSX.out).mono ?_
              rintro e w' ⟨X, rfl, g1, g2, T'⟩
              exact ⟨_, rfl, T', X, rfl, g2.mono (fun _ _ _ => trivial), g1⟩
            case s37 =>
              refine stepOk_guard [94] [0] (by kernel_rfl) 19 false 94 rfl rfl (by simp) true false (fun _ _ h => h) (fun hc => ?_) (fun hc => by cases hc)
              intro ac W hT hI hO
              have h0 : ac.tmps.getD 0 undef = .slice (some ⟨gb, go, none⟩) l.length c := hO 0 (by simp)
              show Brings Try.prog (fun vv w' => Turned (fun _ => False) W w' ∧ vv = .slice (some ⟨gb, go, none⟩) l.length c) _
              simp only [execOp, Act.eval, h0]
              go_simp
              try exact ⟨Turned.refl _ _, rfl⟩
            case s38 =>
              refine stepOk_guard [94] [5] (by kernel_rfl) 19 false 94 rfl rfl (by simp) true false (fun _ _ h => h) (fun hc => ?_) (fun hc => by cases hc)
              intro ac W hT hI hO
              have h5 : ac.tmps.getD 5 undef = .int .i64 (j : Int) := hO 5 (by simp)
              show Brings Try.prog (fun vv w' => Turned (fun _ => False) W w' ∧ vv = .int .i64 (j : Int)) _
              simp only [execOp, Act.eval, h5]
              go_simp
              try exact ⟨Turned.refl _ _, rfl⟩
            case s39 =>
              refine stepOk_guard [112, 113, 94] [] (by kernel_rfl) 19 false 94 rfl rfl (by simp) true false (fun _ _ h => h) (fun hc => ?_) (fun hc => by cases hc)
              intro ac W hT hI hO
              have h112 : ac.tmps.getD 112 undef = .slice (some ⟨gb, go, none⟩) l.length c := hI 112 (by simp)
              have h113 : ac.tmps.getD 113 undef = .int .i64 (j : Int) := hI 113 (by simp)
              show Brings Try.prog (fun vv w' => Turned (fun _ => False) W w' ∧ vv = .pointer (some ⟨gb, go + j * 8, none⟩)) _
              have hjj : j < l.length := hjl
              simp only [execOp, Act.eval, h112, h113]
              go_simp
              try exact ⟨Turned.refl _ _, rfl⟩
            case s40 =>
              refine stepOk_guard [114, 94] [] (by kernel_rfl) 19 false 94 rfl rfl (by simp) true false (fun _ _ h => h) (fun hc => ?_) (fun hc => by cases hc)
              intro ac W hT hI hO
              have h114 : ac.tmps.getD 114 undef = .pointer (some ⟨gb, go + j * 8, none⟩) := hI 114 (by simp)
              show Brings Try.prog (fun vv w' => Turned (fun _ => False) W w' ∧ vv = .pointer (some ⟨gb, go + j * 8 + 4, none⟩)) _
              simp only [execOp, Act.eval, h114]
              go_simp
              try exact ⟨Turned.refl _ _, rfl⟩
            case s41 =>
              refine stepOk_guard [115, 94] [] (by kernel_rfl) 19 false 94 rfl rfl (by simp) true false (fun _ _ h => h) (fun hc => ?_) (fun hc => by cases hc)
              intro ac W hT hI hO
              have h115 : ac.tmps.getD 115 undef = .pointer (some ⟨gb, go + j * 8 + 4, none⟩) := hI 115 (by simp)
              show Brings Try.prog (fun vv w' => Turned (fun _ => False) W w' ∧ vv = .agg #[.int .i64 y.kind, .int .i64 y.n, .string y.name, .slice y.at_.1 y.args.length y.at_.2]) _
              obtain ⟨c0, c1, c2, c3, c4, c5, c6, c7⟩ := HATO.out W (HO6.out.trans hT)
              simp only [execOp, Act.eval, h115]
              go_simp
              try exact ⟨Turned.refl _ _, rfl⟩
            case s42 =>
              refine stepOk_guard [116, 94] [] (by kernel_rfl) 19 false 94 rfl rfl (by simp) true false (fun _ _ h => h) (fun hc => ?_) (fun hc => by cases hc)
              intro ac W hT hI hO
              have h116 : ac.tmps.getD 116 undef = .agg #[.int .i64 y.kind, .int .i64 y.n, .string y.name, .slice y.at_.1 y.args.length y.at_.2] := hI 116 (by simp)
              show Brings Try.prog (fun vv w' => Turned (fun _ => False) W w' ∧ AlkO y.bare (vv) w') _
              simp only [execOp, Act.eval, h116]
              go_simp
              show Calls Try.prog 114 _ W _
              have hxy := HXO.out W (HO6.out.trans hT)
              refine (own26 (hxy.2.mono (fun _ _ _ => trivial)) HSY.out).mono ?_
              rintro e w' ⟨X, rfl, g1, g2, T'⟩
              exact ⟨_, rfl, T', X, rfl, g2.mono (fun _ _ _ => trivial), g1⟩
            case s43 =>
              refine stepOk_guard [111, 117, 94] [] (by kernel_rfl) 19 false 94 rfl rfl (by simp) true false (fun _ _ h => h) (fun hc => ?_) (fun hc => by cases hc)
              intro ac W hT hI hO
              have h111 := hI 111 (by simp)
              obtain ⟨o111, h111, x111, y111⟩ : AlkO x.bare (ac.tmps.getD 111 undef) W := h111
              have h117 := hI 117 (by simp)
              obtain ⟨o117, h117, x117, y117⟩ : AlkO y.bare (ac.tmps.getD 117 undef) W := h117
              show Brings Try.prog (fun vv w' => Turned (fun _ => False) W w' ∧ vv = .bool cb) _
              simp only [execOp, Act.eval, h111, h117]
              go_simp
              show Calls Try.prog 119 _ W _
              (with_reducible refine (couldP119 (b := cb) x111 x117 (by rw [y111, y117]; exact HCB.out)).mono ?_)
              rintro e w' ⟨rfl, T'⟩
              exact ⟨_, rfl, T', rfl⟩
            case s44 =>
              refine stepOk_guard [105, 118, 94] [] (by kernel_rfl) 19 false 94 rfl rfl (by simp) true false (fun _ _ h => h) (fun hc => ?_) (fun hc => by cases hc)
              intro ac W hT hI hO
              have h105 : ac.tmps.getD 105 undef = .bool cb := hI 105 (by simp)
              have h118 : ac.tmps.getD 118 undef = .bool cb := hI 118 (by simp)
              show Brings Try.prog (fun vv w' => Turned (fun _ => False) W w' ∧ vv = .bool false) _
              simp only [execOp, Act.eval, h105, h118]
              go_simp
              try exact ⟨Turned.refl _ _, rfl⟩
            case s45 =>
              refine stepOk_free [94, 119] [] (by kernel_rfl) rfl ?_
              intro ac W hT hI hO
              have h94 : ac.tmps.getD 94 undef = .bool false := hI 94 (by simp)
              have h119 : ac.tmps.getD 119 undef = .bool false := hI 119 (by simp)
              show Brings Try.prog (fun vv w' => Turned (fun _ => False) W w' ∧ vv = .bool false) _
              simp only [execOp, Act.eval, h94, h119]
              go_simp
              try exact ⟨Turned.refl _ _, rfl⟩
          case hQ =>
            intro vs w7 T7 hV
            have q120 : vs 120 = .bool false := hV 120 (by simp)
            simp only [List.foldl_cons, List.foldl_nil, List.setIfInBounds_toArray, List.set_cons_zero, List.set_cons_succ, q120]
            have HT7 := Lib.hid T7
            clear hV q120 T7
            go_wp2_with fail
            go_roundg (gk - 1)
            case measure => have := HG.out; omega
            case rel => exact ⟨j + 1, tr, show _ = _ by have := HG.out; omega, by omega, by go_num, UPQ.turned0 _ _ HQ6.out HT7.out⟩
    · obtain rfl : j = l.length := by omega
      have dj : decide ((l.length : Int) < (l.length : Int)) = false := decide_eq_false (by omega)
      go_wp2_with fail
      go_ret
      exact ⟨rfl, HT1.out.trans HOLD.out⟩
end Go.Proofs.Ytoihjobdfjajfaa

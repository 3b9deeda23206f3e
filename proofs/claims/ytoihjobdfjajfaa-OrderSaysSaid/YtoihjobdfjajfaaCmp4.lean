/- compare: one term against another. -/
import Derived.Test.YtoihjobdfjajfaaCmp3
import Derived.Test.YtoihjobdfjajfaaAny4
import Derived.Test.YtoihjobdfjajfaaGood
namespace Go.Proofs.Ytoihjobdfjajfaa
set_option linter.unusedVariables false
set_option linter.unusedSimpArgs false
open Go.RowKit
theorem twoB (w : World) (x y : Obj) : Turned (fun _ => False) w ((w.alloc x).alloc y) ∧ ((w.alloc x).alloc y).heap.size = w.heap.size + 2 ∧ ((w.alloc x).alloc y).heap[w.heap.size]? = some x ∧ ((w.alloc x).alloc y).heap[w.heap.size + 1]? = some y :=
  ⟨((Turned.refl _ w).alloc _).alloc _, by simp, heap_alloc2_old w x y, heap_alloc2_new w x y⟩
theorem getD_opt {t : Array Value} {i : Nat} {v : Value} (h : t.getD i undef = v) : t[i]?.getD undef = v := by rw [← Array.getD_eq_getD_getElem?]; exact h
/-- The four that are asked. -/
def fourI (a b : LT) : List Int := [cmpI (Tm.place a) (Tm.place b), cmpI a.n b.n, cmpI a.args.length b.args.length, cmpS a.name b.name]
theorem fourI_head (a b : LT) : firstI (fourI a b) = Tm.cmpHead a b := by
  unfold fourI Tm.cmpHead
  simp only [firstI, orI]
  split
  · rfl
  · split
    · rfl
    · split
      · rfl
      · split
        · rfl
        · rename_i h; simp at h; exact h.symm
def OrS (w1 : World) (a b : LT) : List Value → World → Prop
  | [], W => Turned (fun _ => False) w1 W
  | [sv], W => Turned (fun _ => False) w1 W ∧ ∃ g, sv = .slice (some ⟨g, 0, none⟩) 4 4 ∧ W.heap[g]? = some (.cells #[.int .i64 (cmpI (Tm.place a) (Tm.place b)), .int .i64 (cmpI a.n b.n), .int .i64 (cmpI a.args.length b.args.length), .int .i64 (cmpS a.name b.name)] 3 (0, 0))
  | [_, ov], W => Turned (fun _ => False) w1 W ∧ ov = .int .i64 (Tm.cmpHead a b)
  | _, _ => False
theorem OrS.turned0 {w1 : World} {a b : LT} : ∀ (hs : List Value) (w w' : World), OrS w1 a b hs w → Turned (fun _ => False) w w' → OrS w1 a b hs w'
  | [], _, _, h, ht => Turned.trans h ht
  | [_], _, _, h, ht => by
    obtain ⟨h1, g, h2, h3⟩ := h
    exact ⟨h1.trans ht, g, h2, (ht.block g (Array.getElem?_eq_some_iff.1 h3).1 (fun f => f)).trans h3⟩
  | [_, _], _, _, h, ht => ⟨h.1.trans ht, h.2⟩
  | _ :: _ :: _ :: _, _, _, h, _ => h.elim
theorem orS_nil {w1 W : World} {a b : LT} {hs : List Value} (hl : hs.length ≤ 0) (h : OrS w1 a b hs W) : Turned (fun _ => False) w1 W := by
  obtain rfl : hs = [] := List.eq_nil_of_length_eq_zero (by omega)
  exact h
theorem orS_val {w1 W : World} {a b : LT} {hs : List Value} (h : OrS w1 a b hs W) (v : Value) (hv : hs[1]? = some v) : v = .int .i64 (Tm.cmpHead a b) := by
  match hs, h, hv with
  | [_, _], h, hv => simp at hv; subst hv; exact h.2
theorem orS_end {w1 W : World} {a b : LT} {hs : List Value} (hl : hs.length = 2) (h : OrS w1 a b hs W) : Turned (fun _ => False) w1 W := by
  match hs, hl, h with
  | [_, _], _, h => exact h.1
theorem or4 {w : World} {a b : LT} {g : Nat} (h : w.heap[g]? = some (.cells #[.int .i64 (cmpI (Tm.place a) (Tm.place b)), .int .i64 (cmpI a.n b.n), .int .i64 (cmpI a.args.length b.args.length), .int .i64 (cmpS a.name b.name)] 3 (0, 0))) :
    Calls Try.prog 164 #[.slice (some ⟨g, 0, none⟩) 4 4] w fun e w' => e = .returned (.int .i64 (Tm.cmpHead a b)) ∧ Turned (fun _ => False) w w' := by
  have hr : Row w 3 1 (.slice (some ⟨g, 0, none⟩) 4 4) (fourI a b).length ((fourI a b).map (Value.int .i64)) :=
    ⟨rfl, .inr ⟨g, 4, _, rfl, h, Nat.le_refl _, by unfold maxLen; omega, Nat.le_refl _, rfl⟩⟩
  have := or164 hr
  rw [fourI_head] at this
  exact this

set_option maxRecDepth 100000 in
set_option maxHeartbeats 3200000 in
theorem compare135 {p : Nat → Prop} (n : Nat) : ∀ (a b : LT) (w : World), a.depth ≤ n → a.In p w → b.In p w →
    Calls Try.prog 135 #[a.val, b.val] w fun e w' => e = .returned (.int .i64 (Tm.cmp a b)) ∧ Turned (fun _ => False) w w' := by
  induction n with
  | zero => intro a b w h; have := Tm.depth_pos a; omega
  | succ n ih =>
    intro a b w hd ha hb
    have h2 := twoB w (.cells #[.int .i64 a.kind, .int .i64 a.n, .string a.name, .slice a.at_.1 a.args.length a.at_.2] 27) (.cells #[.int .i64 b.kind, .int .i64 b.n, .string b.name, .slice b.at_.1 b.args.length b.at_.2] 27)
    obtain ⟨w1, hw1⟩ : ∃ z, z = (w.alloc (.cells #[.int .i64 a.kind, .int .i64 a.n, .string a.name, .slice a.at_.1 a.args.length a.at_.2] 27)).alloc (.cells #[.int .i64 b.kind, .int .i64 b.n, .string b.name, .slice b.at_.1 b.args.length b.at_.2] 27) := ⟨_, rfl⟩
    rw [← hw1] at h2
    have hkp : ∀ W, Turned (fun _ => False) w1 W → W.cell? ⟨w.heap.size, 0, none⟩ = some (.int .i64 a.kind) ∧ W.cell? ⟨w.heap.size, 1, none⟩ = some (.int .i64 a.n) ∧ W.cell? ⟨w.heap.size, 2, none⟩ = some (.string a.name) ∧ W.cell? ⟨w.heap.size, 3, none⟩ = some (.slice a.at_.1 a.args.length a.at_.2) ∧
        W.cell? ⟨w.heap.size + 1, 0, none⟩ = some (.int .i64 b.kind) ∧ W.cell? ⟨w.heap.size + 1, 1, none⟩ = some (.int .i64 b.n) ∧ W.cell? ⟨w.heap.size + 1, 2, none⟩ = some (.string b.name) ∧ W.cell? ⟨w.heap.size + 1, 3, none⟩ = some (.slice b.at_.1 b.args.length b.at_.2) := fun W h => by
      obtain ⟨p0, p1, p2, p3, _⟩ := cells4 ((h.block _ (by have := h2.2.1; omega) (fun f => f)).trans h2.2.2.1)
      obtain ⟨q0, q1, q2, q3, _⟩ := cells4 ((h.block _ (by have := h2.2.1; omega) (fun f => f)).trans h2.2.2.2)
      exact ⟨p0, p1, p2, p3, q0, q1, q2, q3⟩
    have hpa := fun W (h : Turned (fun _ => False) w1 W) => place134 (ha.turned0 (h2.1.trans h))
    have hpb := fun W (h : Turned (fun _ => False) w1 W) => place134 (hb.turned0 (h2.1.trans h))
    have hcf := fun W (h : Turned (fun _ => False) w1 W) => compareFunc168 (ha.turned0 (h2.1.trans h)).sl (hb.turned0 (h2.1.trans h)).sl (fun x hx y W' g1 g2 => ih x y W' (by have := arg_depth hx; omega) g1 g2)
    have la := ha.len
    have lb := hb.len
    have hm1 : a.args.length ≤ 9223372036854775807 := by have := la.1; have := la.2.1; unfold maxLen at this; omega
    have hm2 : b.args.length ≤ 9223372036854775807 := by have := lb.1; have := lb.2.1; unfold maxLen at this; omega
    rw [LT.val_eq a] at hpa
    rw [LT.val_eq b] at hpb
    rw [LT.val_eq a, LT.val_eq b]
    have HKP := Lib.hid hkp
    have HPA := Lib.hid hpa
    have HPB := Lib.hid hpb
    have HCF := Lib.hid hcf
    have HT1 := Lib.hid h2.1
    have HV := Lib.hid (Tm.cmp_eq a b)
    have HW := Lib.hid hw1
    clear hkp hpa hpb hcf h2 ih hd ha hb la lb hw1
    go_enter Try.func135, Try.ntmps135
    go_wp2_with fail
    rw [← HW.out]
    obtain ⟨A, hA⟩ : ∃ z, z = w.heap.size := ⟨_, rfl⟩
    obtain ⟨B, hB⟩ : ∃ z, z = w.heap.size + 1 := ⟨_, rfl⟩
    rw [← hB, ← hA] at HKP
    try rw [← hB]
    try rw [← hA]
    clear hA hB HW
    have hvor : ∀ hs W, OrS w1 a b hs W → ∀ v, hs[1]? = some v → v = .int .i64 (Tm.cmpHead a b) := fun hs W h v hv => orS_val h v hv
    refine wp_region_hs [6, 7, 8, 9, 10, 11, 12, 13, 14, 15, 16, 17, 18, 19, 20, 21, 22, 23, 24, 25, 26, 27, 28, 29, 5] [22, 23] [0, 0, 0, 0, 0, 0, 0, 0, 0, 0, 0, 0, 0, 0, 0, 0, 0, 0, 0, 0, 0, 0, 2, 2, 2] [28, 29] (fun d v => (match d with | 6 => v = .agg #[.int .i64 a.kind, .int .i64 a.n, .string a.name, .slice a.at_.1 a.args.length a.at_.2] | 7 => v = .int .i64 (Tm.place a) | 8 => v = .agg #[.int .i64 b.kind, .int .i64 b.n, .string b.name, .slice b.at_.1 b.args.length b.at_.2] | 9 => v = .int .i64 (Tm.place b) | 10 => v = .int .i64 (cmpI (Tm.place a) (Tm.place b)) | 11 => v = .pointer (some ⟨A, 1, none⟩) | 12 => v = .int .i64 a.n | 13 => v = .pointer (some ⟨B, 1, none⟩) | 14 => v = .int .i64 b.n | 15 => v = .int .i64 (cmpI a.n b.n) | 16 => v = .pointer (some ⟨A, 3, none⟩) | 17 => v = .slice a.at_.1 a.args.length a.at_.2 | 18 => v = .int .i64 (a.args.length : Int) | 19 => v = .pointer (some ⟨B, 3, none⟩) | 20 => v = .slice b.at_.1 b.args.length b.at_.2 | 21 => v = .int .i64 (b.args.length : Int) | 22 => v = .int .i64 (cmpI a.args.length b.args.length) | 23 => v = .pointer (some ⟨A, 2, none⟩) | 24 => v = .string a.name | 25 => v = .pointer (some ⟨B, 2, none⟩) | 26 => v = .string b.name | 27 => v = .int .i64 (cmpS a.name b.name) | 5 => v = .int .i64 (Tm.cmpHead a b) | _ => True : Prop)) (OrS w1 a b) (by kernel_rfl) rfl (by kernel_rfl) (by kernel_rfl) (by kernel_rfl) (by kernel_rfl) (fun _ h => h) (fun hs w w' h ht => OrS.turned0 hs w w' h ht) ?hs ?hQ
    case hs =>
      refine ⟨?s0, ?s1, ?s2, ?s3, ?s4, ?s5, ?s6, ?s7, ?s8, ?s9, ?s10, ?s11, ?s12, ?s13, ?s14, ?s15, ?s16, ?s17, ?s18, ?s19, ?s20, ?s21, ?s22, ?s23, ?s24, trivial⟩
      case s0 =>
        refine fun hs hle => stepG_free [] [2] (by kernel_rfl) rfl ?_
        · intro ac W hT hI hO
          have hle : hs.length ≤ 0 := hle
          have h2 : ac.tmps.getD 2 undef = .pointer (some ⟨A, 0, none⟩) := hO 2 (by simp)
          show Brings Try.prog (fun v w' => Turned (fun _ => False) W w' ∧ v = .agg #[.int .i64 a.kind, .int .i64 a.n, .string a.name, .slice a.at_.1 a.args.length a.at_.2]) _
          replace hT := orS_nil (by omega) hT; obtain ⟨p0, p1, p2, p3, q0, q1, q2, q3⟩ := HKP.out W hT
          simp only [execOp, Act.eval, h2]
          go_simp
          exact ⟨Turned.refl _ _, rfl⟩
      case s1 =>
        refine fun hs hle => stepG_free [6] [] (by kernel_rfl) rfl ?_
        · intro ac W hT hI hO
          have hle : hs.length ≤ 0 := hle
          have h6 : ac.tmps.getD 6 undef = .agg #[.int .i64 a.kind, .int .i64 a.n, .string a.name, .slice a.at_.1 a.args.length a.at_.2] := hI 6 (by simp)
          show Brings Try.prog (fun v w' => Turned (fun _ => False) W w' ∧ v = .int .i64 (Tm.place a)) _
          simp only [execOp, Act.eval, h6]
          go_simp
          show Calls Try.prog 134 _ W _
          (with_reducible refine (HPA.out W (orS_nil (by omega) hT)).mono ?_)
          rintro e w' ⟨rfl, T'⟩
          exact ⟨_, rfl, T', rfl⟩
      case s2 =>
        refine fun hs hle => stepG_free [] [3] (by kernel_rfl) rfl ?_
        · intro ac W hT hI hO
          have hle : hs.length ≤ 0 := hle
          have h3 : ac.tmps.getD 3 undef = .pointer (some ⟨B, 0, none⟩) := hO 3 (by simp)
          show Brings Try.prog (fun v w' => Turned (fun _ => False) W w' ∧ v = .agg #[.int .i64 b.kind, .int .i64 b.n, .string b.name, .slice b.at_.1 b.args.length b.at_.2]) _
          replace hT := orS_nil (by omega) hT; obtain ⟨p0, p1, p2, p3, q0, q1, q2, q3⟩ := HKP.out W hT
          simp only [execOp, Act.eval, h3]
          go_simp
          exact ⟨Turned.refl _ _, rfl⟩
      case s3 =>
        refine fun hs hle => stepG_free [8] [] (by kernel_rfl) rfl ?_
        · intro ac W hT hI hO
          have hle : hs.length ≤ 0 := hle
          have h8 : ac.tmps.getD 8 undef = .agg #[.int .i64 b.kind, .int .i64 b.n, .string b.name, .slice b.at_.1 b.args.length b.at_.2] := hI 8 (by simp)
          show Brings Try.prog (fun v w' => Turned (fun _ => False) W w' ∧ v = .int .i64 (Tm.place b)) _
          simp only [execOp, Act.eval, h8]
          go_simp
          show Calls Try.prog 134 _ W _
          (with_reducible refine (HPB.out W (orS_nil (by omega) hT)).mono ?_)
          rintro e w' ⟨rfl, T'⟩
          exact ⟨_, rfl, T', rfl⟩
      case s4 =>
        refine fun hs hle => stepG_free [7, 9] [] (by kernel_rfl) rfl ?_
        · intro ac W hT hI hO
          have hle : hs.length ≤ 0 := hle
          have h7 : ac.tmps.getD 7 undef = .int .i64 (Tm.place a) := hI 7 (by simp)
          have h9 : ac.tmps.getD 9 undef = .int .i64 (Tm.place b) := hI 9 (by simp)
          show Brings Try.prog (fun v w' => Turned (fun _ => False) W w' ∧ v = .int .i64 (cmpI (Tm.place a) (Tm.place b))) _
          simp only [execOp, Act.eval, h7, h9]
          go_simp
          show Calls Try.prog 165 _ W _
          (with_reducible refine ((fun W _ => compare165 (Tm.place a) (Tm.place b) W) W trivial).mono ?_)
          rintro e w' ⟨rfl, T'⟩
          exact ⟨_, rfl, T', rfl⟩
      case s5 =>
        refine fun hs hle => stepG_free [] [2] (by kernel_rfl) rfl ?_
        · intro ac W hT hI hO
          have hle : hs.length ≤ 0 := hle
          have h2 : ac.tmps.getD 2 undef = .pointer (some ⟨A, 0, none⟩) := hO 2 (by simp)
          show Brings Try.prog (fun v w' => Turned (fun _ => False) W w' ∧ v = .pointer (some ⟨A, 1, none⟩)) _
          simp only [execOp, Act.eval, h2]
          go_simp
          try exact ⟨Turned.refl _ _, rfl⟩
      case s6 =>
        refine fun hs hle => stepG_free [11] [] (by kernel_rfl) rfl ?_
        · intro ac W hT hI hO
          have hle : hs.length ≤ 0 := hle
          have h11 : ac.tmps.getD 11 undef = .pointer (some ⟨A, 1, none⟩) := hI 11 (by simp)
          show Brings Try.prog (fun v w' => Turned (fun _ => False) W w' ∧ v = .int .i64 a.n) _
          replace hT := orS_nil (by omega) hT; obtain ⟨p0, p1, p2, p3, q0, q1, q2, q3⟩ := HKP.out W hT
          simp only [execOp, Act.eval, h11]
          go_simp
          exact ⟨Turned.refl _ _, rfl⟩
      case s7 =>
        refine fun hs hle => stepG_free [] [3] (by kernel_rfl) rfl ?_
        · intro ac W hT hI hO
          have hle : hs.length ≤ 0 := hle
          have h3 : ac.tmps.getD 3 undef = .pointer (some ⟨B, 0, none⟩) := hO 3 (by simp)
          show Brings Try.prog (fun v w' => Turned (fun _ => False) W w' ∧ v = .pointer (some ⟨B, 1, none⟩)) _
          simp only [execOp, Act.eval, h3]
          go_simp
          try exact ⟨Turned.refl _ _, rfl⟩
      case s8 =>
        refine fun hs hle => stepG_free [13] [] (by kernel_rfl) rfl ?_
        · intro ac W hT hI hO
          have hle : hs.length ≤ 0 := hle
          have h13 : ac.tmps.getD 13 undef = .pointer (some ⟨B, 1, none⟩) := hI 13 (by simp)
          show Brings Try.prog (fun v w' => Turned (fun _ => False) W w' ∧ v = .int .i64 b.n) _
          replace hT := orS_nil (by omega) hT; obtain ⟨p0, p1, p2, p3, q0, q1, q2, q3⟩ := HKP.out W hT
          simp only [execOp, Act.eval, h13]
          go_simp
          exact ⟨Turned.refl _ _, rfl⟩
      case s9 =>
        refine fun hs hle => stepG_free [12, 14] [] (by kernel_rfl) rfl ?_
        · intro ac W hT hI hO
          have hle : hs.length ≤ 0 := hle
          have h12 : ac.tmps.getD 12 undef = .int .i64 a.n := hI 12 (by simp)
          have h14 : ac.tmps.getD 14 undef = .int .i64 b.n := hI 14 (by simp)
          show Brings Try.prog (fun v w' => Turned (fun _ => False) W w' ∧ v = .int .i64 (cmpI a.n b.n)) _
          simp only [execOp, Act.eval, h12, h14]
          go_simp
          show Calls Try.prog 166 _ W _
          (with_reducible refine ((fun W _ => compare166 a.n b.n W) W trivial).mono ?_)
          rintro e w' ⟨rfl, T'⟩
          exact ⟨_, rfl, T', rfl⟩
      case s10 =>
        refine fun hs hle => stepG_free [] [2] (by kernel_rfl) rfl ?_
        · intro ac W hT hI hO
          have hle : hs.length ≤ 0 := hle
          have h2 : ac.tmps.getD 2 undef = .pointer (some ⟨A, 0, none⟩) := hO 2 (by simp)
          show Brings Try.prog (fun v w' => Turned (fun _ => False) W w' ∧ v = .pointer (some ⟨A, 3, none⟩)) _
          simp only [execOp, Act.eval, h2]
          go_simp
          try exact ⟨Turned.refl _ _, rfl⟩
      case s11 =>
        refine fun hs hle => stepG_free [16] [] (by kernel_rfl) rfl ?_
        · intro ac W hT hI hO
          have hle : hs.length ≤ 0 := hle
          have h16 : ac.tmps.getD 16 undef = .pointer (some ⟨A, 3, none⟩) := hI 16 (by simp)
          show Brings Try.prog (fun v w' => Turned (fun _ => False) W w' ∧ v = .slice a.at_.1 a.args.length a.at_.2) _
          replace hT := orS_nil (by omega) hT; obtain ⟨p0, p1, p2, p3, q0, q1, q2, q3⟩ := HKP.out W hT
          simp only [execOp, Act.eval, h16]
          go_simp
          exact ⟨Turned.refl _ _, rfl⟩
      case s12 =>
        refine fun hs hle => stepG_free [17] [] (by kernel_rfl) rfl ?_
        · intro ac W hT hI hO
          have hle : hs.length ≤ 0 := hle
          have h17 : ac.tmps.getD 17 undef = .slice a.at_.1 a.args.length a.at_.2 := hI 17 (by simp)
          show Brings Try.prog (fun v w' => Turned (fun _ => False) W w' ∧ v = .int .i64 (a.args.length : Int)) _
          simp only [execOp, Act.eval, h17]
          go_simp
          try exact ⟨Turned.refl _ _, rfl⟩
      case s13 =>
        refine fun hs hle => stepG_free [] [3] (by kernel_rfl) rfl ?_
        · intro ac W hT hI hO
          have hle : hs.length ≤ 0 := hle
          have h3 : ac.tmps.getD 3 undef = .pointer (some ⟨B, 0, none⟩) := hO 3 (by simp)
          show Brings Try.prog (fun v w' => Turned (fun _ => False) W w' ∧ v = .pointer (some ⟨B, 3, none⟩)) _
          simp only [execOp, Act.eval, h3]
          go_simp
          try exact ⟨Turned.refl _ _, rfl⟩
      case s14 =>
        refine fun hs hle => stepG_free [19] [] (by kernel_rfl) rfl ?_
        · intro ac W hT hI hO
          have hle : hs.length ≤ 0 := hle
          have h19 : ac.tmps.getD 19 undef = .pointer (some ⟨B, 3, none⟩) := hI 19 (by simp)
          show Brings Try.prog (fun v w' => Turned (fun _ => False) W w' ∧ v = .slice b.at_.1 b.args.length b.at_.2) _
          replace hT := orS_nil (by omega) hT; obtain ⟨p0, p1, p2, p3, q0, q1, q2, q3⟩ := HKP.out W hT
          simp only [execOp, Act.eval, h19]
          go_simp
          exact ⟨Turned.refl _ _, rfl⟩
      case s15 =>
        refine fun hs hle => stepG_free [20] [] (by kernel_rfl) rfl ?_
        · intro ac W hT hI hO
          have hle : hs.length ≤ 0 := hle
          have h20 : ac.tmps.getD 20 undef = .slice b.at_.1 b.args.length b.at_.2 := hI 20 (by simp)
          show Brings Try.prog (fun v w' => Turned (fun _ => False) W w' ∧ v = .int .i64 (b.args.length : Int)) _
          simp only [execOp, Act.eval, h20]
          go_simp
          try exact ⟨Turned.refl _ _, rfl⟩
      case s16 =>
        refine fun hs hle => stepG_free [18, 21] [] (by kernel_rfl) rfl ?_
        · intro ac W hT hI hO
          have hle : hs.length ≤ 0 := hle
          have h18 : ac.tmps.getD 18 undef = .int .i64 (a.args.length : Int) := hI 18 (by simp)
          have h21 : ac.tmps.getD 21 undef = .int .i64 (b.args.length : Int) := hI 21 (by simp)
          show Brings Try.prog (fun v w' => Turned (fun _ => False) W w' ∧ v = .int .i64 (cmpI a.args.length b.args.length)) _
          simp only [execOp, Act.eval, h18, h21]
          go_simp
          show Calls Try.prog 165 _ W _
          (with_reducible refine ((fun W _ => compare165 a.args.length b.args.length W) W trivial).mono ?_)
          rintro e w' ⟨rfl, T'⟩
          exact ⟨_, rfl, T', rfl⟩
      case s17 =>
        refine fun hs hle => stepG_free [] [2] (by kernel_rfl) rfl ?_
        · intro ac W hT hI hO
          have hle : hs.length ≤ 0 := hle
          have h2 : ac.tmps.getD 2 undef = .pointer (some ⟨A, 0, none⟩) := hO 2 (by simp)
          show Brings Try.prog (fun v w' => Turned (fun _ => False) W w' ∧ v = .pointer (some ⟨A, 2, none⟩)) _
          simp only [execOp, Act.eval, h2]
          go_simp
          try exact ⟨Turned.refl _ _, rfl⟩
      case s18 =>
        refine fun hs hle => stepG_free [23] [] (by kernel_rfl) rfl ?_
        · intro ac W hT hI hO
          have hle : hs.length ≤ 0 := hle
          have h23 : ac.tmps.getD 23 undef = .pointer (some ⟨A, 2, none⟩) := hI 23 (by simp)
          show Brings Try.prog (fun v w' => Turned (fun _ => False) W w' ∧ v = .string a.name) _
          replace hT := orS_nil (by omega) hT; obtain ⟨p0, p1, p2, p3, q0, q1, q2, q3⟩ := HKP.out W hT
          simp only [execOp, Act.eval, h23]
          go_simp
          exact ⟨Turned.refl _ _, rfl⟩
      case s19 =>
        refine fun hs hle => stepG_free [] [3] (by kernel_rfl) rfl ?_
        · intro ac W hT hI hO
          have hle : hs.length ≤ 0 := hle
          have h3 : ac.tmps.getD 3 undef = .pointer (some ⟨B, 0, none⟩) := hO 3 (by simp)
          show Brings Try.prog (fun v w' => Turned (fun _ => False) W w' ∧ v = .pointer (some ⟨B, 2, none⟩)) _
          simp only [execOp, Act.eval, h3]
          go_simp
          try exact ⟨Turned.refl _ _, rfl⟩
      case s20 =>
        refine fun hs hle => stepG_free [25] [] (by kernel_rfl) rfl ?_
        · intro ac W hT hI hO
          have hle : hs.length ≤ 0 := hle
          have h25 : ac.tmps.getD 25 undef = .pointer (some ⟨B, 2, none⟩) := hI 25 (by simp)
          show Brings Try.prog (fun v w' => Turned (fun _ => False) W w' ∧ v = .string b.name) _
          replace hT := orS_nil (by omega) hT; obtain ⟨p0, p1, p2, p3, q0, q1, q2, q3⟩ := HKP.out W hT
          simp only [execOp, Act.eval, h25]
          go_simp
          exact ⟨Turned.refl _ _, rfl⟩
      case s21 =>
        refine fun hs hle => stepG_free [24, 26] [] (by kernel_rfl) rfl ?_
        · intro ac W hT hI hO
          have hle : hs.length ≤ 0 := hle
          have h24 : ac.tmps.getD 24 undef = .string a.name := hI 24 (by simp)
          have h26 : ac.tmps.getD 26 undef = .string b.name := hI 26 (by simp)
          show Brings Try.prog (fun v w' => Turned (fun _ => False) W w' ∧ v = .int .i64 (cmpS a.name b.name)) _
          simp only [execOp, Act.eval, h24, h26]
          go_simp
          show Calls Try.prog 167 _ W _
          (with_reducible refine ((fun W _ => compare167 a.name b.name W) W trivial).mono ?_)
          rintro e w' ⟨rfl, T'⟩
          exact ⟨_, rfl, T', rfl⟩
      case s22 =>
        refine fun hs hlen => stepG_free [10, 15, 22, 27] [] (by kernel_rfl) rfl ?_
        · intro ac W hT hI hO
          have h10 : ac.tmps.getD 10 undef = .int .i64 (cmpI (Tm.place a) (Tm.place b)) := hI 10 (by simp)
          have h15 : ac.tmps.getD 15 undef = .int .i64 (cmpI a.n b.n) := hI 15 (by simp)
          have h22 : ac.tmps.getD 22 undef = .int .i64 (cmpI a.args.length b.args.length) := hI 22 (by simp)
          have h27 : ac.tmps.getD 27 undef = .int .i64 (cmpS a.name b.name) := hI 27 (by simp)
          show Brings Try.prog (fun v w' => OrS w1 a b (hs ++ [v]) w') _
          obtain rfl : hs = [] := List.eq_nil_of_length_eq_zero hlen
          have h10' := getD_opt h10
          have h15' := getD_opt h15
          have h22' := getD_opt h22
          have h27' := getD_opt h27
          simp only [execOp, Act.eval, h10, h15, h22, h27]
          go_simp
          exact ⟨hT.alloc _, W.heap.size, rfl, heap_alloc_new W _⟩
      case s23 =>
        refine fun hs hlen => stepG_free [28] [] (by kernel_rfl) rfl ?_
        · intro ac W hT hI hO
          have h28 : hs[0]? = some (ac.tmps.getD 28 undef) := hI 28 (by simp)
          show Brings Try.prog (fun v w' => OrS w1 a b (hs ++ [v]) w') _
          obtain ⟨sv, rfl⟩ := List.length_eq_one_iff.1 hlen
          obtain ⟨hT1, g, rfl, hg⟩ := hT
          replace h28 : ac.tmps.getD 28 undef = .slice (some ⟨g, 0, none⟩) 4 4 := by simpa using h28.symm
          simp only [execOp, Act.eval, h28]
          go_simp
          show Calls Try.prog 164 _ W _
          (with_reducible refine (or4 hg).mono ?_)
          rintro e w' ⟨rfl, T'⟩
          exact ⟨_, rfl, hT1.trans T', rfl⟩
      case s24 =>
        refine fun hs hle => stepG_free [29] [] (by kernel_rfl) rfl ?_
        · intro ac W hT hI hO
          have h29 : hs[1]? = some (ac.tmps.getD 29 undef) := hI 29 (by simp)
          replace h29 : ac.tmps.getD 29 undef = .int .i64 (Tm.cmpHead a b) := hvor hs W hT _ h29
          show Brings Try.prog (fun v w' => Turned (fun _ => False) W w' ∧ v = .int .i64 (Tm.cmpHead a b)) _
          simp only [execOp, Act.eval, h29]
          go_simp
          try exact ⟨Turned.refl _ _, rfl⟩
    case hQ =>
      intro hs vs w2 hlen hR hV
      have q5 : vs 5 = .int .i64 (Tm.cmpHead a b) := hV 5 (by simp)
      have T2 := orS_end hlen hR
      simp only [List.foldl_cons, List.foldl_nil, List.setIfInBounds_toArray, List.set_cons_zero, List.set_cons_succ, q5]
      clear hV q5 hlen hR hs hvor
      obtain ⟨p0, p1, p2, p3, q0, q1, q2, q3⟩ := HKP.out _ T2
      by_cases hh : Tm.cmpHead a b = 0
      · have hb : (Tm.cmpHead a b != 0) = false := by simp [hh]
        have HR : Hid (Tm.cmp a b = Tm.cmps a.args b.args) := by show _ = _; rw [HV.out, Tm.orI_next hh]
        clear hh
        go_wp2_with (go_at_call 168; refine (HCF.out _ T2).mono ?_; rintro e w3 ⟨rfl, T3⟩)
        go_ret
        exact ⟨ret_int' HR.out.symm, HT1.out.trans (T2.trans T3)⟩
      · have hb : (Tm.cmpHead a b != 0) = true := by simp [hh]
        have HR : Hid (Tm.cmp a b = Tm.cmpHead a b) := by show _ = _; rw [HV.out, Tm.orI_first hh]
        clear hh
        go_wp2_with fail
        go_ret
        exact ⟨ret_int' HR.out.symm, HT1.out.trans T2⟩

set_option maxHeartbeats 1600000 in
/-- Cmp: of two that may be. -/
theorem cmp68 {p : Nat → Prop} {a b : LT} {w : World} (ha : a.In p w) (hb : b.In p w) (sa : slim a) (sb : slim b) (ga : goodB a = true) (gb : goodB b = true) :
    Calls Try.prog 68 #[a.val, b.val] w fun e w' => e = .returned (.int .i64 (Tm.cmp a b)) ∧ Turned (fun _ => False) w w' := by
  obtain ⟨b1, hb1⟩ : ∃ bx : Obj, bx = .cells #[.int .i64 a.kind, .int .i64 a.n, .string a.name, .slice a.at_.1 a.args.length a.at_.2] 27 := ⟨_, rfl⟩
  obtain ⟨b2, hb2⟩ : ∃ bx : Obj, bx = .cells #[.int .i64 b.kind, .int .i64 b.n, .string b.name, .slice b.at_.1 b.args.length b.at_.2] 27 := ⟨_, rfl⟩
  have T1 := ((Turned.refl (fun _ => False) w).alloc b1).alloc b2
  have hc : ∀ W, Turned (fun _ => False) ((w.alloc b1).alloc b2) W → W.heap[w.heap.size]? = some b1 ∧ W.heap[w.heap.size + 1]? = some b2 := by
    intro W h
    exact ⟨(h.block _ (by simp; omega) (fun f => f)).trans (heap_alloc2_old w b1 b2), (h.block _ (by simp) (fun f => f)).trans (heap_alloc2_new w b1 b2)⟩
  have g1 := fun W (h : Turned (fun _ => False) ((w.alloc b1).alloc b2) W) => good38 (ha.turned0 (T1.trans h)) sa
  have g2 := fun W (h : Turned (fun _ => False) ((w.alloc b1).alloc b2) W) => good38 (hb.turned0 (T1.trans h)) sb
  have g3 := fun W (h : Turned (fun _ => False) ((w.alloc b1).alloc b2) W) => compare135 (p := p) a.depth a b W (Nat.le_refl _) (ha.turned0 (T1.trans h)) (hb.turned0 (T1.trans h))
  rw [ga] at g1
  rw [gb] at g2
  rw [LT.val_eq a] at g1 g3 ⊢
  rw [LT.val_eq b] at g2 g3 ⊢
  subst hb1 hb2
  have G1 := Lib.hid g1
  have G2 := Lib.hid g2
  have G3 := Lib.hid g3
  have HC := Lib.hid hc
  have HT := Lib.hid T1
  clear g1 g2 g3 hc T1 ha hb sa sb ga gb
  go_enter Try.func68, Try.ntmps68
  go_wp2_with (first
    | (go_at_call 38; (with_reducible refine (G1.out _ (Turned.refl _ _)).mono ?_); rintro e w2 ⟨rfl, T2⟩; obtain ⟨h1, h2⟩ := HC.out _ T2; obtain ⟨d0, d1, d2, d3, _⟩ := cells4 h2; clear h1 h2)
    | (go_at_call 38; (with_reducible refine (G2.out _ T2).mono ?_); rintro e w3 ⟨rfl, T3⟩; obtain ⟨h1, h2⟩ := HC.out _ (T2.trans T3); obtain ⟨d0, d1, d2, d3, _⟩ := cells4 h2; obtain ⟨f0, f1, f2, f3, _⟩ := cells4 h1; clear h1 h2)
    | (go_at_call 135; refine (G3.out _ (T2.trans T3)).mono ?_; rintro e w4 ⟨rfl, T4⟩))
  go_ret
  exact ⟨rfl, HT.out.trans (T2.trans (T3.trans T4))⟩
end Go.Proofs.Ytoihjobdfjajfaa

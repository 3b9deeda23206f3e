/- The document's Cmp. -/
import Derived.Test.YtoihjobdfjajfaaOKeys
import Derived.Test.YtoihjobdfjajfaaRef3
import Derived.Test.YtoihjobdfjajfaaRef2
namespace Go.Proofs.Ytoihjobdfjajfaa
set_option linter.unusedVariables false
set_option linter.unusedSimpArgs false
open Go.RowKit
def signI (b : Bool) : Int := bif b then -1 else 1
theorem sign138 (b : Bool) (w : World) : Calls Try.prog 138 #[.bool b] w fun e w' => e = .returned (.int .i64 (signI b)) ∧ Turned (fun _ => False) w w' := by
  cases b with
  | true =>
    go_enter Try.func138, Try.ntmps138
    go_wp2_with fail
    go_ret
    exact ⟨rfl, Turned.refl _ _⟩
  | false =>
    go_enter Try.func138, Try.ntmps138
    go_wp2_with fail
    go_ret
    exact ⟨rfl, Turned.refl _ _⟩
theorem good_arg' {α : Type} {t x : Tm α} (h : goodB t = true) (hx : x ∈ t.args) : goodB x = true := by cases t with | mk k n s e aa => exact good_args h x hx
theorem sign_cmpI {x y : Int} (h : x ≠ y) : signI (decide (x < y)) = cmpI x y := by
  unfold cmpI signI
  by_cases h1 : x < y
  · simp [h1]
  · have h2 : y < x := by omega
    simp [h1, h2]
theorem sign_cmpS {x y : ByteArray} (h : x ≠ y) : signI (Op.bytesLess x.toList y.toList) = cmpS x y := by
  have h0 : cmpS x y ≠ 0 := fun e => h (cmpS_zero'.1 e)
  have hr := cmpL_range x.data.toList y.data.toList
  rw [less_cmp]
  unfold cmpS at h0 ⊢
  unfold signI
  rcases hr with e | e | e
  · simp [e]
  · exact absurd e h0
  · simp [e]
set_option maxHeartbeats 800000 in
theorem kind137 {p : Nat → Prop} {t : LT} {w : World} (ht : t.In p w) (hg : goodB t = true) : Calls Try.prog 137 #[t.val] w fun e w' => e = .returned (.int .i64 (Tm.place t)) ∧ Turned (fun _ => False) w w' := by
  rw [LT.val_eq]
  have hk := Tm.place_kind hg
  have hl := ht.len
  have hal : t.args.length ≤ 9223372036854775807 := by have := hl.1; have := hl.2.1; unfold maxLen at this; omega
  clear hl ht hg
  have T := fun o => (Turned.refl (fun _ => False) w).alloc o
  rcases hk with ⟨p1, q, _⟩ | ⟨p1, q, _⟩ | ⟨p1, q, _, r⟩ | ⟨p1, q, _, r⟩
  · have k2 : (t.kind == 2) = false := by simp [q]
    have HR : Hid (Tm.place t = t.kind) := by show _ = _; omega
    clear p1 q
    go_enter Try.func137, Try.ntmps137
    go_wp2_with fail
    go_ret
    exact ⟨ret_int' HR.out.symm, T _⟩
  · have k2 : (t.kind == 2) = false := by simp [q]
    have HR : Hid (Tm.place t = t.kind) := by show _ = _; omega
    clear p1 q
    go_enter Try.func137, Try.ntmps137
    go_wp2_with fail
    go_ret
    exact ⟨ret_int' HR.out.symm, T _⟩
  · have k2 : (t.kind == 2) = true := by simp [q]
    have k3 : decide ((0 : Int) < (t.args.length : Int)) = false := by simp; exact List.eq_nil_of_length_eq_zero r
    have HR : Hid (Tm.place t = t.kind) := by show _ = _; omega
    have h0 : t.args.length ≤ 0 := by omega
    clear p1 q r
    go_enter Try.func137, Try.ntmps137
    go_wp2_with fail
    all_goals try (exfalso; omega)
    go_ret
    exact ⟨ret_int' HR.out.symm, T _⟩
  · have k2 : (t.kind == 2) = true := by simp [q]
    have k3 : decide ((0 : Int) < (t.args.length : Int)) = true := by rw [decide_eq_true_eq]; omega
    have HR : Hid (Tm.place t = 3) := p1
    clear p1 q
    go_enter Try.func137, Try.ntmps137
    go_wp2_with fail
    all_goals try (exfalso; omega)
    go_ret
    exact ⟨ret_int' HR.out.symm, T _⟩
set_option maxRecDepth 100000 in
set_option maxHeartbeats 6400000 in
theorem rCmp75 {p : Nat → Prop} (n : Nat) : ∀ (a b : LT) (w : World), a.depth ≤ n → a.In p w → b.In p w → goodB a = true → goodB b = true →
    Calls Try.prog 75 #[a.val, b.val] w fun e w' => e = .returned (.int .i64 (Tm.cmp a b)) ∧ Turned (fun _ => False) w w' := by
  induction n with
  | zero => intro a b w h; have := Tm.depth_pos a; omega
  | succ n ih =>
    intro a b w hd ha hb ga gb
    have h2 := twoB w (.cells #[.int .i64 a.kind, .int .i64 a.n, .string a.name, .slice a.at_.1 a.args.length a.at_.2] 41) (.cells #[.int .i64 b.kind, .int .i64 b.n, .string b.name, .slice b.at_.1 b.args.length b.at_.2] 41)
    obtain ⟨w1, hw1⟩ : ∃ z, z = (w.alloc (.cells #[.int .i64 a.kind, .int .i64 a.n, .string a.name, .slice a.at_.1 a.args.length a.at_.2] 41)).alloc (.cells #[.int .i64 b.kind, .int .i64 b.n, .string b.name, .slice b.at_.1 b.args.length b.at_.2] 41) := ⟨_, rfl⟩
    rw [← hw1] at h2
    have hkp : ∀ W, Turned (fun _ => False) w1 W → (W.cell? ⟨w.heap.size, 0, none⟩ = some (.int .i64 a.kind) ∧ W.cell? ⟨w.heap.size, 1, none⟩ = some (.int .i64 a.n) ∧ W.cell? ⟨w.heap.size, 2, none⟩ = some (.string a.name) ∧ W.cell? ⟨w.heap.size, 3, none⟩ = some (.slice a.at_.1 a.args.length a.at_.2)) ∧
        (W.cell? ⟨w.heap.size + 1, 0, none⟩ = some (.int .i64 b.kind) ∧ W.cell? ⟨w.heap.size + 1, 1, none⟩ = some (.int .i64 b.n) ∧ W.cell? ⟨w.heap.size + 1, 2, none⟩ = some (.string b.name) ∧ W.cell? ⟨w.heap.size + 1, 3, none⟩ = some (.slice b.at_.1 b.args.length b.at_.2)) := fun W h => by
      obtain ⟨p0, p1, p2, p3, _⟩ := cells4 ((h.block _ (by have := h2.2.1; omega) (fun f => f)).trans h2.2.2.1)
      obtain ⟨q0, q1, q2, q3, _⟩ := cells4 ((h.block _ (by have := h2.2.1; omega) (fun f => f)).trans h2.2.2.2)
      exact ⟨⟨p0, p1, p2, p3⟩, q0, q1, q2, q3⟩
    have hpa := fun W (h : Turned (fun _ => False) w1 W) => kind137 (ha.turned0 (h2.1.trans h)) ga
    have hpb := fun W (h : Turned (fun _ => False) w1 W) => kind137 (hb.turned0 (h2.1.trans h)) gb
    have hal : a.args.length ≤ 100000 := by have := good_size ga; have := Tm.size_eq a; have := args_le a; omega
    have hbl : b.args.length ≤ 100000 := by have := good_size gb; have := Tm.size_eq b; have := args_le b; omega
    have HIA := Lib.hid (ha.turned0 h2.1)
    have HIB := Lib.hid (hb.turned0 h2.1)
    have HGA := Lib.hid ga
    have HGB := Lib.hid gb
    have HDD := Lib.hid hd
    have HIH := Lib.hid ih
    obtain ⟨pa, hpa'⟩ : ∃ z, z = Tm.place a := ⟨_, rfl⟩
    obtain ⟨pb, hpb'⟩ : ∃ z, z = Tm.place b := ⟨_, rfl⟩
    rw [← hpa'] at hpa
    rw [← hpb'] at hpb
    rw [LT.val_eq a] at hpa
    rw [LT.val_eq b] at hpb
    rw [LT.val_eq a, LT.val_eq b]
    have HV : Hid (Tm.cmp a b = orI (orI (cmpI pa pb) (orI (cmpI a.n b.n) (orI (cmpI a.args.length b.args.length) (cmpS a.name b.name)))) (Tm.cmps a.args b.args)) := by show _ = _; rw [Tm.cmp_eq, hpa', hpb']; rfl
    have HKP := Lib.hid hkp
    have HPA := Lib.hid hpa
    have HPB := Lib.hid hpb
    have HT1 := Lib.hid h2.1
    have HW := Lib.hid hw1
    clear hkp hpa hpb h2 ih hd ha hb ga gb hw1 hpa' hpb'
    by_cases hk : pa = pb
    rotate_left
    · have hpq : (pa != pb) = true := by simp [hk]
      have HR : Hid (Tm.cmp a b = signI (decide (pa < pb))) := by show _ = _; rw [HV.out, sign_cmpI hk, Tm.orI_first (b := Tm.cmps a.args b.args) (by rw [Tm.orI_first (fun e => hk (cmpI_zero.1 e))]; exact fun e => hk (cmpI_zero.1 e)), Tm.orI_first (fun e => hk (cmpI_zero.1 e))]
      clear hk
      go_enter Try.func75, Try.ntmps75
      go_wp2_with fail
      rw [← HW.out]
      obtain ⟨B12, HB12⟩ : ∃ B, Hid (B = (pa != pb)) := ⟨_, rfl⟩
      refine wp_region_hs [8, 9, 10, 11, 12, 7] [] [0, 0, 0, 0, 0, 0] [] (fun d v => (match d with | 8 => v = .agg #[.int .i64 a.kind, .int .i64 a.n, .string a.name, .slice a.at_.1 a.args.length a.at_.2] | 9 => v = .int .i64 pa | 10 => v = .agg #[.int .i64 b.kind, .int .i64 b.n, .string b.name, .slice b.at_.1 b.args.length b.at_.2] | 11 => v = .int .i64 pb | 12 => v = .bool B12 | 7 => v = .bool B12 | _ => True : Prop)) (fun _ W => Turned (fun _ => False) w1 W) (by kernel_rfl) rfl (by kernel_rfl) (by kernel_rfl) (by kernel_rfl) (by kernel_rfl) (fun _ h => h) (fun _ _ _ h ht => h.trans ht) ?hs ?hQ
      case hs =>
        refine ⟨?s0, ?s1, ?s2, ?s3, ?s4, ?s5, trivial⟩
        case s0 =>
          refine fun hs hle => stepG_free [] [2] (by kernel_rfl) rfl ?_
          · intro ac W hT hI hO
            have h2 : ac.tmps.getD 2 undef = .pointer (some ⟨w.heap.size, 0, none⟩) := hO 2 (by simp)
            show Brings Try.prog (fun v w' => Turned (fun _ => False) W w' ∧ v = .agg #[.int .i64 a.kind, .int .i64 a.n, .string a.name, .slice a.at_.1 a.args.length a.at_.2]) _
            obtain ⟨⟨p0, p1, p2, p3⟩, q0, q1, q2, q3⟩ := HKP.out W hT
            simp only [execOp, Act.eval, h2]
            go_simp
            exact ⟨Turned.refl _ _, rfl⟩
        case s1 =>
          refine fun hs hle => stepG_free [8] [] (by kernel_rfl) rfl ?_
          · intro ac W hT hI hO
            have h8 : ac.tmps.getD 8 undef = .agg #[.int .i64 a.kind, .int .i64 a.n, .string a.name, .slice a.at_.1 a.args.length a.at_.2] := hI 8 (by simp)
            show Brings Try.prog (fun v w' => Turned (fun _ => False) W w' ∧ v = .int .i64 pa) _
            simp only [execOp, Act.eval, h8]
            go_simp
            show Calls Try.prog 137 _ W _
            (with_reducible refine (HPA.out W hT).mono ?_)
            rintro e w' ⟨rfl, T'⟩
            exact ⟨_, rfl, T', rfl⟩
        case s2 =>
          refine fun hs hle => stepG_free [] [3] (by kernel_rfl) rfl ?_
          · intro ac W hT hI hO
            have h3 : ac.tmps.getD 3 undef = .pointer (some ⟨(w.heap.size + 1), 0, none⟩) := hO 3 (by simp)
            show Brings Try.prog (fun v w' => Turned (fun _ => False) W w' ∧ v = .agg #[.int .i64 b.kind, .int .i64 b.n, .string b.name, .slice b.at_.1 b.args.length b.at_.2]) _
            obtain ⟨⟨p0, p1, p2, p3⟩, q0, q1, q2, q3⟩ := HKP.out W hT
            simp only [execOp, Act.eval, h3]
            go_simp
            exact ⟨Turned.refl _ _, rfl⟩
        case s3 =>
          refine fun hs hle => stepG_free [10] [] (by kernel_rfl) rfl ?_
          · intro ac W hT hI hO
            have h10 : ac.tmps.getD 10 undef = .agg #[.int .i64 b.kind, .int .i64 b.n, .string b.name, .slice b.at_.1 b.args.length b.at_.2] := hI 10 (by simp)
            show Brings Try.prog (fun v w' => Turned (fun _ => False) W w' ∧ v = .int .i64 pb) _
            simp only [execOp, Act.eval, h10]
            go_simp
            show Calls Try.prog 137 _ W _
            (with_reducible refine (HPB.out W hT).mono ?_)
            rintro e w' ⟨rfl, T'⟩
            exact ⟨_, rfl, T', rfl⟩
        case s4 =>
          refine fun hs hle => stepG_free [9, 11] [] (by kernel_rfl) rfl ?_
          · intro ac W hT hI hO
            have h9 : ac.tmps.getD 9 undef = .int .i64 pa := hI 9 (by simp)
            have h11 : ac.tmps.getD 11 undef = .int .i64 pb := hI 11 (by simp)
            show Brings Try.prog (fun v w' => Turned (fun _ => False) W w' ∧ v = .bool B12) _
            rw [HB12.out]
            simp only [execOp, Act.eval, h9, h11]
            go_simp
            try exact ⟨Turned.refl _ _, rfl⟩
        case s5 =>
          refine fun hs hle => stepG_free [12] [] (by kernel_rfl) rfl ?_
          · intro ac W hT hI hO
            have h12 : ac.tmps.getD 12 undef = .bool B12 := hI 12 (by simp)
            show Brings Try.prog (fun v w' => Turned (fun _ => False) W w' ∧ v = .bool B12) _
            simp only [execOp, Act.eval, h12]
            go_simp
            try exact ⟨Turned.refl _ _, rfl⟩
      case hQ =>
        intro hs vq w2 hlen T2 hV
        have q7 : vq 7 = .bool B12 := hV 7 (by simp)
        have hB : B12 = true := by rw [HB12.out]; exact hpq
        rw [hB] at q7
        simp only [List.foldl_cons, List.foldl_nil, List.setIfInBounds_toArray, List.set_cons_zero, List.set_cons_succ, q7]
        clear hV q7 hB hlen hs
        obtain ⟨⟨p0, p1, p2, p3⟩, q0, q1, q2, q3⟩ := HKP.out _ T2
        go_wp2_with fail
        obtain ⟨B17, HB17⟩ : ∃ B, Hid (B = decide (pa < pb)) := ⟨_, rfl⟩
        refine wp_region_hs [13, 14, 15, 16, 17, 18, 4] [] [0, 0, 0, 0, 0, 0, 0] [] (fun d v => (match d with | 13 => v = .agg #[.int .i64 a.kind, .int .i64 a.n, .string a.name, .slice a.at_.1 a.args.length a.at_.2] | 14 => v = .int .i64 pa | 15 => v = .agg #[.int .i64 b.kind, .int .i64 b.n, .string b.name, .slice b.at_.1 b.args.length b.at_.2] | 16 => v = .int .i64 pb | 17 => v = .bool B17 | 18 => v = .int .i64 (signI B17) | 4 => v = .int .i64 (signI B17) | _ => True : Prop)) (fun _ W => Turned (fun _ => False) w2 W) (by kernel_rfl) rfl (by kernel_rfl) (by kernel_rfl) (by kernel_rfl) (by kernel_rfl) (fun _ h => h) (fun _ _ _ h ht => h.trans ht) ?hs ?hQ
        case hs =>
          refine ⟨?s0, ?s1, ?s2, ?s3, ?s4, ?s5, ?s6, trivial⟩
          case s0 =>
            refine fun hs hle => stepG_free [] [2] (by kernel_rfl) rfl ?_
            · intro ac W hT hI hO
              have h2 : ac.tmps.getD 2 undef = .pointer (some ⟨w.heap.size, 0, none⟩) := hO 2 (by simp)
              show Brings Try.prog (fun v w' => Turned (fun _ => False) W w' ∧ v = .agg #[.int .i64 a.kind, .int .i64 a.n, .string a.name, .slice a.at_.1 a.args.length a.at_.2]) _
              obtain ⟨⟨p0, p1, p2, p3⟩, q0, q1, q2, q3⟩ := HKP.out W (T2.trans hT)
              simp only [execOp, Act.eval, h2]
              go_simp
              exact ⟨Turned.refl _ _, rfl⟩
          case s1 =>
            refine fun hs hle => stepG_free [13] [] (by kernel_rfl) rfl ?_
            · intro ac W hT hI hO
              have h13 : ac.tmps.getD 13 undef = .agg #[.int .i64 a.kind, .int .i64 a.n, .string a.name, .slice a.at_.1 a.args.length a.at_.2] := hI 13 (by simp)
              show Brings Try.prog (fun v w' => Turned (fun _ => False) W w' ∧ v = .int .i64 pa) _
              simp only [execOp, Act.eval, h13]
              go_simp
              show Calls Try.prog 137 _ W _
              (with_reducible refine (HPA.out W (T2.trans hT)).mono ?_)
              rintro e w' ⟨rfl, T'⟩
              exact ⟨_, rfl, T', rfl⟩
          case s2 =>
            refine fun hs hle => stepG_free [] [3] (by kernel_rfl) rfl ?_
            · intro ac W hT hI hO
              have h3 : ac.tmps.getD 3 undef = .pointer (some ⟨(w.heap.size + 1), 0, none⟩) := hO 3 (by simp)
              show Brings Try.prog (fun v w' => Turned (fun _ => False) W w' ∧ v = .agg #[.int .i64 b.kind, .int .i64 b.n, .string b.name, .slice b.at_.1 b.args.length b.at_.2]) _
              obtain ⟨⟨p0, p1, p2, p3⟩, q0, q1, q2, q3⟩ := HKP.out W (T2.trans hT)
              simp only [execOp, Act.eval, h3]
              go_simp
              exact ⟨Turned.refl _ _, rfl⟩
          case s3 =>
            refine fun hs hle => stepG_free [15] [] (by kernel_rfl) rfl ?_
            · intro ac W hT hI hO
              have h15 : ac.tmps.getD 15 undef = .agg #[.int .i64 b.kind, .int .i64 b.n, .string b.name, .slice b.at_.1 b.args.length b.at_.2] := hI 15 (by simp)
              show Brings Try.prog (fun v w' => Turned (fun _ => False) W w' ∧ v = .int .i64 pb) _
              simp only [execOp, Act.eval, h15]
              go_simp
              show Calls Try.prog 137 _ W _
              (with_reducible refine (HPB.out W (T2.trans hT)).mono ?_)
              rintro e w' ⟨rfl, T'⟩
              exact ⟨_, rfl, T', rfl⟩
          case s4 =>
            refine fun hs hle => stepG_free [14, 16] [] (by kernel_rfl) rfl ?_
            · intro ac W hT hI hO
              have h14 : ac.tmps.getD 14 undef = .int .i64 pa := hI 14 (by simp)
              have h16 : ac.tmps.getD 16 undef = .int .i64 pb := hI 16 (by simp)
              show Brings Try.prog (fun v w' => Turned (fun _ => False) W w' ∧ v = .bool B17) _
              rw [HB17.out]
              simp only [execOp, Act.eval, h14, h16]
              go_simp
              try exact ⟨Turned.refl _ _, rfl⟩
          case s5 =>
            refine fun hs hle => stepG_free [17] [] (by kernel_rfl) rfl ?_
            · intro ac W hT hI hO
              have h17 : ac.tmps.getD 17 undef = .bool B17 := hI 17 (by simp)
              show Brings Try.prog (fun v w' => Turned (fun _ => False) W w' ∧ v = .int .i64 (signI B17)) _
              simp only [execOp, Act.eval, h17]
              go_simp
              show Calls Try.prog 138 _ W _
              (with_reducible refine (sign138 B17 W).mono ?_)
              rintro e w' ⟨rfl, T'⟩
              exact ⟨_, rfl, T', rfl⟩
          case s6 =>
            refine fun hs hle => stepG_free [18] [] (by kernel_rfl) rfl ?_
            · intro ac W hT hI hO
              have h18 : ac.tmps.getD 18 undef = .int .i64 (signI B17) := hI 18 (by simp)
              show Brings Try.prog (fun v w' => Turned (fun _ => False) W w' ∧ v = .int .i64 (signI B17)) _
              simp only [execOp, Act.eval, h18]
              go_simp
              try exact ⟨Turned.refl _ _, rfl⟩
        case hQ =>
          intro hs vq w3 hlen T3 hV
          have q4 : vq 4 = .int .i64 (signI B17) := hV 4 (by simp)
          rw [HB17.out, ← HR.out] at q4
          simp only [List.foldl_cons, List.foldl_nil, List.setIfInBounds_toArray, List.set_cons_zero, List.set_cons_succ, q4]
          clear hV q4 hlen hs
          go_wp2_with fail
          go_ret
          exact ⟨rfl, HT1.out.trans (T2.trans T3)⟩
    have hpq : (pa != pb) = false := by simp [hk]
    have HV1 : Hid (Tm.cmp a b = orI (orI (cmpI a.n b.n) (orI (cmpI a.args.length b.args.length) (cmpS a.name b.name))) (Tm.cmps a.args b.args)) := by show _ = _; rw [HV.out, Tm.orI_next (cmpI_zero.2 hk)]
    clear hk HV
    by_cases hk : a.n = b.n
    rotate_left
    · have k1 : (a.n != b.n) = true := by simp [hk]
      have HR : Hid (Tm.cmp a b = signI (decide (a.n < b.n))) := by show _ = _; have h0 : cmpI a.n b.n ≠ 0 := (fun e => hk (cmpI_zero.1 e)); rw [HV1.out, sign_cmpI hk, Tm.orI_first (b := Tm.cmps a.args b.args) (by rw [Tm.orI_first h0]; exact h0), Tm.orI_first h0]
      clear hk
      go_enter Try.func75, Try.ntmps75
      go_wp2_with fail
      rw [← HW.out]
      obtain ⟨B12, HB12⟩ : ∃ B, Hid (B = (pa != pb)) := ⟨_, rfl⟩
      refine wp_region_hs [8, 9, 10, 11, 12, 7] [] [0, 0, 0, 0, 0, 0] [] (fun d v => (match d with | 8 => v = .agg #[.int .i64 a.kind, .int .i64 a.n, .string a.name, .slice a.at_.1 a.args.length a.at_.2] | 9 => v = .int .i64 pa | 10 => v = .agg #[.int .i64 b.kind, .int .i64 b.n, .string b.name, .slice b.at_.1 b.args.length b.at_.2] | 11 => v = .int .i64 pb | 12 => v = .bool B12 | 7 => v = .bool B12 | _ => True : Prop)) (fun _ W => Turned (fun _ => False) w1 W) (by kernel_rfl) rfl (by kernel_rfl) (by kernel_rfl) (by kernel_rfl) (by kernel_rfl) (fun _ h => h) (fun _ _ _ h ht => h.trans ht) ?hs ?hQ
      case hs =>
        refine ⟨?s0, ?s1, ?s2, ?s3, ?s4, ?s5, trivial⟩
        case s0 =>
          refine fun hs hle => stepG_free [] [2] (by kernel_rfl) rfl ?_
          · intro ac W hT hI hO
            have h2 : ac.tmps.getD 2 undef = .pointer (some ⟨w.heap.size, 0, none⟩) := hO 2 (by simp)
            show Brings Try.prog (fun v w' => Turned (fun _ => False) W w' ∧ v = .agg #[.int .i64 a.kind, .int .i64 a.n, .string a.name, .slice a.at_.1 a.args.length a.at_.2]) _
            obtain ⟨⟨p0, p1, p2, p3⟩, q0, q1, q2, q3⟩ := HKP.out W hT
            simp only [execOp, Act.eval, h2]
            go_simp
            exact ⟨Turned.refl _ _, rfl⟩
        case s1 =>
          refine fun hs hle => stepG_free [8] [] (by kernel_rfl) rfl ?_
          · intro ac W hT hI hO
            have h8 : ac.tmps.getD 8 undef = .agg #[.int .i64 a.kind, .int .i64 a.n, .string a.name, .slice a.at_.1 a.args.length a.at_.2] := hI 8 (by simp)
            show Brings Try.prog (fun v w' => Turned (fun _ => False) W w' ∧ v = .int .i64 pa) _
            simp only [execOp, Act.eval, h8]
            go_simp
            show Calls Try.prog 137 _ W _
            (with_reducible refine (HPA.out W hT).mono ?_)
            rintro e w' ⟨rfl, T'⟩
            exact ⟨_, rfl, T', rfl⟩
        case s2 =>
          refine fun hs hle => stepG_free [] [3] (by kernel_rfl) rfl ?_
          · intro ac W hT hI hO
            have h3 : ac.tmps.getD 3 undef = .pointer (some ⟨(w.heap.size + 1), 0, none⟩) := hO 3 (by simp)
            show Brings Try.prog (fun v w' => Turned (fun _ => False) W w' ∧ v = .agg #[.int .i64 b.kind, .int .i64 b.n, .string b.name, .slice b.at_.1 b.args.length b.at_.2]) _
            obtain ⟨⟨p0, p1, p2, p3⟩, q0, q1, q2, q3⟩ := HKP.out W hT
            simp only [execOp, Act.eval, h3]
            go_simp
            exact ⟨Turned.refl _ _, rfl⟩
        case s3 =>
          refine fun hs hle => stepG_free [10] [] (by kernel_rfl) rfl ?_
          · intro ac W hT hI hO
            have h10 : ac.tmps.getD 10 undef = .agg #[.int .i64 b.kind, .int .i64 b.n, .string b.name, .slice b.at_.1 b.args.length b.at_.2] := hI 10 (by simp)
            show Brings Try.prog (fun v w' => Turned (fun _ => False) W w' ∧ v = .int .i64 pb) _
            simp only [execOp, Act.eval, h10]
            go_simp
            show Calls Try.prog 137 _ W _
            (with_reducible refine (HPB.out W hT).mono ?_)
            rintro e w' ⟨rfl, T'⟩
            exact ⟨_, rfl, T', rfl⟩
        case s4 =>
          refine fun hs hle => stepG_free [9, 11] [] (by kernel_rfl) rfl ?_
          · intro ac W hT hI hO
            have h9 : ac.tmps.getD 9 undef = .int .i64 pa := hI 9 (by simp)
            have h11 : ac.tmps.getD 11 undef = .int .i64 pb := hI 11 (by simp)
            show Brings Try.prog (fun v w' => Turned (fun _ => False) W w' ∧ v = .bool B12) _
            rw [HB12.out]
            simp only [execOp, Act.eval, h9, h11]
            go_simp
            try exact ⟨Turned.refl _ _, rfl⟩
        case s5 =>
          refine fun hs hle => stepG_free [12] [] (by kernel_rfl) rfl ?_
          · intro ac W hT hI hO
            have h12 : ac.tmps.getD 12 undef = .bool B12 := hI 12 (by simp)
            show Brings Try.prog (fun v w' => Turned (fun _ => False) W w' ∧ v = .bool B12) _
            simp only [execOp, Act.eval, h12]
            go_simp
            try exact ⟨Turned.refl _ _, rfl⟩
      case hQ =>
        intro hs vq w2 hlen T2 hV
        have q7 : vq 7 = .bool B12 := hV 7 (by simp)
        have hB : B12 = false := by rw [HB12.out]; exact hpq
        rw [hB] at q7
        simp only [List.foldl_cons, List.foldl_nil, List.setIfInBounds_toArray, List.set_cons_zero, List.set_cons_succ, q7]
        clear hV q7 hB hlen hs
        obtain ⟨⟨p0, p1, p2, p3⟩, q0, q1, q2, q3⟩ := HKP.out _ T2
        go_wp2_with (go_at_call 138; refine (sign138 _ _).mono ?_; rintro e w3 ⟨rfl, T3⟩)
        all_goals try (exfalso; first | contradiction | (simp at *; contradiction) | (simp_all; done))
        go_ret
        exact ⟨ret_int' HR.out.symm, HT1.out.trans (T2.trans T3)⟩
    have k1 : (a.n != b.n) = false := by simp [hk]
    have HV2 : Hid (Tm.cmp a b = orI (orI (cmpI a.args.length b.args.length) (cmpS a.name b.name)) (Tm.cmps a.args b.args)) := by show _ = _; rw [HV1.out, Tm.orI_next (cmpI_zero.2 hk)]
    clear hk HV1
    by_cases hk : (a.args.length : Int) = (b.args.length : Int)
    rotate_left
    · have k2 : ((a.args.length : Int) != (b.args.length : Int)) = true := by simpa using hk
      have HR : Hid (Tm.cmp a b = signI (decide (a.args.length < b.args.length))) := by show _ = _; have h0 : cmpI (a.args.length : Int) (b.args.length : Int) ≠ 0 := (fun e => hk (cmpI_zero.1 e)); rw [show decide (a.args.length < b.args.length) = decide ((a.args.length : Int) < (b.args.length : Int)) from by rw [decide_eq_decide]; omega, HV2.out, sign_cmpI hk, Tm.orI_first (b := Tm.cmps a.args b.args) (by rw [Tm.orI_first h0]; exact h0), Tm.orI_first h0]
      clear hk
      go_enter Try.func75, Try.ntmps75
      go_wp2_with fail
      rw [← HW.out]
      obtain ⟨B12, HB12⟩ : ∃ B, Hid (B = (pa != pb)) := ⟨_, rfl⟩
      refine wp_region_hs [8, 9, 10, 11, 12, 7] [] [0, 0, 0, 0, 0, 0] [] (fun d v => (match d with | 8 => v = .agg #[.int .i64 a.kind, .int .i64 a.n, .string a.name, .slice a.at_.1 a.args.length a.at_.2] | 9 => v = .int .i64 pa | 10 => v = .agg #[.int .i64 b.kind, .int .i64 b.n, .string b.name, .slice b.at_.1 b.args.length b.at_.2] | 11 => v = .int .i64 pb | 12 => v = .bool B12 | 7 => v = .bool B12 | _ => True : Prop)) (fun _ W => Turned (fun _ => False) w1 W) (by kernel_rfl) rfl (by kernel_rfl) (by kernel_rfl) (by kernel_rfl) (by kernel_rfl) (fun _ h => h) (fun _ _ _ h ht => h.trans ht) ?hs ?hQ
      case hs =>
        refine ⟨?s0, ?s1, ?s2, ?s3, ?s4, ?s5, trivial⟩
        case s0 =>
          refine fun hs hle => stepG_free [] [2] (by kernel_rfl) rfl ?_
          · intro ac W hT hI hO
            have h2 : ac.tmps.getD 2 undef = .pointer (some ⟨w.heap.size, 0, none⟩) := hO 2 (by simp)
            show Brings Try.prog (fun v w' => Turned (fun _ => False) W w' ∧ v = .agg #[.int .i64 a.kind, .int .i64 a.n, .string a.name, .slice a.at_.1 a.args.length a.at_.2]) _
            obtain ⟨⟨p0, p1, p2, p3⟩, q0, q1, q2, q3⟩ := HKP.out W hT
            simp only [execOp, Act.eval, h2]
            go_simp
            exact ⟨Turned.refl _ _, rfl⟩
        case s1 =>
          refine fun hs hle => stepG_free [8] [] (by kernel_rfl) rfl ?_
          · intro ac W hT hI hO
            have h8 : ac.tmps.getD 8 undef = .agg #[.int .i64 a.kind, .int .i64 a.n, .string a.name, .slice a.at_.1 a.args.length a.at_.2] := hI 8 (by simp)
            show Brings Try.prog (fun v w' => Turned (fun _ => False) W w' ∧ v = .int .i64 pa) _
            simp only [execOp, Act.eval, h8]
            go_simp
            show Calls Try.prog 137 _ W _
            (with_reducible refine (HPA.out W hT).mono ?_)
            rintro e w' ⟨rfl, T'⟩
            exact ⟨_, rfl, T', rfl⟩
        case s2 =>
          refine fun hs hle => stepG_free [] [3] (by kernel_rfl) rfl ?_
          · intro ac W hT hI hO
            have h3 : ac.tmps.getD 3 undef = .pointer (some ⟨(w.heap.size + 1), 0, none⟩) := hO 3 (by simp)
            show Brings Try.prog (fun v w' => Turned (fun _ => False) W w' ∧ v = .agg #[.int .i64 b.kind, .int .i64 b.n, .string b.name, .slice b.at_.1 b.args.length b.at_.2]) _
            obtain ⟨⟨p0, p1, p2, p3⟩, q0, q1, q2, q3⟩ := HKP.out W hT
            simp only [execOp, Act.eval, h3]
            go_simp
            exact ⟨Turned.refl _ _, rfl⟩
        case s3 =>
          refine fun hs hle => stepG_free [10] [] (by kernel_rfl) rfl ?_
          · intro ac W hT hI hO
            have h10 : ac.tmps.getD 10 undef = .agg #[.int .i64 b.kind, .int .i64 b.n, .string b.name, .slice b.at_.1 b.args.length b.at_.2] := hI 10 (by simp)
            show Brings Try.prog (fun v w' => Turned (fun _ => False) W w' ∧ v = .int .i64 pb) _
            simp only [execOp, Act.eval, h10]
            go_simp
            show Calls Try.prog 137 _ W _
            (with_reducible refine (HPB.out W hT).mono ?_)
            rintro e w' ⟨rfl, T'⟩
            exact ⟨_, rfl, T', rfl⟩
        case s4 =>
          refine fun hs hle => stepG_free [9, 11] [] (by kernel_rfl) rfl ?_
          · intro ac W hT hI hO
            have h9 : ac.tmps.getD 9 undef = .int .i64 pa := hI 9 (by simp)
            have h11 : ac.tmps.getD 11 undef = .int .i64 pb := hI 11 (by simp)
            show Brings Try.prog (fun v w' => Turned (fun _ => False) W w' ∧ v = .bool B12) _
            rw [HB12.out]
            simp only [execOp, Act.eval, h9, h11]
            go_simp
            try exact ⟨Turned.refl _ _, rfl⟩
        case s5 =>
          refine fun hs hle => stepG_free [12] [] (by kernel_rfl) rfl ?_
          · intro ac W hT hI hO
            have h12 : ac.tmps.getD 12 undef = .bool B12 := hI 12 (by simp)
            show Brings Try.prog (fun v w' => Turned (fun _ => False) W w' ∧ v = .bool B12) _
            simp only [execOp, Act.eval, h12]
            go_simp
            try exact ⟨Turned.refl _ _, rfl⟩
      case hQ =>
        intro hs vq w2 hlen T2 hV
        have q7 : vq 7 = .bool B12 := hV 7 (by simp)
        have hB : B12 = false := by rw [HB12.out]; exact hpq
        rw [hB] at q7
        simp only [List.foldl_cons, List.foldl_nil, List.setIfInBounds_toArray, List.set_cons_zero, List.set_cons_succ, q7]
        clear hV q7 hB hlen hs
        obtain ⟨⟨p0, p1, p2, p3⟩, q0, q1, q2, q3⟩ := HKP.out _ T2
        go_wp2_with (go_at_call 138; refine (sign138 _ _).mono ?_; rintro e w3 ⟨rfl, T3⟩)
        all_goals try (exfalso; first | contradiction | (simp at *; contradiction) | (simp_all; done))
        go_ret
        exact ⟨ret_int' HR.out.symm, HT1.out.trans (T2.trans T3)⟩
    have k2 : ((a.args.length : Int) != (b.args.length : Int)) = false := by simpa using hk
    have HV3 : Hid (Tm.cmp a b = orI (cmpS a.name b.name) (Tm.cmps a.args b.args)) := by show _ = _; rw [HV2.out, Tm.orI_next (cmpI_zero.2 hk)]
    have hl1 : a.args.length ≤ b.args.length := by omega
    have hl2 : b.args.length ≤ a.args.length := by omega
    clear hk HV2
    by_cases hk : a.name = b.name
    rotate_left
    · have k3 : ¬ (a.name.toList = b.name.toList) := by have := str_neq hk; simpa using this
      have k3b : (a.name.toList == b.name.toList) = false := str_neq hk
      have HR : Hid (Tm.cmp a b = signI (Op.bytesLess a.name.toList b.name.toList)) := by show _ = _; have h0 : cmpS a.name b.name ≠ 0 := (fun e => hk (cmpS_zero'.1 e)); rw [HV3.out, sign_cmpS hk, Tm.orI_first h0]
      clear hk
      go_enter Try.func75, Try.ntmps75
      go_wp2_with fail
      rw [← HW.out]
      obtain ⟨B12, HB12⟩ : ∃ B, Hid (B = (pa != pb)) := ⟨_, rfl⟩
      refine wp_region_hs [8, 9, 10, 11, 12, 7] [] [0, 0, 0, 0, 0, 0] [] (fun d v => (match d with | 8 => v = .agg #[.int .i64 a.kind, .int .i64 a.n, .string a.name, .slice a.at_.1 a.args.length a.at_.2] | 9 => v = .int .i64 pa | 10 => v = .agg #[.int .i64 b.kind, .int .i64 b.n, .string b.name, .slice b.at_.1 b.args.length b.at_.2] | 11 => v = .int .i64 pb | 12 => v = .bool B12 | 7 => v = .bool B12 | _ => True : Prop)) (fun _ W => Turned (fun _ => False) w1 W) (by kernel_rfl) rfl (by kernel_rfl) (by kernel_rfl) (by kernel_rfl) (by kernel_rfl) (fun _ h => h) (fun _ _ _ h ht => h.trans ht) ?hs ?hQ
      case hs =>
        refine ⟨?s0, ?s1, ?s2, ?s3, ?s4, ?s5, trivial⟩
        case s0 =>
          refine fun hs hle => stepG_free [] [2] (by kernel_rfl) rfl ?_
          · intro ac W hT hI hO
            have h2 : ac.tmps.getD 2 undef = .pointer (some ⟨w.heap.size, 0, none⟩) := hO 2 (by simp)
            show Brings Try.prog (fun v w' => Turned (fun _ => False) W w' ∧ v = .agg #[.int .i64 a.kind, .int .i64 a.n, .string a.name, .slice a.at_.1 a.args.length a.at_.2]) _
            obtain ⟨⟨p0, p1, p2, p3⟩, q0, q1, q2, q3⟩ := HKP.out W hT
            simp only [execOp, Act.eval, h2]
            go_simp
            exact ⟨Turned.refl _ _, rfl⟩
        case s1 =>
          refine fun hs hle => stepG_free [8] [] (by kernel_rfl) rfl ?_
          · intro ac W hT hI hO
            have h8 : ac.tmps.getD 8 undef = .agg #[.int .i64 a.kind, .int .i64 a.n, .string a.name, .slice a.at_.1 a.args.length a.at_.2] := hI 8 (by simp)
            show Brings Try.prog (fun v w' => Turned (fun _ => False) W w' ∧ v = .int .i64 pa) _
            simp only [execOp, Act.eval, h8]
            go_simp
            show Calls Try.prog 137 _ W _
            (with_reducible refine (HPA.out W hT).mono ?_)
            rintro e w' ⟨rfl, T'⟩
            exact ⟨_, rfl, T', rfl⟩
        case s2 =>
          refine fun hs hle => stepG_free [] [3] (by kernel_rfl) rfl ?_
          · intro ac W hT hI hO
            have h3 : ac.tmps.getD 3 undef = .pointer (some ⟨(w.heap.size + 1), 0, none⟩) := hO 3 (by simp)
            show Brings Try.prog (fun v w' => Turned (fun _ => False) W w' ∧ v = .agg #[.int .i64 b.kind, .int .i64 b.n, .string b.name, .slice b.at_.1 b.args.length b.at_.2]) _
            obtain ⟨⟨p0, p1, p2, p3⟩, q0, q1, q2, q3⟩ := HKP.out W hT
            simp only [execOp, Act.eval, h3]
            go_simp
            exact ⟨Turned.refl _ _, rfl⟩
        case s3 =>
          refine fun hs hle => stepG_free [10] [] (by kernel_rfl) rfl ?_
          · intro ac W hT hI hO
            have h10 : ac.tmps.getD 10 undef = .agg #[.int .i64 b.kind, .int .i64 b.n, .string b.name, .slice b.at_.1 b.args.length b.at_.2] := hI 10 (by simp)
            show Brings Try.prog (fun v w' => Turned (fun _ => False) W w' ∧ v = .int .i64 pb) _
            simp only [execOp, Act.eval, h10]
            go_simp
            show Calls Try.prog 137 _ W _
            (with_reducible refine (HPB.out W hT).mono ?_)
            rintro e w' ⟨rfl, T'⟩
            exact ⟨_, rfl, T', rfl⟩
        case s4 =>
          refine fun hs hle => stepG_free [9, 11] [] (by kernel_rfl) rfl ?_
          · intro ac W hT hI hO
            have h9 : ac.tmps.getD 9 undef = .int .i64 pa := hI 9 (by simp)
            have h11 : ac.tmps.getD 11 undef = .int .i64 pb := hI 11 (by simp)
            show Brings Try.prog (fun v w' => Turned (fun _ => False) W w' ∧ v = .bool B12) _
            rw [HB12.out]
            simp only [execOp, Act.eval, h9, h11]
            go_simp
            try exact ⟨Turned.refl _ _, rfl⟩
        case s5 =>
          refine fun hs hle => stepG_free [12] [] (by kernel_rfl) rfl ?_
          · intro ac W hT hI hO
            have h12 : ac.tmps.getD 12 undef = .bool B12 := hI 12 (by simp)
            show Brings Try.prog (fun v w' => Turned (fun _ => False) W w' ∧ v = .bool B12) _
            simp only [execOp, Act.eval, h12]
            go_simp
            try exact ⟨Turned.refl _ _, rfl⟩
      case hQ =>
        intro hs vq w2 hlen T2 hV
        have q7 : vq 7 = .bool B12 := hV 7 (by simp)
        have hB : B12 = false := by rw [HB12.out]; exact hpq
        rw [hB] at q7
        simp only [List.foldl_cons, List.foldl_nil, List.setIfInBounds_toArray, List.set_cons_zero, List.set_cons_succ, q7]
        clear hV q7 hB hlen hs
        obtain ⟨⟨p0, p1, p2, p3⟩, q0, q1, q2, q3⟩ := HKP.out _ T2
        go_wp2_with (go_at_call 138; refine (sign138 _ _).mono ?_; rintro e w3 ⟨rfl, T3⟩)
        all_goals try (exfalso; first | contradiction | (simp at *; contradiction) | (simp_all; done))
        go_ret
        exact ⟨ret_int' HR.out.symm, HT1.out.trans (T2.trans T3)⟩
    have k3 : a.name.toList = b.name.toList := by rw [hk]
    have k3b : (a.name.toList == b.name.toList) = true := by rw [hk]; exact str_same _
    have HV4 : Hid (Tm.cmp a b = Tm.cmps a.args b.args) := by show _ = _; rw [HV3.out, Tm.orI_next (cmpS_zero'.2 hk)]
    clear hk HV3
    go_enter Try.func75, Try.ntmps75
    go_wp2_with fail
    rw [← HW.out]
    obtain ⟨B12, HB12⟩ : ∃ B, Hid (B = (pa != pb)) := ⟨_, rfl⟩
    refine wp_region_hs [8, 9, 10, 11, 12, 7] [] [0, 0, 0, 0, 0, 0] [] (fun d v => (match d with | 8 => v = .agg #[.int .i64 a.kind, .int .i64 a.n, .string a.name, .slice a.at_.1 a.args.length a.at_.2] | 9 => v = .int .i64 pa | 10 => v = .agg #[.int .i64 b.kind, .int .i64 b.n, .string b.name, .slice b.at_.1 b.args.length b.at_.2] | 11 => v = .int .i64 pb | 12 => v = .bool B12 | 7 => v = .bool B12 | _ => True : Prop)) (fun _ W => Turned (fun _ => False) w1 W) (by kernel_rfl) rfl (by kernel_rfl) (by kernel_rfl) (by kernel_rfl) (by kernel_rfl) (fun _ h => h) (fun _ _ _ h ht => h.trans ht) ?hs ?hQ
    case hs =>
      refine ⟨?s0, ?s1, ?s2, ?s3, ?s4, ?s5, trivial⟩
      case s0 =>
        refine fun hs hle => stepG_free [] [2] (by kernel_rfl) rfl ?_
        · intro ac W hT hI hO
          have h2 : ac.tmps.getD 2 undef = .pointer (some ⟨w.heap.size, 0, none⟩) := hO 2 (by simp)
          show Brings Try.prog (fun v w' => Turned (fun _ => False) W w' ∧ v = .agg #[.int .i64 a.kind, .int .i64 a.n, .string a.name, .slice a.at_.1 a.args.length a.at_.2]) _
          obtain ⟨⟨p0, p1, p2, p3⟩, q0, q1, q2, q3⟩ := HKP.out W hT
          simp only [execOp, Act.eval, h2]
          go_simp
          exact ⟨Turned.refl _ _, rfl⟩
      case s1 =>
        refine fun hs hle => stepG_free [8] [] (by kernel_rfl) rfl ?_
        · intro ac W hT hI hO
          have h8 : ac.tmps.getD 8 undef = .agg #[.int .i64 a.kind, .int .i64 a.n, .string a.name, .slice a.at_.1 a.args.length a.at_.2] := hI 8 (by simp)
          show Brings Try.prog (fun v w' => Turned (fun _ => False) W w' ∧ v = .int .i64 pa) _
          simp only [execOp, Act.eval, h8]
          go_simp
          show Calls Try.prog 137 _ W _
          (with_reducible refine (HPA.out W hT).mono ?_)
          rintro e w' ⟨rfl, T'⟩
          exact ⟨_, rfl, T', rfl⟩
      case s2 =>
        refine fun hs hle => stepG_free [] [3] (by kernel_rfl) rfl ?_
        · intro ac W hT hI hO
          have h3 : ac.tmps.getD 3 undef = .pointer (some ⟨(w.heap.size + 1), 0, none⟩) := hO 3 (by simp)
          show Brings Try.prog (fun v w' => Turned (fun _ => False) W w' ∧ v = .agg #[.int .i64 b.kind, .int .i64 b.n, .string b.name, .slice b.at_.1 b.args.length b.at_.2]) _
          obtain ⟨⟨p0, p1, p2, p3⟩, q0, q1, q2, q3⟩ := HKP.out W hT
          simp only [execOp, Act.eval, h3]
          go_simp
          exact ⟨Turned.refl _ _, rfl⟩
      case s3 =>
        refine fun hs hle => stepG_free [10] [] (by kernel_rfl) rfl ?_
        · intro ac W hT hI hO
          have h10 : ac.tmps.getD 10 undef = .agg #[.int .i64 b.kind, .int .i64 b.n, .string b.name, .slice b.at_.1 b.args.length b.at_.2] := hI 10 (by simp)
          show Brings Try.prog (fun v w' => Turned (fun _ => False) W w' ∧ v = .int .i64 pb) _
          simp only [execOp, Act.eval, h10]
          go_simp
          show Calls Try.prog 137 _ W _
          (with_reducible refine (HPB.out W hT).mono ?_)
          rintro e w' ⟨rfl, T'⟩
          exact ⟨_, rfl, T', rfl⟩
      case s4 =>
        refine fun hs hle => stepG_free [9, 11] [] (by kernel_rfl) rfl ?_
        · intro ac W hT hI hO
          have h9 : ac.tmps.getD 9 undef = .int .i64 pa := hI 9 (by simp)
          have h11 : ac.tmps.getD 11 undef = .int .i64 pb := hI 11 (by simp)
          show Brings Try.prog (fun v w' => Turned (fun _ => False) W w' ∧ v = .bool B12) _
          rw [HB12.out]
          simp only [execOp, Act.eval, h9, h11]
          go_simp
          try exact ⟨Turned.refl _ _, rfl⟩
      case s5 =>
        refine fun hs hle => stepG_free [12] [] (by kernel_rfl) rfl ?_
        · intro ac W hT hI hO
          have h12 : ac.tmps.getD 12 undef = .bool B12 := hI 12 (by simp)
          show Brings Try.prog (fun v w' => Turned (fun _ => False) W w' ∧ v = .bool B12) _
          simp only [execOp, Act.eval, h12]
          go_simp
          try exact ⟨Turned.refl _ _, rfl⟩
    case hQ =>
      intro hs vq w2 hlen T2 hV
      have q7 : vq 7 = .bool B12 := hV 7 (by simp)
      have hB : B12 = false := by rw [HB12.out]; exact hpq
      rw [hB] at q7
      simp only [List.foldl_cons, List.foldl_nil, List.setIfInBounds_toArray, List.set_cons_zero, List.set_cons_succ, q7]
      clear hV q7 hB hlen hs
      obtain ⟨⟨p0, p1, p2, p3⟩, q0, q1, q2, q3⟩ := HKP.out _ T2
      obtain ⟨ad, had⟩ : ∃ z, z = a.at_.1 := ⟨_, rfl⟩
      obtain ⟨cd, hcd⟩ : ∃ z, z = a.at_.2 := ⟨_, rfl⟩
      obtain ⟨be, hbe⟩ : ∃ z, z = b.at_.1 := ⟨_, rfl⟩
      obtain ⟨ce, hce⟩ : ∃ z, z = b.at_.2 := ⟨_, rfl⟩
      have hla := fun W h => (LT.In.lies (p := p) (w := W) (t := a) h)
      have hlb := fun W h => (LT.In.lies (p := p) (w := W) (t := b) h)
      have hk3 := fun W h => (⟨(HKP.out W h).1.2.2.2, (HKP.out W h).2.2.2.2⟩ : W.cell? ⟨w.heap.size, 3, none⟩ = _ ∧ W.cell? ⟨w.heap.size + 1, 3, none⟩ = _)
      rw [← had] at hla
      rw [← hbe] at hlb
      rw [← had, ← hcd, ← hbe, ← hce] at hk3
      try rw [← had] at p3
      try rw [← hcd] at p3
      try rw [← hbe] at q3
      try rw [← hce] at q3
      try rw [← had]
      try rw [← hcd]
      try rw [← hbe]
      try rw [← hce]
      have HLA := Lib.hid hla
      have HLB := Lib.hid hlb
      have HK3 := Lib.hid hk3
      clear had hcd hbe hce hla hlb hk3
      go_wp2_with fail
      go_loopg [5] a.args.length (fun g i wr => ∃ j : Nat, Hid (j + g = a.args.length) ∧ j ≤ a.args.length ∧ i = .int .i64 j ∧ Hid (∀ k x y, k < j → a.args[k]? = some x → b.args[k]? = some y → Tm.cmp x y = 0) ∧ Turned (fun _ => False) w2 wr)
      case atStart => exact ⟨0, Nat.zero_add _, Nat.zero_le _, rfl, fun k x y hk => by omega, Turned.refl _ _⟩
      case round =>
        obtain ⟨j, HG, hj, rfl, HE, Tr⟩ := hrel
        obtain ⟨q1', q2'⟩ := HK3.out _ (T2.trans Tr)
        by_cases hjl : j < a.args.length
        · have hx : a.args[j]? = some a.args[j] := List.getElem?_eq_getElem hjl
          have hy : b.args[j]? = some (b.args[j]'(by omega)) := List.getElem?_eq_getElem (by omega)
          obtain ⟨x, hxe⟩ : ∃ x : LT, x = a.args[j] := ⟨_, rfl⟩
          obtain ⟨y, hye⟩ : ∃ y : LT, y = b.args[j]'(by omega) := ⟨_, rfl⟩
          rw [← hxe] at hx
          rw [← hye] at hy
          clear hxe hye
          have ain := HIA.out.turned0 (T2.trans Tr)
          have bin := HIB.out.turned0 (T2.trans Tr)
          have xin := (LT.ins_iff _).1 ain.args x (List.mem_of_getElem? hx)
          have yin := (LT.ins_iff _).1 bin.args y (List.mem_of_getElem? hy)
          obtain ⟨b1, o1, rfl, _, k0, k1', k2', k3'⟩ := (HLA.out _ ain).cell hx
          obtain ⟨b2, o2, rfl, _, g0, g1, g2, g3⟩ := (HLB.out _ bin).cell hy
          have gx := good_arg' HGA.out (List.mem_of_getElem? hx)
          have gy := good_arg' HGB.out (List.mem_of_getElem? hy)
          have hcx := fun W (h : Turned (fun _ => False) wr W) => HIH.out x y W (by have := arg_depth (List.mem_of_getElem? hx); have := HDD.out; omega) (xin.turned0 h) (yin.turned0 h) gx gy
          obtain ⟨c, hc⟩ : ∃ c, c = Tm.cmp x y := ⟨_, rfl⟩
          rw [← hc, LT.val_eq x, LT.val_eq y] at hcx
          have hkq : ∀ W, Turned (fun _ => False) wr W → W.cell? ⟨w.heap.size, 3, none⟩ = some (.slice (some ⟨b1, o1, none⟩) a.args.length cd) ∧ W.cell? ⟨w.heap.size + 1, 3, none⟩ = some (.slice (some ⟨b2, o2, none⟩) b.args.length ce) ∧ W.cell? ⟨b1, o1 + j * 4, none⟩ = some (.int .i64 x.kind) ∧ W.cell? ⟨b1, o1 + j * 4 + 1, none⟩ = some (.int .i64 x.n) ∧ W.cell? ⟨b1, o1 + j * 4 + 2, none⟩ = some (.string x.name) ∧ W.cell? ⟨b1, o1 + j * 4 + 3, none⟩ = some (.slice x.at_.1 x.args.length x.at_.2) ∧ W.cell? ⟨b2, o2 + j * 4, none⟩ = some (.int .i64 y.kind) ∧ W.cell? ⟨b2, o2 + j * 4 + 1, none⟩ = some (.int .i64 y.n) ∧ W.cell? ⟨b2, o2 + j * 4 + 2, none⟩ = some (.string y.name) ∧ W.cell? ⟨b2, o2 + j * 4 + 3, none⟩ = some (.slice y.at_.1 y.args.length y.at_.2) := fun W h => ⟨h.cell0 q1', h.cell0 q2', h.cell0 k0, h.cell0 k1', h.cell0 k2', h.cell0 k3', h.cell0 g0, h.cell0 g1, h.cell0 g2, h.cell0 g3⟩
          have HKQ := Lib.hid hkq
          have HX := Lib.hid hx
          have HY := Lib.hid hy
          have HCX := Lib.hid hcx
          have HCC := Lib.hid hc
          clear hx hy hcx hc xin yin ain bin gx gy hkq k0 k1' k2' k3' g0 g1 g2 g3
          have z2 : (j : Int) < (b.args.length : Int) := by omega
          have z3 : j < b.args.length := by omega
          go_wp2_with fail
          refine wp_region_hs [66, 67, 68, 69, 70, 71, 72, 73, 74, 75, 76, 6] [] [0, 0, 0, 0, 0, 0, 0, 0, 0, 0, 0, 0] [] (fun d v => (match d with | 66 => v = .pointer (some ⟨w.heap.size, 3, none⟩) | 67 => v = .slice (some ⟨b1, o1, none⟩) a.args.length cd | 68 => v = .int .i64 (j : Int) | 69 => v = .pointer (some ⟨b1, o1 + j * 4, none⟩) | 70 => v = .agg #[.int .i64 x.kind, .int .i64 x.n, .string x.name, .slice x.at_.1 x.args.length x.at_.2] | 71 => v = .pointer (some ⟨(w.heap.size + 1), 3, none⟩) | 72 => v = .slice (some ⟨b2, o2, none⟩) b.args.length ce | 73 => v = .int .i64 (j : Int) | 74 => v = .pointer (some ⟨b2, o2 + j * 4, none⟩) | 75 => v = .agg #[.int .i64 y.kind, .int .i64 y.n, .string y.name, .slice y.at_.1 y.args.length y.at_.2] | 76 => v = .int .i64 c | 6 => v = .int .i64 c | _ => True : Prop)) (fun _ W => Turned (fun _ => False) wr W) (by kernel_rfl) rfl (by kernel_rfl) (by kernel_rfl) (by kernel_rfl) (by kernel_rfl) (fun _ h => h) (fun _ _ _ h ht => h.trans ht) ?hs ?hQ
          case hs =>
            refine ⟨?s0, ?s1, ?s2, ?s3, ?s4, ?s5, ?s6, ?s7, ?s8, ?s9, ?s10, ?s11, trivial⟩
            case s0 =>
              refine fun hs hle => stepG_free [] [2] (by kernel_rfl) rfl ?_
              · intro ac W hT hI hO
                have h2 : ac.tmps.getD 2 undef = .pointer (some ⟨w.heap.size, 0, none⟩) := hO 2 (by simp)
                show Brings Try.prog (fun v w' => Turned (fun _ => False) W w' ∧ v = .pointer (some ⟨w.heap.size, 3, none⟩)) _
                simp only [execOp, Act.eval, h2]
                go_simp
                try exact ⟨Turned.refl _ _, rfl⟩
            case s1 =>
              refine fun hs hle => stepG_free [66] [] (by kernel_rfl) rfl ?_
              · intro ac W hT hI hO
                have h66 : ac.tmps.getD 66 undef = .pointer (some ⟨w.heap.size, 3, none⟩) := hI 66 (by simp)
                show Brings Try.prog (fun v w' => Turned (fun _ => False) W w' ∧ v = .slice (some ⟨b1, o1, none⟩) a.args.length cd) _
                obtain ⟨p1, p2, k0, k1, k2, k3, g0, g1, g2, g3⟩ := HKQ.out W hT
                simp only [execOp, Act.eval, h66]
                go_simp
                exact ⟨Turned.refl _ _, rfl⟩
            case s2 =>
              refine fun hs hle => stepG_free [] [5] (by kernel_rfl) rfl ?_
              · intro ac W hT hI hO
                have h5 : ac.tmps.getD 5 undef = .int .i64 (j : Int) := hO 5 (by simp)
                show Brings Try.prog (fun v w' => Turned (fun _ => False) W w' ∧ v = .int .i64 (j : Int)) _
                simp only [execOp, Act.eval, h5]
                go_simp
                try exact ⟨Turned.refl _ _, rfl⟩
            case s3 =>
              refine fun hs hle => stepG_free [67, 68] [] (by kernel_rfl) rfl ?_
              · intro ac W hT hI hO
                have h67 : ac.tmps.getD 67 undef = .slice (some ⟨b1, o1, none⟩) a.args.length cd := hI 67 (by simp)
                have h68 : ac.tmps.getD 68 undef = .int .i64 (j : Int) := hI 68 (by simp)
                show Brings Try.prog (fun v w' => Turned (fun _ => False) W w' ∧ v = .pointer (some ⟨b1, o1 + j * 4, none⟩)) _
                simp only [execOp, Act.eval, h67, h68]
                go_simp
                try rw [if_pos (by omega)]
                try exact ⟨Turned.refl _ _, rfl⟩
            case s4 =>
              refine fun hs hle => stepG_free [69] [] (by kernel_rfl) rfl ?_
              · intro ac W hT hI hO
                have h69 : ac.tmps.getD 69 undef = .pointer (some ⟨b1, o1 + j * 4, none⟩) := hI 69 (by simp)
                show Brings Try.prog (fun v w' => Turned (fun _ => False) W w' ∧ v = .agg #[.int .i64 x.kind, .int .i64 x.n, .string x.name, .slice x.at_.1 x.args.length x.at_.2]) _
                obtain ⟨p1, p2, k0, k1, k2, k3, g0, g1, g2, g3⟩ := HKQ.out W hT
                simp only [execOp, Act.eval, h69]
                go_simp
                exact ⟨Turned.refl _ _, rfl⟩
            case s5 =>
              refine fun hs hle => stepG_free [] [3] (by kernel_rfl) rfl ?_
              · intro ac W hT hI hO
                have h3 : ac.tmps.getD 3 undef = .pointer (some ⟨(w.heap.size + 1), 0, none⟩) := hO 3 (by simp)
                show Brings Try.prog (fun v w' => Turned (fun _ => False) W w' ∧ v = .pointer (some ⟨(w.heap.size + 1), 3, none⟩)) _
                simp only [execOp, Act.eval, h3]
                go_simp
                try exact ⟨Turned.refl _ _, rfl⟩
            case s6 =>
              refine fun hs hle => stepG_free [71] [] (by kernel_rfl) rfl ?_
              · intro ac W hT hI hO
                have h71 : ac.tmps.getD 71 undef = .pointer (some ⟨(w.heap.size + 1), 3, none⟩) := hI 71 (by simp)
                show Brings Try.prog (fun v w' => Turned (fun _ => False) W w' ∧ v = .slice (some ⟨b2, o2, none⟩) b.args.length ce) _
                obtain ⟨p1, p2, k0, k1, k2, k3, g0, g1, g2, g3⟩ := HKQ.out W hT
                simp only [execOp, Act.eval, h71]
                go_simp
                exact ⟨Turned.refl _ _, rfl⟩
            case s7 =>
              refine fun hs hle => stepG_free [] [5] (by kernel_rfl) rfl ?_
              · intro ac W hT hI hO
                have h5 : ac.tmps.getD 5 undef = .int .i64 (j : Int) := hO 5 (by simp)
                show Brings Try.prog (fun v w' => Turned (fun _ => False) W w' ∧ v = .int .i64 (j : Int)) _
                simp only [execOp, Act.eval, h5]
                go_simp
                try exact ⟨Turned.refl _ _, rfl⟩
            case s8 =>
              refine fun hs hle => stepG_free [72, 73] [] (by kernel_rfl) rfl ?_
              · intro ac W hT hI hO
                have h72 : ac.tmps.getD 72 undef = .slice (some ⟨b2, o2, none⟩) b.args.length ce := hI 72 (by simp)
                have h73 : ac.tmps.getD 73 undef = .int .i64 (j : Int) := hI 73 (by simp)
                show Brings Try.prog (fun v w' => Turned (fun _ => False) W w' ∧ v = .pointer (some ⟨b2, o2 + j * 4, none⟩)) _
                simp only [execOp, Act.eval, h72, h73]
                go_simp
                try rw [if_pos (by omega)]
                try exact ⟨Turned.refl _ _, rfl⟩
            case s9 =>
              refine fun hs hle => stepG_free [74] [] (by kernel_rfl) rfl ?_
              · intro ac W hT hI hO
                have h74 : ac.tmps.getD 74 undef = .pointer (some ⟨b2, o2 + j * 4, none⟩) := hI 74 (by simp)
                show Brings Try.prog (fun v w' => Turned (fun _ => False) W w' ∧ v = .agg #[.int .i64 y.kind, .int .i64 y.n, .string y.name, .slice y.at_.1 y.args.length y.at_.2]) _
                obtain ⟨p1, p2, k0, k1, k2, k3, g0, g1, g2, g3⟩ := HKQ.out W hT
                simp only [execOp, Act.eval, h74]
                go_simp
                exact ⟨Turned.refl _ _, rfl⟩
            case s10 =>
              refine fun hs hle => stepG_free [70, 75] [] (by kernel_rfl) rfl ?_
              · intro ac W hT hI hO
                have h70 : ac.tmps.getD 70 undef = .agg #[.int .i64 x.kind, .int .i64 x.n, .string x.name, .slice x.at_.1 x.args.length x.at_.2] := hI 70 (by simp)
                have h75 : ac.tmps.getD 75 undef = .agg #[.int .i64 y.kind, .int .i64 y.n, .string y.name, .slice y.at_.1 y.args.length y.at_.2] := hI 75 (by simp)
                show Brings Try.prog (fun v w' => Turned (fun _ => False) W w' ∧ v = .int .i64 c) _
                simp only [execOp, Act.eval, h70, h75]
                go_simp
                show Calls Try.prog 75 _ W _
                (with_reducible refine (HCX.out W hT).mono ?_)
                rintro e w' ⟨rfl, T'⟩
                exact ⟨_, rfl, T', rfl⟩
            case s11 =>
              refine fun hs hle => stepG_free [76] [] (by kernel_rfl) rfl ?_
              · intro ac W hT hI hO
                have h76 : ac.tmps.getD 76 undef = .int .i64 c := hI 76 (by simp)
                show Brings Try.prog (fun v w' => Turned (fun _ => False) W w' ∧ v = .int .i64 c) _
                simp only [execOp, Act.eval, h76]
                go_simp
                try exact ⟨Turned.refl _ _, rfl⟩
          case hQ =>
            intro hs vq w8 hlen T8 hV
            have q6 : vq 6 = .int .i64 c := hV 6 (by simp)
            simp only [List.foldl_cons, List.foldl_nil, List.setIfInBounds_toArray, List.set_cons_zero, List.set_cons_succ, q6]
            clear hV q6 hlen hs
            by_cases hc0 : c = 0
            · have hb : (c != 0) = false := by simp [hc0]
              have HS := Lib.hid hc0
              clear hc0
              go_wp2_with fail
              go_roundg (gk - 1)
              case measure => have := HG.out; omega
              case rel =>
                refine ⟨j + 1, show _ = _ by have := HG.out; omega, by omega, by go_num, fun k u v hk hu hv => ?_, Tr.trans T8⟩
                by_cases hkj : k = j
                · subst hkj
                  have e1 := HX.out
                  have e2 := HY.out
                  rw [hu] at e1
                  rw [hv] at e2
                  injection e1 with e1
                  injection e2 with e2
                  rw [e1, e2, ← HCC.out]
                  exact HS.out
                · exact HE.out k u v (by omega) hu hv
            · have hb : (c != 0) = true := by simp [hc0]
              have HS := Lib.hid hc0
              clear hc0
              go_wp2_with fail
              go_ret
              refine ⟨ret_int' ?_, HT1.out.trans (T2.trans (Tr.trans T8))⟩
              rw [HV4.out, cmps_at HE.out HX.out HY.out (by rw [← HCC.out]; exact HS.out)]
              exact HCC.out
        · go_wp2_with fail
          go_ret
          refine ⟨ret_int' ?_, HT1.out.trans (T2.trans Tr)⟩
          rw [HV4.out, cmps_long (fun k u v h1 h2 => HE.out k u v (by have := (List.getElem?_eq_some_iff.1 h1).1; omega) h1 h2), if_neg (by omega), if_neg (by omega)]

end Go.Proofs.Ytoihjobdfjajfaa

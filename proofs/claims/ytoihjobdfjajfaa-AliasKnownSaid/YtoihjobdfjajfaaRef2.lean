/- The document's Same. -/
import Derived.Test.YtoihjobdfjajfaaRef1
import Derived.Test.YtoihjobdfjajfaaAny4
namespace Go.Proofs.Ytoihjobdfjajfaa
set_option linter.unusedVariables false
set_option linter.unusedSimpArgs false
open Go.RowKit

set_option maxRecDepth 100000 in
set_option maxHeartbeats 1600000 in
theorem rSame48 {p : Nat → Prop} (n : Nat) : ∀ (a b : LT) (w : World), a.depth ≤ n → a.In p w → b.In p w →
    Calls Try.prog 48 #[a.val, b.val] w fun e w' => e = .returned (.bool (Tm.same a b)) ∧ Turned (fun _ => False) w w' := by
  induction n with
  | zero => intro a b w h; have := Tm.depth_pos a; omega
  | succ n ih =>
    intro a b w hd ha hb
    have T1 : Turned (fun _ => False) w ((w.alloc (.cells #[.int .i64 a.kind, .int .i64 a.n, .string a.name, .slice a.at_.1 a.args.length a.at_.2] 41)).alloc (.cells #[.int .i64 b.kind, .int .i64 b.n, .string b.name, .slice b.at_.1 b.args.length b.at_.2] 41)) := ((Turned.refl _ w).alloc _).alloc _
    have hbox : ∀ W, Turned (fun _ => False) ((w.alloc (.cells #[.int .i64 a.kind, .int .i64 a.n, .string a.name, .slice a.at_.1 a.args.length a.at_.2] 41)).alloc (.cells #[.int .i64 b.kind, .int .i64 b.n, .string b.name, .slice b.at_.1 b.args.length b.at_.2] 41)) W → W.cell? ⟨w.heap.size, 3, none⟩ = some (.slice a.at_.1 a.args.length a.at_.2) ∧ W.cell? ⟨w.heap.size + 1, 3, none⟩ = some (.slice b.at_.1 b.args.length b.at_.2) := by
      intro W h
      have h1 := (h.block w.heap.size (by simp; omega) (fun f => f)).trans (heap_alloc2_old w _ _)
      have h2 := (h.block (w.heap.size + 1) (by simp) (fun f => f)).trans (heap_alloc2_new w _ _)
      obtain ⟨_, _, _, x3, _⟩ := cells4 h1
      obtain ⟨_, _, _, y3, _⟩ := cells4 h2
      exact ⟨x3, y3⟩
    have HDD := Lib.hid hd
    have HAI := Lib.hid ha
    have HBI := Lib.hid hb
    have l1 := ha.len
    have l2 := hb.len
    have hm1 : a.args.length ≤ 9223372036854775807 := by have := l1.1; have := l1.2.1; unfold maxLen at this; omega
    have hm2 : b.args.length ≤ 9223372036854775807 := by have := l2.1; have := l2.2.1; unfold maxLen at this; omega
    have HV := Lib.hid (same_eq a b)
    have HIH := Lib.hid ih
    rw [LT.val_eq a, LT.val_eq b]
    obtain ⟨a1, ha1⟩ : ∃ z, z = a.at_.1 := ⟨_, rfl⟩
    obtain ⟨c1, hc1⟩ : ∃ z, z = a.at_.2 := ⟨_, rfl⟩
    obtain ⟨a2, ha2⟩ : ∃ z, z = b.at_.1 := ⟨_, rfl⟩
    obtain ⟨c2, hc2⟩ : ∃ z, z = b.at_.2 := ⟨_, rfl⟩
    have HL1 := Lib.hid (fun W h => (LT.In.lies (p := p) (w := W) (t := a) h))
    have HL2 := Lib.hid (fun W h => (LT.In.lies (p := p) (w := W) (t := b) h))
    rw [← ha1, ← hc1, ← ha2, ← hc2] at T1 hbox
    rw [← ha1] at HL1
    rw [← ha2] at HL2
    rw [← ha1, ← hc1, ← ha2, ← hc2]
    clear ha1 hc1 ha2 hc2 ih ha hb hd l1 l2
    have HT1 := Lib.hid T1
    have HBX := Lib.hid hbox
    clear T1 hbox
    by_cases hk : a.kind = b.kind
    rotate_left
    · have kb : (a.kind != b.kind) = true := by simp [hk]
      have HR : Hid (Tm.same a b = false) := by show _ = _; rw [HV.out]; simp [hk]
      clear hk
      go_enter Try.func48, Try.ntmps48
      go_wp2_with fail
      go_ret
      exact ⟨ret_bool HR.out.symm, HT1.out⟩
    have kb : (a.kind != b.kind) = false := by simp [hk]
    have HK := Lib.hid hk
    clear hk
    by_cases hn : a.n = b.n
    rotate_left
    · have nb : (a.n != b.n) = true := by simp [hn]
      have HR : Hid (Tm.same a b = false) := by show _ = _; rw [HV.out]; simp [hn]
      clear hn
      go_enter Try.func48, Try.ntmps48
      go_wp2_with fail
      go_ret
      exact ⟨ret_bool HR.out.symm, HT1.out⟩
    have nb : (a.n != b.n) = false := by simp [hn]
    have HN := Lib.hid hn
    clear hn
    by_cases hs : a.name = b.name
    rotate_left
    · have sb0 : (a.name.toList == b.name.toList) = false := str_neq hs
      have sb : ¬ (a.name.toList = b.name.toList) := by simpa using sb0
      have HR : Hid (Tm.same a b = false) := by show _ = _; rw [HV.out]; simp [hs]
      clear hs sb0
      go_enter Try.func48, Try.ntmps48
      go_wp2_with fail
      go_ret
      exact ⟨ret_bool HR.out.symm, HT1.out⟩
    have sb0 : (a.name.toList == b.name.toList) = true := by rw [hs]; exact str_same _
    have sb : a.name.toList = b.name.toList := by rw [hs]
    have HS := Lib.hid hs
    clear hs sb0
    have HR : Hid (Tm.same a b = Tm.sames a.args b.args) := by show _ = _; rw [HV.out, HK.out, HN.out, HS.out]; simp
    by_cases hl : a.args.length = b.args.length
    rotate_left
    · have lb : ((a.args.length : Int) != (b.args.length : Int)) = true := by simp; omega
      have HR2 := Lib.hid (HR.out.trans (sames_len hl))
      clear hl
      go_enter Try.func48, Try.ntmps48
      go_wp2_with fail
      go_ret
      exact ⟨ret_bool HR2.out.symm, HT1.out⟩
    have lb : ((a.args.length : Int) != (b.args.length : Int)) = false := by simp; omega
    have hl1 : a.args.length ≤ b.args.length := by omega
    have hl2 : b.args.length ≤ a.args.length := by omega
    clear hl
    have HS12 : Hid (((w.alloc (.cells #[.int .i64 a.kind, .int .i64 a.n, .string a.name, .slice a1 a.args.length c1] 41)).alloc (.cells #[.int .i64 b.kind, .int .i64 b.n, .string b.name, .slice a2 b.args.length c2] 41)).heap.size = w.heap.size + 2) := by show _ = _; simp
    go_enter Try.func48, Try.ntmps48
    go_wp2_with fail
    have HTB := And.intro HT1 (And.intro HBX HS12)
    clear HT1 HBX HS12
    revert HTB
    generalize (w.alloc (.cells #[.int .i64 a.kind, .int .i64 a.n, .string a.name, .slice a1 a.args.length c1] 41)).alloc (.cells #[.int .i64 b.kind, .int .i64 b.n, .string b.name, .slice a2 b.args.length c2] 41) = w1
    intro HTB
    obtain ⟨HT1, HBX, _⟩ := HTB
    revert HBX
    generalize hA : w.heap.size = A
    generalize hB : A + 1 = B
    intro HBX
    clear hA hB
    go_loopg [5] a.args.length (fun g i wr => ∃ j : Nat, Hid (j + g = a.args.length) ∧ j ≤ a.args.length ∧ i = .int .i64 j ∧ Hid (Tm.bares (a.args.take j) = Tm.bares (b.args.take j)) ∧ Turned (fun _ => False) w1 wr)
    case atStart => exact ⟨0, Nat.zero_add _, Nat.zero_le _, rfl, rfl, Turned.refl _ _⟩
    case round =>
      obtain ⟨j, HG, hj, rfl, HE, Tr⟩ := hrel
      obtain ⟨q1, q2⟩ := HBX.out _ Tr
      by_cases hjl : j < a.args.length
      · have hx : a.args[j]? = some a.args[j] := List.getElem?_eq_getElem hjl
        have hy : b.args[j]? = some (b.args[j]'(by omega)) := List.getElem?_eq_getElem (by omega)
        obtain ⟨x, hxe⟩ : ∃ x : LT, x = a.args[j] := ⟨_, rfl⟩
        obtain ⟨y, hye⟩ : ∃ y : LT, y = b.args[j]'(by omega) := ⟨_, rfl⟩
        rw [← hxe] at hx
        rw [← hye] at hy
        clear hxe hye
        have ain := HAI.out.turned0 (HT1.out.trans Tr)
        have bin := HBI.out.turned0 (HT1.out.trans Tr)
        have xin := (LT.ins_iff _).1 ain.args x (List.mem_of_getElem? hx)
        have yin := (LT.ins_iff _).1 bin.args y (List.mem_of_getElem? hy)
        obtain ⟨b1, o1, rfl, _, k0, k1, k2, k3⟩ := (HL1.out _ ain).cell hx
        obtain ⟨b2, o2, rfl, _, g0, g1, g2, g3⟩ := (HL2.out _ bin).cell hy
        have hcx := fun W (h : Turned (fun _ => False) wr W) => HIH.out x y W (by have := arg_depth (List.mem_of_getElem? hx); have := HDD.out; omega) (xin.turned0 h) (yin.turned0 h)
        rw [LT.val_eq x, LT.val_eq y] at hcx
        have hkp : ∀ W, Turned (fun _ => False) wr W → W.cell? ⟨A, 3, none⟩ = some (.slice (some ⟨b1, o1, none⟩) a.args.length c1) ∧ W.cell? ⟨B, 3, none⟩ = some (.slice (some ⟨b2, o2, none⟩) b.args.length c2) ∧ W.cell? ⟨b1, o1 + j * 4, none⟩ = some (.int .i64 x.kind) ∧ W.cell? ⟨b1, o1 + j * 4 + 1, none⟩ = some (.int .i64 x.n) ∧ W.cell? ⟨b1, o1 + j * 4 + 2, none⟩ = some (.string x.name) ∧ W.cell? ⟨b1, o1 + j * 4 + 3, none⟩ = some (.slice x.at_.1 x.args.length x.at_.2) ∧ W.cell? ⟨b2, o2 + j * 4, none⟩ = some (.int .i64 y.kind) ∧ W.cell? ⟨b2, o2 + j * 4 + 1, none⟩ = some (.int .i64 y.n) ∧ W.cell? ⟨b2, o2 + j * 4 + 2, none⟩ = some (.string y.name) ∧ W.cell? ⟨b2, o2 + j * 4 + 3, none⟩ = some (.slice y.at_.1 y.args.length y.at_.2) := fun W h => ⟨h.cell0 q1, h.cell0 q2, h.cell0 k0, h.cell0 k1, h.cell0 k2, h.cell0 k3, h.cell0 g0, h.cell0 g1, h.cell0 g2, h.cell0 g3⟩
        have HKP := Lib.hid hkp
        have HX := Lib.hid hx
        have HY := Lib.hid hy
        have HCX := Lib.hid hcx
        clear hx hy hcx xin yin ain bin hkp k0 k1 k2 k3 g0 g1 g2 g3
        have z2 : (j : Int) < (b.args.length : Int) := by omega
        have z3 : j < b.args.length := by omega
        go_wp2_with fail
        · skip
          obtain ⟨B52, HB52⟩ : ∃ B, Hid (B = (!(Tm.same x y))) := ⟨_, rfl⟩
          refine wp_region_hs [41, 42, 43, 44, 45, 46, 47, 48, 49, 50, 51, 52] [] [0, 0, 0, 0, 0, 0, 0, 0, 0, 0, 0, 0] [] (fun d v => (match d with | 41 => v = .pointer (some ⟨A, 3, none⟩) | 42 => v = .slice (some ⟨b1, o1, none⟩) a.args.length c1 | 43 => v = .int .i64 (j : Int) | 44 => v = .pointer (some ⟨b1, o1 + j * 4, none⟩) | 45 => v = .agg #[.int .i64 x.kind, .int .i64 x.n, .string x.name, .slice x.at_.1 x.args.length x.at_.2] | 46 => v = .pointer (some ⟨B, 3, none⟩) | 47 => v = .slice (some ⟨b2, o2, none⟩) b.args.length c2 | 48 => v = .int .i64 (j : Int) | 49 => v = .pointer (some ⟨b2, o2 + j * 4, none⟩) | 50 => v = .agg #[.int .i64 y.kind, .int .i64 y.n, .string y.name, .slice y.at_.1 y.args.length y.at_.2] | 51 => v = .bool (Tm.same x y) | 52 => v = .bool B52 | _ => True : Prop)) (fun _ W => Turned (fun _ => False) wr W) (by kernel_rfl) rfl (by kernel_rfl) (by kernel_rfl) (by kernel_rfl) (by kernel_rfl) (fun _ h => h) (fun _ _ _ h ht => h.trans ht) ?hs ?hQ
          case hs =>
            refine ⟨?s0, ?s1, ?s2, ?s3, ?s4, ?s5, ?s6, ?s7, ?s8, ?s9, ?s10, ?s11, trivial⟩
            case s0 =>
              refine fun hs hle => stepG_free [] [2] (by kernel_rfl) rfl ?_
              · intro ac W hT hI hO
                have h2 : ac.tmps.getD 2 undef = .pointer (some ⟨A, 0, none⟩) := hO 2 (by simp)
                show Brings Try.prog (fun v w' => Turned (fun _ => False) W w' ∧ v = .pointer (some ⟨A, 3, none⟩)) _
                simp only [execOp, Act.eval, h2]
                go_simp
                try exact ⟨Turned.refl _ _, rfl⟩
            case s1 =>
              refine fun hs hle => stepG_free [41] [] (by kernel_rfl) rfl ?_
              · intro ac W hT hI hO
                have h41 : ac.tmps.getD 41 undef = .pointer (some ⟨A, 3, none⟩) := hI 41 (by simp)
                show Brings Try.prog (fun v w' => Turned (fun _ => False) W w' ∧ v = .slice (some ⟨b1, o1, none⟩) a.args.length c1) _
                obtain ⟨p1, p2, k0, k1, k2, k3, g0, g1, g2, g3⟩ := HKP.out W hT
                simp only [execOp, Act.eval, h41]
                go_simp
                exact ⟨Turned.refl _ _, rfl⟩
            case s2 =>
              refine fun hs hle => stepG_free [] [5] (by kernel_rfl) rfl ?_
              · intro ac W hT hI hO
                have h5 : ac.tmps.getD 5 undef = .int .i64 (j : Int) := hO 5 (by simp)
                show Brings Try.prog (fun v w' => Turned (fun _ => False) W w' ∧ v = .int .i64 (j : Int)) _
                simp only [execOp, Act.eval, h5]
                go_simp
                try exact ⟨Turned.refl _ _, rfl⟩
            case s3 =>
              refine fun hs hle => stepG_free [42, 43] [] (by kernel_rfl) rfl ?_
              · intro ac W hT hI hO
                have h42 : ac.tmps.getD 42 undef = .slice (some ⟨b1, o1, none⟩) a.args.length c1 := hI 42 (by simp)
                have h43 : ac.tmps.getD 43 undef = .int .i64 (j : Int) := hI 43 (by simp)
                show Brings Try.prog (fun v w' => Turned (fun _ => False) W w' ∧ v = .pointer (some ⟨b1, o1 + j * 4, none⟩)) _
                simp only [execOp, Act.eval, h42, h43]
                go_simp
                try rw [if_pos (by omega)]
                try exact ⟨Turned.refl _ _, rfl⟩
            case s4 =>
              refine fun hs hle => stepG_free [44] [] (by kernel_rfl) rfl ?_
              · intro ac W hT hI hO
                have h44 : ac.tmps.getD 44 undef = .pointer (some ⟨b1, o1 + j * 4, none⟩) := hI 44 (by simp)
                show Brings Try.prog (fun v w' => Turned (fun _ => False) W w' ∧ v = .agg #[.int .i64 x.kind, .int .i64 x.n, .string x.name, .slice x.at_.1 x.args.length x.at_.2]) _
                obtain ⟨p1, p2, k0, k1, k2, k3, g0, g1, g2, g3⟩ := HKP.out W hT
                simp only [execOp, Act.eval, h44]
                go_simp
                exact ⟨Turned.refl _ _, rfl⟩
            case s5 =>
              refine fun hs hle => stepG_free [] [3] (by kernel_rfl) rfl ?_
              · intro ac W hT hI hO
                have h3 : ac.tmps.getD 3 undef = .pointer (some ⟨B, 0, none⟩) := hO 3 (by simp)
                show Brings Try.prog (fun v w' => Turned (fun _ => False) W w' ∧ v = .pointer (some ⟨B, 3, none⟩)) _
                simp only [execOp, Act.eval, h3]
                go_simp
                try exact ⟨Turned.refl _ _, rfl⟩
            case s6 =>
              refine fun hs hle => stepG_free [46] [] (by kernel_rfl) rfl ?_
              · intro ac W hT hI hO
                have h46 : ac.tmps.getD 46 undef = .pointer (some ⟨B, 3, none⟩) := hI 46 (by simp)
                show Brings Try.prog (fun v w' => Turned (fun _ => False) W w' ∧ v = .slice (some ⟨b2, o2, none⟩) b.args.length c2) _
                obtain ⟨p1, p2, k0, k1, k2, k3, g0, g1, g2, g3⟩ := HKP.out W hT
                simp only [execOp, Act.eval, h46]
                go_simp
                exact ⟨Turned.refl _ _, rfl⟩
            case s7 =>
              refine fun hs hle => stepG_free [] [5] (by kernel_rfl) rfl ?_
              · intro ac W hT hI hO
                have h5 : ac.tmps.getD 5 undef = .int .i64 (j : Int) := hO 5 (by simp)
                show Brings Try.prog (fun v w' => Turned (fun _ => False) W w' ∧ v = .int .i64 (j : Int)) _
                simp only [execOp, Act.eval, h5]
                go_simp
                try exact ⟨Turned.refl _ _, rfl⟩
            case s8 =>
              refine fun hs hle => stepG_free [47, 48] [] (by kernel_rfl) rfl ?_
              · intro ac W hT hI hO
                have h47 : ac.tmps.getD 47 undef = .slice (some ⟨b2, o2, none⟩) b.args.length c2 := hI 47 (by simp)
                have h48 : ac.tmps.getD 48 undef = .int .i64 (j : Int) := hI 48 (by simp)
                show Brings Try.prog (fun v w' => Turned (fun _ => False) W w' ∧ v = .pointer (some ⟨b2, o2 + j * 4, none⟩)) _
                simp only [execOp, Act.eval, h47, h48]
                go_simp
                try rw [if_pos (by omega)]
                try exact ⟨Turned.refl _ _, rfl⟩
            case s9 =>
              refine fun hs hle => stepG_free [49] [] (by kernel_rfl) rfl ?_
              · intro ac W hT hI hO
                have h49 : ac.tmps.getD 49 undef = .pointer (some ⟨b2, o2 + j * 4, none⟩) := hI 49 (by simp)
                show Brings Try.prog (fun v w' => Turned (fun _ => False) W w' ∧ v = .agg #[.int .i64 y.kind, .int .i64 y.n, .string y.name, .slice y.at_.1 y.args.length y.at_.2]) _
                obtain ⟨p1, p2, k0, k1, k2, k3, g0, g1, g2, g3⟩ := HKP.out W hT
                simp only [execOp, Act.eval, h49]
                go_simp
                exact ⟨Turned.refl _ _, rfl⟩
            case s10 =>
              refine fun hs hle => stepG_free [45, 50] [] (by kernel_rfl) rfl ?_
              · intro ac W hT hI hO
                have h45 : ac.tmps.getD 45 undef = .agg #[.int .i64 x.kind, .int .i64 x.n, .string x.name, .slice x.at_.1 x.args.length x.at_.2] := hI 45 (by simp)
                have h50 : ac.tmps.getD 50 undef = .agg #[.int .i64 y.kind, .int .i64 y.n, .string y.name, .slice y.at_.1 y.args.length y.at_.2] := hI 50 (by simp)
                show Brings Try.prog (fun v w' => Turned (fun _ => False) W w' ∧ v = .bool (Tm.same x y)) _
                simp only [execOp, Act.eval, h45, h50]
                go_simp
                show Calls Try.prog 48 _ W _
                (with_reducible refine (HCX.out W hT).mono ?_)
                rintro e w' ⟨rfl, T'⟩
                exact ⟨_, rfl, T', rfl⟩
            case s11 =>
              refine fun hs hle => stepG_free [51] [] (by kernel_rfl) rfl ?_
              · intro ac W hT hI hO
                have h51 : ac.tmps.getD 51 undef = .bool (Tm.same x y) := hI 51 (by simp)
                show Brings Try.prog (fun v w' => Turned (fun _ => False) W w' ∧ v = .bool B52) _
                rw [HB52.out]
                simp only [execOp, Act.eval, h51]
                go_simp
                try exact ⟨Turned.refl _ _, rfl⟩
          case hQ =>
            intro hs vs w2 hlen T2 hV
            have q52 : vs 52 = .bool B52 := hV 52 (by simp)
            rw [HB52.out] at q52
            clear hV hlen hs
            cases hs : Tm.same x y with
            | true =>
              rw [hs] at q52
              replace q52 : vs 52 = .bool false := q52
              have HSE := Lib.hid hs
              simp only [List.foldl_cons, List.foldl_nil, List.setIfInBounds_toArray, List.set_cons_zero, List.set_cons_succ, q52]
              clear q52 hs
              go_wp2_with fail
              go_roundg (gk - 1)
              case measure => have := HG.out; omega
              case rel =>
                refine ⟨j + 1, show _ = _ by have := HG.out; omega, by omega, by go_num, ?_, Tr.trans T2⟩
                show _ = _
                rw [bares_snoc _ _ _ HX.out, bares_snoc _ _ _ HY.out, HE.out, (Tm.same_iff x y).1 HSE.out]
            | false =>
              rw [hs] at q52
              replace q52 : vs 52 = .bool true := q52
              have HSE := Lib.hid hs
              simp only [List.foldl_cons, List.foldl_nil, List.setIfInBounds_toArray, List.set_cons_zero, List.set_cons_succ, q52]
              clear q52 hs
              go_wp2_with fail
              go_ret
              exact ⟨ret_bool (HR.out.trans (sames_no HX.out HY.out HSE.out)).symm, HT1.out.trans (Tr.trans T2)⟩
      · go_wp2_with fail
        go_ret
        refine ⟨ret_bool ?_, HT1.out.trans Tr⟩
        symm
        rw [HR.out, Tm.sames_iff]
        have h := HE.out
        rwa [List.take_of_length_le (by omega), List.take_of_length_le (by omega)] at h
end Go.Proofs.Ytoihjobdfjajfaa

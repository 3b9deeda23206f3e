/- TermLists: the walk. -/
import Derived.Test.YtoihjobdfjajfaaLB2
import Derived.Test.YtoihjobdfjajfaaTV2
namespace Go.Proofs.Ytoihjobdfjajfaa
set_option linter.unusedVariables false
set_option linter.unusedSimpArgs false
open Go.RowKit

theorem deepS (k : Nat) (t : LT) (W : World) (n : Int) (hn : n = (k : Int)) (hk : k ≤ 1000) (h : t.In (fun _ => True) W) : Calls Try.prog 33 #[.agg #[.int .i64 t.kind, .int .i64 t.n, .string t.name, .slice t.at_.1 t.args.length t.at_.2], .int .i64 n] W fun e w' => e = .returned (.bool (deepB k t)) ∧ Turned (fun _ => False) W w' := by
  subst hn
  have := deep33 (fun _ => True) k t W hk h
  rw [LT.val_eq] at this
  exact this
/-- A slice of terms that was handed over. -/
theorem row_sl {w : World} {a : Option Addr} {n c : Nat} {us : List LT} (h : Row w 27 4 (.slice a n c) n (us.flatMap LT.cells)) (hi : LT.Ins (fun _ => True) w us) : LT.Sl (fun _ => True) w a c us := (LT.Sl.of_row (p := fun _ => True) h (fun _ _ => trivial) hi).2
/-- What lies in memory when all has been laid. -/
structure ListsI (B0 B6 B8 : Nat) (a va : Option Addr) (c vc : Nat) (l us : List LT) (tail t en : LT) (W : World) : Prop where
  c0 : (W.cell? ⟨B0, 0, none⟩ = some (.int .i64 tail.kind) ∧ W.cell? ⟨B0, 1, none⟩ = some (.int .i64 tail.n) ∧ W.cell? ⟨B0, 2, none⟩ = some (.string tail.name) ∧ W.cell? ⟨B0, 3, none⟩ = some (.slice tail.at_.1 tail.args.length tail.at_.2))
  c6 : (W.cell? ⟨B6, 0, none⟩ = some (.int .i64 t.kind) ∧ W.cell? ⟨B6, 1, none⟩ = some (.int .i64 t.n) ∧ W.cell? ⟨B6, 2, none⟩ = some (.string t.name) ∧ W.cell? ⟨B6, 3, none⟩ = some (.slice t.at_.1 t.args.length t.at_.2))
  c8 : (W.cell? ⟨B8, 0, none⟩ = some (.int .i64 en.kind) ∧ W.cell? ⟨B8, 1, none⟩ = some (.int .i64 en.n) ∧ W.cell? ⟨B8, 2, none⟩ = some (.string en.name) ∧ W.cell? ⟨B8, 3, none⟩ = some (.slice en.at_.1 en.args.length en.at_.2))
  sl : LT.Sl (fun _ => True) W a c l
  su : LT.Sl (fun _ => True) W va vc us
  i0 : tail.In (fun _ => True) W
  i6 : t.In (fun _ => True) W
  i8 : en.In (fun _ => True) W
theorem ListsI.turned0 {B0 B6 B8 : Nat} {a va : Option Addr} {c vc : Nat} {l us : List LT} {tail t en : LT} {w w' : World} (h : ListsI B0 B6 B8 a va c vc l us tail t en w) (ht : Turned (fun _ => False) w w') : ListsI B0 B6 B8 a va c vc l us tail t en w' :=
  ⟨⟨ht.cell0 h.c0.1, ht.cell0 h.c0.2.1, ht.cell0 h.c0.2.2.1, ht.cell0 h.c0.2.2.2⟩, ⟨ht.cell0 h.c6.1, ht.cell0 h.c6.2.1, ht.cell0 h.c6.2.2.1, ht.cell0 h.c6.2.2.2⟩, ⟨ht.cell0 h.c8.1, ht.cell0 h.c8.2.1, ht.cell0 h.c8.2.2.1, ht.cell0 h.c8.2.2.2⟩,
    h.sl.turned0 ht, h.su.turned0 ht, h.i0.turned0 ht, h.i6.turned0 ht, h.i8.turned0 ht⟩
set_option maxRecDepth 100000 in
set_option maxHeartbeats 6400000 in
theorem termLists {w : World} {a : Option Addr} {c : Nat} {l : List LT} {tail : LT} (hl : LT.Sl (fun _ => True) w a c l) (ht : tail.In (fun _ => True) w) :
    Calls Try.prog 9 #[.slice a l.length c, tail.val] w fun e w' => e = .returned (.bool true) ∧ Turned (fun _ => False) w w' := by
  have hmx : l.length ≤ 9223372036854775807 := by have := hl.cap; have := hl.max; unfold maxLen at this; omega
  obtain ⟨w1, hw1⟩ : ∃ z, z = w.alloc (.cells #[.int .i64 tail.kind, .int .i64 tail.n, .string tail.name, .slice tail.at_.1 tail.args.length tail.at_.2] 27) := ⟨_, rfl⟩
  have T1 : Turned (fun _ => False) w w1 := by rw [hw1]; exact (Turned.refl _ w).alloc _
  have hkp : ∀ W, Turned (fun _ => False) w1 W → (W.cell? ⟨w.heap.size, 0, none⟩ = some (.int .i64 tail.kind) ∧ W.cell? ⟨w.heap.size, 1, none⟩ = some (.int .i64 tail.n) ∧ W.cell? ⟨w.heap.size, 2, none⟩ = some (.string tail.name) ∧ W.cell? ⟨w.heap.size, 3, none⟩ = some (.slice tail.at_.1 tail.args.length tail.at_.2)) := fun W h => by
    rw [hw1] at h
    obtain ⟨c0, c1, c2, c3, _⟩ := boxAt h
    exact ⟨c0, c1, c2, c3⟩
  have hl1 := hl.turned0 T1
  have ht1 := ht.turned0 T1
  have hd := fun W (h : Turned (fun _ => False) w1 W) => deepS 30 tail W 30 rfl (by omega) (ht1.turned0 h)
  rw [LT.val_eq]
  have HL := Lib.hid hl1
  have HT := Lib.hid ht1
  have HD := Lib.hid hd
  have HKP := Lib.hid hkp
  have HT1 := Lib.hid T1
  have HW := Lib.hid hw1
  clear hl ht hl1 ht1 hd hkp T1 hw1
  by_cases h20 : l.length ≤ 20
  rotate_left
  · go_enter Try.func9, Try.ntmps9
    go_wp2_with (go_at_call 32; refine (awake32 _).mono ?_; rintro e W0 ⟨rfl, T0⟩; rw [← HW.out] at T0; obtain ⟨c0, c1, c2, c3⟩ := HKP.out _ T0)
    go_ret
    exact ⟨rfl, HT1.out.trans T0⟩
  cases dt : deepB 30 tail with
  | true =>
    rw [dt] at HD
    clear dt
    go_enter Try.func9, Try.ntmps9
    go_wp2_with (first
      | (go_at_call 32; refine (awake32 _).mono ?_; rintro e W0 ⟨rfl, T0⟩; rw [← HW.out] at T0; obtain ⟨c0, c1, c2, c3⟩ := HKP.out _ T0)
      | (go_at_call 33; (with_reducible refine (HD.out _ T0).mono ?_); rintro e W1 ⟨rfl, T1⟩; have S1 := T0.trans T1))
    go_ret
    exact ⟨rfl, HT1.out.trans S1⟩
  | false =>
  rw [dt] at HD
  have HST := Lib.hid (deep_slim 30 tail dt)
  clear dt
  go_enter Try.func9, Try.ntmps9
  go_wp2_with (first
    | (go_at_call 32; refine (awake32 _).mono ?_; rintro e W0 ⟨rfl, T0⟩; rw [← HW.out] at T0; obtain ⟨c0, c1, c2, c3⟩ := HKP.out _ T0)
    | (go_at_call 33; (with_reducible refine (HD.out _ T0).mono ?_); rintro e W1 ⟨rfl, T1⟩; have S1 := T0.trans T1))
  clear c0 c1 c2 c3
  go_loopg [5] l.length (fun g i wr => ∃ j : Nat, Hid (j + g = l.length) ∧ j ≤ l.length ∧ i = .int .i64 j ∧ Hid (∀ x ∈ l.take j, slim x) ∧ Turned (fun _ => False) w1 wr)
  case atStart => exact ⟨0, Nat.zero_add _, Nat.zero_le _, rfl, (fun x hx => by simp at hx : ∀ x ∈ l.take 0, slim x), S1⟩
  case round =>
    obtain ⟨j, HG, hj, rfl, HSL, Tr⟩ := hrel
    by_cases hjl : j < l.length
    · have hx : l[j]? = some l[j] := List.getElem?_eq_getElem hjl
      obtain ⟨x, hxe⟩ : ∃ x : LT, x = l[j] := ⟨_, rfl⟩
      rw [← hxe] at hx
      clear hxe
      obtain ⟨b, o, rfl, _, c0, c1, c2, c3⟩ := (HL.out.turned0 Tr).lies.cell hx
      have hdx := deepS 20 x wr 20 rfl (by omega) ((HL.out.turned0 Tr).mem hx)
      have HX := Lib.hid hx
      clear hx
      cases dx : deepB 20 x with
      | true =>
        rw [dx] at hdx
        have HDX := Lib.hid hdx
        clear hdx dx
        go_wp2_with (go_at_call 33; (with_reducible refine HDX.out.mono ?_); rintro e W2 ⟨rfl, T2⟩)
        go_ret
        exact ⟨rfl, HT1.out.trans (Tr.trans T2)⟩
      | false =>
        rw [dx] at hdx
        have HDX := Lib.hid hdx
        have HSX := Lib.hid (deep_slim 20 x dx)
        clear hdx dx
        go_wp2_with (go_at_call 33; (with_reducible refine HDX.out.mono ?_); rintro e W2 ⟨rfl, T2⟩)
        go_roundg (gk - 1)
        case measure => have := HG.out; omega
        case rel =>
          refine ⟨j + 1, show _ = _ by have := HG.out; omega, by omega, by go_num, ?_, Tr.trans T2⟩
          show ∀ y ∈ l.take (j + 1), slim y
          intro y hy
          have hx := HX.out
          rw [List.take_add_one, List.mem_append, hx] at hy
          rcases hy with hy | hy
          · exact HSL.out y hy
          · simp at hy; subst hy; exact HSX.out
    · obtain rfl : j = l.length := by omega
      have HSA : Hid (∀ x ∈ l, slim x) := by have := HSL.out; rw [List.take_length] at this; exact this
      clear HSL HG hj hjl
      obtain ⟨c0, c1, c2, c3⟩ := HKP.out _ Tr
      have hlist := list64 (HL.out.turned0 Tr) (HT.out.turned0 Tr)
      rw [LT.val_eq] at hlist
      have HLI := Lib.hid hlist
      clear hlist
      go_wp2_with (go_at_call 64; (with_reducible refine HLI.out.mono ?_); rintro e w2 ⟨t, rfl, hb, hi, T2⟩; rw [LT.val_eq])
      have T3 := (Tr.trans T2).alloc (.cells #[.int .i64 t.kind, .int .i64 t.n, .string t.name, .slice t.at_.1 t.args.length t.at_.2] 27)
      have hit := hi.turned0 ((Turned.refl (fun _ => False) w2).alloc (.cells #[.int .i64 t.kind, .int .i64 t.n, .string t.name, .slice t.at_.1 t.args.length t.at_.2] 27))
      have hk6 : ∀ W, Turned (fun _ => False) (w2.alloc (.cells #[.int .i64 t.kind, .int .i64 t.n, .string t.name, .slice t.at_.1 t.args.length t.at_.2] 27)) W → (W.cell? ⟨w2.heap.size, 0, none⟩ = some (.int .i64 t.kind) ∧ W.cell? ⟨w2.heap.size, 1, none⟩ = some (.int .i64 t.n) ∧ W.cell? ⟨w2.heap.size, 2, none⟩ = some (.string t.name) ∧ W.cell? ⟨w2.heap.size, 3, none⟩ = some (.slice t.at_.1 t.args.length t.at_.2)) := fun W h => by
        obtain ⟨c0, c1, c2, c3, _⟩ := boxAt h
        exact ⟨c0, c1, c2, c3⟩
      clear c0 c1 c2 c3 HLI T2 hi HD
      revert T3 hit hk6
      generalize (w2.alloc (.cells #[.int .i64 t.kind, .int .i64 t.n, .string t.name, .slice t.at_.1 t.args.length t.at_.2] 27)) = w3
      obtain ⟨B6, hB6⟩ : ∃ z, z = w2.heap.size := ⟨_, rfl⟩
      rw [← hB6]
      clear hB6
      intro T3 hit hk6
      have hst : slim t := slim_eq' (t := Tm.listB (l.map Tm.bare) tail.bare) (by rw [Tm.bare_unit]; exact hb.symm) (Tm.listB_slim (fun y hy => by
        obtain ⟨x, hx, rfl⟩ := List.mem_map.1 hy
        exact slim_eq' (by rw [Tm.bare_unit]) (HSA.out x hx)) (slim_eq' (by rw [Tm.bare_unit]) HST.out))
      have hg38 := good38 hit hst
      rw [LT.val_eq] at hg38
      obtain ⟨k0, k1, k2, k3⟩ := hk6 w3 (Turned.refl _ w3)
      cases hg : goodB t with
      | false =>
        rw [hg] at hg38
        have HG38 := Lib.hid hg38
        clear hg38 hg
        (with_reducible refine HG38.out.mono ?_)
        rintro e w4 ⟨rfl, T4⟩
        go_wp2_with fail
        go_ret
        exact ⟨rfl, HT1.out.trans (T3.trans T4)⟩
      | true =>
        rw [hg] at hg38
        have HG38 := Lib.hid hg38
        have hits := fun W (h : Turned (fun _ => False) w3 W) => itemsV46 (hit.turned0 h) hst
        simp only [hg, if_true] at hits
        rw [LT.val_eq] at hits
        have HIT := Lib.hid hits
        have HGD := Lib.hid hg
        have HB := Lib.hid hb
        have HIN := Lib.hid hit
        have HS := Lib.hid hst
        have HK6 := Lib.hid hk6
        clear hg38 hg hits hb hit hst hk6 k0 k1 k2 k3
        (with_reducible refine HG38.out.mono ?_)
        rintro e w4 ⟨rfl, T4⟩
        obtain ⟨k0, k1, k2, k3⟩ := HK6.out w4 T4
        go_wp2_with (go_at_call 46; (with_reducible refine (HIT.out w4 T4).mono ?_); rintro e w5 ⟨va, vc, us, en, rfl, he, hrow, T5⟩)
        have HOK : Hid (ListOk l tail t us en) := listOk HB.out HGD.out he
        have hmem := Tm.items_mem _ t (Nat.le_refl _)
        rw [← he] at hmem
        have T6 := ((T3.trans T4).trans T5).alloc (.cells #[.int .i64 en.kind, .int .i64 en.n, .string en.name, .slice en.at_.1 en.args.length en.at_.2] 27)
        have T36 := (T4.trans T5).alloc (.cells #[.int .i64 en.kind, .int .i64 en.n, .string en.name, .slice en.at_.1 en.args.length en.at_.2] 27)
        have hins : LT.Ins (fun _ => True) w5 us := (LT.ins_iff us).2 (fun x hx => LT.In.flat t (HIN.out.turned0 (T4.trans T5)) x (hmem.1 x hx))
        have hin5 := LT.In.flat t (HIN.out.turned0 (T4.trans T5)) en hmem.2
        have Ta := (Turned.refl (fun _ => False) w5).alloc (.cells #[.int .i64 en.kind, .int .i64 en.n, .string en.name, .slice en.at_.1 en.args.length en.at_.2] 27)
        have HSU : Hid ((∀ x ∈ us, slim x) ∧ slim en) := ⟨fun x hx => slim_flat HS.out (hmem.1 x hx), slim_flat HS.out hmem.2⟩
        have hLI : Hid (ListsI w.heap.size B6 w5.heap.size a va c vc l us tail t en (w5.alloc (.cells #[.int .i64 en.kind, .int .i64 en.n, .string en.name, .slice en.at_.1 en.args.length en.at_.2] 27))) := by
          obtain ⟨x0, x1, x2, x3, _⟩ := boxAt (Turned.refl (fun _ => False) (w5.alloc (.cells #[.int .i64 en.kind, .int .i64 en.n, .string en.name, .slice en.at_.1 en.args.length en.at_.2] 27)))
          exact ⟨HKP.out _ T6, HK6.out _ T36, ⟨x0, x1, x2, x3⟩, HL.out.turned0 T6, (row_sl hrow hins).turned0 Ta, HT.out.turned0 T6, HIN.out.turned0 T36, hin5.turned0 Ta⟩
        have HT6 : Hid (Turned (fun _ => False) w (w5.alloc (.cells #[.int .i64 en.kind, .int .i64 en.n, .string en.name, .slice en.at_.1 en.args.length en.at_.2] 27))) := HT1.out.trans T6
        clear hmem T6 T36 hins hin5 Ta he hrow T3 T4 T5 HIT HG38 k0 k1 k2 k3
        revert hLI HT6
        generalize (w5.alloc (.cells #[.int .i64 en.kind, .int .i64 en.n, .string en.name, .slice en.at_.1 en.args.length en.at_.2] 27)) = w6
        obtain ⟨B8, hB8⟩ : ∃ z, z = w5.heap.size := ⟨_, rfl⟩
        rw [← hB8]
        clear hB8
        intro HI HT6
        obtain ⟨B0, hB0⟩ : ∃ z, z = w.heap.size := ⟨_, rfl⟩
        rw [← hB0] at HI ⊢
        clear hB0 HKP HK6 HW HL HT HIN
        have hul : us.length ≤ 9223372036854775807 := by have := HI.out.su.cap; have := HI.out.su.max; unfold maxLen at this; omega
        obtain ⟨B47, HB47⟩ : ∃ B, Hid (B = decide ((us.length : Int) < (l.length : Int))) := ⟨_, rfl⟩
        have hB47 : B47 = false := by rw [HB47.out]; have := HOK.out.len; exact decide_eq_false (by omega)
        obtain ⟨B54, HB54⟩ : ∃ B, Hid (B = (!true)) := ⟨_, rfl⟩
        obtain ⟨B55, HB55⟩ : ∃ B, Hid (B = (B47 || B54)) := ⟨_, rfl⟩
        refine wp_region_hs [43, 44, 45, 46, 47, 48, 49, 50, 51, 52, 53, 54, 55] [8] [1, 1, 1, 1, 1, 1, 1, 1, 1, 1, 1, 1, 1] [51] (fun d v => (match d with | 43 => v = .slice va us.length vc | 44 => v = .int .i64 (us.length : Int) | 45 => v = .slice a l.length c | 46 => v = .int .i64 (l.length : Int) | 47 => v = .bool B47 | 48 => v = .bool B47 | 49 => v = bif (true && (B47 == false)) then .slice va us.length vc else undef | 50 => v = bif (true && (B47 == false)) then .agg #[.int .i64 en.kind, .int .i64 en.n, .string en.name, .slice en.at_.1 en.args.length en.at_.2] else undef | 52 => v = bif (true && (B47 == false)) then .agg #[.int .i64 t.kind, .int .i64 t.n, .string t.name, .slice t.at_.1 t.args.length t.at_.2] else undef | 53 => v = bif (true && (B47 == false)) then .bool true else undef | 54 => v = bif (true && (B47 == false)) then .bool B54 else undef | 55 => v = .bool B55 | _ => True : Prop)) (OneS w6 t) (by kernel_rfl) rfl (by kernel_rfl) (by kernel_rfl) (by kernel_rfl) (by kernel_rfl) (fun _ h => h) (fun hs w w' h ht => OneS.turned0 hs w w' h ht) ?hs ?hQ
        case hs =>
          refine ⟨?s0, ?s1, ?s2, ?s3, ?s4, ?s5, ?s6, ?s7, ?s8, ?s9, ?s10, ?s11, ?s12, trivial⟩
          case s0 =>
            refine fun hs hle => stepG_free [] [7] (by kernel_rfl) rfl ?_
            · intro ac W hT hI hO
              have h7 : ac.tmps.getD 7 undef = .slice va us.length vc := hO 7 (by simp)
              show Brings Try.prog (fun v w' => Turned (fun _ => False) W w' ∧ v = .slice va us.length vc) _
              simp only [execOp, Act.eval, h7]
              go_simp
              try exact ⟨Turned.refl _ _, rfl⟩
          case s1 =>
            refine fun hs hle => stepG_free [43] [] (by kernel_rfl) rfl ?_
            · intro ac W hT hI hO
              have h43 : ac.tmps.getD 43 undef = .slice va us.length vc := hI 43 (by simp)
              show Brings Try.prog (fun v w' => Turned (fun _ => False) W w' ∧ v = .int .i64 (us.length : Int)) _
              simp only [execOp, Act.eval, h43]
              go_simp
              try exact ⟨Turned.refl _ _, rfl⟩
          case s2 =>
            refine fun hs hle => stepG_free [] [0] (by kernel_rfl) rfl ?_
            · intro ac W hT hI hO
              have h0 : ac.tmps.getD 0 undef = .slice a l.length c := hO 0 (by simp)
              show Brings Try.prog (fun v w' => Turned (fun _ => False) W w' ∧ v = .slice a l.length c) _
              simp only [execOp, Act.eval, h0]
              go_simp
              try exact ⟨Turned.refl _ _, rfl⟩
          case s3 =>
            refine fun hs hle => stepG_free [45] [] (by kernel_rfl) rfl ?_
            · intro ac W hT hI hO
              have h45 : ac.tmps.getD 45 undef = .slice a l.length c := hI 45 (by simp)
              show Brings Try.prog (fun v w' => Turned (fun _ => False) W w' ∧ v = .int .i64 (l.length : Int)) _
              simp only [execOp, Act.eval, h45]
              go_simp
              try exact ⟨Turned.refl _ _, rfl⟩
          case s4 =>
            refine fun hs hle => stepG_free [44, 46] [] (by kernel_rfl) rfl ?_
            · intro ac W hT hI hO
              have h44 : ac.tmps.getD 44 undef = .int .i64 (us.length : Int) := hI 44 (by simp)
              have h46 : ac.tmps.getD 46 undef = .int .i64 (l.length : Int) := hI 46 (by simp)
              show Brings Try.prog (fun v w' => Turned (fun _ => False) W w' ∧ v = .bool B47) _
              rw [HB47.out]
              simp only [execOp, Act.eval, h44, h46]
              go_simp
              try exact ⟨Turned.refl _ _, rfl⟩
          case s5 =>
            refine fun hs hle => stepG_free [47] [] (by kernel_rfl) rfl ?_
            · intro ac W hT hI hO
              have h47 : ac.tmps.getD 47 undef = .bool B47 := hI 47 (by simp)
              show Brings Try.prog (fun v w' => Turned (fun _ => False) W w' ∧ v = .bool B47) _
              simp only [execOp, Act.eval, h47]
              go_simp
              try exact ⟨Turned.refl _ _, rfl⟩
          case s6 =>
            refine fun hs hle => stepG_guard [48] [7] (by kernel_rfl) 5 false 48 rfl rfl (by simp) true B47 (fun _ _ h => h) (fun hc => ?_) (fun hc _ _ => ?_)
            rotate_left
            · refine ⟨Turned.refl _ _, ?_⟩
              show undef = bif (true && (B47 == false)) then _ else undef
              rw [hc]; rfl
            · intro ac W hT hI hO
              have h48 : ac.tmps.getD 48 undef = .bool B47 := hI 48 (by simp)
              have h7 : ac.tmps.getD 7 undef = .slice va us.length vc := hO 7 (by simp)
              show Brings Try.prog (fun v w' => Turned (fun _ => False) W w' ∧ v = bif (true && (B47 == false)) then .slice va us.length vc else undef) _
              rw [hc, cond_true]
              simp only [execOp, Act.eval, h48, h7]
              go_simp
              try exact ⟨Turned.refl _ _, rfl⟩
          case s7 =>
            refine fun hs hle => stepG_guard [48] [8] (by kernel_rfl) 5 false 48 rfl rfl (by simp) true B47 (fun _ _ h => h) (fun hc => ?_) (fun hc _ _ => ?_)
            rotate_left
            · refine ⟨Turned.refl _ _, ?_⟩
              show undef = bif (true && (B47 == false)) then _ else undef
              rw [hc]; rfl
            · intro ac W hT hI hO
              have h48 : ac.tmps.getD 48 undef = .bool B47 := hI 48 (by simp)
              have h8 : ac.tmps.getD 8 undef = .pointer (some ⟨B8, 0, none⟩) := hO 8 (by simp)
              show Brings Try.prog (fun v w' => Turned (fun _ => False) W w' ∧ v = bif (true && (B47 == false)) then .agg #[.int .i64 en.kind, .int .i64 en.n, .string en.name, .slice en.at_.1 en.args.length en.at_.2] else undef) _
              rw [hc, cond_true]
              obtain ⟨c0, c1, c2, c3⟩ := (HI.out.turned0 (OneS.turned hs W hT)).c6; obtain ⟨d0, d1, d2, d3⟩ := (HI.out.turned0 (OneS.turned hs W hT)).c8
              simp only [execOp, Act.eval, h48, h8]
              go_simp
              exact ⟨Turned.refl _ _, rfl⟩
          case s8 =>
            refine fun hs hlen => stepG_guard [49, 50, 48] [] (by kernel_rfl) 5 false 48 rfl rfl (by simp) true B47 (fun _ _ h => h) (fun hc => ?_) (fun hc _ _ => ?_)
            rotate_left
            · exact absurd hc (by rw [hB47]; decide)
            · intro ac W hT hI hO
              have h49 : ac.tmps.getD 49 undef = bif (true && (B47 == false)) then .slice va us.length vc else undef := hI 49 (by simp)
              rw [hc, cond_true] at h49
              have h50 : ac.tmps.getD 50 undef = bif (true && (B47 == false)) then .agg #[.int .i64 en.kind, .int .i64 en.n, .string en.name, .slice en.at_.1 en.args.length en.at_.2] else undef := hI 50 (by simp)
              rw [hc, cond_true] at h50
              have h48 : ac.tmps.getD 48 undef = .bool B47 := hI 48 (by simp)
              show Brings Try.prog (fun v w' => OneS w6 t (hs ++ [v]) w') _
              obtain rfl : hs = [] := List.eq_nil_of_length_eq_zero hlen
              replace hT : Turned (fun _ => False) w6 W := hT
              simp only [execOp, Act.eval, h49, h50, h48]
              go_simp
              have hli := list64 (HI.out.turned0 hT).su (HI.out.turned0 hT).i8
              rw [LT.val_eq, HOK.out.again] at hli
              show Calls Try.prog 64 _ W _
              (with_reducible refine hli.mono ?_)
              rintro e w' ⟨u, rfl, hb, hu, T'⟩
              exact ⟨_, rfl, hT.trans T', u, rfl, hb, hu⟩
          case s9 =>
            refine fun hs hle => stepG_guard [48] [6] (by kernel_rfl) 5 false 48 rfl rfl (by simp) true B47 (fun _ _ h => h) (fun hc => ?_) (fun hc _ _ => ?_)
            rotate_left
            · refine ⟨Turned.refl _ _, ?_⟩
              show undef = bif (true && (B47 == false)) then _ else undef
              rw [hc]; rfl
            · intro ac W hT hI hO
              have h48 : ac.tmps.getD 48 undef = .bool B47 := hI 48 (by simp)
              have h6 : ac.tmps.getD 6 undef = .pointer (some ⟨B6, 0, none⟩) := hO 6 (by simp)
              show Brings Try.prog (fun v w' => Turned (fun _ => False) W w' ∧ v = bif (true && (B47 == false)) then .agg #[.int .i64 t.kind, .int .i64 t.n, .string t.name, .slice t.at_.1 t.args.length t.at_.2] else undef) _
              rw [hc, cond_true]
              obtain ⟨c0, c1, c2, c3⟩ := (HI.out.turned0 (OneS.turned hs W hT)).c6; obtain ⟨d0, d1, d2, d3⟩ := (HI.out.turned0 (OneS.turned hs W hT)).c8
              simp only [execOp, Act.eval, h48, h6]
              go_simp
              exact ⟨Turned.refl _ _, rfl⟩
          case s10 =>
            refine fun hs hle => stepG_guard [51, 52, 48] [] (by kernel_rfl) 5 false 48 rfl rfl (by simp) true B47 (fun _ _ h => h) (fun hc => ?_) (fun hc _ _ => ?_)
            rotate_left
            · refine ⟨Turned.refl _ _, ?_⟩
              show undef = bif (true && (B47 == false)) then _ else undef
              rw [hc]; rfl
            · intro ac W hT hI hO
              have h51 : hs[0]? = some (ac.tmps.getD 51 undef) := hI 51 (by simp)
              have h52 : ac.tmps.getD 52 undef = bif (true && (B47 == false)) then .agg #[.int .i64 t.kind, .int .i64 t.n, .string t.name, .slice t.at_.1 t.args.length t.at_.2] else undef := hI 52 (by simp)
              rw [hc, cond_true] at h52
              have h48 : ac.tmps.getD 48 undef = .bool B47 := hI 48 (by simp)
              show Brings Try.prog (fun v w' => Turned (fun _ => False) W w' ∧ v = bif (true && (B47 == false)) then .bool true else undef) _
              rw [hc, cond_true]
              obtain ⟨u, eu, hbu, iu⟩ := OneS.at hT h51
              rw [LT.val_eq] at eu
              simp only [execOp, Act.eval, eu, h52]
              go_simp
              have hsm := same52 (p := fun _ => True) iu (HI.out.turned0 (OneS.turned hs W hT)).i6 (slim_eq' hbu.symm HS.out) HS.out
              rw [LT.val_eq u, LT.val_eq t, sameB_of hbu ((goodB_eq hbu).trans HGD.out)] at hsm
              show Calls Try.prog 52 _ W _
              (with_reducible refine hsm.mono ?_)
              rintro e w' ⟨rfl, T'⟩
              exact ⟨_, rfl, T', rfl⟩
          case s11 =>
            refine fun hs hle => stepG_guard [53, 48] [] (by kernel_rfl) 5 false 48 rfl rfl (by simp) true B47 (fun _ _ h => h) (fun hc => ?_) (fun hc _ _ => ?_)
            rotate_left
            · refine ⟨Turned.refl _ _, ?_⟩
              show undef = bif (true && (B47 == false)) then _ else undef
              rw [hc]; rfl
            · intro ac W hT hI hO
              have h53 : ac.tmps.getD 53 undef = bif (true && (B47 == false)) then .bool true else undef := hI 53 (by simp)
              rw [hc, cond_true] at h53
              have h48 : ac.tmps.getD 48 undef = .bool B47 := hI 48 (by simp)
              show Brings Try.prog (fun v w' => Turned (fun _ => False) W w' ∧ v = bif (true && (B47 == false)) then .bool B54 else undef) _
              rw [hc, cond_true]
              rw [HB54.out]
              simp only [execOp, Act.eval, h53, h48]
              go_simp
              try exact ⟨Turned.refl _ _, rfl⟩
          case s12 =>
            refine fun hs hle => stepG_free [48, 54] [] (by kernel_rfl) rfl ?_
            · intro ac W hT hI hO
              have h48 : ac.tmps.getD 48 undef = .bool B47 := hI 48 (by simp)
              have h54 : ac.tmps.getD 54 undef = bif (true && (B47 == false)) then .bool B54 else undef := hI 54 (by simp)
              show Brings Try.prog (fun v w' => Turned (fun _ => False) W w' ∧ v = .bool B55) _
              rw [HB55.out]
              cases hB : B47
              · simp only [hB] at *
                simp [execOp, Act.eval, go_sem, Brings, h48, h54]
                try exact Turned.refl _ _
              · simp only [hB] at *
                simp [execOp, Act.eval, go_sem, Brings, h48, h54]
                try exact Turned.refl _ _
        case hQ =>
          intro hs vq w7 hlen hR hV
          have q55 : vq 55 = .bool B55 := hV 55 (by simp)
          have hB55 : B55 = false := by rw [HB55.out, HB54.out, hB47]; rfl
          rw [hB55] at q55
          have T7 := OneS.turned hs w7 hR
          simp only [List.foldl_cons, List.foldl_nil, List.setIfInBounds_toArray, List.set_cons_zero, List.set_cons_succ, q55]
          clear hV q55 hlen hR hs hB55 HB55 HB54 hB47 HB47
          go_wp2_with fail
          go_loopg [9] l.length (fun g i wr => ∃ j : Nat, Hid (j + g = l.length) ∧ j ≤ l.length ∧ i = .int .i64 j ∧ Turned (fun _ => False) w6 wr)
          case atStart => exact ⟨0, Nat.zero_add _, Nat.zero_le _, rfl, T7⟩
          case round =>
            obtain ⟨j, HG, hj, rfl, Tr⟩ := hrel
            by_cases hjl : j < l.length
            · have SW := HI.out.turned0 Tr
              obtain ⟨x, hx⟩ : ∃ x, l[j]? = some x := ⟨_, List.getElem?_eq_getElem hjl⟩
              obtain ⟨y, hy⟩ : ∃ y, us[j]? = some y := ⟨_, List.getElem?_eq_getElem (by have := HOK.out.len; omega)⟩
              have hsm := fun W (h : Turned (fun _ => False) wr W) => same52 ((SW.turned0 h).su.mem hy) ((SW.turned0 h).sl.mem hx) (HSU.out.1 y (List.mem_of_getElem? hy)) (HSA.out x (List.mem_of_getElem? hx))
              rw [LT.val_eq x, LT.val_eq y, HOK.out.items j x y hx hy] at hsm
              have HSM := Lib.hid hsm
              obtain ⟨b, o, rfl, _, c0, c1, c2, c3⟩ := SW.sl.lies.cell hx
              obtain ⟨b', o', rfl, _, d0, d1, d2, d3⟩ := SW.su.lies.cell hy
              have z1 : (j : Int) < (us.length : Int) := by have := HOK.out.len; omega
              have z2 : j < us.length := by have := HOK.out.len; omega
              clear hsm SW hx hy
              go_wp2_with fail
              obtain ⟨B71, HB71⟩ : ∃ B, Hid (B = (!true)) := ⟨_, rfl⟩
              refine wp_region_hs [62, 63, 64, 65, 66, 67, 68, 69, 70, 71] [] [0, 0, 0, 0, 0, 0, 0, 0, 0, 0] [] (fun d v => (match d with | 62 => v = .slice (some ⟨b', o', none⟩) us.length vc | 63 => v = .int .i64 (j : Int) | 64 => v = .pointer (some ⟨b', o' + j * 4, none⟩) | 65 => v = .agg #[.int .i64 y.kind, .int .i64 y.n, .string y.name, .slice y.at_.1 y.args.length y.at_.2] | 66 => v = .slice (some ⟨b, o, none⟩) l.length c | 67 => v = .int .i64 (j : Int) | 68 => v = .pointer (some ⟨b, o + j * 4, none⟩) | 69 => v = .agg #[.int .i64 x.kind, .int .i64 x.n, .string x.name, .slice x.at_.1 x.args.length x.at_.2] | 70 => v = .bool true | 71 => v = .bool B71 | _ => True : Prop)) (fun _ W => Turned (fun _ => False) wr W) (by kernel_rfl) rfl (by kernel_rfl) (by kernel_rfl) (by kernel_rfl) (by kernel_rfl) (fun _ h => h) (fun _ _ _ h ht => h.trans ht) ?hs ?hQ
              case hs =>
                refine ⟨?s0, ?s1, ?s2, ?s3, ?s4, ?s5, ?s6, ?s7, ?s8, ?s9, trivial⟩
                case s0 =>
                  refine fun hs hle => stepG_free [] [7] (by kernel_rfl) rfl ?_
                  · intro ac W hT hI hO
                    have h7 : ac.tmps.getD 7 undef = .slice (some ⟨b', o', none⟩) us.length vc := hO 7 (by simp)
                    show Brings Try.prog (fun v w' => Turned (fun _ => False) W w' ∧ v = .slice (some ⟨b', o', none⟩) us.length vc) _
                    simp only [execOp, Act.eval, h7]
                    go_simp
                    try exact ⟨Turned.refl _ _, rfl⟩
                case s1 =>
                  refine fun hs hle => stepG_free [] [9] (by kernel_rfl) rfl ?_
                  · intro ac W hT hI hO
                    have h9 : ac.tmps.getD 9 undef = .int .i64 (j : Int) := hO 9 (by simp)
                    show Brings Try.prog (fun v w' => Turned (fun _ => False) W w' ∧ v = .int .i64 (j : Int)) _
                    simp only [execOp, Act.eval, h9]
                    go_simp
                    try exact ⟨Turned.refl _ _, rfl⟩
                case s2 =>
                  refine fun hs hle => stepG_free [62, 63] [] (by kernel_rfl) rfl ?_
                  · intro ac W hT hI hO
                    have h62 : ac.tmps.getD 62 undef = .slice (some ⟨b', o', none⟩) us.length vc := hI 62 (by simp)
                    have h63 : ac.tmps.getD 63 undef = .int .i64 (j : Int) := hI 63 (by simp)
                    show Brings Try.prog (fun v w' => Turned (fun _ => False) W w' ∧ v = .pointer (some ⟨b', o' + j * 4, none⟩)) _
                    simp only [execOp, Act.eval, h62, h63]
                    go_simp
                    try rw [if_pos (by omega)]
                    try exact ⟨Turned.refl _ _, rfl⟩
                case s3 =>
                  refine fun hs hle => stepG_free [64] [] (by kernel_rfl) rfl ?_
                  · intro ac W hT hI hO
                    have h64 : ac.tmps.getD 64 undef = .pointer (some ⟨b', o' + j * 4, none⟩) := hI 64 (by simp)
                    show Brings Try.prog (fun v w' => Turned (fun _ => False) W w' ∧ v = .agg #[.int .i64 y.kind, .int .i64 y.n, .string y.name, .slice y.at_.1 y.args.length y.at_.2]) _
                    have Tq : Turned (fun _ => False) wr W := hT; have c0 := Tq.cell0 c0; have c1 := Tq.cell0 c1; have c2 := Tq.cell0 c2; have c3 := Tq.cell0 c3; have d0 := Tq.cell0 d0; have d1 := Tq.cell0 d1; have d2 := Tq.cell0 d2; have d3 := Tq.cell0 d3
                    simp only [execOp, Act.eval, h64]
                    go_simp
                    exact ⟨Turned.refl _ _, rfl⟩
                case s4 =>
                  refine fun hs hle => stepG_free [] [0] (by kernel_rfl) rfl ?_
                  · intro ac W hT hI hO
                    have h0 : ac.tmps.getD 0 undef = .slice (some ⟨b, o, none⟩) l.length c := hO 0 (by simp)
                    show Brings Try.prog (fun v w' => Turned (fun _ => False) W w' ∧ v = .slice (some ⟨b, o, none⟩) l.length c) _
                    simp only [execOp, Act.eval, h0]
                    go_simp
                    try exact ⟨Turned.refl _ _, rfl⟩
                case s5 =>
                  refine fun hs hle => stepG_free [] [9] (by kernel_rfl) rfl ?_
                  · intro ac W hT hI hO
                    have h9 : ac.tmps.getD 9 undef = .int .i64 (j : Int) := hO 9 (by simp)
                    show Brings Try.prog (fun v w' => Turned (fun _ => False) W w' ∧ v = .int .i64 (j : Int)) _
                    simp only [execOp, Act.eval, h9]
                    go_simp
                    try exact ⟨Turned.refl _ _, rfl⟩
                case s6 =>
                  refine fun hs hle => stepG_free [66, 67] [] (by kernel_rfl) rfl ?_
                  · intro ac W hT hI hO
                    have h66 : ac.tmps.getD 66 undef = .slice (some ⟨b, o, none⟩) l.length c := hI 66 (by simp)
                    have h67 : ac.tmps.getD 67 undef = .int .i64 (j : Int) := hI 67 (by simp)
                    show Brings Try.prog (fun v w' => Turned (fun _ => False) W w' ∧ v = .pointer (some ⟨b, o + j * 4, none⟩)) _
                    simp only [execOp, Act.eval, h66, h67]
                    go_simp
                    try rw [if_pos (by omega)]
                    try exact ⟨Turned.refl _ _, rfl⟩
                case s7 =>
                  refine fun hs hle => stepG_free [68] [] (by kernel_rfl) rfl ?_
                  · intro ac W hT hI hO
                    have h68 : ac.tmps.getD 68 undef = .pointer (some ⟨b, o + j * 4, none⟩) := hI 68 (by simp)
                    show Brings Try.prog (fun v w' => Turned (fun _ => False) W w' ∧ v = .agg #[.int .i64 x.kind, .int .i64 x.n, .string x.name, .slice x.at_.1 x.args.length x.at_.2]) _
                    have Tq : Turned (fun _ => False) wr W := hT; have c0 := Tq.cell0 c0; have c1 := Tq.cell0 c1; have c2 := Tq.cell0 c2; have c3 := Tq.cell0 c3; have d0 := Tq.cell0 d0; have d1 := Tq.cell0 d1; have d2 := Tq.cell0 d2; have d3 := Tq.cell0 d3
                    simp only [execOp, Act.eval, h68]
                    go_simp
                    exact ⟨Turned.refl _ _, rfl⟩
                case s8 =>
                  refine fun hs hle => stepG_free [65, 69] [] (by kernel_rfl) rfl ?_
                  · intro ac W hT hI hO
                    have h65 : ac.tmps.getD 65 undef = .agg #[.int .i64 y.kind, .int .i64 y.n, .string y.name, .slice y.at_.1 y.args.length y.at_.2] := hI 65 (by simp)
                    have h69 : ac.tmps.getD 69 undef = .agg #[.int .i64 x.kind, .int .i64 x.n, .string x.name, .slice x.at_.1 x.args.length x.at_.2] := hI 69 (by simp)
                    show Brings Try.prog (fun v w' => Turned (fun _ => False) W w' ∧ v = .bool true) _
                    simp only [execOp, Act.eval, h65, h69]
                    go_simp
                    show Calls Try.prog 52 _ W _
                    (with_reducible refine (HSM.out W hT).mono ?_)
                    rintro e w' ⟨rfl, T'⟩
                    exact ⟨_, rfl, T', rfl⟩
                case s9 =>
                  refine fun hs hle => stepG_free [70] [] (by kernel_rfl) rfl ?_
                  · intro ac W hT hI hO
                    have h70 : ac.tmps.getD 70 undef = .bool true := hI 70 (by simp)
                    show Brings Try.prog (fun v w' => Turned (fun _ => False) W w' ∧ v = .bool B71) _
                    rw [HB71.out]
                    simp only [execOp, Act.eval, h70]
                    go_simp
                    try exact ⟨Turned.refl _ _, rfl⟩
              case hQ =>
                intro hs vq w8 hlen T8 hV
                have q71 : vq 71 = .bool B71 := hV 71 (by simp)
                have hB71 : B71 = false := by rw [HB71.out]; rfl
                rw [hB71] at q71
                simp only [List.foldl_cons, List.foldl_nil, List.setIfInBounds_toArray, List.set_cons_zero, List.set_cons_succ, q71]
                clear hV q71 hlen hs hB71 HB71
                go_wp2_with fail
                go_roundg (gk - 1)
                case measure => have := HG.out; omega
                case rel => exact ⟨j + 1, show _ = _ by have := HG.out; omega, by omega, by go_num, Tr.trans T8⟩
            · obtain rfl : j = l.length := by omega
              have hs35 := fun W (h : Turned (fun _ => False) w6 W) => size35 (HI.out.turned0 h).i0 HST.out
              have hs35t := fun W (h : Turned (fun _ => False) w6 W) => size35 (HI.out.turned0 h).i6 HS.out
              have hsm := HOK.out.small
              have hsn := HOK.out.sizeN
              have h1 : min tail.size 2001 = tail.size := by omega
              have h2 : min t.size 2001 = t.size := by omega
              rw [LT.val_eq, h1] at hs35
              rw [LT.val_eq, h2] at hs35t
              obtain ⟨tz, htz⟩ : ∃ z, z = tail.size := ⟨_, rfl⟩
              obtain ⟨tt, htt⟩ : ∃ z, z = t.size := ⟨_, rfl⟩
              rw [← htz] at hs35 hsn
              rw [← htt] at hs35t hsn hsm
              have HS35 := Lib.hid hs35
              have HS35T := Lib.hid hs35t
              have HSN := Lib.hid hsn
              have hz1 : tz ≤ 2000 := by omega
              have HZ2 : Hid (Tm.sizes l ≤ 2000) := show _ ≤ _ by omega
              obtain ⟨c0, c1, c2, c3⟩ := (HI.out.turned0 Tr).c0
              clear hs35 hs35t hsn h1 h2 htz htt HG hj hjl
              go_wp2_with (go_at_call 35; (with_reducible refine (HS35.out _ Tr).mono ?_); rintro e w9 ⟨rfl, T9⟩)
              clear c0 c1 c2 c3
              go_loopg [10, 11] l.length (fun g n i wr => ∃ j N : Nat, Hid (j + g = l.length) ∧ j ≤ l.length ∧ i = .int .i64 j ∧ n = .int .i64 N ∧ Hid (N + j = 2 * l.length + tz + Tm.sizes (l.take j)) ∧ N ≤ 4100 ∧ Turned (fun _ => False) w6 wr)
              case atStart => exact ⟨0, 2 * l.length + tz, Nat.zero_add _, Nat.zero_le _, rfl, by go_num, show _ = _ by simp [Tm.sizes], by omega, Tr.trans T9⟩
              case round =>
                obtain ⟨j, N, HG, hj, rfl, rfl, HN, hN, Tq⟩ := hrel
                by_cases hjl : j < l.length
                · have SW := HI.out.turned0 Tq
                  obtain ⟨x, hx⟩ : ∃ x, l[j]? = some x := ⟨_, List.getElem?_eq_getElem hjl⟩
                  have hxs := size35 (SW.sl.mem hx) (HSA.out x (List.mem_of_getElem? hx))
                  have hsn := sizes_at hx
                  have hst := sizes_take l (j + 1)
                  have hp := Tm.size_pos x
                  have hz2 := HZ2.out
                  have h1 : min x.size 2001 = x.size := by omega
                  rw [LT.val_eq, h1] at hxs
                  obtain ⟨xz, hxz⟩ : ∃ z, z = x.size := ⟨_, rfl⟩
                  rw [← hxz] at hxs hsn hp
                  have HXS := Lib.hid hxs
                  have HSS : Hid (N + xz - 1 + (j + 1) = 2 * l.length + tz + Tm.sizes (l.take (j + 1))) := show _ = _ by have := HN.out; omega
                  have hb : N + xz - 1 ≤ 4100 := by have := HSS.out; omega
                  obtain ⟨b, o, rfl, _, c0, c1, c2, c3⟩ := SW.sl.lies.cell hx
                  clear hxs hsn hst hz2 h1 hxz SW hx
                  go_wp2_with (go_at_call 35; (with_reducible refine HXS.out.mono ?_); rintro e w10 ⟨rfl, T10⟩)
                  go_roundg (gk - 1)
                  case measure => have := HG.out; omega
                  case rel => exact ⟨j + 1, N + xz - 1, show _ = _ by have := HG.out; omega, by omega, by go_num, by go_num, HSS, hb, Tq.trans T10⟩
                · obtain rfl : j = l.length := by omega
                  have hN2 : tt = N := by have h1 := HN.out; have h2 := HSN.out; rw [List.take_length] at h1; omega
                  subst hN2
                  obtain ⟨c0, c1, c2, c3⟩ := (HI.out.turned0 Tq).c6
                  go_wp2_with (go_at_call 35; (with_reducible refine (HS35T.out _ Tq).mono ?_); rintro e w10 ⟨rfl, T10⟩)
                  go_ret
                  exact ⟨rfl, HT6.out.trans (Tq.trans T10)⟩
end Go.Proofs.Ytoihjobdfjajfaa

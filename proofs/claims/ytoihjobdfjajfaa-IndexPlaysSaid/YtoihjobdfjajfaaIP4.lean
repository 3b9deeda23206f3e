/- IndexPlays' walk. -/
import Derived.Test.YtoihjobdfjajfaaIP3
import Derived.Test.YtoihjobdfjajfaaAw16
import Derived.Deep.OwnRows
import Derived.Laws.OwnMore
import Derived.Deep.DeepCutAuto
import Derived.Deep.CutBlock
namespace Go.Proofs.Ytoihjobdfjajfaa
set_option linter.unusedVariables false
set_option linter.unusedSimpArgs false
open Go.RowKit Go.Maps
attribute [local go_sem ↓] Go.wp_at_zero Go.wp_at_succ

set_option maxRecDepth 100000 in
set_option maxHeartbeats 6400000 in
theorem indexPlays {w : World} {a1 : Option Addr} {c1 : Nat} {l : List Act2} (hl : ASl w a1 c1 l) :
    Calls Try.prog 6 #[.slice a1 l.length c1] w fun e w' => e = .returned (.bool true) ∧ Turned (fun _ => False) w w' := by
  have lc := hl.cap
  have lm := hl.max
  have HL := Lib.hid hl
  clear hl
  by_cases h1 : 100 < l.length
  · have hb : decide ((100 : Int) < (l.length : Int)) = true := by rw [decide_eq_true_eq]; omega
    clear h1
    go_enter Try.func6, Try.ntmps6
    go_wp2_with (first
      | (go_at_call 40; refine (awake40 _).mono ?_; rintro e w1 ⟨rfl, T1⟩))
    go_ret
    exact ⟨rfl, T1⟩
  have hb : decide ((100 : Int) < (l.length : Int)) = false := by rw [decide_eq_false_iff_not]; omega
  have l1 : l.length ≤ 100 := by omega
  clear h1
  obtain ⟨iK, hK0, hK1, hK2, hK3⟩ := info_parts infoK
  obtain ⟨iB, hB0, hB1, hB2, hB3⟩ := info_parts infoB
  obtain ⟨iN, hN0, hN1, hN2, hN3⟩ := info_parts infoN
  go_enter Try.func6, Try.ntmps6
  go_wp2_with (first
    | (go_at_call 40; refine (awake40 _).mono ?_; rintro e w1 ⟨rfl, T1⟩)
    | (go_at_call 53; refine (new53 _).mono ?_; rintro e w2 ⟨rfl, X2, T2⟩))
  have HA : Hid (PlayIn w (w1.heap.size + 1) w1.heap.size (.slice none 0 0) (.slice none 0 0) (.slice none 0 0) [] [] 0 [] [] w2) := by
    have s1 := T1.size
    refine ⟨X2, Row.nil _ _ _, Row.nil _ _ _, fun k e => by simp [Value.ownBlock] at e, fun k e => by simp [Value.ownBlock] at e, fun k hk => ?_, T1.trans T2⟩
    rcases hk with rfl | rfl | e
    · omega
    · omega
    · simp [Value.ownBlock] at e
  clear X2 T1 T2
  revert HA
  generalize w1.heap.size + 1 = xb
  generalize w1.heap.size = mb
  intro HA
  go_loopg [4, 5, 6] l.length (fun g v4 v5 i wr => ∃ j : Nat, Hid (j + g = l.length) ∧ j ≤ l.length ∧ i = .int .i64 j ∧ Hid (∃ v ks gone, ks.length ≤ j ∧ gone.length ≤ j ∧ (∀ g ∈ gone, 0 ≤ g ∧ g < (ks.length : Int)) ∧ PlayIn w xb mb v v4 v5 ks ks ks.length gone gone wr))
  case atStart => exact ⟨0, Nat.zero_add _, Nat.zero_le _, rfl, _, _, _, Nat.le_refl _, Nat.le_refl _, (fun g hg => by cases hg), HA.out⟩
  case round =>
    obtain ⟨j, HG, hj, rfl, HV⟩ := hrel
    obtain ⟨wo, rfl⟩ : ∃ wo : World, wo = wr := ⟨_, rfl⟩
    obtain ⟨gp, rfl⟩ : ∃ gp : Nat, gp = gk := ⟨_, rfl⟩
    obtain ⟨v, ks, gone, hks, hgn, hin, hp⟩ := HV.out
    have HIN := Lib.hid hin
    have HP := Lib.hid hp
    obtain ⟨a4, c4, rfl⟩ := hp.ws.shape
    obtain ⟨a5, c5, rfl⟩ := hp.th.shape
    have m4 := hp.ws.max
    have m5 := hp.th.max
    clear HV hin hp
    by_cases hjl : j < l.length
    · obtain ⟨b, o, rfl, _⟩ := HL.out.lies (by omega)
      have hx : l[j]? = some l[j] := List.getElem?_eq_getElem hjl
      obtain ⟨⟨op, ai, K⟩, hxe⟩ : ∃ x, x = l[j] := ⟨_, rfl⟩
      rw [← hxe] at hx
      have hi64 : I64 ai := HL.out.wf _ (List.mem_of_getElem? hx)
      clear hxe
      obtain ⟨q0, q1, q2, q3, q4, q5⟩ := (HL.out.turned0 HP.out.turned).at hx
      simp only at q0 q1 q2 q3 q4 q5
      go_upto_block 2 with fail
      have HB0 := Lib.hid (Box6.made wo ⟨op, ai, K⟩)
      have HP1 := Lib.hid (HP.out.turned0 ((Turned.refl _ wo).alloc (.cells #[.int .i64 op, .int .i64 ai, .int .i64 K.kind, .int .i64 K.n, .string K.name, .int .i64 K.arity] 58)))
      have HLT := Lib.hid (And.intro HP.out.idx.lt (And.intro HP.out.ws.lt HP.out.th.lt))
      clear q0 q1 q2 q3 q4 q5 hx HA HP
      revert HB0 HP1
      simp only
      generalize wo.alloc (.cells #[.int .i64 op, .int .i64 ai, .int .i64 K.kind, .int .i64 K.n, .string K.name, .int .i64 K.arity] 58) = w3
      revert HLT
      generalize wo.heap.size = bx
      intro HLT HB0 HP1
      go_cut [4, 5, 8] (fun s4 s5 s8 wx => ∃ v ks gone, ks.length ≤ j + 1 ∧ gone.length ≤ j + 1 ∧ (∀ g ∈ gone, 0 ≤ g ∧ g < (ks.length : Int)) ∧ PlayIn w xb mb v s4 s5 ks ks ks.length gone gone wx ∧ Box6 bx ⟨op, ai, K⟩ wx)
      case first =>
        by_cases hop0 : op = 0
        · have k0 : (op == 0) = true := by simp [hop0]
          clear hop0
          have hadd := add54 HP1.out.idx K (by omega)
          unfold Key.val at hadd
          have HADD := Lib.hid hadd
          obtain ⟨e2, e3, e4, e5⟩ := HB0.out.key
          simp only at e2 e3 e4 e5
          clear hadd
          go_wp2_with (first
            | (go_at_call 54; (with_reducible refine (HADD.out).mono ?_); rintro e w4 ⟨rfl, v', X4, T4, hv4⟩; have HP4 := Lib.hid (HP1.out.moved X4 T4 hv4); have HB4 := Lib.hid (HB0.out.turned T4 (fun m => Nat.lt_irrefl _ (HLT.out.1 _ m))); obtain ⟨f2, f3, f4, f5⟩ := HB4.out.key; simp only at f2 f3 f4 f5; clear X4 T4 hv4 e2 e3 e4 e5)
            | (at_builtin; refine append_some _ rfl _ _ 55 rfl 35 iK zeroK 4 40 Try.underlying55 hK0 hK1 hK2 hK3 rfl (by decide) (.slice a4 ks.length c4) ks.length (ks.flatMap Key.cells) rfl (HP4.out.ws.alloc _) ⟨w4.heap.size, 0, none⟩ 1 1 K.cells rfl rfl (World.news_of_block (heap_alloc_new w4 _)) (Key.cells_one K) (by omega) (by unfold maxLen; omega) (by omega) ?_; intro g6 cap6 w6 hown6 T6 hloc6; have HP6 := Lib.hid (HP4.out.wsUp hown6 T6 hloc6); have HB6 := Lib.hid ((HB4.out.turned0 ((Turned.refl _ w4).alloc _)).turned T6 (fun m => Nat.lt_irrefl _ (HLT.out.2.1 _ m))); clear hown6 T6 hloc6)
            | (at_builtin; refine append_some _ rfl _ _ 56 rfl 4 iB (.bool false) 1 1 Try.underlying56 hB0 hB1 hB2 hB3 rfl (by decide) (.slice a5 ks.length c5) ks.length (ths ks.length gone) rfl (HP6.out.th.alloc _) ⟨w6.heap.size, 0, none⟩ 1 1 [.bool true] rfl rfl (cell_one_new _ _ _) (by simp [Value.oneCell']) (by omega) (by unfold maxLen; omega) (by omega) ?_; intro g7 cap7 w7 hown7 T7 hloc7; have HP7 := Lib.hid (HP6.out.thUp hown7 T7 hloc7 (fun g hg => (HIN.out g hg).2)); have HB7 := Lib.hid ((HB6.out.turned0 ((Turned.refl _ w6).alloc _)).turned T7 (fun m => Nat.lt_irrefl _ (HLT.out.2.2 _ m))); clear hown7 T7 hloc7))
          go_meet
          refine ⟨v', ks ++ [K], gone, by rw [List.length_append, List.length_singleton]; omega, by omega, fun g hg => ?_, ?_, HB7.out⟩
          · have := HIN.out g hg
            rw [List.length_append, List.length_singleton]
            omega
          · have := HP7.out
            rw [List.length_append, List.length_singleton]
            exact this
        · have k0 : (op == 0) = false := by simp [hop0]
          clear hop0
          by_cases hop1 : op = 1
          · have k1 : (op == 1) = true := by simp [hop1]
            clear hop1
            have hdrop := drop55 HP1.out.idx ai hi64 (by omega)
            obtain e1 := HB0.out.i
            simp only at e1
            have HDROP := Lib.hid hdrop
            clear hdrop
            by_cases hd0 : ai < 0
            · have HD : Hid (dropB ks.length gone ai = false) := by show _ = _; unfold dropB; simp; omega
              have d0 : decide (0 ≤ ai) = false := by rw [decide_eq_false_iff_not]; omega
              have hdrop := HDROP.out
              rw [HD.out, if_neg (by decide)] at hdrop
              have HDROP := Lib.hid hdrop
              clear hdrop hd0
              go_wp2_with (first
                | (go_at_call 55; (with_reducible refine (HDROP.out).mono ?_); rintro e w4 ⟨rfl, X4, T4⟩; have HP4 := Lib.hid (HP1.out.moved X4 T4 (.inl rfl)); have HB4 := Lib.hid (HB0.out.turned T4 (fun m => Nat.lt_irrefl _ (HLT.out.1 _ m))); clear X4 T4))
              go_meet
              exact ⟨v, ks, gone, by omega, by omega, HIN.out, HP4.out, HB4.out⟩
            · have d0 : decide (0 ≤ ai) = true := by rw [decide_eq_true_eq]; omega
              by_cases hd1 : (ks.length : Int) ≤ ai
              · have HD : Hid (dropB ks.length gone ai = false) := by show _ = _; unfold dropB; simp; omega
                have d1 : decide (ai < (ks.length : Int)) = false := by rw [decide_eq_false_iff_not]; omega
                have hdrop := HDROP.out
                rw [HD.out, if_neg (by decide)] at hdrop
                have HDROP := Lib.hid hdrop
                clear hdrop hd0 hd1
                go_wp2_with (first
                  | (go_at_call 55; (with_reducible refine (HDROP.out).mono ?_); rintro e w4 ⟨rfl, X4, T4⟩; have HP4 := Lib.hid (HP1.out.moved X4 T4 (.inl rfl)); have HB4 := Lib.hid (HB0.out.turned T4 (fun m => Nat.lt_irrefl _ (HLT.out.1 _ m))); clear X4 T4))
                go_meet
                exact ⟨v, ks, gone, by omega, by omega, HIN.out, HP4.out, HB4.out⟩
              · obtain ⟨m, rfl⟩ : ∃ m : Nat, ai = (m : Int) := ⟨ai.toNat, by omega⟩
                have hml : m < ks.length := by omega
                have d1 : decide ((m : Int) < (ks.length : Int)) = true := by rw [decide_eq_true_eq]; omega
                clear hd0 hd1
                obtain ⟨g5, cc5, he5⟩ := HP1.out.th.shape_pos (by omega)
                injection he5 with he1 _ he2
                subst he1 he2
                have hcell := HP1.out.th.cells rfl m _ (ths_at hml)
                by_cases hm : (m : Int) ∈ gone
                · have HD : Hid (dropB ks.length gone (m : Int) = false) := by show _ = _; unfold dropB; simp [hm]
                  have hdm : decide ((m : Int) ∈ gone) = true := by simpa using hm
                  rw [hdm] at hcell
                  have hdrop := HDROP.out
                  rw [HD.out, if_neg (by decide)] at hdrop
                  have HDROP := Lib.hid hdrop
                  clear hdrop hm hdm
                  simp only [Bool.not_true] at hcell
                  go_wp2_with (first
                    | (go_at_call 55; (with_reducible refine (HDROP.out).mono ?_); rintro e w4 ⟨rfl, X4, T4⟩; have HP4 := Lib.hid (HP1.out.moved X4 T4 (.inl rfl)); have HB4 := Lib.hid (HB0.out.turned T4 (fun m => Nat.lt_irrefl _ (HLT.out.1 _ m))); clear X4 T4))
                  go_meet
                  exact ⟨v, ks, gone, by omega, by omega, HIN.out, HP4.out, HB4.out⟩
                · have HD : Hid (dropB ks.length gone (m : Int) = true) := by show _ = _; unfold dropB; simp [hm, hml]
                  have hdm : decide ((m : Int) ∈ gone) = false := by simpa using hm
                  rw [hdm] at hcell
                  have hdrop := HDROP.out
                  rw [HD.out, if_pos rfl] at hdrop
                  have HDROP := Lib.hid hdrop
                  clear hdrop hm hdm
                  simp only [Bool.not_false] at hcell
                  go_wp2_with (first
                    | (go_at_call 55; (with_reducible refine (HDROP.out).mono ?_); rintro e w4 ⟨rfl, X4, T4⟩; have HP4 := Lib.hid (HP1.out.moved X4 T4 (.inl rfl)); have HB4 := Lib.hid (HB0.out.turned T4 (fun m => Nat.lt_irrefl _ (HLT.out.1 _ m))); have f1 := HB4.out.i; simp only at f1; have hfr := HP4.out.th.free rfl m; have hcell4 := HP4.out.th.cells rfl m _ (ths_at hml); clear X4 T4 e1))
                  go_meet
                  refine ⟨v, ks, gone ++ [(m : Int)], by omega, by rw [List.length_append, List.length_singleton]; omega, fun g hg => ?_, HP4.out.thOff hml, ?_⟩
                  · rcases List.mem_append.1 hg with h | h
                    · exact HIN.out g h
                    · rw [List.mem_singleton] at h; subst h; omega
                  · exact HB4.out.turned ((Turned.refl (fun j => j = g5) w4).setCell (.inr rfl) _) (fun e => Nat.lt_irrefl _ (e ▸ HLT.out.2.2 g5 rfl))
          · have k1 : (op == 1) = false := by simp [hop1]
            clear hop1
            go_wp2_with fail
            go_meet
            exact ⟨v, ks, gone, by omega, by omega, HIN.out, HP1.out, HB0.out⟩
      case rest =>
        clear hks hgn HIN HP1 m4 m5 HB0 HLT hi64
        obtain ⟨v, ks, gone, hks, hgn, hin, hp, hbx⟩ := hcut
        have HIN := Lib.hid hin
        have HP := Lib.hid hp
        have HB := Lib.hid hbx
        obtain ⟨a4, c4, rfl⟩ := hp.ws.shape
        obtain ⟨a5, c5, rfl⟩ := hp.th.shape
        have m4 := hp.ws.max
        have m5 := hp.th.max
        clear hin hp hbx
        have hkey57 := key57 K
        unfold Key.val at hkey57
        have HK57 := Lib.hid hkey57
        clear hkey57
        go_wp2_with fail
        go_loopg [9, 10, 11] ks.length (fun g v9 v10 i wr => ∃ k : Nat, Hid (k + g = ks.length) ∧ k ≤ ks.length ∧ i = .int .i64 k ∧ Hid (WantIn wc v9 v10 (thereB gone (pickB K (ks.take k) 0)) (pickB K (ks.take k) 0) wr))
        case atStart => exact ⟨0, Nat.zero_add _, Nat.zero_le _, rfl, Row.nil _ _ _, Row.nil _ _ _, fun k e => by simp [Value.ownBlock] at e, fun k e => by simp [Value.ownBlock] at e, Turned.refl _ _⟩
        case round =>
          obtain ⟨k, HG2, hk, rfl, HW⟩ := hrel
          obtain ⟨wz, rfl⟩ : ∃ wz : World, wz = wr := ⟨_, rfl⟩
          obtain ⟨a9, c9, rfl⟩ := HW.out.want.shape
          obtain ⟨a10, c10, rfl⟩ := HW.out.all.shape
          have HPz := Lib.hid (HP.out.turned0 HW.out.turned)
          have HBz := Lib.hid (HB.out.turned0 HW.out.turned)
          have hn9 := thereB_le gone (pickB K (ks.take k) 0)
          have hn10 := pickB_le K (ks.take k) 0
          rw [List.length_take] at hn10
          have hn10 : (pickB K (ks.take k) 0).length ≤ 200 := by omega
          have hn9 : (thereB gone (pickB K (ks.take k) 0)).length ≤ 200 := by omega
          by_cases hkl : k < ks.length
          · have hx : ks[k]? = some ks[k] := List.getElem?_eq_getElem hkl
            obtain ⟨x, hxe⟩ : ∃ x, x = ks[k] := ⟨_, rfl⟩
            rw [← hxe] at hx
            clear hxe
            obtain ⟨g4, cc4, he4⟩ := HPz.out.ws.shape_pos (by omega)
            injection he4 with he1 _ he2
            subst he1 he2
            obtain ⟨g5, cc5, he5⟩ := HPz.out.th.shape_pos (by omega)
            injection he5 with he1 _ he2
            subst he1 he2
            have hkeep : ∀ W, Turned (fun _ => False) wz W → Turned (fun _ => False) wz W ∧ W.cell? ⟨g4, k * 4, none⟩ = some (.int .i64 x.kind) ∧ W.cell? ⟨g4, k * 4 + 1, none⟩ = some (.int .i64 x.n) ∧ W.cell? ⟨g4, k * 4 + 2, none⟩ = some (.string x.name) ∧ W.cell? ⟨g4, k * 4 + 3, none⟩ = some (.int .i64 x.arity) ∧ W.cell? ⟨bx, 2, none⟩ = some (.int .i64 K.kind) ∧ W.cell? ⟨bx, 3, none⟩ = some (.int .i64 K.n) ∧ W.cell? ⟨bx, 4, none⟩ = some (.string K.name) ∧ W.cell? ⟨bx, 5, none⟩ = some (.int .i64 K.arity) := fun W hW => by
              have h1 := (Row.ksl (HPz.out.ws.turned0 hW)).at hx
              rw [Nat.zero_add] at h1
              obtain ⟨b2, b3, b4, b5⟩ := (HBz.out.turned0 hW).key
              exact ⟨hW, h1.1, h1.2.1, h1.2.2.1, h1.2.2.2, b2, b3, b4, b5⟩
            have HKP := Lib.hid hkeep
            have hpt := pickB_take (K := K) hx
            have HPT := Lib.hid hpt
            have hk57 := key57 x
            have hmy := mayr56 x K
            unfold Key.val at hk57 hmy
            have HX57 := Lib.hid hk57
            have hTH := ths_at (gone := gone) hkl
            have HTH := Lib.hid hTH
            clear hkeep hpt hk57 hx hTH
            revert hmy HPT
            generalize mayB x K = mb1
            intro HPT hmy
            have HMY := Lib.hid hmy
            clear hmy
            go_wp2_with fail
            go_region_held3 (fun W => Turned (fun _ => False) wz W ∧ W.cell? ⟨g4, k * 4, none⟩ = some (.int .i64 x.kind) ∧ W.cell? ⟨g4, k * 4 + 1, none⟩ = some (.int .i64 x.n) ∧ W.cell? ⟨g4, k * 4 + 2, none⟩ = some (.string x.name) ∧ W.cell? ⟨g4, k * 4 + 3, none⟩ = some (.int .i64 x.arity) ∧ W.cell? ⟨bx, 2, none⟩ = some (.int .i64 K.kind) ∧ W.cell? ⟨bx, 3, none⟩ = some (.int .i64 K.n) ∧ W.cell? ⟨bx, 4, none⟩ = some (.string K.name) ∧ W.cell? ⟨bx, 5, none⟩ = some (.int .i64 K.arity))
              (first
                | exact HKP.out _ (Turned.refl _ _).drew
                | exact HKP.out _ T3
                | exact HKP.out _ T2
                | exact HKP.out _ T1)
              (first
                | (go_at_call 57; (with_reducible refine (HX57.out _).mono ?_); rintro e w2 ⟨rfl, T⟩; have T2 := (show Turned (fun _ => False) wz _ ∧ _ from by assumption).1.trans T)
                | (go_at_call 57; (with_reducible refine (HK57.out _).mono ?_); rintro e w1 ⟨rfl, T⟩; have T1 := (show Turned (fun _ => False) wz _ ∧ _ from by assumption).1.trans T)
                | (go_at_call 56; (with_reducible refine (HMY.out _).mono ?_); rintro e w3 ⟨rfl, T⟩; have T3 := (show Turned (fun _ => False) wz _ ∧ _ from by assumption).1.trans T))
            have hS : Turned (fun _ => False) wz w3 := (show Turned (fun _ => False) wz w3 ∧ _ from by assumption).1
            have HW3 := Lib.hid (HW.out.turned0 hS)
            have HP3 := Lib.hid (HPz.out.turned0 hS)
            have hc5 := HP3.out.th.cells rfl k _ HTH.out
            clear HKP HX57 HK57 HMY T1 T2 T3 hS
            cases mb1 with
            | false =>
              go_wp2_with fail
              go_roundg (gk - 1)
              case measure => have := HG2.out; omega
              case rel =>
                refine ⟨k + 1, show _ = _ by have := HG2.out; omega, by omega, by go_num, ?_⟩
                have hpt := HPT.out
                rw [if_neg (by decide)] at hpt
                rw [hpt]
                exact HW3
            | true =>
              have hpt := HPT.out
              rw [if_pos rfl] at hpt
              have HPU := Lib.hid hpt
              clear hpt HPT
              cases hgo : decide ((k : Int) ∈ gone) with
              | true =>
                have hgo2 : (!decide ((k : Int) ∈ gone)) = false := by rw [hgo]; rfl
                have HGO := Lib.hid hgo
                have HG3 := Lib.hid hgo2
                rw [HG3.out] at hc5
                clear hgo hgo2
                go_wp2_with (first
                  | (at_builtin; refine append_some _ rfl _ _ 61 rfl 3 iN (.int .i64 0) 1 8 Try.underlying61 hN0 hN1 hN2 hN3 rfl (by decide) _ _ _ rfl (HW3.out.all.alloc _) ⟨w3.heap.size, 0, none⟩ 1 1 [.int .i64 k] rfl rfl (cell_one_new _ _ _) (by simp [Value.oneCell']) (by omega) (by unfold maxLen; omega) (by omega) ?_; intro g6 cap6 w6 hown6 T6 hloc6; have HW6 := Lib.hid (HW3.out.allUp hown6 T6 hloc6); have hc6 := (HP.out.turned0 HW6.out.turned).th.cells rfl k _ HTH.out; rw [HG3.out] at hc6; clear hown6 T6 hloc6 hc5))
                go_roundg (gk - 1)
                case measure => have := HG2.out; omega
                case rel =>
                  refine ⟨k + 1, show _ = _ by have := HG2.out; omega, by omega, by go_num, ?_⟩
                  rw [HPU.out, thereB_snoc, HGO.out, if_pos rfl]
                  exact HW6
              | false =>
                have hgo2 : (!decide ((k : Int) ∈ gone)) = true := by rw [hgo]; rfl
                have HGO := Lib.hid hgo
                have HG3 := Lib.hid hgo2
                rw [HG3.out] at hc5
                clear hgo hgo2
                go_wp2_with (first
                  | (at_builtin; refine append_some _ rfl _ _ 61 rfl 3 iN (.int .i64 0) 1 8 Try.underlying61 hN0 hN1 hN2 hN3 rfl (by decide) _ _ _ rfl (HW6.out.want.alloc _) ⟨w6.heap.size, 0, none⟩ 1 1 [.int .i64 k] rfl rfl (cell_one_new _ _ _) (by simp [Value.oneCell']) (by omega) (by unfold maxLen; omega) (by omega) ?_; intro g7 cap7 w7 hown7 T7 hloc7; have HW7 := Lib.hid (HW6.out.wantUp hown7 T7 hloc7); clear hown7 T7 hloc7)
                  | (at_builtin; refine append_some _ rfl _ _ 61 rfl 3 iN (.int .i64 0) 1 8 Try.underlying61 hN0 hN1 hN2 hN3 rfl (by decide) _ _ _ rfl (HW3.out.all.alloc _) ⟨w3.heap.size, 0, none⟩ 1 1 [.int .i64 k] rfl rfl (cell_one_new _ _ _) (by simp [Value.oneCell']) (by omega) (by unfold maxLen; omega) (by omega) ?_; intro g6 cap6 w6 hown6 T6 hloc6; have HW6 := Lib.hid (HW3.out.allUp hown6 T6 hloc6); have hc6 := (HP.out.turned0 HW6.out.turned).th.cells rfl k _ HTH.out; rw [HG3.out] at hc6; clear hown6 T6 hloc6 hc5))
                go_roundg (gk - 1)
                case measure => have := HG2.out; omega
                case rel =>
                  refine ⟨k + 1, show _ = _ by have := HG2.out; omega, by omega, by go_num, ?_⟩
                  rw [HPU.out, thereB_snoc, HGO.out, if_neg (by decide)]
                  exact HW7
          · obtain rfl : k = ks.length := by omega
            have hw := HW.out
            rw [List.take_length] at hw
            have HW2 := Lib.hid hw
            have hpick := pickX59 HPz.out.idx K (by omega)
            have hp60 := fun W (hW : Turned (fun _ => False) wz W) => pick60 K (Row.ksl (HPz.out.ws.turned0 hW)) (by omega)
            unfold Key.val at hpick hp60
            have HPICK := Lib.hid hpick
            have HP60 := Lib.hid hp60
            obtain ⟨b2, b3, b4, b5⟩ := HBz.out.key
            simp only at b2 b3 b4 b5
            have e9 : (Value.slice a9 (thereB gone (pickB K (ks.take ks.length) 0)).length c9) = .slice a9 (thereB gone (pickB K ks 0)).length c9 := by rw [List.take_length]
            have e10 : (Value.slice a10 (pickB K (ks.take ks.length) 0).length c10) = .slice a10 (pickB K ks 0).length c10 := by rw [List.take_length]
            clear hw hpick hp60 HW hn9 hn10
            rw [e9, e10]
            clear e9 e10
            go_wp2_with (first
              | (go_at_call 59; (with_reducible refine (HPICK.out).mono ?_); rintro e w7 ⟨r7, rfl, hr7, _, T7⟩; obtain ⟨a7, c7, rfl⟩ := hr7.shape; have HR7 := Lib.hid hr7; clear hr7)
              | (go_at_call 60; (with_reducible refine (HP60.out _ T8).mono ?_); rintro e w9 ⟨r9, rfl, hr9, _, T9⟩; obtain ⟨a11, c11, rfl⟩ := hr9.shape; have HR9 := Lib.hid hr9; clear hr9)
              | (go_at_call 58; refine (ints58 HR9.out (HW2.out.all.turned0 (T8.trans T9))).mono ?_; rintro e w10 ⟨rfl, T10⟩)
              | (go_at_call 58; refine (ints58 HR7.out (HW2.out.want.turned0 T7)).mono ?_; rintro e w8 ⟨rfl, T78⟩; have T8 := T7.trans T78; clear b2 b3 b4 b5; obtain ⟨d2, d3, d4, d5⟩ := (HBz.out.turned0 T8).key; simp only at d2 d3 d4 d5))
            go_roundg (gp - 1)
            case measure => have := HG.out; omega
            case rel =>
              exact ⟨j + 1, show _ = _ by have := HG.out; omega, by omega, by go_num, v, ks, gone, hks, hgn, HIN.out, HPz.out.turned0 ((T8.trans T9).trans T10)⟩
    · go_wp2_with fail
      go_ret
      exact ⟨rfl, HP.out.turned⟩
end Go.Proofs.Ytoihjobdfjajfaa

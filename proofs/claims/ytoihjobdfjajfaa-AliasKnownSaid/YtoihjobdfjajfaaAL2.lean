/- alias.Replace: terms in the variables' place. -/
import Derived.Test.YtoihjobdfjajfaaRepP
import Derived.Test.YtoihjobdfjajfaaAny6
import Derived.Test.YtoihjobdfjajfaaVars
namespace Go.Proofs.Ytoihjobdfjajfaa
set_option linter.unusedVariables false
set_option linter.unusedSimpArgs false
open Go.RowKit Go.Maps

theorem zero27 (w : World) : (zeroValue 27).run Try.prog w = .ok zeroT w := by kernel_rfl
theorem baresM_some {g : Int → Option LT} {i : Int} {x : LT} (h : g i = some x) : baresM g i = some x.bare := by unfold baresM; rw [h]; rfl
theorem baresM_none {g : Int → Option LT} {i : Int} (h : g i = none) : baresM g i = none := by unfold baresM; rw [h]; rfl
set_option maxRecDepth 100000 in
set_option maxHeartbeats 3200000 in
theorem replace136 {mb mn : Nat} {g : Int → Option LT} (n : Nat) : ∀ (p : Nat → Prop) (t : LT) (w : World), t.depth ≤ n → t.In p w → slim t → IMap Try.prog 2 w mb mn (valsM g) → (∀ i x, g i = some x → x.In p w) →
    Calls Try.prog 136 #[t.val, .map (some mb)] w fun e w' => ∃ u : LT, e = .returned u.val ∧ u.bare = Tm.subF (baresM g) t.bare ∧ u.In (fun k => p k ∨ w.heap.size ≤ k) w' ∧ Turned (fun _ => False) w w' := by
  induction n with
  | zero => intro p t w h; have := Tm.depth_pos t; omega
  | succ n ih =>
    intro p t w hd ht hsl hm hgi
    obtain ⟨i0, hi0, hz0, hz1, hz2⟩ := info_parts infoT
    by_cases hk : t.kind = 0
    · have k0 : (t.kind == 0) = true := by simp [hk]
      have ht1 : (I64 t.n) := ht.n
      have w2 : Turned (fun _ => False) w ((w.alloc (.cells #[.int .i64 t.kind, .int .i64 t.n, .string t.name, .slice t.at_.1 t.args.length t.at_.2] 27)).alloc (.cells #[.int .i64 0, .int .i64 0, .string ⟨#[]⟩, .slice none 0 0] 27)) := ((Turned.refl _ w).alloc _).alloc _
      have hb1 := heap_alloc2_new w (.cells #[.int .i64 t.kind, .int .i64 t.n, .string t.name, .slice t.at_.1 t.args.length t.at_.2] 27) (.cells #[.int .i64 0, .int .i64 0, .string ⟨#[]⟩, .slice none 0 0] 27)
      have hlk := (hm.turned w2 (fun f => f)).look_ok law2 Try.underlying151 (zero27 _) (key2 ht1)
      have hsub : ∀ y, Tm.subF (baresM g) t.bare = y ↔ (baresM g t.n).getD t.bare = y := fun y => by rw [mk_bare t, Tm.subF, if_pos hk]
      have HSUB := Lib.hid hsub
      have HIN := Lib.hid ht
      have HGI := Lib.hid hgi
      have HT2 := Lib.hid w2
      have HB1 := Lib.hid hb1
      clear hsub ht hgi w2 hd hsl hm ih
      unfold valsM at hlk
      cases hg : g t.n with
      | some x =>
        rw [hg] at hlk
        simp only [Option.map_some, Option.getD_some, Option.isSome_some] at hlk
        rw [LT.val_eq x] at hlk
        have HX := Lib.hid hg
        clear hg hk hb1
        rw [LT.val_eq t]
        go_enter Try.func136, Try.ntmps136
        go_wp2_with fail
        have h3 := three w (.cells #[.int .i64 t.kind, .int .i64 t.n, .string t.name, .slice t.at_.1 t.args.length t.at_.2] 27) (.cells #[.int .i64 x.kind, .int .i64 x.n, .string x.name, .slice x.at_.1 x.args.length x.at_.2] 27) (.cells #[.int .i64 x.kind, .int .i64 x.n, .string x.name, .slice x.at_.1 x.args.length x.at_.2] 27)
        have T4 := h3.1
        refine bodyPost_ret (v := .agg #[.int .i64 x.kind, .int .i64 x.n, .string x.name, .slice x.at_.1 x.args.length x.at_.2]) (results_cell_row Try.results136 _ _ (w.heap.size + 1) 27 _ (0, 0) _ rfl h3.2.2.2.2 Try.underlying27 rfl (by kernel_rfl)) rfl ⟨x, by rw [LT.val_eq x], ?_, ?_, T4⟩
        · rw [eq_comm, HSUB.out, baresM_some HX.out]; rfl
        · exact ((HGI.out _ x HX.out).turned0 T4).mono (fun k _ h => .inl h)
      | none =>
        rw [hg] at hlk
        simp only [Option.map_none, Option.getD_none, Option.isSome_none] at hlk
        unfold zeroT at hlk
        have HX := Lib.hid hg
        clear hg hk hb1
        rw [LT.val_eq t]
        go_enter Try.func136, Try.ntmps136
        go_wp2_with fail
        have h3 := three w (.cells #[.int .i64 t.kind, .int .i64 t.n, .string t.name, .slice t.at_.1 t.args.length t.at_.2] 27) (.cells #[.int .i64 t.kind, .int .i64 t.n, .string t.name, .slice t.at_.1 t.args.length t.at_.2] 27) (.cells #[.int .i64 0, .int .i64 0, .string ByteArray.empty, .slice none 0 0] 27)
        have T4 := h3.1
        refine bodyPost_ret (v := .agg #[.int .i64 t.kind, .int .i64 t.n, .string t.name, .slice t.at_.1 t.args.length t.at_.2]) (results_cell_row Try.results136 _ _ (w.heap.size + 1) 27 _ (0, 0) _ rfl h3.2.2.2.2 Try.underlying27 rfl (by kernel_rfl)) rfl ⟨t, by rw [LT.val_eq t], ?_, ?_, T4⟩
        · rw [eq_comm, HSUB.out, baresM_none HX.out]; rfl
        · exact (HIN.out.turned0 T4).mono (fun k _ h => .inl h)
    · have k0 : (t.kind == 0) = false := by simp [hk]
      obtain ⟨p', hp'⟩ : ∃ q : Nat → Prop, q = fun k => p k ∧ k < w.heap.size := ⟨_, rfl⟩
      have HPL0 : Hid (∀ k, p' k → p k ∧ k < w.heap.size) := by intro k hq; rw [hp'] at hq; exact hq
      have ht' : t.In p' w := ht.mono (fun k hk h => by rw [hp']; exact ⟨h, hk⟩)
      have hgi' : ∀ i x, g i = some x → x.In p' w := fun i x hx => (hgi i x hx).mono (fun k hk h => by rw [hp']; exact ⟨h, hk⟩)
      have hl12 : t.args.length ≤ 12 := hsl t (by rw [Tm.flat_eq]; exact List.mem_cons_self ..)
      have hcall : ∀ x : LT, x ∈ t.args → ∀ W, Turned (fun _ => False) w W → Calls Try.prog 136 #[x.val, .map (some mb)] W fun e w' => ∃ u : LT, e = .returned u.val ∧ u.bare = Tm.subF (baresM g) x.bare ∧ u.In (fun k => p' k ∨ W.heap.size ≤ k) w' ∧ Turned (fun _ => False) W w' := fun x hx W hW =>
        ih p' x W (by have := arg_depth hx; omega) ((LT.ins_iff _).1 (ht'.turned0 hW).args x hx) (fun y hy => hsl y (by rw [Tm.flat_eq]; exact List.mem_cons_of_mem _ (mem_flats_arg hx hy))) (hm.turned hW (fun f => f)) (fun i y hy => (hgi' i y hy).turned0 hW)
      have HC := Lib.hid hcall
      have HIN := Lib.hid ht'
      have hsub : Tm.subF (baresM g) t.bare = .mk t.kind t.n t.name () (t.args.map fun x => Tm.subF (baresM g) x.bare) := by
        rw [mk_bare t, Tm.subF, if_neg hk, Tm.subFs_eq, Tm.bares_eq, List.map_map]; rfl
      have HSUB := Lib.hid hsub
      have hL := fun W h => (LT.In.lies (p := p') (w := W) (t := t) h)
      rw [LT.val_eq]
      obtain ⟨ad, had⟩ : ∃ z, z = t.at_.1 := ⟨_, rfl⟩
      obtain ⟨cd, hcd⟩ : ∃ z, z = t.at_.2 := ⟨_, rfl⟩
      rw [← had] at hL
      rw [← had, ← hcd]
      have HL := Lib.hid hL
      have H3 := Lib.hid (three w (.cells #[.int .i64 t.kind, .int .i64 t.n, .string t.name, .slice ad t.args.length cd] 27) (.cells #[.int .i64 0, .int .i64 0, .string ⟨#[]⟩, .slice none 0 0] 27) (.cells #[.int .i64 t.kind, .int .i64 t.n, .string t.name, .slice none 0 0] 27))
      clear ih hd hsl hcall ht ht' hgi hgi' hm hL had hcd hp' hsub hk
      go_enter Try.func136, Try.ntmps136
      go_wp2_with fail
      revert H3
      generalize (((w.alloc (.cells #[.int .i64 t.kind, .int .i64 t.n, .string t.name, .slice ad t.args.length cd] 27)).alloc (.cells #[.int .i64 0, .int .i64 0, .string ⟨#[]⟩, .slice none 0 0] 27)).alloc (.cells #[.int .i64 t.kind, .int .i64 t.n, .string t.name, .slice none 0 0] 27)) = w1
      intro H3
      obtain ⟨B0, hB0⟩ : ∃ z, z = w.heap.size := ⟨_, rfl⟩
      obtain ⟨B1, hB1⟩ : ∃ z, z = w.heap.size + 1 := ⟨_, rfl⟩
      obtain ⟨B2, hB2⟩ : ∃ z, z = w.heap.size + 2 := ⟨_, rfl⟩
      obtain ⟨N, hN⟩ : ∃ z, z = w.heap.size + 3 := ⟨_, rfl⟩
      rw [← hB1, ← hB2, ← hN, ← hB0] at H3
      have HE := Lib.hid (And.intro hB0 (And.intro hB1 (And.intro hB2 hN)))
      have HPL : Hid (∀ k, p' k → k < B2) := by intro k hq; have := (HPL0.out k hq).2; omega
      try rw [← hB2]
      try rw [← hB1]
      try rw [← hB0]
      clear hB0 hB1 hB2 hN
      have hinit : Hid (RepI p' (Tm.subF (baresM g)) N B2 t w1 0 [] none 0 w1) := ⟨rfl, H3.out.2.2.2.1, Row.nil _ _ _, trivial, fun b h => by simp [Value.ownBlock] at h, Turned.refl _ _⟩
      go_loopg [28] t.args.length (fun q i wr => ∃ j : Nat, Hid (j + q = t.args.length) ∧ j ≤ t.args.length ∧ i = .int .i64 j ∧ ∃ us a c, Hid (RepI p' (Tm.subF (baresM g)) N B2 t w1 j us a c wr))
      case atStart => exact ⟨0, Nat.zero_add _, Nat.zero_le _, rfl, [], none, 0, hinit⟩
      case round =>
        obtain ⟨j, HG, hj, rfl, us, a, c, HOR⟩ := hrel
        have HTw : Hid (Turned (fun _ => False) w wr) := H3.out.1.step HOR.out.turned (fun i hi e => by have := HE.out; omega)
        have hlen' : us.length = j := by have := congrArg List.length HOR.out.bares; rw [List.length_map, List.length_map, List.length_take] at this; omega
        have HUL := Lib.hid hlen'
        clear hlen'
        by_cases hjl : j < t.args.length
        · have hx : t.args[j]? = some t.args[j] := List.getElem?_eq_getElem hjl
          obtain ⟨x, hxe⟩ : ∃ x : LT, x = t.args[j] := ⟨_, rfl⟩
          rw [← hxe] at hx
          clear hxe
          have tin := HIN.out.turned0 HTw.out
          obtain ⟨b, o, rfl, _, c0, c1, c2, c3⟩ := (HL.out _ tin).cell hx
          have hcx := fun W (h : Turned (fun _ => False) wr W) => HC.out x (List.mem_of_getElem? hx) W (HTw.out.trans h)
          rw [LT.val_eq x] at hcx
          have HCX := Lib.hid hcx
          have HX := Lib.hid hx
          have hbn : B2 < N ∧ N ≤ wr.heap.size ∧ w1.heap.size ≤ N := ⟨by have := HE.out; omega, by have := HOR.out.turned.size; have := H3.out.2.1; omega, by have := H3.out.2.1; omega⟩
          clear hx hcx tin
          go_wp2_with fail
          have TX : Turned (fun _ => False) wr (wr.alloc (.cells #[.int .i64 x.kind, .int .i64 x.n, .string x.name, .slice x.at_.1 x.args.length x.at_.2] 27)) := (Turned.refl _ wr).alloc _
          have hbx := boxAt (Turned.refl (fun _ => False) (wr.alloc (.cells #[.int .i64 x.kind, .int .i64 x.n, .string x.name, .slice x.at_.1 x.args.length x.at_.2] 27)))
          have HOI : Hid (RepI p' (Tm.subF (baresM g)) N B2 t w1 j us a c (wr.alloc (.cells #[.int .i64 x.kind, .int .i64 x.n, .string x.name, .slice x.at_.1 x.args.length x.at_.2] 27))) := HOR.out.turned0 TX
          have HBN : Hid (B2 < N ∧ N ≤ (wr.alloc (.cells #[.int .i64 x.kind, .int .i64 x.n, .string x.name, .slice x.at_.1 x.args.length x.at_.2] 27)).heap.size ∧ w1.heap.size ≤ N) := ⟨hbn.1, Nat.le_trans hbn.2.1 TX.size, hbn.2.2⟩
          have HTB := And.intro (Lib.hid TX) (And.intro hbx (And.intro HOI HBN))
          clear TX hbx HOI HBN hbn c0 c1 c2 c3
          revert HTB
          generalize wr.alloc (.cells #[.int .i64 x.kind, .int .i64 x.n, .string x.name, .slice x.at_.1 x.args.length x.at_.2] 27) = wx
          generalize wr.heap.size = B9
          intro HTB
          obtain ⟨HWX, ⟨x0, x1, x2, x3, _⟩, HOI, HBN⟩ := HTB
          refine wp_region_hsW [32, 33, 34, 35, 36, 37, 38, 39] [4, 5, 6, 8] [2, 2, 0, 0, 1, 2, 3, 3, 4] [36, 37, 38, 100008] (fun d v => (match d with | 32 => v = .pointer (some ⟨B2, 3, none⟩) | 33 => v = .slice a j c | 34 => v = .agg #[.int .i64 x.kind, .int .i64 x.n, .string x.name, .slice x.at_.1 x.args.length x.at_.2] | 35 => v = .map (some mb) | 39 => v = .pointer (some ⟨B2, 3, none⟩) | _ => True : Prop)) (RepS p' (Tm.subF (baresM g)) N B2 t x w1 j us a c wx) (by kernel_rfl) rfl (by kernel_rfl) (by kernel_rfl) (by kernel_rfl) (by kernel_rfl) (fun _ h => h) (fun hs w w' h ht => RepS.turned0 hs w w' h ht) ?hs ?hQ
          case hs =>
            refine ⟨?s0, ?s1, ?s2, ?s3, ?s4, ?s5, ?s6, ?s7, ?s8, trivial⟩
            case s0 =>
              refine fun hs hle => stepG_free [] [7] (by kernel_rfl) rfl ?_
              · intro ac W hT hI hO
                have hle : hs.length ≤ 2 := hle
                have h7 : ac.tmps.getD 7 undef = .pointer (some ⟨B2, 0, none⟩) := hO 7 (by simp)
                show Brings Try.prog (fun v w' => Turned (fun _ => False) W w' ∧ v = .pointer (some ⟨B2, 3, none⟩)) _
                simp only [execOp, Act.eval, h7]
                go_simp
                try exact ⟨Turned.refl _ _, rfl⟩
            case s1 =>
              refine fun hs hle => stepG_free [32] [] (by kernel_rfl) rfl ?_
              · intro ac W hT hI hO
                have hle : hs.length ≤ 2 := hle
                have h32 : ac.tmps.getD 32 undef = .pointer (some ⟨B2, 3, none⟩) := hI 32 (by simp)
                show Brings Try.prog (fun v w' => Turned (fun _ => False) W w' ∧ v = .slice a j c) _
                obtain ⟨_, _, _, d3⟩ := RepS.blk HOI.out hs W hle hT
                simp only [execOp, Act.eval, h32]
                go_simp
                exact ⟨Turned.refl _ _, rfl⟩
            case s2 =>
              refine fun hs hle => stepG_free [] [9] (by kernel_rfl) rfl ?_
              · intro ac W hT hI hO
                have hle : hs.length ≤ 0 := hle
                have h9 : ac.tmps.getD 9 undef = .pointer (some ⟨B9, 0, none⟩) := hO 9 (by simp)
                show Brings Try.prog (fun v w' => Turned (fun _ => False) W w' ∧ v = .agg #[.int .i64 x.kind, .int .i64 x.n, .string x.name, .slice x.at_.1 x.args.length x.at_.2]) _
                have hT0 : Turned (fun _ => False) wx W := rep_nil (by omega) hT; have x0 := hT0.cell0 x0; have x1 := hT0.cell0 x1; have x2 := hT0.cell0 x2; have x3 := hT0.cell0 x3
                simp only [execOp, Act.eval, h9]
                go_simp
                exact ⟨Turned.refl _ _, rfl⟩
            case s3 =>
              refine fun hs hle => stepG_free [] [1] (by kernel_rfl) rfl ?_
              · intro ac W hT hI hO
                have hle : hs.length ≤ 0 := hle
                have h1 : ac.tmps.getD 1 undef = .map (some mb) := hO 1 (by simp)
                show Brings Try.prog (fun v w' => Turned (fun _ => False) W w' ∧ v = .map (some mb)) _
                simp only [execOp, Act.eval, h1]
                go_simp
                try exact ⟨Turned.refl _ _, rfl⟩
            case s4 =>
              refine fun hs hlen => stepG_free [34, 35] [] (by kernel_rfl) rfl ?_
              · intro ac W hT hI hO
                have h34 : ac.tmps.getD 34 undef = .agg #[.int .i64 x.kind, .int .i64 x.n, .string x.name, .slice x.at_.1 x.args.length x.at_.2] := hI 34 (by simp)
                have h35 : ac.tmps.getD 35 undef = .map (some mb) := hI 35 (by simp)
                show Brings Try.prog (fun v w' => RepS p' (Tm.subF (baresM g)) N B2 t x w1 j us a c wx (hs ++ [v]) w') _
                obtain rfl : hs = [] := List.eq_nil_of_length_eq_zero hlen
                replace hT : Turned (fun _ => False) wx W := hT
                simp only [execOp, Act.eval, h34, h35]
                go_simp
                show Calls Try.prog 136 _ W _
                (with_reducible refine (HCX.out W (HWX.out.trans hT)).mono ?_)
                rintro e w' ⟨u, rfl, hb, hu, T'⟩
                exact ⟨_, rfl, hT.trans T', u, rfl, hb, hu.mono (fun k hk h => h.elim .inl (fun h => .inr (Nat.le_trans hT.size h)))⟩
            case s5 =>
              refine fun hs hlen => stepG_free [36] [] (by kernel_rfl) rfl ?_
              · intro ac W hT hI hO
                have h36 : hs[0]? = some (ac.tmps.getD 36 undef) := hI 36 (by simp)
                show Brings Try.prog (fun v w' => RepS p' (Tm.subF (baresM g)) N B2 t x w1 j us a c wx (hs ++ [v]) w') _
                obtain ⟨uv, rfl⟩ := List.length_eq_one_iff.1 hlen
                obtain ⟨hT1, u, rfl, hb, hu⟩ := hT
                replace h36 : ac.tmps.getD 36 undef = u.val := by simpa using h36.symm
                rw [LT.val_eq] at h36
                have h36' : ac.tmps[36]?.getD undef = .agg #[.int .i64 u.kind, .int .i64 u.n, .string u.name, .slice u.at_.1 u.args.length u.at_.2] := by rw [← Array.getD_eq_getD_getElem?]; exact h36
                simp only [execOp, Act.eval, h36]
                go_simp
                have hnew := heap_alloc_new W (.cells #[.int .i64 u.kind, .int .i64 u.n, .string u.name, .slice u.at_.1 u.args.length u.at_.2] 27)
                refine ⟨hT1.alloc _, u, W.heap.size, rfl, hb, hu.turned0 ((Turned.refl _ W).alloc _), ?_⟩
                rw [LT.cells_eq]
                exact hnew
            case s6 =>
              refine fun hs hlen => stepG_free [33, 37] [] (by kernel_rfl) rfl ?_
              · intro ac W hT hI hO
                have h33 : ac.tmps.getD 33 undef = .slice a j c := hI 33 (by simp)
                have h37 : hs[1]? = some (ac.tmps.getD 37 undef) := hI 37 (by simp)
                show Brings Try.prog (fun v w' => RepS p' (Tm.subF (baresM g)) N B2 t x w1 j us a c wx (hs ++ [v]) w') _
                obtain ⟨uv, sv, rfl⟩ := list2' hlen
                obtain ⟨hT1, u, g2, rfl, hb, hu, hg⟩ := hT
                replace h37 : ac.tmps.getD 37 undef = .slice (some ⟨g2, 0, none⟩) 1 1 := by simpa using h37.symm
                refine brings_append (.tmp 33) (.tmp 37) 22 rfl 27 i0 zeroT 4 56 Try.underlying22 hi0 hz0 hz1 hz2 rfl (by decide) _ _ _ h33 (HOI.out.row.turned0 hT1) ⟨g2, 0, none⟩ 1 1 u.cells h37 (LT.cells_length u) (news_block hg) (LT.cells_one u) (by omega) (by unfold maxLen; omega) (by omega) ?_
                intro g3 cap2 w2 hrow2 T2 hl2
                have hgw : some g3 = (Value.slice a j c).ownBlock ∨ wx.heap.size ≤ g3 := by
                  rcases hl2 with e | e
                  · exact .inl e
                  · have := hT1.size; exact .inr (by omega)
                refine ⟨u, g3, cap2, rfl, hb, hrow2, ?_, (hT1.mono (fun _ _ f => f.elim)).trans T2, hgw⟩
                have hpl := HPL.out
                have hbn := HBN.out
                refine hu.turned T2 (fun k hk h e => ?_) (fun k hk h => ⟨h, fun e => ?_⟩)
                · have h1 := HOI.out.row.lt k e
                  have h2 := HOI.out.own k e
                  rcases h with h | h
                  · have := hpl k h; omega
                  · omega
                · subst e
                  rcases hl2 with e | e
                  · have h1 := HOI.out.row.lt k e.symm
                    have h2 := HOI.out.own k e.symm
                    rcases h with h | h
                    · have := hpl k h; omega
                    · omega
                  · omega
            case s7 =>
              refine fun hs hle => stepG_free [] [7] (by kernel_rfl) rfl ?_
              · intro ac W hT hI hO
                have hle : hs.length ≤ 3 := hle
                have h7 : ac.tmps.getD 7 undef = .pointer (some ⟨B2, 0, none⟩) := hO 7 (by simp)
                show Brings Try.prog (fun v w' => Turned (fun _ => False) W w' ∧ v = .pointer (some ⟨B2, 3, none⟩)) _
                simp only [execOp, Act.eval, h7]
                go_simp
                try exact ⟨Turned.refl _ _, rfl⟩
            case s8 =>
              refine fun hs hlen => stepG_free [39, 38] [] (by kernel_rfl) rfl ?_
              · intro ac W hT hI hO
                have h39 : ac.tmps.getD 39 undef = .pointer (some ⟨B2, 3, none⟩) := hI 39 (by simp)
                have h38 : hs[2]? = some (ac.tmps.getD 38 undef) := hI 38 (by simp)
                show Brings Try.prog (fun v w' => RepS p' (Tm.subF (baresM g)) N B2 t x w1 j us a c wx (hs ++ [v]) w') _
                obtain ⟨uv, sv, av, rfl⟩ := list3' hlen
                obtain ⟨u, g2, cap, rfl, hb, hrow, hu, hT2, hg⟩ := hT
                replace h38 : ac.tmps.getD 38 undef = .slice (some ⟨g2, 0, none⟩) (j + 1) cap := by simpa using h38.symm
                have hbl := (hT2.block B2 (Array.getElem?_eq_some_iff.1 HOI.out.blk).1 (fun e => by have := HOI.out.own B2 e; have := HBN.out.1; omega)).trans HOI.out.blk
                obtain ⟨_, _, _, d3, _, _, _, f3⟩ := cells4 hbl
                simp only [execOp, Act.eval, h39, h38]
                go_simp
                exact ⟨_, _, _, rep_close HPL.out HBN.out.1 HBN.out.2.1 HOI.out HX.out hb hrow hu hT2 hg HBN.out.2.2⟩
          case hQ =>
            intro hs vs w2 hlen hR hV
            obtain ⟨e1, e2, e3, e4, rfl⟩ : ∃ a b c d, hs = [a, b, c, d] := list4' hlen
            obtain ⟨us', a', c', hI⟩ := hR
            have HI' := Lib.hid hI
            simp only [List.foldl_cons, List.foldl_nil, List.setIfInBounds_toArray, List.set_cons_zero, List.set_cons_succ]
            clear hV hlen hI
            go_wp2_with fail
            go_roundg (gk - 1)
            case measure => have := HG.out; omega
            case rel => exact ⟨j + 1, show _ = _ by have := HG.out; omega, by omega, by go_num, us', a', c', HI'⟩
        · obtain rfl : j = t.args.length := by omega
          have hb1 := (HOR.out.turned.block B1 (Array.getElem?_eq_some_iff.1 H3.out.2.2.2.2).1 (fun e => by have := HE.out; omega)).trans H3.out.2.2.2.2
          obtain ⟨d0, d1, d2, d3, f0, f1, f2, f3⟩ := cells4 hb1
          obtain ⟨g0, g1, g2, g3, _⟩ := cells4 HOR.out.blk
          have HB1 := Lib.hid hb1
          clear hb1
          go_wp2_with fail
          have hset := set4 (a' := .int .i64 t.kind) (b' := .int .i64 t.n) (c' := .string t.name) (d' := .slice a t.args.length c) HB1.out
          have hge : w.heap.size ≤ B1 := by have := HE.out; omega
          have T4 := turned4 (a := .int .i64 t.kind) (b := .int .i64 t.n) (c := .string t.name) (d := .slice a t.args.length c) HTw.out hge
          refine bodyPost_ret (v := .agg #[.int .i64 t.kind, .int .i64 t.n, .string t.name, .slice a t.args.length c]) (results_cell_row Try.results136 _ _ B1 27 _ (0, 0) _ rfl hset Try.underlying27 rfl (by kernel_rfl)) rfl ?_
          have hne : ∀ q, (Value.slice a t.args.length c).ownBlock ≠ some (Addr.block ⟨B1, q, none⟩) := fun q e => by have h1 : N ≤ B1 := HOR.out.own _ e; have := HE.out; omega
          have hrow := ((((HOR.out.row.setCell (hne 0) (.int .i64 t.kind)).setCell (hne 1) (.int .i64 t.n)).setCell (hne 2) (.string t.name)).setCell (hne 3) (.slice a t.args.length c))
          have Tq : Turned (fun k => k = B1) wr _ := ((((Turned.refl (fun k => k = B1) wr).setCell (p := ⟨B1, 0, none⟩) (.inr rfl) (.int .i64 t.kind)).setCell (p := ⟨B1, 1, none⟩) (.inr rfl) (.int .i64 t.n)).setCell (p := ⟨B1, 2, none⟩) (.inr rfl) (.string t.name)).setCell (p := ⟨B1, 3, none⟩) (.inr rfl) (.slice a t.args.length c)
          have hpl := HPL0.out
          have hins := HOR.out.ins.turned (q := fun k => p k ∨ w.heap.size ≤ k) Tq (fun k _ hk e => by
            have := HE.out
            rcases hk.1 with h | h
            · have := (hpl k h).2; omega
            · omega) (fun k _ hk => by
            have := HE.out
            rcases hk.1 with h | h
            · exact .inl (hpl k h).1
            · exact .inr (by omega))
          obtain ⟨e1, e2⟩ := LT.Sl.of_row (p := fun k => p k ∨ w.heap.size ≤ k) hrow (fun k hk => .inr (by have := HOR.out.own k hk; have := HE.out; omega)) hins
          refine ⟨.mk t.kind t.n t.name (a, c) us, ?_, ?_, e2.in_ HIN.out.kind HIN.out.n HIN.out.name, T4⟩
          · show _ = Ending.returned (LT.val (.mk t.kind t.n t.name (a, c) us))
            rw [LT.val_eq]
            show _ = Ending.returned (.agg #[.int .i64 t.kind, .int .i64 t.n, .string t.name, .slice a us.length c])
            rw [HUL.out]
          · have hbr := HOR.out.bares
            rw [List.take_length] at hbr
            rw [HSUB.out, Tm.bare, Tm.bares_eq, hbr]
end Go.Proofs.Ytoihjobdfjajfaa

/- Merged texts: RL1, RL2, RL3, RL4, BI, BD1, BD2, BD3, BS4, BS5, BW0, BD5, RL5, BD7, BD8, BD9. -/
import Derived.Test.YtoihjobdfjajfaaIx3
import Derived.BigQuiet
import Derived.Laws.MakeOwn
/- The document's more. -/
namespace Go.Proofs.Ytoihjobdfjajfaa
set_option linter.unusedVariables false
set_option linter.unusedSimpArgs false
open Go.RowKit Go.Maps

theorem zero41 (w : World) : (zeroValue 41).run Try.prog w = .ok zeroT w := by kernel_rfl
set_option maxRecDepth 100000 in
set_option maxHeartbeats 6400000 in
theorem rMore141 {p : Nat → Prop} {mb : Nat} (hpm : ∀ k, p k → k ≠ mb) (n : Nat) : ∀ (a b : LT) (w : World) (mn : Nat) (g : Int → Option LT), a.depth ≤ n → a.In p w → b.In p w → goodB b = true → IMap Try.prog 2 w mb mn (valsM g) → (∀ i x, g i = some x → x.In p w ∧ goodB x = true) → mn + a.size ≤ 100000 →
    Calls Try.prog 141 #[a.val, b.val, .map (some mb)] w fun e w' => e = .returned (.bool (Tm.moreM a.bare b.bare (baresM g)).isSome) ∧ Turned (fun k => k = mb) w w' ∧ MoreP p mb (mn + a.size) (Tm.moreM a.bare b.bare (baresM g)) w' := by
  induction n with
  | zero => intro a b w mn g h; have := Tm.depth_pos a; omega
  | succ n ih =>
    intro a b w mn g hd ha hb hgb hm hg hsz
    have h2 := twoBox w (.cells #[.int .i64 a.kind, .int .i64 a.n, .string a.name, .slice a.at_.1 a.args.length a.at_.2] 41) (.cells #[.int .i64 b.kind, .int .i64 b.n, .string b.name, .slice b.at_.1 b.args.length b.at_.2] 41)
    have hmlt := hm.lt
    have hm2 := hm.turned h2.1 (fun f => f)
    have HB2 : Hid (((w.alloc (.cells #[.int .i64 a.kind, .int .i64 a.n, .string a.name, .slice a.at_.1 a.args.length a.at_.2] 41)).alloc (.cells #[.int .i64 b.kind, .int .i64 b.n, .string b.name, .slice b.at_.1 b.args.length b.at_.2] 41)).heap[w.heap.size + 1]? = some (.cells #[.int .i64 b.kind, .int .i64 b.n, .string b.name, .slice b.at_.1 b.args.length b.at_.2] 41 (0, 0))) := h2.2.2.2
    by_cases hk : a.kind = 0
    · have k0 : (a.kind == 0) = true := by simp [hk]
      have hn := ha.n
      have hlk := hm2.look_ok law2 Try.underlying157 (zero41 _) (key2 hn)
      have hmo : Tm.moreM a.bare b.bare (baresM g) = (match g a.n with | none => some (Tm.setM (baresM g) a.n b.bare) | some x => if Tm.same x.bare b.bare = true then some (baresM g) else none) := by
        rw [moreM_eq, Tm.bare_kind, if_pos hk, Tm.bare_n]
        unfold baresM
        cases g a.n <;> rfl
      have hkey := key2 hn
      rw [LT.val_eq a, LT.val_eq b]
      cases hga : g a.n with
      | none =>
        have hv0 : valsM g a.n = none := by unfold valsM; rw [hga]; rfl
        rw [hv0] at hlk
        simp only [Option.getD_none, Option.isSome_none] at hlk
        unfold zeroT at hlk
        rw [hga] at hmo
        simp only at hmo
        rw [hmo]
        have HMM := Lib.hid (And.intro hm2 (And.intro hm (And.intro hv0 h2)))
        have HIN := Lib.hid (And.intro hb (And.intro hgb (And.intro hg hsz)))
        have hc1 : ∀ o j u, ((w.alloc (.cells #[.int .i64 a.kind, .int .i64 a.n, .string a.name, .slice a.at_.1 a.args.length a.at_.2] 41)).alloc (.cells #[.int .i64 b.kind, .int .i64 b.n, .string b.name, .slice b.at_.1 b.args.length b.at_.2] 41)).cell? ⟨w.heap.size + 1, j, none⟩ = some u → (((w.alloc (.cells #[.int .i64 a.kind, .int .i64 a.n, .string a.name, .slice a.at_.1 a.args.length a.at_.2] 41)).alloc (.cells #[.int .i64 b.kind, .int .i64 b.n, .string b.name, .slice b.at_.1 b.args.length b.at_.2] 41)).alloc o).cell? ⟨w.heap.size + 1, j, none⟩ = some u := fun o j u h => cell_old h
        obtain ⟨d0, d1, d2, d3, _⟩ := cells4 HB2.out
        have HC1 := Lib.hid hc1
        have e0 := hc1 (.cells #[.int .i64 0, .int .i64 0, .string ByteArray.empty, .slice none 0 0] 41) _ _ d0
        have e1 := hc1 (.cells #[.int .i64 0, .int .i64 0, .string ByteArray.empty, .slice none 0 0] 41) _ _ d1
        have e2 := hc1 (.cells #[.int .i64 0, .int .i64 0, .string ByteArray.empty, .slice none 0 0] 41) _ _ d2
        have e3 := hc1 (.cells #[.int .i64 0, .int .i64 0, .string ByteArray.empty, .slice none 0 0] 41) _ _ d3
        clear hk hga hv0 hmo hb hgb hg hm hm2 h2 ih hd ha hc1 d0 d1 d2 d3
        go_enter Try.func141, Try.ntmps141
        go_wp2_with (at_mapUpdate; refine wpList_put rfl _ _ _ 157 rfl law2 Try.underlying157 rfl (HMM.out.1.alloc (.cells #[.int .i64 0, .int .i64 0, .string ByteArray.empty, .slice none 0 0] 41)) (by unfold maxLen; omega) rfl rfl hkey trivial ?_; intro w6 hm6 T6)
        go_ret
        have TW : Turned (fun k => k = mb) w w6 := ((HMM.out.2.2.2.1.alloc _).mono (fun _ _ f => f.elim)).trans T6
        refine ⟨rfl, TW, ?_⟩
        intro m' hm'
        injection hm' with hm'
        subst hm'
        have hm7 : IMap Try.prog 2 w6 mb (mn + 1) (valsM (setG g a.n b)) := by
          have h := hm6
          rw [HMM.out.2.2.1] at h
          rw [← setG_vals, LT.val_eq b]
          exact h
        obtain ⟨hb, hgb, hg, hsz⟩ := HIN.out
        have hp := Tm.size_pos a
        refine ⟨mn + 1, setG g a.n b, by omega, hm7, setG_bares g a.n b, fun i x hx => ?_⟩
        unfold setG at hx
        split at hx
        · injection hx with hx
          subst hx
          exact ⟨LT.In.turned TW (fun k _ hk e => hpm k hk e) (fun _ _ h => h) _ hb, hgb⟩
        · exact ⟨LT.In.turned TW (fun k _ hk e => hpm k hk e) (fun _ _ h => h) _ (hg i x hx).1, (hg i x hx).2⟩
      | some x =>
        have hv0 : valsM g a.n = some x.val := by unfold valsM; rw [hga]; rfl
        rw [hv0] at hlk
        simp only [Option.getD_some, Option.isSome_some] at hlk
        rw [LT.val_eq x] at hlk
        rw [hga] at hmo
        simp only at hmo
        obtain ⟨hxi, hxg⟩ := hg a.n x hga
        have TX := h2.1.alloc (.cells #[.int .i64 x.kind, .int .i64 x.n, .string x.name, .slice x.at_.1 x.args.length x.at_.2] 41)
        have hsm := rSame48 x.depth x b _ (Nat.le_refl _) (hxi.turned0 TX) (hb.turned0 TX)
        have hsb := same_bares x b
        rw [LT.val_eq x, LT.val_eq b, hsb] at hsm
        obtain ⟨SM, hSM⟩ : ∃ z, z = Tm.same x.bare b.bare := ⟨_, rfl⟩
        rw [← hSM] at hsm hmo
        have hmo2 : Tm.moreM a.bare b.bare (baresM g) = if SM = true then some (baresM g) else none := hmo
        have HSM := Lib.hid hsm
        have HMO := Lib.hid hmo2
        have HG := Lib.hid (And.intro hm hg)
        have HTX := Lib.hid TX
        obtain ⟨d0, d1, d2, d3, _⟩ := cells4 HB2.out
        have e0 := cell_old (o := .cells #[.int .i64 x.kind, .int .i64 x.n, .string x.name, .slice x.at_.1 x.args.length x.at_.2] 41) d0
        have e1 := cell_old (o := .cells #[.int .i64 x.kind, .int .i64 x.n, .string x.name, .slice x.at_.1 x.args.length x.at_.2] 41) d1
        have e2 := cell_old (o := .cells #[.int .i64 x.kind, .int .i64 x.n, .string x.name, .slice x.at_.1 x.args.length x.at_.2] 41) d2
        have e3 := cell_old (o := .cells #[.int .i64 x.kind, .int .i64 x.n, .string x.name, .slice x.at_.1 x.args.length x.at_.2] 41) d3
        clear hk hga hv0 hmo hmo2 hb hgb hg hm hm2 h2 ih hd ha d0 d1 d2 d3 hsm hsb hSM TX hxi hxg
        go_enter Try.func141, Try.ntmps141
        go_wp2_with (go_at_call 48; (with_reducible refine HSM.out.mono ?_); rintro e w5 ⟨rfl, T5⟩)
        go_ret
        rw [HMO.out]
        have TW := HTX.out.trans T5
        refine ⟨by cases SM <;> rfl, TW.mono (fun _ _ f => f.elim), ?_⟩
        intro m' hm'
        cases SM with
        | true =>
          rw [if_pos rfl] at hm'
          injection hm' with hm'
          subst hm'
          exact ⟨mn, g, by omega, HG.out.1.turned TW (fun f => f), rfl, fun i y hy => ⟨(HG.out.2 i y hy).1.turned0 TW, (HG.out.2 i y hy).2⟩⟩
        | false => rw [if_neg (by simp)] at hm'; cases hm'
    · have k0 : (a.kind == 0) = false := by simp [hk]
      have hmo : Tm.moreM a.bare b.bare (baresM g) = (if a.kind = b.kind ∧ a.n = b.n ∧ a.name = b.name ∧ a.args.length = b.args.length then Tm.moresM (Tm.bares a.args) (Tm.bares b.args) (baresM g) else none) := by
        rw [moreM_eq, Tm.bare_kind, if_neg hk, Tm.bare_n, Tm.bare_name, Tm.bare_arity, Tm.bare_kind, Tm.bare_n, Tm.bare_name, Tm.bare_arity, Tm.bare_args, Tm.bare_args]
      have HTB := Lib.hid h2.1
      by_cases hc : a.kind = b.kind ∧ a.n = b.n ∧ a.name = b.name ∧ a.args.length = b.args.length
      · rw [if_pos hc] at hmo
        obtain ⟨c1, c2, c3, c4⟩ := hc
        have z1 : (a.kind != b.kind) = false := by simp [c1]
        have z2 : (a.n != b.n) = false := by simp [c2]
        have z3 : (a.name.toList == b.name.toList) = true := by simp [c3]
        obtain ⟨MO, hMO⟩ : ∃ z, z = Tm.moreM a.bare b.bare (baresM g) := ⟨_, rfl⟩
        rw [← hMO] at hmo ⊢
        have hal : a.args.length ≤ 9223372036854775807 := by have := ha.len; unfold maxLen at this; omega
        have HMO := Lib.hid hmo
        have HIH := Lib.hid ih
        have HAB := Lib.hid (And.intro ha (And.intro hb hgb))
        have hini : Hid (MoreI p mb a b mn g 0 g mn ((w.alloc (.cells #[.int .i64 a.kind, .int .i64 a.n, .string a.name, .slice a.at_.1 a.args.length a.at_.2] 41)).alloc (.cells #[.int .i64 b.kind, .int .i64 b.n, .string b.name, .slice b.at_.1 b.args.length b.at_.2] 41)) ((w.alloc (.cells #[.int .i64 a.kind, .int .i64 a.n, .string a.name, .slice a.at_.1 a.args.length a.at_.2] 41)).alloc (.cells #[.int .i64 b.kind, .int .i64 b.n, .string b.name, .slice b.at_.1 b.args.length b.at_.2] 41))) :=
          ⟨Turned.refl _ _, hm2, fun i x hx => ⟨(hg i x hx).1.turned0 h2.1, (hg i x hx).2⟩, rfl, by simp [Tm.sizes]⟩
        have HA0 : Hid (((w.alloc (.cells #[.int .i64 a.kind, .int .i64 a.n, .string a.name, .slice a.at_.1 a.args.length a.at_.2] 41)).alloc (.cells #[.int .i64 b.kind, .int .i64 b.n, .string b.name, .slice b.at_.1 b.args.length b.at_.2] 41)).heap[w.heap.size]? = some (.cells #[.int .i64 a.kind, .int .i64 a.n, .string a.name, .slice a.at_.1 a.args.length a.at_.2] 41 (0, 0))) := h2.2.2.1
        have HSZ := Lib.hid h2.2.1
        rw [LT.val_eq a, LT.val_eq b]
        rw [← c4] at HB2 HA0 HTB HSZ hini ⊢
        have HC4 := Lib.hid c4
        obtain ⟨ad, had⟩ : ∃ z, z = a.at_.1 := ⟨_, rfl⟩
        obtain ⟨ca, hca⟩ : ∃ z, z = a.at_.2 := ⟨_, rfl⟩
        obtain ⟨bd, hbd⟩ : ∃ z, z = b.at_.1 := ⟨_, rfl⟩
        obtain ⟨cb, hcb⟩ : ∃ z, z = b.at_.2 := ⟨_, rfl⟩
        rw [← had, ← hca, ← hbd, ← hcb] at HB2 HA0 HTB HSZ hini ⊢
        have HL : Hid ((∀ W, a.In p W → LT.Lies p W ad a.args) ∧ (∀ W, b.In p W → LT.Lies p W bd b.args)) := by
          rw [had, hbd]; exact ⟨fun W h => h.lies, fun W h => h.lies⟩
        have z4 : ((a.args.length : Int) != (a.args.length : Int)) = false := by simp
        clear hmo h2 hm2 hm hg ih hb ha hgb c1 c2 c3 c4 hMO had hca hbd hcb hk
        go_enter Try.func141, Try.ntmps141
        obtain ⟨_, _, _, aa3, _⟩ := cells4 HA0.out
        go_wp2_with fail
        have HTT := And.intro HB2 (And.intro HA0 (And.intro HTB (And.intro HSZ hini)))
        clear HB2 HA0 HTB HSZ hini aa3
        revert HTT
        generalize ((w.alloc (.cells #[.int .i64 a.kind, .int .i64 a.n, .string a.name, .slice ad a.args.length ca] 41)).alloc (.cells #[.int .i64 b.kind, .int .i64 b.n, .string b.name, .slice bd a.args.length cb] 41)) = w2
        intro HTT
        obtain ⟨HB2, HA0, HTB, HSZ, hini⟩ := HTT
        go_loopg [9] a.args.length (fun q i wr => ∃ (j mj : Nat) (gj : Int → Option LT), Hid (j + q = a.args.length) ∧ j ≤ a.args.length ∧ i = .int .i64 j ∧ Hid (MoreI p mb a b mn g j gj mj w2 wr))
        case atStart => exact ⟨0, mn, g, Nat.zero_add _, Nat.zero_le _, rfl, hini⟩
        case round =>
          obtain ⟨j, mj, gj, HG, hj, rfl, HI⟩ := hrel
          have TW : Turned (fun k => k = mb) w wr := (HTB.out.mono (fun _ _ f => f.elim)).trans HI.out.turned
          obtain ⟨_, _, _, a3, _⟩ := cells4 ((HI.out.turned.block _ (Array.getElem?_eq_some_iff.1 HA0.out).1 (by omega)).trans HA0.out)
          by_cases hjl : j < a.args.length
          · obtain ⟨x, hx⟩ : ∃ x : LT, a.args[j]? = some x := ⟨_, List.getElem?_eq_getElem hjl⟩
            obtain ⟨y, hy⟩ : ∃ y : LT, b.args[j]? = some y := ⟨_, List.getElem?_eq_getElem (by have := HC4.out; omega)⟩
            have ain := LT.In.turned TW (fun k _ hk e => hpm k hk e) (fun _ _ h => h) a HAB.out.1
            have bin := LT.In.turned TW (fun k _ hk e => hpm k hk e) (fun _ _ h => h) b HAB.out.2.1
            obtain ⟨ab, ao, rfl, _, x0, x1, x2, x3⟩ := (HL.out.1 _ ain).cell hx
            obtain ⟨bb, bo, rfl, _, y0, y1, y2, y3⟩ := (HL.out.2 _ bin).cell hy
            obtain ⟨_, _, _, b3, _⟩ := cells4 ((HI.out.turned.block _ (Array.getElem?_eq_some_iff.1 HB2.out).1 (by omega)).trans HB2.out)
            have hgy := goodB_arg HAB.out.2.2 (List.mem_of_getElem? hy)
            have hst := sizes_at hx
            have hst2 := sizes_take a.args (j + 1)
            have hsz2 := Tm.size_eq a
            have hle := HI.out.le
            have hcx := fun W (h : Turned (fun _ => False) wr W) => HIH.out x y W mj gj (by have := arg_depth (List.mem_of_getElem? hx); omega) ((LT.ins_iff _).1 (ain.turned0 h).args x (List.mem_of_getElem? hx)) ((LT.ins_iff _).1 (bin.turned0 h).args y (List.mem_of_getElem? hy)) hgy (HI.out.map.turned h (fun f => f)) (fun i z hz => ⟨(HI.out.ok i z hz).1.turned0 h, (HI.out.ok i z hz).2⟩) (by omega)
            rw [LT.val_eq x, LT.val_eq y] at hcx
            obtain ⟨RB, hRB⟩ : ∃ z, z = (Tm.moreM x.bare y.bare (baresM gj)).isSome := ⟨_, rfl⟩
            rw [← hRB] at hcx
            have HRB := Lib.hid hRB
            have HCX := Lib.hid hcx
            have HXY := Lib.hid (And.intro hx hy)
            have HN : Hid (mj + x.size ≤ mn + Tm.sizes (a.args.take (j + 1))) := show _ ≤ _ by omega
            have HTW := Lib.hid TW
            clear hx hy ain bin hgy hst hst2 hsz2 hle hcx hRB TW
            go_wp2_with fail
            obtain ⟨B76, HB76⟩ : ∃ B, Hid (B = (!RB)) := ⟨_, rfl⟩
            refine wp_region_hsW [64, 65, 66, 67, 68, 69, 70, 71, 72, 73, 74, 75, 76] [11] [0, 0, 0, 0, 0, 0, 0, 0, 0, 0, 0, 1, 1] [75] (fun d v => (match d with | 64 => v = .pointer (some ⟨w.heap.size, 3, none⟩) | 65 => v = .slice (some ⟨ab, ao, none⟩) a.args.length ca | 66 => v = .int .i64 (j : Int) | 67 => v = .pointer (some ⟨ab, ao + j * 4, none⟩) | 68 => v = .agg #[.int .i64 x.kind, .int .i64 x.n, .string x.name, .slice x.at_.1 x.args.length x.at_.2] | 69 => v = .pointer (some ⟨(w.heap.size + 1), 3, none⟩) | 70 => v = .slice (some ⟨bb, bo, none⟩) a.args.length cb | 71 => v = .int .i64 (j : Int) | 72 => v = .pointer (some ⟨bb, bo + j * 4, none⟩) | 73 => v = .agg #[.int .i64 y.kind, .int .i64 y.n, .string y.name, .slice y.at_.1 y.args.length y.at_.2] | 74 => v = .map (some mb) | 76 => v = .bool B76 | _ => True : Prop)) (MoreS p mb mj gj x y wr RB) (by kernel_rfl) rfl (by kernel_rfl) (by kernel_rfl) (by kernel_rfl) (by kernel_rfl) (fun _ h => h) (fun hs w w' h ht => MoreS.turned0 hs w w' h ht) ?hs ?hQ
            case hs =>
              refine ⟨?s0, ?s1, ?s2, ?s3, ?s4, ?s5, ?s6, ?s7, ?s8, ?s9, ?s10, ?s11, ?s12, trivial⟩
              case s0 =>
                refine fun hs hle => stepG_free [] [3] (by kernel_rfl) rfl ?_
                · intro ac W hT hI hO
                  have hle : hs.length ≤ 0 := hle
                  have h3 : ac.tmps.getD 3 undef = .pointer (some ⟨w.heap.size, 0, none⟩) := hO 3 (by simp)
                  show Brings Try.prog (fun v w' => Turned (fun _ => False) W w' ∧ v = .pointer (some ⟨w.heap.size, 3, none⟩)) _
                  simp only [execOp, Act.eval, h3]
                  go_simp
                  try exact ⟨Turned.refl _ _, rfl⟩
              case s1 =>
                refine fun hs hle => stepG_free [64] [] (by kernel_rfl) rfl ?_
                · intro ac W hT hI hO
                  have hle : hs.length ≤ 0 := hle
                  have h64 : ac.tmps.getD 64 undef = .pointer (some ⟨w.heap.size, 3, none⟩) := hI 64 (by simp)
                  show Brings Try.prog (fun v w' => Turned (fun _ => False) W w' ∧ v = .slice (some ⟨ab, ao, none⟩) a.args.length ca) _
                  have hT0 : Turned (fun _ => False) wr W := more_nil hle hT; have a3 := hT0.cell0 a3; have b3 := hT0.cell0 b3; have x0 := hT0.cell0 x0; have x1 := hT0.cell0 x1; have x2 := hT0.cell0 x2; have x3 := hT0.cell0 x3; have y0 := hT0.cell0 y0; have y1 := hT0.cell0 y1; have y2 := hT0.cell0 y2; have y3 := hT0.cell0 y3
                  simp only [execOp, Act.eval, h64]
                  go_simp
                  exact ⟨Turned.refl _ _, rfl⟩
              case s2 =>
                refine fun hs hle => stepG_free [] [9] (by kernel_rfl) rfl ?_
                · intro ac W hT hI hO
                  have hle : hs.length ≤ 0 := hle
                  have h9 : ac.tmps.getD 9 undef = .int .i64 (j : Int) := hO 9 (by simp)
                  show Brings Try.prog (fun v w' => Turned (fun _ => False) W w' ∧ v = .int .i64 (j : Int)) _
                  simp only [execOp, Act.eval, h9]
                  go_simp
                  try exact ⟨Turned.refl _ _, rfl⟩
              case s3 =>
                refine fun hs hle => stepG_free [65, 66] [] (by kernel_rfl) rfl ?_
                · intro ac W hT hI hO
                  have hle : hs.length ≤ 0 := hle
                  have h65 : ac.tmps.getD 65 undef = .slice (some ⟨ab, ao, none⟩) a.args.length ca := hI 65 (by simp)
                  have h66 : ac.tmps.getD 66 undef = .int .i64 (j : Int) := hI 66 (by simp)
                  show Brings Try.prog (fun v w' => Turned (fun _ => False) W w' ∧ v = .pointer (some ⟨ab, ao + j * 4, none⟩)) _
                  simp only [execOp, Act.eval, h65, h66]
                  go_simp
                  try rw [if_pos (by omega)]
                  try exact ⟨Turned.refl _ _, rfl⟩
              case s4 =>
                refine fun hs hle => stepG_free [67] [] (by kernel_rfl) rfl ?_
                · intro ac W hT hI hO
                  have hle : hs.length ≤ 0 := hle
                  have h67 : ac.tmps.getD 67 undef = .pointer (some ⟨ab, ao + j * 4, none⟩) := hI 67 (by simp)
                  show Brings Try.prog (fun v w' => Turned (fun _ => False) W w' ∧ v = .agg #[.int .i64 x.kind, .int .i64 x.n, .string x.name, .slice x.at_.1 x.args.length x.at_.2]) _
                  have hT0 : Turned (fun _ => False) wr W := more_nil hle hT; have a3 := hT0.cell0 a3; have b3 := hT0.cell0 b3; have x0 := hT0.cell0 x0; have x1 := hT0.cell0 x1; have x2 := hT0.cell0 x2; have x3 := hT0.cell0 x3; have y0 := hT0.cell0 y0; have y1 := hT0.cell0 y1; have y2 := hT0.cell0 y2; have y3 := hT0.cell0 y3
                  simp only [execOp, Act.eval, h67]
                  go_simp
                  exact ⟨Turned.refl _ _, rfl⟩
              case s5 =>
                refine fun hs hle => stepG_free [] [4] (by kernel_rfl) rfl ?_
                · intro ac W hT hI hO
                  have hle : hs.length ≤ 0 := hle
                  have h4 : ac.tmps.getD 4 undef = .pointer (some ⟨(w.heap.size + 1), 0, none⟩) := hO 4 (by simp)
                  show Brings Try.prog (fun v w' => Turned (fun _ => False) W w' ∧ v = .pointer (some ⟨(w.heap.size + 1), 3, none⟩)) _
                  simp only [execOp, Act.eval, h4]
                  go_simp
                  try exact ⟨Turned.refl _ _, rfl⟩
              case s6 =>
                refine fun hs hle => stepG_free [69] [] (by kernel_rfl) rfl ?_
                · intro ac W hT hI hO
                  have hle : hs.length ≤ 0 := hle
                  have h69 : ac.tmps.getD 69 undef = .pointer (some ⟨(w.heap.size + 1), 3, none⟩) := hI 69 (by simp)
                  show Brings Try.prog (fun v w' => Turned (fun _ => False) W w' ∧ v = .slice (some ⟨bb, bo, none⟩) a.args.length cb) _
                  have hT0 : Turned (fun _ => False) wr W := more_nil hle hT; have a3 := hT0.cell0 a3; have b3 := hT0.cell0 b3; have x0 := hT0.cell0 x0; have x1 := hT0.cell0 x1; have x2 := hT0.cell0 x2; have x3 := hT0.cell0 x3; have y0 := hT0.cell0 y0; have y1 := hT0.cell0 y1; have y2 := hT0.cell0 y2; have y3 := hT0.cell0 y3
                  simp only [execOp, Act.eval, h69]
                  go_simp
                  exact ⟨Turned.refl _ _, rfl⟩
              case s7 =>
                refine fun hs hle => stepG_free [] [9] (by kernel_rfl) rfl ?_
                · intro ac W hT hI hO
                  have hle : hs.length ≤ 0 := hle
                  have h9 : ac.tmps.getD 9 undef = .int .i64 (j : Int) := hO 9 (by simp)
                  show Brings Try.prog (fun v w' => Turned (fun _ => False) W w' ∧ v = .int .i64 (j : Int)) _
                  simp only [execOp, Act.eval, h9]
                  go_simp
                  try exact ⟨Turned.refl _ _, rfl⟩
              case s8 =>
                refine fun hs hle => stepG_free [70, 71] [] (by kernel_rfl) rfl ?_
                · intro ac W hT hI hO
                  have hle : hs.length ≤ 0 := hle
                  have h70 : ac.tmps.getD 70 undef = .slice (some ⟨bb, bo, none⟩) a.args.length cb := hI 70 (by simp)
                  have h71 : ac.tmps.getD 71 undef = .int .i64 (j : Int) := hI 71 (by simp)
                  show Brings Try.prog (fun v w' => Turned (fun _ => False) W w' ∧ v = .pointer (some ⟨bb, bo + j * 4, none⟩)) _
                  simp only [execOp, Act.eval, h70, h71]
                  go_simp
                  try rw [if_pos (by omega)]
                  try exact ⟨Turned.refl _ _, rfl⟩
              case s9 =>
                refine fun hs hle => stepG_free [72] [] (by kernel_rfl) rfl ?_
                · intro ac W hT hI hO
                  have hle : hs.length ≤ 0 := hle
                  have h72 : ac.tmps.getD 72 undef = .pointer (some ⟨bb, bo + j * 4, none⟩) := hI 72 (by simp)
                  show Brings Try.prog (fun v w' => Turned (fun _ => False) W w' ∧ v = .agg #[.int .i64 y.kind, .int .i64 y.n, .string y.name, .slice y.at_.1 y.args.length y.at_.2]) _
                  have hT0 : Turned (fun _ => False) wr W := more_nil hle hT; have a3 := hT0.cell0 a3; have b3 := hT0.cell0 b3; have x0 := hT0.cell0 x0; have x1 := hT0.cell0 x1; have x2 := hT0.cell0 x2; have x3 := hT0.cell0 x3; have y0 := hT0.cell0 y0; have y1 := hT0.cell0 y1; have y2 := hT0.cell0 y2; have y3 := hT0.cell0 y3
                  simp only [execOp, Act.eval, h72]
                  go_simp
                  exact ⟨Turned.refl _ _, rfl⟩
              case s10 =>
                refine fun hs hle => stepG_free [] [2] (by kernel_rfl) rfl ?_
                · intro ac W hT hI hO
                  have hle : hs.length ≤ 0 := hle
                  have h2 : ac.tmps.getD 2 undef = .map (some mb) := hO 2 (by simp)
                  show Brings Try.prog (fun v w' => Turned (fun _ => False) W w' ∧ v = .map (some mb)) _
                  simp only [execOp, Act.eval, h2]
                  go_simp
                  try exact ⟨Turned.refl _ _, rfl⟩
              case s11 =>
                refine fun hs hlen => stepG_free [68, 73, 74] [] (by kernel_rfl) rfl ?_
                · intro ac W hT hI hO
                  have h68 : ac.tmps.getD 68 undef = .agg #[.int .i64 x.kind, .int .i64 x.n, .string x.name, .slice x.at_.1 x.args.length x.at_.2] := hI 68 (by simp)
                  have h73 : ac.tmps.getD 73 undef = .agg #[.int .i64 y.kind, .int .i64 y.n, .string y.name, .slice y.at_.1 y.args.length y.at_.2] := hI 73 (by simp)
                  have h74 : ac.tmps.getD 74 undef = .map (some mb) := hI 74 (by simp)
                  show Brings Try.prog (fun v w' => MoreS p mb mj gj x y wr RB (hs ++ [v]) w') _
                  obtain rfl : hs = [] := List.eq_nil_of_length_eq_zero hlen
                  replace hT : Turned (fun _ => False) wr W := hT
                  simp only [execOp, Act.eval, h68, h73, h74]
                  go_simp
                  show Calls Try.prog 141 _ W _
                  (with_reducible refine (HCX.out W hT).mono ?_)
                  rintro e w' ⟨rfl, T', hP⟩
                  exact ⟨_, rfl, RB, rfl, rfl, (hT.mono (fun _ _ f => f.elim)).trans T', hP⟩
              case s12 =>
                refine fun hs hle => stepG_free [75] [] (by kernel_rfl) rfl ?_
                · intro ac W hT hI hO
                  have hle : hs.length ≤ 1 := hle
                  have h75 : hs[0]? = some (ac.tmps.getD 75 undef) := hI 75 (by simp)
                  replace h75 : ac.tmps.getD 75 undef = .bool RB := more_val hs W hT _ h75
                  show Brings Try.prog (fun v w' => Turned (fun _ => False) W w' ∧ v = .bool B76) _
                  rw [HB76.out]
                  simp only [execOp, Act.eval, h75]
                  go_simp
                  try exact ⟨Turned.refl _ _, rfl⟩
            case hQ =>
              intro hs vq w7 hlen hR hV
              obtain ⟨v, rfl⟩ := List.length_eq_one_iff.1 hlen
              obtain ⟨b', rfl, hbr, T7, hP⟩ := hR
              have q76 : vq 76 = .bool B76 := hV 76 (by simp)
              simp only [List.foldl_cons, List.foldl_nil, List.setIfInBounds_toArray, List.set_cons_zero, List.set_cons_succ, q76]
              have hrest := HI.out.rest
              rw [drop_bares HXY.out.1, drop_bares HXY.out.2, moresM_cons] at hrest
              have TW7 := HTW.out.trans T7
              cases hmx : Tm.moreM x.bare y.bare (baresM gj) with
              | none =>
                have hb76 : B76 = true := by rw [HB76.out, HRB.out, hmx]; rfl
                rw [hmx] at hrest
                have HMN : Hid (MO = none) := by show _ = _; rw [HMO.out]; exact hrest
                clear hV q76 hrest hP hmx
                subst hb76
                go_wp2_with fail
                go_ret
                rw [HMN.out]
                exact ⟨rfl, TW7, fun m' hm' => by cases hm'⟩
              | some m' =>
                have hb76 : B76 = false := by rw [HB76.out, HRB.out, hmx]; rfl
                rw [hmx] at hrest
                obtain ⟨mj', gj', h1, h3, h4, h5⟩ := hP m' hmx
                have HI' : Hid (MoreI p mb a b mn g (j + 1) gj' mj' w2 w7) := ⟨HI.out.turned.trans T7, h3, h5, by rw [h4]; exact hrest, Nat.le_trans h1 HN.out⟩
                clear hV q76 hrest hP hmx h1 h3 h4 h5
                subst hb76
                go_wp2_with fail
                go_roundg (gk - 1)
                case measure => have := HG.out; omega
                case rel => exact ⟨j + 1, mj', gj', show _ = _ by have := HG.out; omega, by omega, by go_num, HI'⟩
          · obtain rfl : j = a.args.length := by omega
            have hrest := HI.out.rest
            rw [show (Tm.bares a.args).drop a.args.length = [] from List.drop_of_length_le (by rw [Tm.bares_length]; omega), moresM_nil] at hrest
            have HMS : Hid (MO = some (baresM gj)) := by show _ = _; rw [HMO.out]; exact hrest
            clear hrest
            go_wp2_with fail
            go_ret
            rw [HMS.out]
            refine ⟨rfl, TW, fun m' hm' => ?_⟩
            injection hm' with hm'
            subst hm'
            have hle := HI.out.le
            rw [List.take_length] at hle
            have hsz2 := Tm.size_eq a
            exact ⟨mj, gj, by omega, HI.out.map, rfl, HI.out.ok⟩
      · rw [if_neg hc] at hmo
        rw [hmo]
        have fin : ∀ W, Turned (fun _ => False) ((w.alloc (.cells #[.int .i64 a.kind, .int .i64 a.n, .string a.name, .slice a.at_.1 a.args.length a.at_.2] 41)).alloc (.cells #[.int .i64 b.kind, .int .i64 b.n, .string b.name, .slice b.at_.1 b.args.length b.at_.2] 41)) W → Ending.returned (.bool false) = .returned (.bool (none : Option Tm.MM).isSome) ∧ Turned (fun k => k = mb) w W ∧ MoreP p mb (mn + a.size) none W := fun W h =>
          ⟨rfl, (HTB.out.trans h).mono (fun _ _ f => f.elim), fun m' hm' => by cases hm'⟩
        have FIN := Lib.hid fin
        rw [LT.val_eq a, LT.val_eq b]
        clear hmo h2 hm2 hm hg ih hb ha hgb fin
        by_cases c1 : a.kind = b.kind
        · have z1 : (a.kind != b.kind) = false := by simp [c1]
          by_cases c2 : a.n = b.n
          · have z2 : (a.n != b.n) = false := by simp [c2]
            by_cases c3 : a.name = b.name
            · have z3 : (a.name.toList == b.name.toList) = true := by simp [c3]
              have c4 : a.args.length ≠ b.args.length := fun h => hc ⟨c1, c2, c3, h⟩
              obtain ⟨la, hla⟩ : ∃ z, z = a.args.length := ⟨_, rfl⟩
              obtain ⟨lb, hlb⟩ : ∃ z, z = b.args.length := ⟨_, rfl⟩
              rw [← hla, ← hlb] at c4
              have z4 : ((la : Int) != (lb : Int)) = true := by simp; omega
              have z5 : (la != lb) = true := by simp; exact c4
              rw [← hla, ← hlb] at FIN HB2 HTB ⊢
              clear c1 c2 c3 c4 hc hla hlb
              go_enter Try.func141, Try.ntmps141
              go_wp2_with fail
              go_ret
              exact FIN.out _ (Turned.refl _ _)
            · have z3 : (a.name.toList == b.name.toList) = false := by
                rw [beq_eq_false_iff_ne]; exact fun h => c3 ((bytes_eq _ _).1 h)
              clear c1 c2 c3 hc
              go_enter Try.func141, Try.ntmps141
              go_wp2_with fail
              go_ret
              exact FIN.out _ (Turned.refl _ _)
          · have z2 : (a.n != b.n) = true := by simp [c2]
            clear c1 c2 hc
            go_enter Try.func141, Try.ntmps141
            go_wp2_with fail
            go_ret
            exact FIN.out _ (Turned.refl _ _)
        · have z1 : (a.kind != b.kind) = true := by simp [c1]
          clear c1 hc
          go_enter Try.func141, Try.ntmps141
          go_wp2_with fail
          go_ret
          exact FIN.out _ (Turned.refl _ _)
end Go.Proofs.Ytoihjobdfjajfaa

/- The document's More. -/
namespace Go.Proofs.Ytoihjobdfjajfaa
set_option linter.unusedVariables false
set_option linter.unusedSimpArgs false
open Go.RowKit Go.Maps

set_option maxRecDepth 100000 in
set_option maxHeartbeats 3200000 in
theorem rMore83 {p : Nat → Prop} {a b : LT} {w : World} (ha : a.In p w) (hb : b.In p w) :
    Calls Try.prog 83 #[a.val, b.val] w fun e w' => e = .returned (.bool (moreB a b)) ∧ Turned (fun _ => False) w w' := by
  have hmm := @run_makeMap Try.prog
  have h2 := twoBox w (.cells #[.int .i64 a.kind, .int .i64 a.n, .string a.name, .slice a.at_.1 a.args.length a.at_.2] 41) (.cells #[.int .i64 b.kind, .int .i64 b.n, .string b.name, .slice b.at_.1 b.args.length b.at_.2] 41)
  have hkp : ∀ W, Turned (fun _ => False) ((w.alloc (.cells #[.int .i64 a.kind, .int .i64 a.n, .string a.name, .slice a.at_.1 a.args.length a.at_.2] 41)).alloc (.cells #[.int .i64 b.kind, .int .i64 b.n, .string b.name, .slice b.at_.1 b.args.length b.at_.2] 41)) W →
      (W.cell? ⟨w.heap.size, 0, none⟩ = some (.int .i64 a.kind) ∧ W.cell? ⟨w.heap.size, 1, none⟩ = some (.int .i64 a.n) ∧ W.cell? ⟨w.heap.size, 2, none⟩ = some (.string a.name) ∧ W.cell? ⟨w.heap.size, 3, none⟩ = some (.slice a.at_.1 a.args.length a.at_.2)) ∧
      (W.cell? ⟨w.heap.size + 1, 0, none⟩ = some (.int .i64 b.kind) ∧ W.cell? ⟨w.heap.size + 1, 1, none⟩ = some (.int .i64 b.n) ∧ W.cell? ⟨w.heap.size + 1, 2, none⟩ = some (.string b.name) ∧ W.cell? ⟨w.heap.size + 1, 3, none⟩ = some (.slice b.at_.1 b.args.length b.at_.2)) := fun W h =>
    ⟨four_of ((h.block _ (Array.getElem?_eq_some_iff.1 h2.2.2.1).1 (fun f => f)).trans h2.2.2.1), four_of ((h.block _ (Array.getElem?_eq_some_iff.1 h2.2.2.2).1 (fun f => f)).trans h2.2.2.2)⟩
  have ga := rGood45 (ha.turned0 h2.1)
  have gb := fun W (h : Turned (fun _ => False) w W) => rGood45 (hb.turned0 h)
  rw [LT.val_eq a] at ga ⊢
  rw [LT.val_eq b] at gb ⊢
  have HKP := Lib.hid hkp
  have HT := Lib.hid h2.1
  have HSZ := Lib.hid h2.2.1
  have HAB := Lib.hid (And.intro ha hb)
  clear hkp h2 ha hb
  cases g1 : goodB a with
  | false =>
    have e1 : moreB a b = false := by unfold moreB; rw [g1]; rfl
    rw [e1]
    rw [g1] at ga
    have GA := Lib.hid ga
    clear ga gb g1 e1
    go_enter Try.func83, Try.ntmps83
    go_wp2_with (go_at_call 45; (with_reducible refine GA.out.mono ?_); rintro e w3 ⟨rfl, T3⟩)
    go_ret
    exact ⟨rfl, HT.out.trans T3⟩
  | true =>
    rw [g1] at ga
    have GA := Lib.hid ga
    clear ga
    cases g2 : goodB b with
    | false =>
      have e1 : moreB a b = false := by unfold moreB; rw [g1, g2]; rfl
      rw [e1]
      rw [g2] at gb
      have GB := Lib.hid gb
      clear gb g1 g2 e1
      go_enter Try.func83, Try.ntmps83
      go_wp2_with (first
        | (go_at_call 45; (with_reducible refine GA.out.mono ?_); rintro e w3 ⟨rfl, T3⟩; obtain ⟨⟨a0, a1, a2, a3⟩, ⟨b0, b1, b2, b3⟩⟩ := HKP.out _ T3; have S3 := HT.out.trans T3)
        | (go_at_call 45; (with_reducible refine (GB.out _ S3).mono ?_); rintro e w4 ⟨rfl, T4⟩))
      go_ret
      exact ⟨rfl, S3.trans T4⟩
    | true =>
      have e1 : moreB a b = Tm.moreS a.bare b.bare := by unfold moreB; rw [g1, g2]; rfl
      rw [e1]
      rw [g2] at gb
      have hle : a.size ≤ 2000 := by
        unfold goodB at g1
        simp only [Bool.and_eq_true, decide_eq_true_eq] at g1
        exact g1.1
      have GB := Lib.hid gb
      have HGB := Lib.hid g2
      clear gb g1 g2 e1
      go_enter Try.func83, Try.ntmps83
      go_wp2_with (first
        | (go_at_call 45; (with_reducible refine GA.out.mono ?_); rintro e w3 ⟨rfl, T3⟩; obtain ⟨⟨a0, a1, a2, a3⟩, ⟨b0, b1, b2, b3⟩⟩ := HKP.out _ T3; have S3 := HT.out.trans T3)
        | (go_at_call 45; (with_reducible refine (GB.out _ S3).mono ?_); rintro e w4 ⟨rfl, T4⟩; obtain ⟨⟨a4, a5, a6, a7⟩, ⟨b4, b5, b6, b7⟩⟩ := HKP.out _ ((T3.trans T4).alloc (.map #[] 0)); have S4 := S3.trans T4))
      have S5 := S4.alloc (.map #[] 0)
      have hm := rMore141 (p := fun k => k < w.heap.size) (mb := w4.heap.size) (fun k hk e => by have := S4.size; omega) a.depth a b (w4.alloc (.map #[] 0)) 0 (fun _ => none) (Nat.le_refl _)
        ((HAB.out.1.mono (q := fun k => k < w.heap.size) (fun k hk _ => hk)).turned0 S5) ((HAB.out.2.mono (q := fun k => k < w.heap.size) (fun k hk _ => hk)).turned0 S5) HGB.out (IMap.made w4 Try.prog 2) (fun i x hx => by cases hx) (by omega)
      rw [LT.val_eq a, LT.val_eq b, baresM_none'] at hm
      (with_reducible refine hm.mono ?_)
      rintro e w6 ⟨rfl, T6, _⟩
      have S6 := S5.step T6 (fun i hi e => by have := S4.size; omega)
      go_wp2_with fail
      go_ret
      exact ⟨rfl, S6⟩
end Go.Proofs.Ytoihjobdfjajfaa

/- The document's Comp. -/
namespace Go.Proofs.Ytoihjobdfjajfaa
set_option linter.unusedVariables false
set_option linter.unusedSimpArgs false
open Go.RowKit Go.Maps
set_option maxHeartbeats 800000 in
theorem rComp160 (s : ByteArray) (a : Option Addr) (n c : Nat) (w : World) :
    Calls Try.prog 160 #[.string s, .slice a n c] w fun e w' => e = .returned (.agg #[.int .i64 2, .int .i64 0, .string s, .slice a n c]) ∧ Turned (fun _ => False) w w' := by
  go_enter Try.func160, Try.ntmps160
  go_wp2_with fail
  exact bodyPost_ret (v := .agg #[.int .i64 2, .int .i64 0, .string s, .slice a n c]) (results_cell_row Try.results160 _ _ w.heap.size 41 _ (0, 0) _ rfl (heap_alloc_new w _) Try.underlying41 rfl (by kernel_rfl)) rfl ⟨rfl, (Turned.refl _ _).alloc _⟩
/-- A number's place in a row, looked for from the start. -/
theorem posOf_first {vs : List Int} {n : Int} {j : Nat} (h : vs[j]? = some n) (hno : ∀ i, i < j → vs[i]? ≠ some n) : Tm.posOf vs n = j := by
  unfold Tm.posOf
  induction vs generalizing j with
  | nil => simp at h
  | cons v vs ih =>
    cases j with
    | zero =>
      simp at h
      subst h
      simp [List.idxOf_cons]
    | succ j =>
      have hv : v ≠ n := fun e => hno 0 (by omega) (by simp [e])
      have hb : (v == n) = false := by rw [beq_eq_false_iff_ne]; exact hv
      rw [List.idxOf_cons, hb]
      simp only [cond_false]
      rw [ih (j := j) (by simpa using h) (fun i hi => by have := hno (i + 1) (by omega); simpa using this)]
end Go.Proofs.Ytoihjobdfjajfaa

/- A term put at its place in a row of terms. -/
namespace Go.Proofs.Ytoihjobdfjajfaa
set_option linter.unusedVariables false
set_option linter.unusedSimpArgs false
open Go.RowKit Go.Maps
theorem Row.setAt {w : World} {e : TypeId} {size n g cap off : Nat} {xs : List Value} (h : Row w e size (.slice (some ⟨g, 0, none⟩) n cap) n xs) (ho : off < n * size) (u : Value) : Row (w.setCell ⟨g, off, none⟩ u) e size (.slice (some ⟨g, 0, none⟩) n cap) n (xs.set off u) := by
  refine ⟨by rw [List.length_set]; exact h.1, .inr ?_⟩
  rcases h.2 with ⟨he, h0⟩ | ⟨g', cap', cur, he, hg, h1, h2, h3, h4⟩
  · cases he
  · injection he with e1 _ e3
    injection e1 with e1
    injection e1 with e1
    subst e1 e3
    refine ⟨g, cap, cur.setIfInBounds off u, rfl, heap_setCell_same w g off cur e u hg, h1, h2, by simpa using h3, ?_⟩
    rw [Array.toList_setIfInBounds, List.take_set, h4]
theorem flat_set {us : List LT} {j : Nat} {u : LT} (hj : j < us.length) :
    ((((us.flatMap LT.cells).set (j * 4) (.int .i64 u.kind)).set (j * 4 + 1) (.int .i64 u.n)).set (j * 4 + 2) (.string u.name)).set (j * 4 + 3) (.slice u.at_.1 u.args.length u.at_.2) = (us.set j u).flatMap LT.cells := by
  induction us generalizing j with
  | nil => simp at hj
  | cons x us ih =>
    cases j with
    | zero =>
      rw [List.set_cons_zero, List.flatMap_cons, List.flatMap_cons, LT.cells_eq x, LT.cells_eq u]
      rfl
    | succ j =>
      have ih := ih (j := j) (by simpa using hj)
      rw [List.set_cons_succ, List.flatMap_cons, List.flatMap_cons, ← ih, LT.cells_eq x]
      have e0 : (j + 1) * 4 = j * 4 + 4 := by omega
      rw [e0]
      rfl
end Go.Proofs.Ytoihjobdfjajfaa

/- A set of binds in memory. -/
namespace Go.Proofs.Ytoihjobdfjajfaa
set_option linter.unusedVariables false
set_option linter.unusedSimpArgs false
open Go.RowKit Go.Maps
/-- What was set, with the block in which each term lies. -/
abbrev TL := List (Int × Nat × LT)
def bt (l : TL) : Tm.Trail := l.map fun b => (b.1, b.2.2.bare)
def lookL : TL → Int → Option (Nat × LT)
  | [], _ => none
  | b :: l, n => if b.1 = n then some b.2 else lookL l n
theorem look_bt (l : TL) (n : Int) : Tm.look (bt l) n = (lookL l n).map fun c => c.2.bare := by
  induction l with
  | nil => rfl
  | cons b l ih =>
    show (if b.1 = n then some b.2.2.bare else Tm.look (bt l) n) = _
    simp only [lookL]
    split
    · rfl
    · exact ih
theorem lookL_mem {l : TL} {n : Int} {c : Nat × LT} (h : lookL l n = some c) : (n, c) ∈ l := by
  induction l with
  | nil => simp [lookL] at h
  | cons b l ih =>
    simp only [lookL] at h
    split at h
    · rename_i e; injection h with h; subst e h; exact List.mem_cons_self ..
    · exact List.mem_cons_of_mem _ (ih h)
theorem bt_length (l : TL) : (bt l).length = l.length := by unfold bt; rw [List.length_map]
def ptrV : Option (Nat × LT) → Value
  | none => .pointer none
  | some c => .pointer (some ⟨c.1, 0, none⟩)
def ptrs (m : Nat) (l : TL) : List Value := (List.range m).map fun (i : Nat) => ptrV (lookL l (i : Int))
theorem ptrs_at {m : Nat} {l : TL} {i : Nat} (h : i < m) : (ptrs m l)[i]? = some (ptrV (lookL l (i : Int))) := by
  unfold ptrs
  rw [List.getElem?_map, List.getElem?_range h]
  rfl
theorem ptrs_length (m : Nat) (l : TL) : (ptrs m l).length = m := by unfold ptrs; rw [List.length_map, List.length_range]
theorem ptrs_succ {m : Nat} {l : TL} (h : lookL l (m : Int) = none) : ptrs m l ++ [.pointer none] = ptrs (m + 1) l := by
  unfold ptrs
  rw [List.range_succ, List.map_append, List.map_cons, List.map_nil, h]
  rfl
theorem ptrs_set {m : Nat} {l : TL} {i : Nat} {c : Nat} {x : LT} (h : i < m) : (ptrs m l).set i (.pointer (some ⟨c, 0, none⟩)) = ptrs m (((i : Int), c, x) :: l) := by
  refine List.ext_getElem? (fun j => ?_)
  by_cases hj : j < m
  · rw [ptrs_at hj]
    simp only [lookL]
    by_cases he : i = j
    · subst he
      rw [List.getElem?_set_self (by rw [ptrs_length]; exact h), if_pos rfl]
      rfl
    · rw [List.getElem?_set_ne he, ptrs_at hj, if_neg (by omega)]
  · rw [List.getElem?_eq_none (by rw [List.length_set, ptrs_length]; omega), List.getElem?_eq_none (by rw [ptrs_length]; omega)]
/-- The blocks of a set of binds itself. -/
def ownK (bb sb : Nat) (lv tv : Value) (k : Nat) : Prop := k = bb ∨ k = sb ∨ lv.ownBlock = some k ∨ tv.ownBlock = some k
structure BI (p : Nat → Prop) (bb sb : Nat) (lv tv : Value) (m : Nat) (l : TL) (w : World) : Prop where
  b : w.heap[bb]? = some (.cells #[lv, .pointer (some ⟨sb, 0, none⟩)] 163 (0, 0))
  s : w.heap[sb]? = some (.cells #[.int .i64 65536, tv] 209 (0, 0))
  row : Row w 165 1 lv m (ptrs m l)
  trail : Row w 2 1 tv l.length ((l.map fun b => Value.int .i64 b.1).reverse)
  terms : ∀ b ∈ l, w.heap[b.2.1]? = some (.cells #[.int .i64 b.2.2.kind, .int .i64 b.2.2.n, .string b.2.2.name, .slice b.2.2.at_.1 b.2.2.args.length b.2.2.at_.2] 27 (0, 0)) ∧ b.2.2.In p w ∧ ¬ ownK bb sb lv tv b.2.1
  ok : Tm.okT m (bt l)
  most : m ≤ 65536
  ne : bb ≠ sb ∧ lv.ownBlock ≠ some bb ∧ lv.ownBlock ≠ some sb ∧ tv.ownBlock ≠ some bb ∧ tv.ownBlock ≠ some sb ∧ ∀ k, lv.ownBlock = some k → tv.ownBlock ≠ some k
  sep : ∀ k, p k → k < w.heap.size ∧ ¬ ownK bb sb lv tv k
section
variable {p : Nat → Prop} {bb sb m : Nat} {lv tv : Value} {l : TL} {w w' : World}
theorem BI.own_lt (h : BI p bb sb lv tv m l w) : ∀ k, ownK bb sb lv tv k → k < w.heap.size := by
  rintro k (rfl | rfl | hk | hk)
  · exact (Array.getElem?_eq_some_iff.1 h.b).1
  · exact (Array.getElem?_eq_some_iff.1 h.s).1
  · exact h.row.lt k hk
  · exact h.trail.lt k hk
theorem BI.turned {S : Nat → Prop} (h : BI p bb sb lv tv m l w) (ht : Turned S w w') (hS : ∀ k, k < w.heap.size → S k → ¬ ownK bb sb lv tv k ∧ (∀ b ∈ l, k ≠ b.2.1) ∧ ¬ p k) : BI p bb sb lv tv m l w' := by
  have hb := (Array.getElem?_eq_some_iff.1 h.b).1
  have hs := (Array.getElem?_eq_some_iff.1 h.s).1
  refine ⟨(ht.block _ hb (fun f => (hS _ hb f).1 (.inl rfl))).trans h.b, (ht.block _ hs (fun f => (hS _ hs f).1 (.inr (.inl rfl)))).trans h.s, h.row.turned ht (fun k hk f => (hS _ (h.row.lt k hk) f).1 (.inr (.inr (.inl hk)))), h.trail.turned ht (fun k hk f => (hS _ (h.trail.lt k hk) f).1 (.inr (.inr (.inr hk)))),
    fun b hb => ⟨?_, LT.In.turned ht (fun k hk hq f => (hS k hk f).2.2 hq) (fun _ _ q => q) _ (h.terms b hb).2.1, (h.terms b hb).2.2⟩, h.ok, h.most, h.ne, fun k hk => ⟨Nat.lt_of_lt_of_le (h.sep k hk).1 ht.size, (h.sep k hk).2⟩⟩
  have hl := (Array.getElem?_eq_some_iff.1 (h.terms b hb).1).1
  exact (ht.block _ hl (fun f => (hS _ hl f).2.1 b hb rfl)).trans (h.terms b hb).1
theorem BI.turned0 (h : BI p bb sb lv tv m l w) (ht : Turned (fun _ => False) w w') : BI p bb sb lv tv m l w' :=
  h.turned ht (fun _ _ f => f.elim)
/-- Terms may lie in more blocks. -/
theorem BI.wide {q : Nat → Prop} (h : BI p bb sb lv tv m l w) (hp : ∀ k, p k → q k) (hq : ∀ k, q k → k < w.heap.size ∧ ¬ ownK bb sb lv tv k) : BI q bb sb lv tv m l w :=
  ⟨h.b, h.s, h.row, h.trail, fun b hb => ⟨(h.terms b hb).1, (h.terms b hb).2.1.mono (fun k _ hk => hp k hk), (h.terms b hb).2.2⟩, h.ok, h.most, h.ne, hq⟩
theorem BI.length (h : BI p bb sb lv tv m l w) : l.length ≤ m := by have := Tm.okT_length h.ok; rwa [bt_length] at this
theorem BI.free (h : BI p bb sb lv tv m l w) {n : Int} : lookL l n = none ↔ n ∉ Tm.dom (bt l) := by
  rw [← Tm.look_none, look_bt]
  cases lookL l n <;> simp
/-- A new variable. -/
theorem BI.fresh {lv' : Value} (h : BI p bb sb lv tv m l w) (hm : m < 65536) (ht : Turned (fun k => k = bb ∨ lv.ownBlock = some k) w w') (hb : w'.heap[bb]? = some (.cells #[lv', .pointer (some ⟨sb, 0, none⟩)] 163 (0, 0)))
    (hr : Row w' 165 1 lv' (m + 1) (ptrs m l ++ [.pointer none])) (ho : lv'.ownBlock = lv.ownBlock ∨ ∀ k, lv'.ownBlock = some k → w.heap.size ≤ k) : BI p bb sb lv' tv (m + 1) l w' := by
  obtain ⟨n1, n2, n3, n4, n5, n6⟩ := h.ne
  have hbl := (Array.getElem?_eq_some_iff.1 h.b).1
  have hsl := (Array.getElem?_eq_some_iff.1 h.s).1
  have hfree : lookL l (m : Int) = none := h.free.2 (fun c => by
    obtain ⟨b, hb, e⟩ := List.mem_map.1 c
    have := (Tm.okT_mem h.ok hb).2.1
    omega)
  have hown : ∀ k, k < w.heap.size → ownK bb sb lv' tv k → ownK bb sb lv tv k := by
    rintro k hk (rfl | rfl | hq | hq)
    · exact .inl rfl
    · exact .inr (.inl rfl)
    · rcases ho with ho | ho
      · exact .inr (.inr (.inl (ho ▸ hq)))
      · have := ho k hq; omega
    · exact .inr (.inr (.inr hq))
  have hlv : ∀ q, q < w.heap.size → lv.ownBlock ≠ some q → lv'.ownBlock ≠ some q := fun q hq hne e => by
    rcases ho with ho | ho
    · exact hne (ho ▸ e)
    · have := ho q e; omega
  refine ⟨hb, (ht.block _ hsl (fun e => e.elim (fun e => n1 e.symm) n3)).trans h.s, ?_, h.trail.turned ht (fun k hk e => ?_), fun b hb => ⟨?_, ?_, ?_⟩, h.ok.more (Nat.le_succ m), by omega, ⟨n1, hlv _ hbl n2, hlv _ hsl n3, n4, n5, fun k hk e => ?_⟩, fun k hk => ⟨Nat.lt_of_lt_of_le (h.sep k hk).1 ht.size, fun c => (h.sep k hk).2 (hown k (h.sep k hk).1 c)⟩⟩
  · rw [← ptrs_succ hfree]; exact hr
  · rcases e with e | e
    · exact n4 (e ▸ hk)
    · exact n6 k e hk
  · obtain ⟨t1, t2, t3⟩ := h.terms b hb
    refine (ht.block _ (Array.getElem?_eq_some_iff.1 t1).1 ?_).trans t1
    rintro (e | e)
    · exact t3 (.inl e)
    · exact t3 (.inr (.inr (.inl e)))
  · obtain ⟨t1, t2, t3⟩ := h.terms b hb
    refine LT.In.turned ht (fun k hk hq e => ?_) (fun k hk hq => hq) _ t2
    rcases e with e | e
    · exact (h.sep k hq).2 (.inl e)
    · exact (h.sep k hq).2 (.inr (.inr (.inl e)))
  · obtain ⟨t1, t2, t3⟩ := h.terms b hb
    exact fun e => t3 (hown _ (Array.getElem?_eq_some_iff.1 t1).1 e)
  · have hk' := h.trail.lt k e
    exact hlv k hk' (fun c => n6 k c e) hk
/-- One more was set: its term lies in a block c that was no one's. -/
theorem BI.set {tv' : Value} {i c : Nat} {x : LT} (h : BI p bb sb lv tv m l w) (hi : i < m) (hok : Tm.setE m (bt l) (i : Int) x.bare = 0)
    (ht : Turned (fun k => k = sb ∨ lv.ownBlock = some k ∨ tv.ownBlock = some k) w w') (hs : w'.heap[sb]? = some (.cells #[.int .i64 65536, tv'] 209 (0, 0)))
    (hr : Row w' 165 1 lv m ((ptrs m l).set i (.pointer (some ⟨c, 0, none⟩)))) (htr : Row w' 2 1 tv' (l.length + 1) ((l.map fun b => Value.int .i64 b.1).reverse ++ [.int .i64 i])) (ho : tv'.ownBlock = tv.ownBlock ∨ ∀ k, tv'.ownBlock = some k → w.heap.size ≤ k ∧ k ≠ c)
    (hcb : w.heap[c]? = some (.cells #[.int .i64 x.kind, .int .i64 x.n, .string x.name, .slice x.at_.1 x.args.length x.at_.2] 27 (0, 0))) (hcn : ¬ ownK bb sb lv tv c) (hx : x.In p w) : BI p bb sb lv tv' m (((i : Int), c, x) :: l) w' := by
  obtain ⟨n1, n2, n3, n4, n5, n6⟩ := h.ne
  have hbl := (Array.getElem?_eq_some_iff.1 h.b).1
  have hsl := (Array.getElem?_eq_some_iff.1 h.s).1
  have hown : ∀ k, k < w.heap.size → ownK bb sb lv tv' k → ownK bb sb lv tv k := by
    rintro k hk (rfl | rfl | hq | hq)
    · exact .inl rfl
    · exact .inr (.inl rfl)
    · exact .inr (.inr (.inl hq))
    · rcases ho with ho | ho
      · exact .inr (.inr (.inr (ho ▸ hq)))
      · have := (ho k hq).1; omega
  have htv : ∀ q, q < w.heap.size → tv.ownBlock ≠ some q → tv'.ownBlock ≠ some q := fun q hq hne e => by
    rcases ho with ho | ho
    · exact hne (ho ▸ e)
    · have := (ho q e).1; omega
  have keep : ∀ x : LT, ∀ c, w.heap[c]? = some (.cells #[.int .i64 x.kind, .int .i64 x.n, .string x.name, .slice x.at_.1 x.args.length x.at_.2] 27 (0, 0)) → x.In p w → ¬ ownK bb sb lv tv c →
      w'.heap[c]? = some (.cells #[.int .i64 x.kind, .int .i64 x.n, .string x.name, .slice x.at_.1 x.args.length x.at_.2] 27 (0, 0)) ∧ x.In p w' ∧ ¬ ownK bb sb lv tv' c := by
    intro x c t1 t2 t3
    exact ⟨(ht.block _ (Array.getElem?_eq_some_iff.1 t1).1 (fun e => t3 (.inr e))).trans t1, LT.In.turned ht (fun k hk hq e => (h.sep k hq).2 (.inr e)) (fun k hk hq => hq) _ t2, fun e => t3 (hown _ (Array.getElem?_eq_some_iff.1 t1).1 e)⟩
  refine ⟨(ht.block _ hbl (fun e => e.elim n1 (fun e => e.elim n2 n4))).trans h.b, hs, ?_, ?_, fun b hb => ?_, Tm.setE_ok h.ok hok, h.most, ⟨n1, n2, n3, htv _ hbl n4, htv _ hsl n5, fun k hk => htv k (h.row.lt k hk) (n6 k hk)⟩, fun k hk => ⟨Nat.lt_of_lt_of_le (h.sep k hk).1 ht.size, fun c => (h.sep k hk).2 (hown k (h.sep k hk).1 c)⟩⟩
  · rw [← ptrs_set (x := x) hi]; exact hr
  · rw [List.map_cons, List.reverse_cons, List.length_cons]; exact htr
  · rcases List.mem_cons.1 hb with rfl | hb
    · exact keep x c hcb hx hcn
    · obtain ⟨t1, t2, t3⟩ := h.terms b hb
      exact keep _ _ t1 t2 t3
end
end Go.Proofs.Ytoihjobdfjajfaa

/- bind.New, given, Own; stack.New. -/
namespace Go.Proofs.Ytoihjobdfjajfaa
set_option linter.unusedVariables false
set_option linter.unusedSimpArgs false
open Go.RowKit Go.Maps
set_option maxHeartbeats 400000 in
theorem newStk142 (w : World) :
    Calls Try.prog 142 #[.int .i64 65536] w fun e w' => e = .returned (.pointer (some ⟨w.heap.size, 0, none⟩)) ∧ w' = w.alloc (.cells #[.int .i64 65536, .slice none 0 0] 209) := by
  go_enter Try.func142, Try.ntmps142
  go_wp2_with fail
  go_ret
  all_goals first | exact ⟨rfl, rfl⟩ | (refine ⟨rfl, ?_⟩; congr 5; omega)
set_option maxHeartbeats 400000 in
theorem new86 (w : World) :
    Calls Try.prog 86 #[] w fun e w' => e = .returned (.pointer (some ⟨w.heap.size + 1, 0, none⟩)) ∧ w' = (w.alloc (.cells #[.int .i64 65536, .slice none 0 0] 209)).alloc (.cells #[.slice none 0 0, .pointer (some ⟨w.heap.size, 0, none⟩)] 163) := by
  go_enter Try.func86, Try.ntmps86
  go_wp2_with (go_at_call 142; (with_reducible refine (newStk142 _).mono ?_); rintro e w3 ⟨rfl, rfl⟩)
  go_ret
  exact ⟨rfl, rfl⟩
theorem BI.new {p : Nat → Prop} (w : World) (hp : ∀ k, p k → k < w.heap.size) :
    BI p (w.heap.size + 1) w.heap.size (.slice none 0 0) (.slice none 0 0) 0 [] ((w.alloc (.cells #[.int .i64 65536, .slice none 0 0] 209)).alloc (.cells #[.slice none 0 0, .pointer (some ⟨w.heap.size, 0, none⟩)] 163)) := by
  have h1 := heap_alloc2_new w (.cells #[.int .i64 65536, .slice none 0 0] 209) (.cells #[.slice none 0 0, .pointer (some ⟨w.heap.size, 0, none⟩)] 163)
  have h2 := heap_alloc2_old w (.cells #[.int .i64 65536, .slice none 0 0] 209) (.cells #[.slice none 0 0, .pointer (some ⟨w.heap.size, 0, none⟩)] 163)
  refine ⟨h1, h2, Row.nil _ _ _, Row.nil _ _ _, fun b hb => (by cases hb), trivial, by omega, ⟨by omega, by simp [Value.ownBlock], by simp [Value.ownBlock], by simp [Value.ownBlock], by simp [Value.ownBlock], by simp [Value.ownBlock]⟩, fun k hk => ⟨by have := hp k hk; simp; omega, ?_⟩⟩
  rintro (e | e | e | e)
  · have := hp k hk; omega
  · have := hp k hk; omega
  · simp [Value.ownBlock] at e
  · simp [Value.ownBlock] at e
/-- New binds. -/
theorem newB86 {p : Nat → Prop} (w : World) (hp : ∀ k, p k → k < w.heap.size) :
    Calls Try.prog 86 #[] w fun e w' => e = .returned (.pointer (some ⟨w.heap.size + 1, 0, none⟩)) ∧ BI p (w.heap.size + 1) w.heap.size (.slice none 0 0) (.slice none 0 0) 0 [] w' ∧ Turned (fun _ => False) w w' :=
  (new86 w).mono fun e w' ⟨h1, h2⟩ => ⟨h1, by rw [h2]; exact BI.new w hp, by rw [h2]; exact ((Turned.refl _ w).alloc _).alloc _⟩
section
variable {p : Nat → Prop} {bb sb m : Nat} {lv tv : Value} {l : TL} {w w' : World}
theorem rec2b {w : World} {bb : Nat} {x y : Value} {T : TypeId} (h : w.heap[bb]? = some (.cells #[x, y] T (0, 0))) :
    w.cell? ⟨bb, 0, none⟩ = some x ∧ w.cell? ⟨bb, 1, none⟩ = some y ∧ w.frozen? ⟨bb, 0, none⟩ = false ∧ w.frozen? ⟨bb, 1, none⟩ = false :=
  ⟨by rw [cell_of_row w bb 0 _ T (0, 0) h]; rfl, by rw [cell_of_row w bb 1 _ T (0, 0) h]; rfl, frozen_of_row w bb 0 _ T h, frozen_of_row w bb 1 _ T h⟩
set_option maxHeartbeats 800000 in
theorem given143q (h : BI p bb sb lv tv m l w) (n : Int) :
    Calls Try.prog 143 #[.pointer (some ⟨bb, 0, none⟩), .int .i64 n] w fun e w' => e = .returned (.bool (decide (0 ≤ n ∧ n < (m : Int)))) ∧ w' = w := by
  obtain ⟨a, c, rfl⟩ := h.row.shape
  obtain ⟨c0, c1, _⟩ := rec2b h.b
  have hm := h.row.max
  clear h
  by_cases h0 : 0 ≤ n
  · have d0 : decide (0 ≤ n) = true := decide_eq_true h0
    by_cases h1 : n < (m : Int)
    · have d1 : decide (n < (m : Int)) = true := decide_eq_true h1
      rw [decide_eq_true (⟨h0, h1⟩ : 0 ≤ n ∧ n < (m : Int))]
      go_enter Try.func143, Try.ntmps143
      go_wp2_with fail
      go_ret
      exact ⟨rfl, rfl⟩
    · have d1 : decide (n < (m : Int)) = false := decide_eq_false h1
      rw [decide_eq_false (fun c => h1 c.2 : ¬ (0 ≤ n ∧ n < (m : Int)))]
      go_enter Try.func143, Try.ntmps143
      go_wp2_with fail
      go_ret
      exact ⟨rfl, rfl⟩
  · have d0 : decide (0 ≤ n) = false := decide_eq_false h0
    rw [decide_eq_false (fun c => h0 c.1 : ¬ (0 ≤ n ∧ n < (m : Int)))]
    go_enter Try.func143, Try.ntmps143
    go_wp2_with fail
    go_ret
    exact ⟨rfl, rfl⟩
theorem given143 (h : BI p bb sb lv tv m l w) (n : Int) :
    Calls Try.prog 143 #[.pointer (some ⟨bb, 0, none⟩), .int .i64 n] w fun e w' => e = .returned (.bool (decide (0 ≤ n ∧ n < (m : Int)))) ∧ Turned (fun _ => False) w w' :=
  (given143q h n).mono fun e w' ⟨h1, h2⟩ => ⟨h1, by rw [h2]; exact Turned.refl _ _⟩
def OwnL (vs : List Int) (m : Nat) (w1 : World) (q : Nat) (i : Value) (wr : World) : Prop := ∃ j : Nat, Hid (j + q = vs.length) ∧ j ≤ vs.length ∧ i = .int .i64 j ∧ Hid ((vs.take j).all (fun v => decide (v < (m : Int))) = true) ∧ Turned (fun _ => False) w1 wr
set_option maxRecDepth 100000 in
set_option maxHeartbeats 1600000 in
theorem own144 {p0 : Nat → Prop} {t : LT} (h : BI p bb sb lv tv m l w) (ht : t.In p0 w) (hs : slim t) :
    Calls Try.prog 144 #[.pointer (some ⟨bb, 0, none⟩), t.val] w fun e w' => e = .returned (.bool (Tm.ownB m t)) ∧ Turned (fun _ => False) w w' := by
  obtain ⟨bx, hbx⟩ : ∃ bx : Obj, bx = .cells #[.int .i64 t.kind, .int .i64 t.n, .string t.name, .slice t.at_.1 t.args.length t.at_.2] 27 := ⟨_, rfl⟩
  have T1 := (Turned.refl (fun _ => False) w).alloc bx
  have hc : ∀ W, Turned (fun _ => False) (w.alloc bx) W → W.heap[w.heap.size]? = some bx := fun W hW => (hW.block _ (by simp) (fun f => f)).trans (heap_alloc_new w bx)
  have hgo := good38 (ht.turned0 T1) hs
  have hvs := fun W (hW : Turned (fun _ => False) w W) => vars34 (ht.turned0 hW) hs
  rw [LT.val_eq t] at hgo hvs ⊢
  have HB := Lib.hid h
  have hmm := h.most
  subst hbx
  have HC := Lib.hid hc
  have HT := Lib.hid T1
  clear h hc T1 ht hs
  cases hg : goodB t with
  | false =>
    have e1 : Tm.ownB m t = false := by unfold Tm.ownB; rw [hg]; rfl
    rw [e1]
    rw [hg] at hgo
    have HGO := Lib.hid hgo
    clear hgo hvs hg e1
    go_enter Try.func144, Try.ntmps144
    go_wp2_with (go_at_call 38; (with_reducible refine HGO.out.mono ?_); rintro e w3 ⟨rfl, T3⟩)
    go_ret
    exact ⟨rfl, HT.out.trans T3⟩
  | true =>
    have ev : varsB t = t.vars := by unfold varsB; rw [if_pos hg]
    have e1 : Tm.ownB m t = t.vars.all (fun v => decide (v < (m : Int))) := by unfold Tm.ownB; rw [hg]; rfl
    rw [e1]
    rw [hg] at hgo
    rw [ev] at hvs
    have hnn := good_nums hg
    obtain ⟨vs, hv⟩ : ∃ z, z = t.vars := ⟨_, rfl⟩
    rw [← hv] at hvs hnn ⊢
    have HGO := Lib.hid hgo
    have HVS := Lib.hid hvs
    have HNN := Lib.hid hnn
    clear hgo hvs hnn hg ev e1 hv
    go_enter Try.func144, Try.ntmps144
    go_wp2_with (first
      | (go_at_call 38; (with_reducible refine HGO.out.mono ?_); rintro e w3 ⟨rfl, T3⟩; obtain ⟨c0, c1, c2, c3, _⟩ := cells4 (HC.out _ T3))
      | (go_at_call 34; (with_reducible refine (HVS.out _ (HT.out.trans T3)).mono ?_); rintro e w4 ⟨v, rfl, hrow, hown, T4⟩; obtain ⟨va, vc, rfl⟩ := hrow.shape; have hmx := hrow.max; have TT := HT.out.trans (T3.trans T4); have HROW := Lib.hid hrow; clear hrow hown))
    have HTT := Lib.hid TT
    clear TT c0 c1 c2 c3 T3 T4 HGO HVS HC HT
    go_loopg [13] vs.length (fun q i wr => OwnL vs m w4 q i wr)
    case atStart => exact ⟨0, Nat.zero_add _, Nat.zero_le _, rfl, rfl, Turned.refl _ _⟩
    case round =>
      obtain ⟨j, HG, hj, rfl, HA, hT⟩ := hrel
      by_cases hjl : j < vs.length
      · obtain ⟨x, hx⟩ : ∃ x, vs[j]? = some x := ⟨_, List.getElem?_eq_getElem hjl⟩
        have hrw := HROW.out.turned0 hT
        obtain ⟨gv, cap, he⟩ := hrw.shape_pos (by omega)
        injection he with q1 _ q3
        subst q1 q3
        have hcv := hrw.cells rfl j (.int .i64 x) (by rw [List.getElem?_map, hx]; rfl)
        have hx0 := (HNN.out x (List.mem_of_getElem? hx)).1
        have hgv := given143 (HB.out.turned0 (HTT.out.trans hT)) x
        have HX := Lib.hid hx
        by_cases hxm : x < (m : Int)
        · rw [decide_eq_true (⟨hx0, hxm⟩ : 0 ≤ x ∧ x < (m : Int))] at hgv
          have HGV := Lib.hid hgv
          have hst : (vs.take (j + 1)).all (fun v => decide (v < (m : Int))) = true := by rw [all_snoc _ _ _ x hx, HA.out, decide_eq_true hxm]; rfl
          have HST := Lib.hid hst
          clear hx hrw hgv hst hxm hx0
          go_wp2_with (go_at_call 143; (with_reducible refine HGV.out.mono ?_); rintro e w5 ⟨rfl, T5⟩)
          go_roundg (gk - 1)
          case measure => have := HG.out; omega
          case rel => exact ⟨j + 1, show _ = _ by have := HG.out; omega, by omega, by go_num, HST.out, hT.trans T5⟩
        · rw [decide_eq_false (fun c => hxm c.2 : ¬ (0 ≤ x ∧ x < (m : Int)))] at hgv
          have HGV := Lib.hid hgv
          have hno : vs.all (fun v => decide (v < (m : Int))) = false := all_no _ _ j x hx (decide_eq_false hxm)
          have HNO := Lib.hid hno
          clear hx hrw hgv hno hxm hx0
          go_wp2_with (go_at_call 143; (with_reducible refine HGV.out.mono ?_); rintro e w5 ⟨rfl, T5⟩)
          go_ret
          exact ⟨by rw [HNO.out]; rfl, HTT.out.trans (hT.trans T5)⟩
      · obtain rfl : j = vs.length := by omega
        have ha := HA.out
        rw [List.take_length] at ha
        have HA' := Lib.hid ha
        clear ha
        go_wp2_with fail
        go_ret
        exact ⟨by rw [HA'.out]; rfl, HTT.out.trans hT⟩
end
end Go.Proofs.Ytoihjobdfjajfaa

/- bind.Fresh. -/
namespace Go.Proofs.Ytoihjobdfjajfaa
set_option linter.unusedVariables false
set_option linter.unusedSimpArgs false
open Go.RowKit Go.Maps
theorem infoP : (Try.prog.info? 165).map (fun i => (i.zero, i.size, i.bytes)) = some (some (.pointer none), 1, 8) := by kernel_rfl
theorem rec2_set0 {w : World} {bb : Nat} {x y : Value} {T : TypeId} (h : w.heap[bb]? = some (.cells #[x, y] T (0, 0))) (u : Value) :
    (w.setCell ⟨bb, 0, none⟩ u).heap[bb]? = some (.cells #[u, y] T (0, 0)) := by
  have := heap_setCell_same w bb 0 _ T u h
  simpa using this
theorem rec2_set1 {w : World} {bb : Nat} {x y : Value} {T : TypeId} (h : w.heap[bb]? = some (.cells #[x, y] T (0, 0))) (u : Value) :
    (w.setCell ⟨bb, 1, none⟩ u).heap[bb]? = some (.cells #[x, u] T (0, 0)) := by
  have := heap_setCell_same w bb 1 _ T u h
  simpa using this
theorem turned_store4 (W : World) (g : Nat) (c0 c1 c2 c3 : Value) : Turned (fun k => k = g) W ((((W.setCell ⟨g, 0, none⟩ c0).setCell ⟨g, 1, none⟩ c1).setCell ⟨g, 2, none⟩ c2).setCell ⟨g, 3, none⟩ c3) :=
  ((((Turned.refl (fun k => k = g) W).setCell (p := ⟨g, 0, none⟩) (.inr rfl) _).setCell (p := ⟨g, 1, none⟩) (.inr rfl) _).setCell (p := ⟨g, 2, none⟩) (.inr rfl) _).setCell (p := ⟨g, 3, none⟩) (.inr rfl) _
section
variable {p : Nat → Prop} {bb sb m : Nat} {lv tv : Value} {l : TL} {w w' : World}
set_option maxRecDepth 100000 in
set_option maxHeartbeats 1600000 in
theorem fresh87 (h : BI p bb sb lv tv m l w) (hm : m < 65536) :
    Calls Try.prog 87 #[.pointer (some ⟨bb, 0, none⟩)] w fun e w' => e = .returned (.tuple #[.agg #[.int .i64 0, .int .i64 (m : Int), .string ByteArray.empty, .slice none 0 0], .bool true]) ∧ (∃ lv', BI p bb sb lv' tv (m + 1) l w' ∧ (lv'.ownBlock = lv.ownBlock ∨ ∀ k, lv'.ownBlock = some k → w.heap.size ≤ k)) ∧ Turned (fun k => k = bb ∨ lv.ownBlock = some k) w w' := by
  obtain ⟨i0, hi0, hz0, hz1, hz2⟩ := info_parts infoP
  obtain ⟨a, c, rfl⟩ := h.row.shape
  have hmx := h.row.max
  have hm2 : decide (65536 ≤ (m : Int)) = false := decide_eq_false (by omega)
  have h2 := twoBox w (.cells #[.int .i64 0, .int .i64 0, .string ⟨#[]⟩, .slice none 0 0] 27) (.cells #[.pointer none] 165)
  have hb2 := (h2.1.block _ (Array.getElem?_eq_some_iff.1 h.b).1 (fun f => f)).trans h.b
  have hb1 := (((Turned.refl (fun _ => False) w).alloc (.cells #[.int .i64 0, .int .i64 0, .string ⟨#[]⟩, .slice none 0 0] 27)).block _ (Array.getElem?_eq_some_iff.1 h.b).1 (fun f => f)).trans h.b
  have hrw := h.row.turned0 h2.1
  have hnb := news_block (cs := [.pointer none]) h2.2.2.2
  have hbl := (Array.getElem?_eq_some_iff.1 h.b).1
  have hown : Hid (∀ k, (k = bb ∨ (Value.slice a m c).ownBlock = some k) → k < w.heap.size) := fun k hk => h.own_lt k (hk.elim .inl (fun e => .inr (.inr (.inl e))))
  have H := Lib.hid h
  have H2 := Lib.hid h2
  obtain ⟨c0, c1, _⟩ := rec2b hb1
  obtain ⟨d0, d1, _⟩ := rec2b hb2
  have HRW := Lib.hid hrw
  have HNB := Lib.hid hnb
  have HB2 := Lib.hid hb2
  clear h h2 hrw hnb hb2 hb1
  go_enter Try.func87, Try.ntmps87
  go_wp2_with (first
    | (at_builtin; refine append_some _ rfl _ _ 161 rfl 165 i0 (.pointer none) 1 8 Try.underlying161 hi0 hz0 hz1 hz2 rfl (by decide) _ _ _ rfl HRW.out ⟨w.heap.size + 1, 0, none⟩ 1 1 [.pointer none] rfl rfl HNB.out (by simp [Value.oneCell']) (by omega) (by unfold maxLen; omega) (by omega) ?_; intro g cap w3 hrow3 T3 hg3; have hb3 := (T3.block bb (by have := H2.out.2.1; omega) H.out.ne.2.1).trans HB2.out; obtain ⟨e0, e1, f0, f1⟩ := rec2b hb3; have HROW := Lib.hid hrow3; have HB4 := Lib.hid (rec2_set0 hb3 (.slice (some ⟨g, 0, none⟩) (m + 1) cap)); have HG3 : Hid (some g = (Value.slice a m c).ownBlock ∨ w.heap.size + 2 ≤ g) := hg3.elim .inl (fun e => .inr (by rw [e]; exact Nat.le_of_eq H2.out.2.1.symm)); have HT4 := Lib.hid ((T3.mono (fun k _ e => Or.inr e) : Turned (fun k => k = bb ∨ (Value.slice a m c).ownBlock = some k) _ w3).setCell (p := ⟨bb, 0, none⟩) (.inr (.inl rfl)) (.slice (some ⟨g, 0, none⟩) (m + 1) cap)); clear hrow3 hb3 hg3 c0 c1 d0 d1 T3)
    | (go_at_call 62; (with_reducible refine (varE (m : Int) (by unfold I64; omega) _).mono ?_); rintro e w5 ⟨rfl, T5⟩; have hx5 := (T5.block w.heap.size (by have := HT4.out.size; have := H2.out.2.1; omega) (fun f => f)).trans ((HT4.out.block w.heap.size (by have := H2.out.2.1; omega) (fun e => by have := hown.out _ e; omega)).trans H2.out.2.2.1); obtain ⟨_, _, _, _, g0, g1, g2, g3⟩ := cells4 hx5; have HX5 := Lib.hid hx5; clear hx5))
  have hset := set4 (a' := .int .i64 0) (b' := .int .i64 (m : Int)) (c' := .string ByteArray.empty) (d' := .slice none 0 0) HX5.out
  have Tq := turned_store4 w5 w.heap.size (.int .i64 0) (.int .i64 (m : Int)) (.string ByteArray.empty) (.slice none 0 0)
  have T15 : Turned (fun k => k = bb ∨ (Value.slice a m c).ownBlock = some k) w w5 := ((H2.out.1.mono (fun _ _ f => f.elim)).trans HT4.out).trans (T5.mono (fun _ _ f => f.elim))
  have T16 := T15.step Tq (fun i hi e => by omega)
  refine bodyPost_ret (results_cell_tmp1 Try.results87 _ _ w.heap.size 27 _ (0, 0) _ rfl hset Try.underlying27 rfl (by kernel_rfl)) rfl ⟨rfl, ⟨.slice (some ⟨g, 0, none⟩) (m + 1) cap, ?_, ?_⟩, T16⟩
  · have hgn : ∀ q, (Value.slice (some ⟨g, 0, none⟩) (m + 1) cap).ownBlock = some q → q ≠ bb ∧ q ≠ w.heap.size := fun q e => by
      simp [Value.ownBlock] at e
      subst e
      rcases HG3.out with e | e
      · exact ⟨fun c => H.out.ne.2.1 (by rw [← e, c]), by have := hown.out g (.inr e.symm); omega⟩
      · omega
    refine H.out.fresh hm T16 ?_ ?_ ?_
    · have h5 := (T5.block bb (by have := HT4.out.size; have := H2.out.2.1; omega) (fun f => f)).trans HB4.out
      exact (Tq.block bb (Array.getElem?_eq_some_iff.1 h5).1 (by omega)).trans h5
    · have r4 := HROW.out.setCell (p := ⟨bb, 0, none⟩) (fun e => (hgn _ e).1 rfl) (.slice (some ⟨g, 0, none⟩) (m + 1) cap)
      exact (r4.turned0 T5).turned Tq (fun k hk e => (hgn k hk).2 e)
    · rcases HG3.out with e | e
      · exact .inl e
      · exact .inr (fun k hk => by simp [Value.ownBlock] at hk; omega)
  · rcases HG3.out with e | e
    · exact .inl e
    · exact .inr (fun k hk => by simp [Value.ownBlock] at hk; omega)
end
end Go.Proofs.Ytoihjobdfjajfaa

/- stack.Push of one, Mark, Len. -/
namespace Go.Proofs.Ytoihjobdfjajfaa
set_option linter.unusedVariables false
set_option linter.unusedSimpArgs false
open Go.RowKit Go.Maps
theorem infoN3 : (Try.prog.info? 2).map (fun i => (i.zero, i.size, i.bytes)) = some (some (.int .i64 0), 1, 8) := by kernel_rfl
set_option maxRecDepth 100000 in
set_option maxHeartbeats 1600000 in
theorem push146 {w : World} {sb n g0 : Nat} {tv : Value} {xs : List Value} {x : Int} (hs : w.heap[sb]? = some (.cells #[.int .i64 65536, tv] 209 (0, 0))) (hr : Row w 2 1 tv n xs) (hn : n < 65536) (hne : tv.ownBlock ≠ some sb) (h0 : w.heap[g0]? = some (.cells #[.int .i64 x] 2 (0, 0))) :
    Calls Try.prog 146 #[.pointer (some ⟨sb, 0, none⟩), .slice (some ⟨g0, 0, none⟩) 1 1] w fun e w' => e = .returned (.bool true) ∧ ∃ tv', w'.heap[sb]? = some (.cells #[.int .i64 65536, tv'] 209 (0, 0)) ∧ Row w' 2 1 tv' (n + 1) (xs ++ [.int .i64 x]) ∧ Turned (fun k => k = sb ∨ tv.ownBlock = some k) w w' ∧ (tv'.ownBlock = tv.ownBlock ∨ ∀ k, tv'.ownBlock = some k → w.heap.size ≤ k) := by
  obtain ⟨i0, hi0, hz0, hz1, hz2⟩ := info_parts infoN3
  obtain ⟨a, c, rfl⟩ := hr.shape
  have hmx := hr.max
  obtain ⟨c0, c1, f0, f1⟩ := rec2b hs
  have hnb := news_block (cs := [.int .i64 x]) h0
  have hsl := (Array.getElem?_eq_some_iff.1 hs).1
  have ht : ¬ ((65536 : Int) - (n : Int) < 1) := by omega
  have ht2 : (1 : Int) ≤ 65536 - (n : Int) := by omega
  have HS := Lib.hid hs
  have HR := Lib.hid hr
  have HNB := Lib.hid hnb
  have HNE := Lib.hid hne
  clear hs hr hnb hne h0
  go_enter Try.func146, Try.ntmps146
  go_wp2_with fail
  go_quiet (fail)
  go_wp2_with (at_builtin; refine append_some _ rfl _ _ 24 rfl 2 i0 (.int .i64 0) 1 8 Try.underlying24 hi0 hz0 hz1 hz2 rfl (by decide) _ _ _ rfl (HR.out.turned0 ((Turned.refl _ _).drewN _)) ⟨g0, 0, none⟩ 1 1 [.int .i64 x] rfl rfl HNB.out (by simp [Value.oneCell']) (by omega) (by unfold maxLen; omega) (by omega) ?_; intro g cap w3 hrow3 T3 hg3; have T3' : Turned (fun k => (Value.slice a n c).ownBlock = some k) w w3 := ((Turned.refl _ w).drewN _).trans T3; have hs3 := (T3'.block sb hsl HNE.out).trans HS.out; obtain ⟨e0, e1, k0, k1⟩ := rec2b hs3; have HS4 := Lib.hid (rec2_set1 hs3 (.slice (some ⟨g, 0, none⟩) (n + 1) cap)); have HROW := Lib.hid hrow3; have HT3 := Lib.hid T3'; have HG3 : Hid (some g = (Value.slice a n c).ownBlock ∨ w.heap.size ≤ g) := hg3.elim .inl (fun e => .inr (by rw [e]; exact Nat.le_refl _)); clear hs3 hrow3 T3 T3' hg3 c0 c1 f0 f1)
  go_ret
  refine ⟨rfl, .slice (some ⟨g, 0, none⟩) (n + 1) cap, HS4.out, HROW.out.setCell (p := ⟨sb, 1, none⟩) (fun e => ?_) _, (HT3.out.mono (fun k _ e => Or.inr e) : Turned (fun k => k = sb ∨ (Value.slice a n c).ownBlock = some k) w w3).setCell (p := ⟨sb, 1, none⟩) (.inr (.inl rfl)) _, ?_⟩
  · simp [Value.ownBlock] at e
    subst e
    rcases HG3.out with e | e
    · exact HNE.out e.symm
    · omega
  · rcases HG3.out with e | e
    · exact .inl e
    · exact .inr (fun k hk => by simp [Value.ownBlock] at hk; omega)
set_option maxHeartbeats 400000 in
theorem markS154 {w : World} {sb n : Nat} {tv : Value} {xs : List Value} (hs : w.heap[sb]? = some (.cells #[.int .i64 65536, tv] 209 (0, 0))) (hr : Row w 2 1 tv n xs) :
    Calls Try.prog 154 #[.pointer (some ⟨sb, 0, none⟩)] w fun e w' => e = .returned (.int .i64 n) ∧ w' = w := by
  obtain ⟨a, c, rfl⟩ := hr.shape
  obtain ⟨c0, c1, f0, f1⟩ := rec2b hs
  clear hs hr
  go_enter Try.func154, Try.ntmps154
  go_wp2_with fail
  go_ret
  exact ⟨rfl, rfl⟩
section
variable {p : Nat → Prop} {bb sb m : Nat} {lv tv : Value} {l : TL} {w w' : World}
set_option maxHeartbeats 400000 in
theorem mark111 (h : BI p bb sb lv tv m l w) : Calls Try.prog 111 #[.pointer (some ⟨bb, 0, none⟩)] w fun e w' => e = .returned (.int .i64 l.length) ∧ Turned (fun _ => False) w w' := by
  obtain ⟨c0, c1, f0, f1⟩ := rec2b h.b
  have hm := markS154 h.s h.trail
  have HM := Lib.hid hm
  clear h hm
  go_enter Try.func111, Try.ntmps111
  go_wp2_with (go_at_call 154; (with_reducible refine HM.out.mono ?_); rintro e w3 ⟨rfl, rfl⟩)
  go_ret
  exact ⟨rfl, Turned.refl _ _⟩
set_option maxHeartbeats 400000 in
theorem len107 (h : BI p bb sb lv tv m l w) : Calls Try.prog 107 #[.pointer (some ⟨bb, 0, none⟩)] w fun e w' => e = .returned (.int .i64 m) ∧ Turned (fun _ => False) w w' := by
  obtain ⟨a, c, rfl⟩ := h.row.shape
  obtain ⟨c0, c1, f0, f1⟩ := rec2b h.b
  clear h
  go_enter Try.func107, Try.ntmps107
  go_wp2_with fail
  go_ret
  exact ⟨rfl, Turned.refl _ _⟩
end
end Go.Proofs.Ytoihjobdfjajfaa

/- Plain: a variable looked for, at so many terms at the most; what Whole's answer is for the laws. No program in sight. -/
namespace Go.Proofs.Ytoihjobdfjajfaa
set_option linter.unusedVariables false
set_option linter.unusedSimpArgs false
namespace Tm
/-- Looked for a variable: whether it stands there, and how many were looked at. -/
def hasL (most : Nat) (n : Int) : Nat → List (Tm Unit) → Bool × Nat
  | c, [] => (false, c)
  | c, x :: l => if most < c + 1 ∨ (x.kind = 0 ∧ x.n = n) then (true, c + 1) else hasL most n (c + 1) l
theorem hasL_append (most : Nat) (n : Int) (a b : List (Tm Unit)) : ∀ c, hasL most n c (a ++ b) = if (hasL most n c a).1 = true then hasL most n c a else hasL most n (hasL most n c a).2 b := by
  induction a with
  | nil => intro c; simp [hasL]
  | cons x a ih =>
    intro c
    simp only [List.cons_append, hasL]
    split
    · rfl
    · exact ih (c + 1)
theorem hasL_le (most : Nat) (n : Int) (l : List (Tm Unit)) : ∀ c, c ≤ (hasL most n c l).2 ∧ (hasL most n c l).2 ≤ c + l.length := by
  induction l with
  | nil => intro c; exact ⟨Nat.le_refl _, Nat.le_refl _⟩
  | cons x l ih =>
    intro c
    simp only [hasL, List.length_cons]
    split
    · exact ⟨Nat.le_succ c, by simp only []; omega⟩
    · have := ih (c + 1); omega
theorem hasL_most (most : Nat) (n : Int) (l : List (Tm Unit)) : ∀ c, c ≤ most → (hasL most n c l).2 ≤ most + 1 := by
  induction l with
  | nil => intro c h; exact Nat.le_succ_of_le h
  | cons x l ih =>
    intro c h
    simp only [hasL]
    split
    · simp only []; omega
    · rename_i h1
      exact ih (c + 1) (by omega)
theorem hasL_in (most : Nat) (n : Int) (l : List (Tm Unit)) : ∀ c, (hasL most n c l).2 ≤ most → ((hasL most n c l).1 = true ↔ ∃ x ∈ l, x.kind = 0 ∧ x.n = n) := by
  induction l with
  | nil => intro c _; simp [hasL]
  | cons x l ih =>
    intro c h
    simp only [hasL] at h ⊢
    split
    · rename_i h1
      rw [if_pos h1] at h
      simp only [] at h
      rcases h1 with h1 | h1
      · omega
      · exact ⟨fun _ => ⟨x, List.mem_cons_self .., h1⟩, fun _ => rfl⟩
    · rename_i h1
      rw [if_neg h1] at h
      rw [ih (c + 1) h]
      constructor
      · rintro ⟨y, hy, h2⟩; exact ⟨y, List.mem_cons_of_mem _ hy, h2⟩
      · rintro ⟨y, hy, h2⟩
        rcases List.mem_cons.1 hy with rfl | hy
        · exact absurd (Or.inr h2) h1
        · exact ⟨y, hy, h2⟩
theorem hasL_vars {most : Nat} {n : Int} {t : Tm Unit} (h : (hasL most n 0 t.flat).2 ≤ most) : (hasL most n 0 t.flat).1 = decide (n ∈ t.vars) := by
  rw [Bool.eq_iff_iff, hasL_in most n t.flat 0 h, decide_eq_true_eq, vars_mem]
  rfl
/-- What is looked at, where a term was walked. -/
theorem Walked.flat_var {m : Nat} {l : Trail} {t x : Tm Unit} (hl : okT m l) (h : Walked m l t x) (hk : x.kind = 0) : (Tm.img l t).flat = [x] := by
  rw [h.var hl hk, flat_eq]
  have := leafy_self h.leafy hk
  rw [this]
  rfl
theorem Walked.flat_node {m : Nat} {l : Trail} {t x : Tm Unit} (hl : okT m l) (h : Walked m l t x) (hk : ¬ x.kind = 0) : (Tm.img l t).flat = Tm.img l x :: flats (x.args.map (Tm.img l)) ∧ ¬ (Tm.img l x).kind = 0 := by
  rw [← h.img, img_args hk]
  refine ⟨?_, hk⟩
  rw [flat_eq]
  rfl
theorem hasL_node {most c : Nat} {n : Int} {y : Tm Unit} {l : List (Tm Unit)} (hk : ¬ y.kind = 0) (hc : c < most) : hasL most n c (y :: l) = hasL most n (c + 1) l := by
  simp only [hasL]
  rw [if_neg]
  rintro (h | h)
  · omega
  · exact hk h.1
theorem hasL_stop {most c : Nat} {n : Int} {l : List (Tm Unit)} (hc : most ≤ c) (hl : l ≠ []) : hasL most n c l = (true, c + 1) := by
  cases l with
  | nil => exact absurd rfl hl
  | cons y l => simp only [hasL]; rw [if_pos (.inl (by omega))]
theorem hasL_hit {most c : Nat} {n : Int} {y : Tm Unit} {l : List (Tm Unit)} (hk : y.kind = 0) (hn : y.n = n) : hasL most n c (y :: l) = (true, c + 1) := by
  simp only [hasL]; rw [if_pos (.inr ⟨hk, hn⟩)]
theorem hasL_miss {most c : Nat} {n : Int} {y : Tm Unit} {l : List (Tm Unit)} (hn : ¬ (y.kind = 0 ∧ y.n = n)) (hc : c < most) : hasL most n c (y :: l) = hasL most n (c + 1) l := by
  simp only [hasL]; rw [if_neg]
  rintro (h | h)
  · omega
  · exact hn h
theorem okT_drop {m : Nat} : ∀ (k : Nat) {l : Trail}, okT m l → okT m (l.drop k)
  | 0, _, h => h
  | _ + 1, [], h => h
  | k + 1, _ :: l, h => okT_drop k h.1
/-- A variable that stands for nothing is walked to itself. -/
theorem Walked.of_free {m : Nat} {l : Trail} {v : Int} {x : Tm Unit} (hl : okT m l) (h : Walked m l (V v) x) (hv : v ∉ dom l) : x = V v := by
  have h1 : Tm.img l (V v) = V v := by rw [img_V, sig_free hl hv]
  by_cases hk : x.kind = 0
  · rw [← h.var hl hk, h1]
  · have h2 := h.img
    rw [h1, img_args hk] at h2
    exact absurd (congrArg Tm.kind h2) hk
theorem img_vars_free {m : Nat} {l : Trail} {t : Tm Unit} (hl : okT m l) (ht : ownB m t = true) {v : Int} (hv : v ∈ (img l t).vars) : v ∉ dom l :=
  img_nums hl (good_leafy (ownB_iff.1 ht).1) ((vars_mem v).1 hv)
end Tm
end Go.Proofs.Ytoihjobdfjajfaa

/- Plain: made alike: what is walked to, step by step; which substitutions do. No program in sight. -/
namespace Go.Proofs.Ytoihjobdfjajfaa
set_option linter.unusedVariables false
set_option linter.unusedSimpArgs false
namespace Tm
/-! ### Walked to -/
def walkF : Nat → Trail → Tm Unit → Tm Unit
  | 0, _, t => t
  | k + 1, l, t => if t.kind = 0 then (match look l t.n with | some p => walkF k l p | none => t) else t
open Classical in
noncomputable def walkG (l : Trail) (x : Tm Unit) : Nat := if x.kind = 0 then rk l x.n + 1 else 0
theorem walkG_lt {m : Nat} {l : Trail} (h : okT m l) {t p : Tm Unit} (hk : t.kind = 0) (hp : look l t.n = some p) : walkG l p < walkG l t := by
  unfold walkG
  rw [if_pos hk]
  split
  · rename_i h0
    have := rk_lt h hp (v := p.n) ⟨p, by rw [flat_eq]; exact List.mem_cons_self .., h0, rfl⟩
    omega
  · omega
theorem walkF_enough {m : Nat} {l : Trail} (h : okT m l) : ∀ (k k' : Nat) (t : Tm Unit), walkG l t ≤ k → walkG l t ≤ k' → walkF k l t = walkF k' l t := by
  intro k
  induction k with
  | zero =>
    intro k' t h1 _
    have hk : ¬ t.kind = 0 := fun c => by unfold walkG at h1; rw [if_pos c] at h1; omega
    cases k' with
    | zero => rfl
    | succ k' => simp only [walkF, if_neg hk]
  | succ k ih =>
    intro k' t h1 h2
    cases k' with
    | zero =>
      have hk : ¬ t.kind = 0 := fun c => by unfold walkG at h2; rw [if_pos c] at h2; omega
      simp only [walkF, if_neg hk]
    | succ k' =>
      simp only [walkF]
      split
      · rename_i hk
        cases hp : look l t.n with
        | none => rfl
        | some p =>
          have := walkG_lt h hk hp
          exact ih k' p (by omega) (by omega)
      · rfl
/-- What a term is walked to. -/
noncomputable def walkT (l : Trail) (t : Tm Unit) : Tm Unit := walkF (walkG l t) l t
theorem walkT_step {m : Nat} {l : Trail} (h : okT m l) {t p : Tm Unit} (hk : t.kind = 0) (hp : look l t.n = some p) : walkT l t = walkT l p := by
  have h1 := walkG_lt h hk hp
  obtain ⟨k, hk'⟩ : ∃ k, walkG l t = k + 1 := ⟨walkG l t - 1, by omega⟩
  unfold walkT
  rw [hk']
  simp only [walkF, if_pos hk, hp]
  exact walkF_enough h _ _ _ (by omega) (Nat.le_refl _)
theorem walkT_stop {l : Trail} {t : Tm Unit} (h : t.kind = 0 → look l t.n = none) : walkT l t = t := by
  unfold walkT
  cases walkG l t with
  | zero => rfl
  | succ k =>
    simp only [walkF]
    split
    · rename_i hk
      rw [h hk]
    · rfl
theorem walked {m : Nat} {l : Trail} (h : okT m l) : ∀ (k : Nat) (t : Tm Unit), walkG l t ≤ k → (∀ y ∈ t.flat, goodOneB y = true) → Walked m l t (walkT l t) := by
  intro k
  induction k with
  | zero =>
    intro t hk ht
    have hk : ¬ t.kind = 0 := fun c => by unfold walkG at hk; rw [if_pos c] at hk; omega
    rw [walkT_stop (fun c => absurd c hk)]
    exact Walked.self ht (fun c => absurd c hk)
  | succ k ih =>
    intro t hk ht
    by_cases h0 : t.kind = 0
    · cases hp : look l t.n with
      | none =>
        rw [walkT_stop (fun _ => hp)]
        exact Walked.self ht (fun _ => look_none.1 hp)
      | some p =>
        rw [walkT_step h h0 hp]
        have h1 := walkG_lt h h0 hp
        exact Walked.step h (leafy_good ht) h0 hp (ih p (by omega) (good_ones' (okT_mem h (look_mem hp)).2.2.1))
    · rw [walkT_stop (fun c => absurd c h0)]
      exact Walked.self ht (fun c => absurd c h0)
theorem ownB_arg {m : Nat} {t x : Tm Unit} (h : ownB m t = true) (hk : ¬ t.kind = 0) (hx : x ∈ t.args) : ownB m x = true := by
  obtain ⟨h1, h2⟩ := ownB_iff.1 h
  refine ownB_iff.2 ⟨?_, fun v hv => h2 v ((numsIn_args hk).2 ⟨x, hx, hv⟩)⟩
  unfold goodB at h1 ⊢
  simp only [Bool.and_eq_true, decide_eq_true_eq, List.all_eq_true] at h1 ⊢
  have hxf : ∀ y ∈ x.flat, y ∈ t.flat := fun y hy => by rw [flat_eq]; exact List.mem_cons_of_mem _ (mem_flats_iff.2 ⟨x, hx, hy⟩)
  refine ⟨?_, ?_, fun y hy => h1.2.2 y (hxf y hy)⟩
  · have := mem_flat_size t x (hxf x (by rw [flat_eq]; exact List.mem_cons_self ..)); omega
  · have := depths_mem hx; have := depth_eq t; omega
theorem walkT_own {m : Nat} {l : Trail} (h : okT m l) : ∀ (k : Nat) (t : Tm Unit), walkG l t ≤ k → ownB m t = true → ownB m (walkT l t) = true := by
  intro k
  induction k with
  | zero =>
    intro t hk ht
    have hk : ¬ t.kind = 0 := fun c => by unfold walkG at hk; rw [if_pos c] at hk; omega
    rw [walkT_stop (fun c => absurd c hk)]
    exact ht
  | succ k ih =>
    intro t hk ht
    by_cases h0 : t.kind = 0
    · cases hp : look l t.n with
      | none => rw [walkT_stop (fun _ => hp)]; exact ht
      | some p =>
        rw [walkT_step h h0 hp]
        have h1 := walkG_lt h h0 hp
        have h2 := okT_mem h (look_mem hp)
        exact ih p (by omega) (ownB_iff.2 ⟨h2.2.2.1, h2.2.2.2⟩)
    · rw [walkT_stop (fun c => absurd c h0)]; exact ht

/-! ### Which substitutions do -/
/-- A substitution under which each that was set is what it was set to. -/
def solves (θ : Int → Tm Unit) (l : Trail) : Prop := ∀ b ∈ l, θ b.1 = subT θ b.2
theorem solves_cons {θ : Int → Tm Unit} {b : Int × Tm Unit} {l : Trail} : solves θ (b :: l) ↔ θ b.1 = subT θ b.2 ∧ solves θ l := by
  unfold solves
  constructor
  · intro h; exact ⟨h b (List.mem_cons_self ..), fun c hc => h c (List.mem_cons_of_mem _ hc)⟩
  · rintro ⟨h1, h2⟩ c hc
    rcases List.mem_cons.1 hc with rfl | hc
    · exact h1
    · exact h2 c hc
theorem subT_V1 (θ : Int → Tm Unit) (i : Int) : subT θ (V i) = θ i := by simp only [V, subT, if_pos]
theorem solves_sig {θ : Int → Tm Unit} {l : Trail} (h : solves θ l) (i : Int) : subT θ (sig l i) = θ i := by
  induction l generalizing i with
  | nil => exact subT_V1 θ i
  | cons b l ih =>
    obtain ⟨h1, h2⟩ := solves_cons.1 h
    simp only [sig]
    rw [subT_subT, subT_congr (τ := θ) _ (fun x _ _ => ?_), ih h2]
    unfold put
    split
    · rename_i e
      rw [subT_subT, subT_congr (τ := θ) _ (fun x _ _ => ih h2 _), e, h1]
    · exact subT_V1 θ _
theorem solves_img {θ : Int → Tm Unit} {l : Trail} (h : solves θ l) (t : Tm Unit) : subT θ (img l t) = subT θ t := by
  unfold img
  rw [subT_subT]
  exact subT_congr t (fun x _ _ => solves_sig h _)
theorem look_of_mem {m : Nat} {l : Trail} (h : okT m l) {b : Int × Tm Unit} (hb : b ∈ l) : look l b.1 = some b.2 := by
  induction l with
  | nil => cases hb
  | cons c l ih =>
    simp only [look]
    rcases List.mem_cons.1 hb with rfl | hb
    · rw [if_pos rfl]
    · rw [if_neg (fun e => h.2.2.2.1 (by rw [e]; exact List.mem_map.2 ⟨b, hb, rfl⟩)), ih h.1 hb]
theorem sig_solves {m : Nat} {l : Trail} (h : okT m l) : solves (sig l) l := fun b hb => sig_look h (look_of_mem h hb)
theorem solves_walk {m : Nat} {l : Trail} (h : okT m l) {θ : Int → Tm Unit} (hs : solves θ l) {t : Tm Unit} (ht : ∀ y ∈ t.flat, goodOneB y = true) : subT θ (walkT l t) = subT θ t := by
  have hw := walked h _ t (Nat.le_refl _) ht
  rw [← solves_img hs (walkT l t), hw.img, solves_img hs]
/-- A variable within a term that is none is no longer than it. -/
theorem size_within (θ : Int → Tm Unit) {t : Tm Unit} (ht : leafy t) (hk : ¬ t.kind = 0) {n : Int} (hn : numsIn t n) : (θ n).size < (subT θ t).size := by
  cases t with | mk k i s e aa =>
  simp only [kind] at hk
  have h1 := (numsIn_mk hk).1 hn
  have h2 := subTs_mem θ n aa h1 (fun x hx => ht x (by rw [flat_eq]; exact List.mem_cons_of_mem _ hx))
  have h3 := mem_flats_size _ _ h2
  simp only [subT, if_neg hk, size]
  omega

/-! ### Pair by pair -/
inductive UR where
  | ok (l : Trail) (left : Nat)
  | no (left : Nat)
  | over
inductive UStep where
  | more (ps : List (Tm Unit × Tm Unit))
  | done (r : UR)
/-- A variable is to stand for a term: left says how many more may be looked at. -/
def tieU (l : Trail) (left : Nat) (n : Int) (t : Tm Unit) : UR :=
  if left < (hasL left n 0 (img l t).flat).2 then .over
  else if (hasL left n 0 (img l t).flat).1 = true then .no (left - (hasL left n 0 (img l t).flat).2)
  else .ok ((n, t) :: l) (left - (hasL left n 0 (img l t).flat).2)
/-- Whether two that are no variables differ by themselves. -/
def headsB (x y : Tm Unit) : Bool := decide (x.kind = y.kind) && (decide (x.n = y.n) && (decide (x.name = y.name) && decide (x.args.length = y.args.length)))
theorem headsB_iff {x y : Tm Unit} : headsB x y = true ↔ x.kind = y.kind ∧ x.n = y.n ∧ x.name = y.name ∧ x.args.length = y.args.length := by
  unfold headsB; simp only [Bool.and_eq_true, decide_eq_true_eq]
/-- One pair, walked already. -/
def oneU (l : Trail) (left : Nat) (x y : Tm Unit) : UStep :=
  if x.kind = 0 then
    if y.kind = 0 then
      if x.n = y.n then .done (.ok l left) else .done (.ok ((max x.n y.n, V (min x.n y.n)) :: l) left)
    else .done (tieU l left x.n y)
  else if y.kind = 0 then .done (tieU l left y.n x)
  else if headsB x y = true then .more (x.args.zip y.args) else .done (.no left)
noncomputable def uni : Nat → Trail → Nat → List (Tm Unit × Tm Unit) → UR
  | 0, _, _, _ => .over
  | _ + 1, l, left, [] => .ok l left
  | k + 1, l, left, (x, y) :: r =>
    if left = 0 then .over else
    match oneU l (left - 1) (walkT l x) (walkT l y) with
    | .more ps => uni k l (left - 1) (ps ++ r)
    | .done (.ok l' left') => uni k l' left' r
    | .done (.no q) => .no q
    | .done .over => .over
theorem tieU_left {l l' : Trail} {left left' : Nat} {n : Int} {t : Tm Unit} (h : tieU l left n t = .ok l' left') : left' ≤ left ∧ l' = (n, t) :: l := by
  unfold tieU at h
  split at h
  · cases h
  · split at h
    · cases h
    · injection h with h1 h2; exact ⟨by omega, h1.symm⟩
theorem oneU_left {l l' : Trail} {left left' : Nat} {x y : Tm Unit} (h : oneU l left x y = .done (.ok l' left')) : left' ≤ left := by
  unfold oneU at h
  split at h
  · split at h
    · split at h
      · injection h with h; injection h with _ h2; omega
      · injection h with h; injection h with _ h2; omega
    · injection h with h; exact (tieU_left h).1
  · split at h
    · injection h with h; exact (tieU_left h).1
    · split at h
      · cases h
      · injection h with h; cases h
theorem oneU_pre {l l' : Trail} {left left' : Nat} {x y : Tm Unit} (h : oneU l left x y = .done (.ok l' left')) : ∃ a, l' = a ++ l := by
  unfold oneU at h
  split at h
  · split at h
    · split at h
      · injection h with h; injection h with h1 _; exact ⟨[], h1.symm⟩
      · injection h with h; injection h with h1 _; exact ⟨[_], h1.symm⟩
    · injection h with h; exact ⟨[_], (tieU_left h).2⟩
  · split at h
    · injection h with h; exact ⟨[_], (tieU_left h).2⟩
    · split at h
      · cases h
      · injection h with h; cases h
theorem oneU_more_len {m : Nat} {l : Trail} {left : Nat} {x y : Tm Unit} {ps : List (Tm Unit × Tm Unit)} (h : oneU l left x y = .more ps) (hx : ownB m x = true) : ps.length ≤ 8 := by
  unfold oneU at h
  split at h
  · split at h
    · split at h <;> cases h
    · cases h
  · split at h
    · cases h
    · split at h
      · injection h with h
        rw [← h, List.length_zip]
        by_cases ha : x.args = []
        · rw [ha]; simp
        · have := (one_args (good_ones' (ownB_iff.1 hx).1 x (by rw [flat_eq]; exact List.mem_cons_self ..)) ha).2.2
          omega
      · cases h
theorem uni_enough : ∀ (k k' : Nat) (l : Trail) (left : Nat) (todo : List (Tm Unit × Tm Unit)), left < k → left < k' → uni k l left todo = uni k' l left todo := by
  intro k
  induction k with
  | zero => intro k' l left todo h; omega
  | succ k ih =>
    intro k' l left todo h h'
    obtain ⟨k', rfl⟩ : ∃ q, k' = q + 1 := ⟨k' - 1, by omega⟩
    cases todo with
    | nil => rfl
    | cons p r =>
      obtain ⟨x, y⟩ := p
      simp only [uni]
      by_cases h0 : left = 0
      · rw [if_pos h0, if_pos h0]
      · rw [if_neg h0, if_neg h0]
        cases hs : oneU l (left - 1) (walkT l x) (walkT l y) with
        | more ps => exact ih k' _ _ _ (by omega) (by omega)
        | done u =>
          cases u with
          | ok l' left' =>
            have := oneU_left hs
            exact ih k' _ _ _ (by omega) (by omega)
          | no q => rfl
          | over => rfl
/-- Made alike, where so many may still be looked at. -/
noncomputable def unify (l : Trail) (left : Nat) (todo : List (Tm Unit × Tm Unit)) : UR := uni (left + 1) l left todo
theorem unify_nil (l : Trail) (left : Nat) : unify l left [] = .ok l left := rfl
theorem unify_zero (l : Trail) (p : Tm Unit × Tm Unit) (r : List (Tm Unit × Tm Unit)) : unify l 0 (p :: r) = .over := by
  obtain ⟨x, y⟩ := p
  unfold unify
  simp only [uni, if_pos]
theorem unify_more {l : Trail} {left : Nat} {x y : Tm Unit} {ps r : List (Tm Unit × Tm Unit)} (h : oneU l left (walkT l x) (walkT l y) = .more ps) : unify l (left + 1) ((x, y) :: r) = unify l left (ps ++ r) := by
  unfold unify
  rw [show left + 1 + 1 = (left + 1) + 1 from rfl]
  simp only [uni, Nat.add_one_ne_zero, if_false, Nat.add_sub_cancel, h]
theorem unify_ok {l l' : Trail} {left left' : Nat} {x y : Tm Unit} {r : List (Tm Unit × Tm Unit)} (h : oneU l left (walkT l x) (walkT l y) = .done (.ok l' left')) : unify l (left + 1) ((x, y) :: r) = unify l' left' r := by
  have h1 := oneU_left h
  unfold unify
  rw [show left + 1 + 1 = (left + 1) + 1 from rfl]
  simp only [uni, Nat.add_one_ne_zero, if_false, Nat.add_sub_cancel, h]
  exact uni_enough _ _ _ _ _ (by omega) (by omega)
theorem unify_no {l : Trail} {left q : Nat} {x y : Tm Unit} {r : List (Tm Unit × Tm Unit)} (h : oneU l left (walkT l x) (walkT l y) = .done (.no q)) : unify l (left + 1) ((x, y) :: r) = .no q := by
  unfold unify
  rw [show left + 1 + 1 = (left + 1) + 1 from rfl]
  simp only [uni, Nat.add_one_ne_zero, if_false, Nat.add_sub_cancel, h]
theorem unify_over {l : Trail} {left : Nat} {x y : Tm Unit} {r : List (Tm Unit × Tm Unit)} (h : oneU l left (walkT l x) (walkT l y) = .done .over) : unify l (left + 1) ((x, y) :: r) = .over := by
  unfold unify
  rw [show left + 1 + 1 = (left + 1) + 1 from rfl]
  simp only [uni, Nat.add_one_ne_zero, if_false, Nat.add_sub_cancel, h]

/-! ### Most general -/
def allEq (θ : Int → Tm Unit) (todo : List (Tm Unit × Tm Unit)) : Prop := ∀ p ∈ todo, subT θ p.1 = subT θ p.2
def ownP (m : Nat) (todo : List (Tm Unit × Tm Unit)) : Prop := ∀ p ∈ todo, ownB m p.1 = true ∧ ownB m p.2 = true
theorem ownB_var {m : Nat} {t : Tm Unit} (h : ownB m t = true) (hk : t.kind = 0) : 0 ≤ t.n ∧ t.n < (m : Int) ∧ t = V t.n := by
  obtain ⟨h1, h2⟩ := ownB_iff.1 h
  have h3 := good_ones' h1 t (by rw [flat_eq]; exact List.mem_cons_self ..)
  rw [goodOneB_0 t hk] at h3
  simp only [Bool.and_eq_true, decide_eq_true_eq] at h3
  exact ⟨h3.1, h2 _ ⟨t, by rw [flat_eq]; exact List.mem_cons_self .., hk, rfl⟩, leafy_self (good_leafy h1) hk⟩
theorem goodB_V {i : Int} (h0 : 0 ≤ i) (h1 : i ≤ 2147483647) : goodB (V i) = true := by
  unfold goodB
  rw [flat_V]
  simp only [Bool.and_eq_true, decide_eq_true_eq, List.all_eq_true, List.mem_cons, List.not_mem_nil, or_false]
  refine ⟨by simp [V, size, sizes], by simp [V, depth, depths], ?_⟩
  rintro x rfl
  rw [goodOneB_0 _ rfl]
  simp only [V, Tm.n, name, args, List.length_nil, Bool.and_eq_true, decide_eq_true_eq]
  refine ⟨decide_eq_true h0, decide_eq_true h1, ?_, ?_⟩
  · first | rfl | (exact decide_eq_true rfl) | simp
  · first | rfl | trivial | simp
theorem ownB_V {m : Nat} {i : Int} (h0 : 0 ≤ i) (h1 : i < (m : Int)) (hm : m ≤ 65536) : ownB m (V i) = true :=
  ownB_iff.2 ⟨goodB_V h0 (by omega), fun v hv => by rw [numsIn_V.1 hv]; exact h1⟩
def TieOk (m : Nat) (l : Trail) (n : Int) (t : Tm Unit) : UR → Prop
  | .ok l' _ => l' = (n, t) :: l ∧ okT m l' ∧ setE m l n t = 0
  | .no _ => ∀ θ, solves θ l → θ n ≠ subT θ t
  | .over => True
theorem tieU_spec {m : Nat} {l : Trail} (hl : okT m l) {left : Nat} {n : Int} {t : Tm Unit} (h0 : 0 ≤ n) (h1 : n < (m : Int)) (hn : n ∉ dom l) (ht : ownB m t = true) (hk : ¬ t.kind = 0) : TieOk m l n t (tieU l left n t) := by
  obtain ⟨g1, g2⟩ := ownB_iff.1 ht
  unfold tieU
  split
  · trivial
  · rename_i hle
    have hv := hasL_vars (most := left) (n := n) (t := img l t) (by omega)
    split
    · rename_i hh
      intro θ hs e
      rw [hv, decide_eq_true_eq] at hh
      have hi := (vars_mem n).1 hh
      have hki : ¬ (img l t).kind = 0 := by rw [img_args hk]; exact hk
      have := size_within θ (img_leafy hl (good_leafy g1)) hki hi
      rw [solves_img hs, ← e] at this
      omega
    · rename_i hh
      rw [hv, decide_eq_true_eq] at hh
      refine ⟨rfl, ⟨hl, h0, h1, hn, g1, g2, fun c => hh ((vars_mem n).2 c)⟩, ?_⟩
      unfold setE
      rw [if_pos ⟨h0, h1, ht⟩, if_neg hn, if_neg hh]
theorem ext_mk {x y : Tm Unit} (h1 : x.kind = y.kind) (h2 : x.n = y.n) (h3 : x.name = y.name) (h4 : x.args = y.args) : x = y := by
  cases x; cases y
  simp only [kind, Tm.n, name, args] at h1 h2 h3 h4
  subst h1 h2 h3 h4
  rfl
theorem subT_node (θ : Int → Tm Unit) {x : Tm Unit} (hk : ¬ x.kind = 0) : subT θ x = .mk x.kind x.n x.name () (x.args.map (subT θ)) := by
  cases x with | mk k n s e aa =>
  simp only [kind] at hk
  simp only [subT, if_neg hk, subTs_eq, kind, Tm.n, name, args]
theorem zip_all {f : Tm Unit → Tm Unit} : ∀ {a b : List (Tm Unit)}, a.length = b.length → ((∀ p ∈ a.zip b, f p.1 = f p.2) ↔ a.map f = b.map f)
  | [], [], _ => by simp
  | x :: a, y :: b, h => by
    have := zip_all (f := f) (a := a) (b := b) (by simpa using h)
    simp only [List.zip_cons_cons, List.mem_cons, forall_eq_or_imp, List.map_cons, List.cons.injEq, this]
def UniOk (m : Nat) (l : Trail) (left : Nat) (todo : List (Tm Unit × Tm Unit)) : UR → Prop
  | .ok l' left' => okT m l' ∧ (∃ a, l' = a ++ l) ∧ left' ≤ left ∧ ∀ θ, solves θ l' ↔ solves θ l ∧ allEq θ todo
  | .no _ => ∀ θ, solves θ l → ¬ allEq θ todo
  | .over => True
theorem unify_spec {m : Nat} (hm : m ≤ 65536) : ∀ (k : Nat) (l : Trail) (left : Nat) (todo : List (Tm Unit × Tm Unit)), okT m l → ownP m todo → ∀ r, uni k l left todo = r → UniOk m l left todo r := by
  intro k
  induction k with
  | zero => intro l left todo _ _ r h; subst h; trivial
  | succ k ih =>
    intro l left todo hl ho r h
    cases todo with
    | nil =>
      subst h
      exact ⟨hl, ⟨[], rfl⟩, Nat.le_refl _, fun θ => ⟨fun h => ⟨h, fun p hp => by cases hp⟩, fun h => h.1⟩⟩
    | cons p rest =>
      obtain ⟨x, y⟩ := p
      simp only [uni] at h
      split at h
      · subst h; trivial
      · rename_i h0
        obtain ⟨hx, hy⟩ := ho (x, y) (List.mem_cons_self ..)
        have hrest : ownP m rest := fun p hp => ho p (List.mem_cons_of_mem _ hp)
        have hX := walkT_own hl _ x (Nat.le_refl _) hx
        have hY := walkT_own hl _ y (Nat.le_refl _) hy
        have wX := walked hl _ x (Nat.le_refl _) (good_ones' (ownB_iff.1 hx).1)
        have wY := walked hl _ y (Nat.le_refl _) (good_ones' (ownB_iff.1 hy).1)
        have sX : ∀ θ, solves θ l → subT θ (walkT l x) = subT θ x := fun θ hs => solves_walk hl hs (good_ones' (ownB_iff.1 hx).1)
        have sY : ∀ θ, solves θ l → subT θ (walkT l y) = subT θ y := fun θ hs => solves_walk hl hs (good_ones' (ownB_iff.1 hy).1)
        revert h hX hY wX wY sX sY
        generalize walkT l x = X
        generalize walkT l y = Y
        intro h hX hY wX wY sX sY
        have hcons : ∀ θ, allEq θ ((x, y) :: rest) ↔ subT θ x = subT θ y ∧ allEq θ rest := fun θ => by
          unfold allEq; simp only [List.mem_cons, forall_eq_or_imp]
        -- a pair bound: what it says
        have bound : ∀ (n : Int) (t : Tm Unit) (left' : Nat), okT m ((n, t) :: l) → left' ≤ left → (∀ θ, solves θ l → (subT θ x = subT θ y ↔ θ n = subT θ t)) → ∀ r, uni k ((n, t) :: l) left' rest = r →
            UniOk m l left ((x, y) :: rest) r := by
          intro n t left' hok hle hb r hr
          have := ih _ left' rest hok hrest r hr
          cases r with
          | ok l' q =>
            obtain ⟨g1, ⟨a, g2⟩, g4, g3⟩ := this
            refine ⟨g1, ⟨a ++ [(n, t)], by rw [g2]; simp⟩, by omega, fun θ => ?_⟩
            rw [g3, solves_cons, hcons]
            constructor
            · rintro ⟨⟨h1, h2⟩, h3⟩; exact ⟨h2, (hb θ h2).2 h1, h3⟩
            · rintro ⟨h2, h1, h3⟩; exact ⟨⟨(hb θ h2).1 h1, h2⟩, h3⟩
          | no q =>
            intro θ hs hc
            obtain ⟨h1, h2⟩ := (hcons θ).1 hc
            exact this θ (solves_cons.2 ⟨(hb θ hs).1 h1, hs⟩) h2
          | over => trivial
        have tied : ∀ (n : Int) (t : Tm Unit), 0 ≤ n → n < (m : Int) → n ∉ dom l → ownB m t = true → ¬ t.kind = 0 → (∀ θ, solves θ l → (subT θ x = subT θ y ↔ θ n = subT θ t)) → ∀ r,
            (match UStep.done (tieU l (left - 1) n t) with
              | .more ps => uni k l (left - 1) (ps ++ rest)
              | .done (.ok l' left') => uni k l' left' rest
              | .done (.no q) => .no q
              | .done .over => .over) = r →
            UniOk m l left ((x, y) :: rest) r := by
          intro n t g0 g1 g2 g3 g4 hb r hr
          have hsp := tieU_spec hl (left := left - 1) g0 g1 g2 g3 g4
          have hlf := fun l' left' => tieU_left (l := l) (l' := l') (left := left - 1) (left' := left') (n := n) (t := t)
          revert hr hsp hlf
          cases tieU l (left - 1) n t with
          | ok l' left' =>
            intro hr hsp hlf
            obtain ⟨e1, e2, _⟩ := hsp
            subst e1
            exact bound n t left' e2 (by have := (hlf _ _ rfl).1; omega) hb r hr
          | no q =>
            intro hr hsp _
            simp only at hr
            subst hr
            exact fun θ hs hc => hsp θ hs ((hb θ hs).1 ((hcons θ).1 hc).1)
          | over =>
            intro hr _ _
            simp only at hr
            subst hr
            trivial
        unfold oneU at h
        by_cases kx : X.kind = 0
        · obtain ⟨x0, x1, xe⟩ := ownB_var hX kx
          have xf := wX.free kx
          have xs : ∀ θ, solves θ l → subT θ x = θ X.n := fun θ hs => by rw [← sX θ hs, xe, subT_V1]; rfl
          rw [if_pos kx] at h
          by_cases ky : Y.kind = 0
          · obtain ⟨y0, y1, ye⟩ := ownB_var hY ky
            have yf := wY.free ky
            have ys : ∀ θ, solves θ l → subT θ y = θ Y.n := fun θ hs => by rw [← sY θ hs, ye, subT_V1]; rfl
            rw [if_pos ky] at h
            by_cases hxy : X.n = Y.n
            · rw [if_pos hxy] at h
              have := ih l (left - 1) rest hl hrest r h
              cases r with
              | ok l' q =>
                obtain ⟨g1, g2, g4, g3⟩ := this
                refine ⟨g1, g2, by omega, fun θ => ?_⟩
                rw [g3, hcons]
                exact ⟨fun ⟨a, b⟩ => ⟨a, by rw [xs θ a, ys θ a, hxy], b⟩, fun ⟨a, _, b⟩ => ⟨a, b⟩⟩
              | no q => exact fun θ hs hc => this θ hs ((hcons θ).1 hc).2
              | over => trivial
            · rw [if_neg hxy] at h
              have hmn : ∀ θ : Int → Tm Unit, (θ X.n = θ Y.n ↔ θ (max X.n Y.n) = subT θ (V (min X.n Y.n))) := fun θ => by
                rw [subT_V1]
                rcases Int.le_total X.n Y.n with c | c
                · rw [Int.max_eq_right c, Int.min_eq_left c]; exact ⟨fun e => e.symm, fun e => e.symm⟩
                · rw [Int.max_eq_left c, Int.min_eq_right c]
              refine bound (max X.n Y.n) (V (min X.n Y.n)) (left - 1) ?_ (by omega) (fun θ hs => by rw [xs θ hs, ys θ hs]; exact hmn θ) r h
              have h2 : min X.n Y.n ∉ dom l := by
                rcases Int.le_total X.n Y.n with c | c
                · rw [Int.min_eq_left c]; exact xf
                · rw [Int.min_eq_right c]; exact yf
              refine ⟨hl, by show 0 ≤ max X.n Y.n; omega, by show max X.n Y.n < (m : Int); omega, ?_, goodB_V (by omega) (by omega), fun v hv => by rw [numsIn_V.1 hv]; omega, ?_⟩
              · show max X.n Y.n ∉ dom l
                rcases Int.le_total X.n Y.n with c | c
                · rw [Int.max_eq_right c]; exact yf
                · rw [Int.max_eq_left c]; exact xf
              · show ¬ numsIn (img l (V (min X.n Y.n))) (max X.n Y.n)
                rw [img_V, sig_free hl h2]
                intro c
                have := numsIn_V.1 c
                omega
          · rw [if_neg ky] at h
            exact tied X.n Y x0 x1 xf hY ky (fun θ hs => by rw [xs θ hs, sY θ hs]) r h
        · rw [if_neg kx] at h
          by_cases ky : Y.kind = 0
          · obtain ⟨y0, y1, ye⟩ := ownB_var hY ky
            have yf := wY.free ky
            have ys : ∀ θ, solves θ l → subT θ y = θ Y.n := fun θ hs => by rw [← sY θ hs, ye, subT_V1]; rfl
            rw [if_pos ky] at h
            exact tied Y.n X y0 y1 yf hX kx (fun θ hs => by rw [ys θ hs, sX θ hs]; exact ⟨fun e => e.symm, fun e => e.symm⟩) r h
          · rw [if_neg ky] at h
            by_cases hh : headsB X Y = true
            · rw [if_pos hh] at h
              obtain ⟨e1, e2, e3, e4⟩ := headsB_iff.1 hh
              have hargs : ∀ θ, solves θ l → (subT θ x = subT θ y ↔ allEq θ (X.args.zip Y.args)) := fun θ hs => by
                rw [← sX θ hs, ← sY θ hs, subT_node θ kx, subT_node θ ky]
                unfold allEq
                rw [zip_all e4]
                constructor
                · intro e; injection e
                · intro e; rw [e1, e2, e3, e]
              have hown : ownP m (X.args.zip Y.args ++ rest) := fun p hp => by
                rcases List.mem_append.1 hp with hp | hp
                · have := List.of_mem_zip hp
                  exact ⟨ownB_arg hX kx this.1, ownB_arg hY ky this.2⟩
                · exact hrest p hp
              have happ : ∀ θ, allEq θ (X.args.zip Y.args ++ rest) ↔ allEq θ (X.args.zip Y.args) ∧ allEq θ rest := fun θ => by
                unfold allEq
                simp only [List.mem_append]
                exact ⟨fun h => ⟨fun p hp => h p (.inl hp), fun p hp => h p (.inr hp)⟩, fun h p hp => hp.elim (h.1 p) (h.2 p)⟩
              have := ih l (left - 1) _ hl hown r h
              cases r with
              | ok l' q =>
                obtain ⟨g1, g2, g4, g3⟩ := this
                refine ⟨g1, g2, by omega, fun θ => ?_⟩
                rw [g3, hcons, happ]
                exact ⟨fun ⟨a, b, c⟩ => ⟨a, (hargs θ a).2 b, c⟩, fun ⟨a, b, c⟩ => ⟨a, (hargs θ a).1 b, c⟩⟩
              | no q => exact fun θ hs hc => this θ hs ((happ θ).2 ⟨(hargs θ hs).1 ((hcons θ).1 hc).1, ((hcons θ).1 hc).2⟩)
              | over => trivial
            · rw [if_neg hh] at h
              simp only at h
              subst h
              intro θ hs hc
              have e := ((hcons θ).1 hc).1
              rw [← sX θ hs, ← sY θ hs, subT_node θ kx, subT_node θ ky] at e
              injection e with e1 e2 e3 _ e4
              exact hh (headsB_iff.2 ⟨e1, e2, e3, by have := congrArg List.length e4; simpa using this⟩)
end Tm
end Go.Proofs.Ytoihjobdfjajfaa

/- What lies in memory while a variable is looked for all the way in. -/
namespace Go.Proofs.Ytoihjobdfjajfaa
set_option linter.unusedVariables false
set_option linter.unusedSimpArgs false
open Go.RowKit Go.Maps
/-- A term of given variables, all of whose parts may be. -/
def given (m : Nat) (t : LT) : Prop := (∀ z ∈ t.bare.flat, goodOneB z = true) ∧ ∀ v, Tm.numsIn t.bare v → v < (m : Int)
theorem given_leafy {m : Nat} {t : LT} (h : given m t) : Tm.leafy t.bare := Tm.leafy_good h.1
theorem given_one {m : Nat} {t : LT} (h : given m t) : goodOneB t = true := by
  rw [← goodOneB_bare]
  exact h.1 _ (by rw [Tm.flat_eq]; exact List.mem_cons_self ..)
theorem given_var {m : Nat} {t : LT} (h : given m t) (hk : t.kind = 0) : 0 ≤ t.n ∧ t.n < (m : Int) ∧ t.n ≤ 2147483647 ∧ t.args = [] ∧ t.bare = Tm.V t.n := by
  have h1 := given_one h
  have h2 := h1
  rw [goodOneB_0 t hk] at h1
  simp only [Bool.and_eq_true, decide_eq_true_eq] at h1
  have hb : t.bare = Tm.V t.n := by
    have := Tm.leafy_self (given_leafy h) (by rw [Tm.bare_kind]; exact hk)
    rwa [Tm.bare_n] at this
  exact ⟨h1.1, h.2 _ (by rw [hb]; exact Tm.numsIn_V.2 rfl), h1.2.1, List.eq_nil_of_length_eq_zero h1.2.2.2, hb⟩
theorem given_args {m : Nat} {t : LT} (h : given m t) (hk : ¬ t.kind = 0) : ∀ a ∈ t.args, given m a := by
  intro a ha
  have hm : a.bare ∈ t.bare.args := by rw [Tm.bare_args, Tm.bares_eq]; exact List.mem_map_of_mem ha
  refine ⟨fun z hz => h.1 z ?_, fun v hv => h.2 v ((Tm.numsIn_args (by rw [Tm.bare_kind]; exact hk)).2 ⟨_, hm, hv⟩)⟩
  rw [Tm.flat_eq]
  exact List.mem_cons_of_mem _ (Tm.mem_flats_iff.2 ⟨_, hm, hz⟩)
theorem given_arity {m : Nat} {t : LT} (h : given m t) : t.args.length ≤ 8 := by
  by_cases ha : t.args = []
  · rw [ha]; exact Nat.zero_le _
  · exact (Tm.one_args (given_one h) ha).2.2
theorem given_bound {p : Nat → Prop} {bb sb m : Nat} {lv tv : Value} {l : TL} {w : World} (h : BI p bb sb lv tv m l w) {n : Int} {c : Nat} {x : LT} (hx : lookL l n = some (c, x)) : given m x := by
  have h1 : (n, x.bare) ∈ bt l := List.mem_map.2 ⟨_, lookL_mem hx, rfl⟩
  have h2 := Tm.okT_mem h.ok h1
  exact ⟨Tm.good_ones' h2.2.2.1, h2.2.2.2⟩
/-- Where the search stands. -/
structure SeekI (p : Nat → Prop) (mb m : Nat) (l : TL) (n : Int) (t : LT) (w0 : World) (todo : List LT) (had : List Int) (v : Value) (w : World) : Prop where
  row : Row w 27 4 v todo.length (todo.flatMap LT.cells)
  own : ∀ g, v.ownBlock = some g → w0.heap.size ≤ g
  map : IMap Try.prog 2 w mb had.length (fun i => if i ∈ had then some (.bool true) else none)
  seek : Tm.Seek (bt l) n t.bare (todo.map Tm.bare) had
  mem : ∀ y ∈ todo, y.In p w0 ∧ given m y
  nodup : had.Nodup
  less : ∀ k ∈ had, 0 ≤ k ∧ k < (m : Int)
  turned : Turned (· = mb) w0 w
  base : mb < w0.heap.size
section
variable {p : Nat → Prop} {mb m : Nat} {l : TL} {n : Int} {t x : LT} {w0 w w' : World} {todo ys : List LT} {had : List Int} {v : Value}
theorem SeekI.room (h : SeekI p mb m l n t w0 todo had v w) : todo.length ≤ Tm.sizes todo := by
  clear h
  induction todo with
  | nil => exact Nat.le_refl _
  | cons x l ih => have := Tm.size_pos x; simp only [Tm.sizes, List.length_cons]; omega
theorem SeekI.turned0 (h : SeekI p mb m l n t w0 todo had v w) (ht : Turned (fun _ => False) w w') : SeekI p mb m l n t w0 todo had v w' :=
  ⟨h.row.turned0 ht, h.own, h.map.turned ht (fun f => f), h.seek, h.mem, h.nodup, h.less, h.turned.trans (ht.mono (fun _ _ f => f.elim)), h.base⟩
theorem SeekI.pop {g k cap : Nat} (h : SeekI p mb m l n t w0 (ys ++ [x]) had (.slice (some ⟨g, 0, none⟩) k cap) w) : k = ys.length + 1 ∧ Row w 27 4 (.slice (some ⟨g, 0, none⟩) ys.length cap) ys.length (ys.flatMap LT.cells) ∧ ys.length + 1 ≤ cap ∧ cap ≤ maxLen := by
  have hr := h.row
  have hn : k = ys.length + 1 := by
    rcases hr.2 with ⟨e, _⟩ | ⟨g', c', cur, e, _⟩
    · cases e
    · injection e with _ e _; simp at e; exact e
  subst hn
  have hcap : ys.length + 1 ≤ cap ∧ cap ≤ maxLen := by
    rcases hr.2 with ⟨e, _⟩ | ⟨g', c', cur, e, _, h1, h2, _⟩
    · cases e
    · injection e with _ _ e; subst e; simp at h1; omega
  have hr' : Row w 27 4 (.slice (some ⟨g, 0, none⟩) (ys.length + 1) cap) (ys.length + 1) ((ys ++ [x]).flatMap LT.cells) := by simpa using hr
  have ht := hr'.take (m := ys.length) (c := cap) (by omega) (by omega) (Nat.le_refl _)
  rw [List.flatMap_append, List.take_left' (by rw [LT.flat_length])] at ht
  exact ⟨rfl, ht, hcap⟩
theorem SeekI.top {g k cap : Nat} (h : SeekI p mb m l n t w0 (ys ++ [x]) had (.slice (some ⟨g, 0, none⟩) k cap) w) :
    w.cell? ⟨g, ys.length * 4, none⟩ = some (.int .i64 x.kind) ∧ w.cell? ⟨g, ys.length * 4 + 1, none⟩ = some (.int .i64 x.n) ∧ w.cell? ⟨g, ys.length * 4 + 2, none⟩ = some (.string x.name) ∧ w.cell? ⟨g, ys.length * 4 + 3, none⟩ = some (.slice x.at_.1 x.args.length x.at_.2) := by
  have hn := h.pop.1
  subst hn
  have hr : Row w 27 4 (.slice (some ⟨g, 0, none⟩) (ys.length + 1) cap) (ys.length + 1) ((ys ++ [x]).flatMap LT.cells) := by simpa using h.row
  have hi : (ys ++ [x])[ys.length]? = some x := by simp
  refine ⟨hr.cells rfl _ _ ?_, hr.cells rfl _ _ ?_, hr.cells rfl _ _ ?_, hr.cells rfl _ _ ?_⟩
  · have := LT.flat_at hi 0 (by omega); rw [Nat.add_zero] at this; rw [this, LT.cells_eq]; rfl
  · rw [LT.flat_at hi 1 (by omega), LT.cells_eq]; rfl
  · rw [LT.flat_at hi 2 (by omega), LT.cells_eq]; rfl
  · rw [LT.flat_at hi 3 (by omega), LT.cells_eq]; rfl
/-- Its args behind what is left. -/
theorem SeekI.args {v' : Value} (h : SeekI p mb m l n t w0 (ys ++ [x]) had v w) (hk : ¬ x.kind = 0) (hr : Row w' 27 4 v' (ys.length + x.args.length) (ys.flatMap LT.cells ++ x.args.flatMap LT.cells)) (ht : Turned (fun k => v.ownBlock = some k) w w') (ho : v'.ownBlock = v.ownBlock ∨ ∀ k, v'.ownBlock = some k → w.heap.size ≤ k) : SeekI p mb m l n t w0 (ys ++ x.args) had v' w' := by
  obtain ⟨hx, hg⟩ := h.mem x (by simp)
  refine ⟨?_, fun g e => ?_, h.map.turned ht (fun e => ?_), ?_, fun y hy => ?_, h.nodup, h.less, h.turned.step ht (fun i hi e => ?_), h.base⟩
  · rw [List.flatMap_append, List.length_append]; exact hr
  · rcases ho with ho | ho
    · exact h.own g (ho ▸ e)
    · have := ho g e
      have := h.turned.size
      omega
  · have := h.own _ e; have := h.base; omega
  · have hs := h.seek
    rw [List.map_append, List.map_cons, List.map_nil] at hs
    have := hs.args (by rw [Tm.bare_kind]; exact hk)
    rw [Tm.bare_args, Tm.bares_eq] at this
    rw [List.map_append]
    exact this
  · rcases List.mem_append.1 hy with hy | hy
    · exact h.mem y (List.mem_append_left _ hy)
    · exact ⟨(LT.ins_iff _).1 hx.args y hy, given_args hg hk y hy⟩
  · have := h.own i e; omega
/-- A variable is taken off. -/
theorem SeekI.row_var {v' : Value} (h : SeekI p mb m l n t w0 (ys ++ [x]) had v w) (hr : Row w' 27 4 v' (ys.length + 0) (ys.flatMap LT.cells ++ [])) (ht : Turned (fun k => v.ownBlock = some k) w w') (ho : v'.ownBlock = v.ownBlock ∨ ∀ k, v'.ownBlock = some k → w.heap.size ≤ k) :
    Row w' 27 4 v' ys.length (ys.flatMap LT.cells) ∧ (∀ g, v'.ownBlock = some g → w0.heap.size ≤ g) ∧ IMap Try.prog 2 w' mb had.length (fun i => if i ∈ had then some (.bool true) else none) ∧ Turned (· = mb) w0 w' := by
  refine ⟨by simpa using hr, fun g e => ?_, h.map.turned ht (fun e => ?_), h.turned.step ht (fun i hi e => ?_)⟩
  · rcases ho with ho | ho
    · exact h.own g (ho ▸ e)
    · have := ho g e
      have := h.turned.size
      omega
  · have := h.own _ e; have := h.base; omega
  · have := h.own i e; omega
theorem SeekI.skip {v' : Value} (h : SeekI p mb m l n t w0 (ys ++ [x]) had v w) (hk : x.kind = 0) (hm : x.n ∈ had) (hr : Row w' 27 4 v' (ys.length + 0) (ys.flatMap LT.cells ++ [])) (ht : Turned (fun k => v.ownBlock = some k) w w') (ho : v'.ownBlock = v.ownBlock ∨ ∀ k, v'.ownBlock = some k → w.heap.size ≤ k) : SeekI p mb m l n t w0 ys had v' w' := by
  obtain ⟨q1, q2, q3, q4⟩ := h.row_var hr ht ho
  have hg := (h.mem x (by simp)).2
  refine ⟨q1, q2, q3, ?_, fun y hy => h.mem y (List.mem_append_left _ hy), h.nodup, h.less, q4, h.base⟩
  have hs := h.seek
  rw [List.map_append, List.map_cons, List.map_nil, (given_var hg hk).2.2.2.2] at hs
  exact hs.skip hm
theorem had_upd {k : Int} : upd (fun i => if i ∈ had then some (Value.bool true) else none) k (.bool true) = fun i => if i ∈ k :: had then some (.bool true) else none := by
  funext i
  unfold upd
  by_cases h : i = k
  · rw [if_pos h, if_pos (by rw [h]; exact List.mem_cons_self ..)]
  · rw [if_neg h]
    show (if i ∈ had then some (Value.bool true) else none) = _
    by_cases hq : i ∈ had
    · rw [if_pos hq, if_pos (List.mem_cons_of_mem _ hq)]
    · rw [if_neg hq, if_neg (by simp [h, hq])]
/-- A variable was met that was not met yet: w1 is where it is taken off, w2 where it is noted. -/
theorem SeekI.met {v' : Value} {w1 w2 : World} (h : SeekI p mb m l n t w0 (ys ++ [x]) had v w) (hk : x.kind = 0) (hm : x.n ∉ had) (hr : Row w1 27 4 v' (ys.length + 0) (ys.flatMap LT.cells ++ [])) (ht : Turned (fun k => v.ownBlock = some k) w w1) (ho : v'.ownBlock = v.ownBlock ∨ ∀ k, v'.ownBlock = some k → w.heap.size ≤ k)
    (hm2 : IMap Try.prog 2 w2 mb (if ((fun i => if i ∈ had then some (Value.bool true) else none) x.n).isSome then had.length else had.length + 1) (upd (fun i => if i ∈ had then some (Value.bool true) else none) x.n (.bool true))) (ht2 : Turned (· = mb) w1 w2) :
    Row w2 27 4 v' ys.length (ys.flatMap LT.cells) ∧ (∀ g, v'.ownBlock = some g → w0.heap.size ≤ g) ∧ IMap Try.prog 2 w2 mb (x.n :: had).length (fun i => if i ∈ x.n :: had then some (.bool true) else none) ∧ Turned (· = mb) w0 w2 ∧ (x.n :: had).Nodup ∧ ∀ k ∈ x.n :: had, 0 ≤ k ∧ k < (m : Int) := by
  obtain ⟨q1, q2, q3, q4⟩ := h.row_var hr ht ho
  have hg := given_var (h.mem x (by simp)).2 hk
  refine ⟨q1.turned ht2 (fun k e c => ?_), q2, ?_, q4.step ht2 (fun i _ e => e), List.nodup_cons.2 ⟨hm, h.nodup⟩, fun k e => ?_⟩
  · have := q2 k e; have := h.base; omega
  · rw [had_upd] at hm2
    simp only [if_neg hm, Option.isSome_none] at hm2
    simpa using hm2
  · rcases List.mem_cons.1 e with rfl | e
    · exact ⟨hg.1, hg.2.1⟩
    · exact h.less k e
theorem SeekI.free {bb sb : Nat} {lv tv v' : Value} {w1 w2 : World} (hb : Tm.okT m (bt l)) (h : SeekI p mb m l n t w0 (ys ++ [x]) had v w) (hk : x.kind = 0) (hm : x.n ∉ had) (hne : ¬ x.n = n) (hl : lookL l x.n = none) (hr : Row w1 27 4 v' (ys.length + 0) (ys.flatMap LT.cells ++ [])) (ht : Turned (fun k => v.ownBlock = some k) w w1) (ho : v'.ownBlock = v.ownBlock ∨ ∀ k, v'.ownBlock = some k → w.heap.size ≤ k)
    (hm2 : IMap Try.prog 2 w2 mb (if ((fun i => if i ∈ had then some (Value.bool true) else none) x.n).isSome then had.length else had.length + 1) (upd (fun i => if i ∈ had then some (Value.bool true) else none) x.n (.bool true))) (ht2 : Turned (· = mb) w1 w2) : SeekI p mb m l n t w0 ys (x.n :: had) v' w2 := by
  obtain ⟨q1, q2, q3, q4, q5, q6⟩ := h.met hk hm hr ht ho hm2 ht2
  have hs := h.seek
  rw [List.map_append, List.map_cons, List.map_nil, (given_var (h.mem x (by simp)).2 hk).2.2.2.2] at hs
  exact ⟨q1, q2, q3, hs.free hb (by rw [look_bt, hl]; rfl) hne, fun y hy => h.mem y (List.mem_append_left _ hy), q5, q6, q4, h.base⟩
/-- And its term is put on it: from w2 to w3. -/
theorem SeekI.bound {bb sb c : Nat} {lv tv v' v'' : Value} {y : LT} {w1 w2 w3 : World} (hb : BI p bb sb lv tv m l w0) (h : SeekI p mb m l n t w0 (ys ++ [x]) had v w) (hk : x.kind = 0) (hm : x.n ∉ had) (hl : lookL l x.n = some (c, y)) (hr : Row w1 27 4 v' (ys.length + 0) (ys.flatMap LT.cells ++ [])) (ht : Turned (fun k => v.ownBlock = some k) w w1) (ho : v'.ownBlock = v.ownBlock ∨ ∀ k, v'.ownBlock = some k → w.heap.size ≤ k)
    (hm2 : IMap Try.prog 2 w2 mb (if ((fun i => if i ∈ had then some (Value.bool true) else none) x.n).isSome then had.length else had.length + 1) (upd (fun i => if i ∈ had then some (Value.bool true) else none) x.n (.bool true))) (ht2 : Turned (· = mb) w1 w2)
    (hr3 : Row w3 27 4 v'' (ys.length + 1) (ys.flatMap LT.cells ++ y.cells)) (ht3 : Turned (fun k => v'.ownBlock = some k) w2 w3) (ho3 : v''.ownBlock = v'.ownBlock ∨ ∀ k, v''.ownBlock = some k → w2.heap.size ≤ k) : SeekI p mb m l n t w0 (ys ++ [y]) (x.n :: had) v'' w3 := by
  obtain ⟨q1, q2, q3, q4, q5, q6⟩ := h.met hk hm hr ht ho hm2 ht2
  have hs := h.seek
  rw [List.map_append, List.map_cons, List.map_nil, (given_var (h.mem x (by simp)).2 hk).2.2.2.2] at hs
  have hs' := hs.bound hb.ok (by rw [look_bt, hl]; rfl)
  refine ⟨?_, fun g e => ?_, q3.turned ht3 (fun e => ?_), ?_, fun z hz => ?_, q5, q6, q4.step ht3 (fun i hi e => ?_), h.base⟩
  · rw [List.flatMap_append, List.length_append]
    simpa using hr3
  · rcases ho3 with ho3 | ho3
    · exact q2 g (ho3 ▸ e)
    · have := ho3 g e
      have := q4.size
      omega
  · have := q2 _ e; have := h.base; omega
  · rw [List.map_append]; exact hs'
  · rcases List.mem_append.1 hz with hz | hz
    · exact h.mem z (List.mem_append_left _ hz)
    · rw [List.mem_singleton] at hz
      subst hz
      exact ⟨(hb.terms _ (lookL_mem hl)).2.1, given_bound hb hl⟩
  · have := q2 i e; omega
theorem SeekI.size (hb : Tm.okT m (bt l)) (h : SeekI p mb m l n t w0 todo had v w) : had.length ≤ m := nodup_length m had h.nodup h.less
end
end Go.Proofs.Ytoihjobdfjajfaa

/- bind.Walk. -/
namespace Go.Proofs.Ytoihjobdfjajfaa
set_option linter.unusedVariables false
set_option linter.unusedSimpArgs false
open Go.RowKit Go.Maps
structure WalkI (p : Nat → Prop) (m : Nat) (l : TL) (t : LT) (w0 : World) (x : LT) : Prop where
  inn : x.In p w0
  ones : ∀ z ∈ x.bare.flat, goodOneB z = true
  on : Tm.walkT (bt l) x.bare = Tm.walkT (bt l) t.bare
theorem WalkI.step {p : Nat → Prop} {bb sb m : Nat} {lv tv : Value} {l : TL} {w : World} {t x y : LT} {c : Nat} (hb : BI p bb sb lv tv m l w) (h : WalkI p m l t w x) (hk : x.kind = 0) (hl : lookL l x.n = some (c, y)) : WalkI p m l t w y ∧ Tm.walkG (bt l) y.bare < Tm.walkG (bt l) x.bare := by
  have h1 : Tm.look (bt l) x.n = some y.bare := by rw [look_bt, hl]; rfl
  have hm := Tm.okT_mem hb.ok (Tm.look_mem h1)
  rw [← Tm.bare_n x] at h1
  have hk' : x.bare.kind = 0 := by rw [Tm.bare_kind]; exact hk
  exact ⟨⟨(hb.terms _ (lookL_mem hl)).2.1, Tm.good_ones' hm.2.2.1, by rw [← Tm.walkT_step hb.ok hk' h1]; exact h.on⟩, Tm.walkG_lt hb.ok hk' h1⟩
theorem WalkI.done {p : Nat → Prop} {m : Nat} {l : TL} {w : World} {t x : LT} (h : WalkI p m l t w x) (hk : x.kind = 0 → x.n ∉ Tm.dom (bt l)) : x.bare = Tm.walkT (bt l) t.bare := by
  rw [← h.on, Tm.walkT_stop (fun e => ?_)]
  rw [Tm.bare_kind] at e
  rw [Tm.bare_n]
  exact Tm.look_none.2 (hk e)
def WalkR (p : Nat → Prop) (m : Nat) (l : TL) (t : LT) (B : Nat) (w0 : World) (k : Nat) (wr : World) : Prop :=
  ∃ x : LT, Hid (Tm.walkG (bt l) x.bare = k) ∧ Hid (WalkI p m l t w0 x) ∧ wr.heap[B]? = some (.cells #[.int .i64 x.kind, .int .i64 x.n, .string x.name, .slice x.at_.1 x.args.length x.at_.2] 27 (0, 0)) ∧ wr.heap[B + 1]? = some (.cells #[.int .i64 0, .int .i64 0, .string ⟨#[]⟩, .slice none 0 0] 27 (0, 0)) ∧ Turned (fun _ => False) w0 wr
set_option maxRecDepth 100000 in
set_option maxHeartbeats 3200000 in
theorem walk90 {p : Nat → Prop} {bb sb m : Nat} {lv tv : Value} {l : TL} {w : World} {t : LT} (h : BI p bb sb lv tv m l w) (ht : t.In p w) (hg : ∀ z ∈ t.bare.flat, goodOneB z = true) :
    Calls Try.prog 90 #[.pointer (some ⟨bb, 0, none⟩), t.val] w fun e w' => ∃ x : LT, e = .returned x.val ∧ x.In p w' ∧ x.bare = Tm.walkT (bt l) t.bare ∧ Turned (fun _ => False) w w' := by
  have h2 := twoBox w (.cells #[.int .i64 t.kind, .int .i64 t.n, .string t.name, .slice t.at_.1 t.args.length t.at_.2] 27) (.cells #[.int .i64 0, .int .i64 0, .string ⟨#[]⟩, .slice none 0 0] 27)
  have hst : Hid (WalkI p m l t w t) := ⟨ht, hg, rfl⟩
  have H := Lib.hid h
  have H2 := Lib.hid h2
  clear h ht hg h2
  rw [LT.val_eq]
  go_enter Try.func90, Try.ntmps90
  go_wp2_with fail
  revert H2
  generalize ((w.alloc (.cells #[.int .i64 t.kind, .int .i64 t.n, .string t.name, .slice t.at_.1 t.args.length t.at_.2] 27)).alloc (.cells #[.int .i64 0, .int .i64 0, .string ⟨#[]⟩, .slice none 0 0] 27)) = w2
  intro H2
  go_loopg [] (Tm.walkG (bt l) t.bare) (fun k wr => WalkR p m l t w.heap.size w k wr)
  case atStart => exact ⟨t, rfl, hst, H2.out.2.2.1, H2.out.2.2.2, H2.out.1⟩
  case round =>
    obtain ⟨x, HG, HI, hb0, hb1, hT⟩ := hrel
    obtain ⟨x0, x1, x2, x3, _⟩ := cells4 hb0
    obtain ⟨z0, z1, z2, z3, f0, f1, f2, f3⟩ := cells4 hb1
    have HB0 := Lib.hid hb0
    have HB1 := Lib.hid hb1
    have HBI := Lib.hid (H.out.turned0 hT)
    clear hb0 hb1
    by_cases hk : x.kind = 0
    · have hkx : (x.kind == 0) = true := by simp [hk]
      have h0 : 0 ≤ x.n := by
        have := HI.out.ones x.bare (by rw [Tm.flat_eq]; exact List.mem_cons_self ..)
        rw [goodOneB_bare, goodOneB_0 x hk] at this
        simp only [Bool.and_eq_true, decide_eq_true_eq] at this
        exact this.1
      have HK := Lib.hid hk
      clear hk
      have hgv := fun n => given143q (HBI.out.turned0 ((Turned.refl _ wr).drewN n)) x.n
      by_cases hm : x.n < (m : Int)
      · rw [decide_eq_true (⟨h0, hm⟩ : 0 ≤ x.n ∧ x.n < (m : Int))] at hgv
        have HGV := Lib.hid hgv
        clear hgv
        obtain ⟨g, cl, hle⟩ := HBI.out.row.shape_pos (by omega)
        subst hle
        obtain ⟨b0, _⟩ := rec2b HBI.out.b
        have hmx := HBI.out.row.max
        have hm65 := HBI.out.most
        have hrow := HBI.out.row.cells rfl x.n.toNat _ (ptrs_at (by omega))
        rw [Int.toNat_of_nonneg h0] at hrow
        cases hlk0 : lookL l x.n with
        | none =>
          rw [hlk0, ptrV] at hrow
          have hdone := HI.out.done (fun _ => (H.out.free).1 hlk0)
          have HD := Lib.hid hdone
          clear hlk0 hdone
          go_wp2_with fail
          go_quiet ((go_at_call 143; exact Calls.quiet_of_same (HGV.out _)))
          go_wp2_with fail
          have hbq : (wr.drewN nq).heap[w.heap.size + 1]? = _ := HB1.out
          have hset := set4 (a' := .int .i64 x.kind) (b' := .int .i64 x.n) (c' := .string x.name) (d' := .slice x.at_.1 x.args.length x.at_.2) hbq
          have T4 := turned4 (a := .int .i64 x.kind) (b := .int .i64 x.n) (c := .string x.name) (d := .slice x.at_.1 x.args.length x.at_.2) (hT.drewN nq) (g := w.heap.size + 1) (by omega)
          refine bodyPost_ret (v := .agg #[.int .i64 x.kind, .int .i64 x.n, .string x.name, .slice x.at_.1 x.args.length x.at_.2]) (results_cell_row Try.results90 _ _ (w.heap.size + 1) 27 _ (0, 0) _ rfl hset Try.underlying27 rfl (by kernel_rfl)) rfl ⟨x, by rw [LT.val_eq], HI.out.inn.turned0 T4, HD.out, T4⟩
        | some cy =>
          obtain ⟨c, y⟩ := cy
          rw [hlk0, ptrV] at hrow
          have hst := HI.out.step H.out HK.out hlk0
          have HS := Lib.hid hst
          obtain ⟨y0, y1, y2, y3, _⟩ := cells4 (HBI.out.terms _ (lookL_mem hlk0)).1
          clear hlk0 hst
          go_wp2_with fail
          go_quiet ((go_at_call 143; exact Calls.quiet_of_same (HGV.out _)))
          go_wp2_with fail
          refine region_tail 10 (by kernel_rfl) (by kernel_rfl) ?_
          simp only [List.take_succ_cons, List.take_zero, List.drop_succ_cons, List.drop_zero]
          repeat still_step
          refine wpStill_nil ?_
          go_wp2_with fail
          have hbq : ((wr.drewN nq).drew).heap[w.heap.size]? = _ := HB0.out
          have hset := set4 (a' := .int .i64 y.kind) (b' := .int .i64 y.n) (c' := .string y.name) (d' := .slice y.at_.1 y.args.length y.at_.2) hbq
          have T4 := turned4 (a := .int .i64 y.kind) (b := .int .i64 y.n) (c := .string y.name) (d := .slice y.at_.1 y.args.length y.at_.2) (((hT.drewN nq)).drew) (g := w.heap.size) (by omega)
          have T5 := turned_store4 ((wr.drewN nq).drew) w.heap.size (.int .i64 y.kind) (.int .i64 y.n) (.string y.name) (.slice y.at_.1 y.args.length y.at_.2)
          go_roundg (Tm.walkG (bt l) y.bare)
          case measure => have := HG.out; have := HS.out.2; omega
          case rel => exact ⟨y, rfl, HS.out.1, hset, (T5.block _ (Array.getElem?_eq_some_iff.1 HB1.out).1 (by omega)).trans HB1.out, T4⟩
      · rw [decide_eq_false (fun c => hm c.2 : ¬ (0 ≤ x.n ∧ x.n < (m : Int)))] at hgv
        have HGV := Lib.hid hgv
        have hdone := HI.out.done (fun _ e => by
          obtain ⟨b, hb, e2⟩ := List.mem_map.1 e
          have := (Tm.okT_mem H.out.ok hb).2.1
          omega)
        have HD := Lib.hid hdone
        clear hgv hdone
        go_wp2_with fail
        go_quiet ((go_at_call 143; exact Calls.quiet_of_same (HGV.out _)))
        go_wp2_with fail
        have hbq : (wr.drewN nq).heap[w.heap.size + 1]? = _ := HB1.out
        have hset := set4 (a' := .int .i64 x.kind) (b' := .int .i64 x.n) (c' := .string x.name) (d' := .slice x.at_.1 x.args.length x.at_.2) hbq
        have T4 := turned4 (a := .int .i64 x.kind) (b := .int .i64 x.n) (c := .string x.name) (d := .slice x.at_.1 x.args.length x.at_.2) (hT.drewN nq) (g := w.heap.size + 1) (by omega)
        refine bodyPost_ret (v := .agg #[.int .i64 x.kind, .int .i64 x.n, .string x.name, .slice x.at_.1 x.args.length x.at_.2]) (results_cell_row Try.results90 _ _ (w.heap.size + 1) 27 _ (0, 0) _ rfl hset Try.underlying27 rfl (by kernel_rfl)) rfl ⟨x, by rw [LT.val_eq], HI.out.inn.turned0 T4, HD.out, T4⟩
    · have hkx : (x.kind == 0) = false := by simp [hk]
      have hdone := HI.out.done (fun e => absurd e hk)
      have HD := Lib.hid hdone
      clear hk hdone
      go_wp2_with fail
      go_quiet (fail)
      go_wp2_with fail
      have hbq : (wr.drewN nq).heap[w.heap.size + 1]? = _ := HB1.out
      have hset := set4 (a' := .int .i64 x.kind) (b' := .int .i64 x.n) (c' := .string x.name) (d' := .slice x.at_.1 x.args.length x.at_.2) hbq
      have T4 := turned4 (a := .int .i64 x.kind) (b := .int .i64 x.n) (c := .string x.name) (d := .slice x.at_.1 x.args.length x.at_.2) (hT.drewN nq) (g := w.heap.size + 1) (by omega)
      refine bodyPost_ret (v := .agg #[.int .i64 x.kind, .int .i64 x.n, .string x.name, .slice x.at_.1 x.args.length x.at_.2]) (results_cell_row Try.results90 _ _ (w.heap.size + 1) 27 _ (0, 0) _ rfl hset Try.underlying27 rfl (by kernel_rfl)) rfl ⟨x, by rw [LT.val_eq], HI.out.inn.turned0 T4, HD.out, T4⟩
end Go.Proofs.Ytoihjobdfjajfaa

/- The document's rename. -/
namespace Go.Proofs.Ytoihjobdfjajfaa
set_option linter.unusedVariables false
set_option linter.unusedSimpArgs false
open Go.RowKit Go.Maps

/-- So many empty terms. -/
def blanks (n : Nat) : List LT := List.replicate n (leaf 0 0 ByteArray.empty)
theorem made_blanks (n : Nat) : (madeCells zeroR.cells (n * 4)).toList = (blanks n).flatMap LT.cells := by
  refine List.ext_getElem? (fun k => ?_)
  have hl : ((blanks n).flatMap LT.cells).length = n * 4 := by rw [LT.flat_length]; unfold blanks; rw [List.length_replicate]
  by_cases hk : k < n * 4
  · have hi : (blanks n)[k / 4]? = some (leaf 0 0 ByteArray.empty) := by
      unfold blanks
      rw [List.getElem?_replicate, if_pos (by omega)]
    have h := LT.flat_at hi (k % 4) (by omega)
    rw [show k / 4 * 4 + k % 4 = k from by omega] at h
    rw [h]
    unfold madeCells
    rw [Array.toList_map, Array.toList_range, List.getElem?_map, List.getElem?_range hk]
    have h4 : k % 4 = 0 ∨ k % 4 = 1 ∨ k % 4 = 2 ∨ k % 4 = 3 := by omega
    have hz : zeroR.cells.size = 4 := rfl
    show some (zeroR.cells[k % zeroR.cells.size]!) = _
    rw [hz]
    rcases h4 with h4 | h4 | h4 | h4 <;> rw [h4] <;> rfl
  · refine (List.getElem?_eq_none ?_).trans (List.getElem?_eq_none (by rw [hl]; omega)).symm
    unfold madeCells
    simp
    omega
theorem blanks_length (n : Nat) : (blanks n).length = n := by unfold blanks; rw [List.length_replicate]
/-- A row of empty terms is made. -/
theorem make_blanks (n : Nat) (hn : n ≤ 1000) (W : World) : (Instr.makeSlice 39 (.int .i64 n) (.int .i64 n)).run Try.prog W = .ok (.slice (some ⟨W.heap.size, 0, none⟩) n n) (W.alloc (.cells (madeCells zeroR.cells (n * 4)) 41)) ∧
    Row (W.alloc (.cells (madeCells zeroR.cells (n * 4)) 41)) 41 4 (.slice (some ⟨W.heap.size, 0, none⟩) n n) n ((blanks n).flatMap LT.cells) := by
  obtain ⟨i0, hi0, hz0, hz1, hz2⟩ := info_parts infoR
  refine ⟨?_, ?_⟩
  · have h := run_make (P := Try.prog) W 39 41 i0 zeroR Try.underlying39 hi0 hz0 .i64 .i64 n n (by omega) (Int.le_refl _) (by rw [hz2]; omega) (by omega)
    rw [hz1] at h
    simpa using h
  · have h := Row.made W 41 4 (madeCells zeroR.cells (n * 4)) n (size_madeCells _ _) (by unfold maxLen; omega)
    rw [made_blanks] at h
    exact h
theorem blanks_in (n : Nat) (p : Nat → Prop) (w : World) : LT.Ins p w (blanks n) := by
  rw [LT.ins_iff]
  intro x hx
  unfold blanks at hx
  rw [List.eq_of_mem_replicate hx]
  exact leafIn' (i64_lit _ (by omega)) (i64_lit _ (by omega)) (by unfold maxLen; decide)

/-- What lies in memory when so many args are done: row block G, terms us in it. -/
structure RenI (p : Nat → Prop) (σ : Tm Unit → Tm Unit) (G : Nat) (t : LT) (w3 : World) (j : Nat) (us : List LT) (W : World) : Prop where
  len : us.length = t.args.length
  bares : (us.take j).map Tm.bare = (t.args.take j).map fun x => σ x.bare
  row : Row W 41 4 (.slice (some ⟨G, 0, none⟩) t.args.length t.args.length) t.args.length (us.flatMap LT.cells)
  ins : LT.Ins (fun k => p k ∨ G + 1 ≤ k) W us
  turned : Turned (fun k => k = G) w3 W
theorem RenI.put {p : Nat → Prop} {σ : Tm Unit → Tm Unit} {G : Nat} {t x u : LT} {w3 W W7 : World} {j : Nat} {us : List LT} (h : RenI p σ G t w3 j us W) (hp : ∀ k, p k → k < G) (hG : G < W.heap.size) (hx : t.args[j]? = some x) (hb : u.bare = σ x.bare) (hu : u.In (fun k => p k ∨ W.heap.size ≤ k) W7) (hT : Turned (fun _ => False) W W7) :
    RenI p σ G t w3 (j + 1) (us.set j u) ((((W7.setCell ⟨G, j * 4, none⟩ (.int .i64 u.kind)).setCell ⟨G, j * 4 + 1, none⟩ (.int .i64 u.n)).setCell ⟨G, j * 4 + 2, none⟩ (.string u.name)).setCell ⟨G, j * 4 + 3, none⟩ (.slice u.at_.1 u.args.length u.at_.2)) := by
  have hjl : j < t.args.length := (List.getElem?_eq_some_iff.1 hx).1
  have hju : j < us.length := by rw [h.len]; exact hjl
  have Tq : Turned (fun k => k = G) W7 ((((W7.setCell ⟨G, j * 4, none⟩ (.int .i64 u.kind)).setCell ⟨G, j * 4 + 1, none⟩ (.int .i64 u.n)).setCell ⟨G, j * 4 + 2, none⟩ (.string u.name)).setCell ⟨G, j * 4 + 3, none⟩ (.slice u.at_.1 u.args.length u.at_.2)) :=
    ((((Turned.refl (fun k => k = G) W7).setCell (p := ⟨G, j * 4, none⟩) (.inr rfl) _).setCell (p := ⟨G, j * 4 + 1, none⟩) (.inr rfl) _).setCell (p := ⟨G, j * 4 + 2, none⟩) (.inr rfl) _).setCell (p := ⟨G, j * 4 + 3, none⟩) (.inr rfl) _
  refine ⟨by rw [List.length_set]; exact h.len, ?_, ?_, ?_, (h.turned.trans (hT.mono (fun _ _ f => f.elim))).trans Tq⟩
  · have e1 : (us.set j u).take (j + 1) = us.take j ++ [u] := by
      rw [List.take_add_one, List.take_set, List.getElem?_set_self hju]
      rw [List.set_eq_of_length_le (by rw [List.length_take]; omega)]
      rfl
    have e2 : t.args.take (j + 1) = t.args.take j ++ [x] := by rw [List.take_add_one, hx]; rfl
    rw [e1, e2, List.map_append, List.map_append, h.bares]
    simp [hb]
  · have hr := h.row.turned0 hT
    have r1 := hr.setAt (off := j * 4) (by omega) (.int .i64 u.kind)
    have r2 := r1.setAt (off := j * 4 + 1) (by omega) (.int .i64 u.n)
    have r3 := r2.setAt (off := j * 4 + 2) (by omega) (.string u.name)
    have r4 := r3.setAt (off := j * 4 + 3) (by omega) (.slice u.at_.1 u.args.length u.at_.2)
    rw [flat_set hju] at r4
    exact r4
  · rw [LT.ins_iff]
    intro y hy
    have keep : ∀ z : LT, z.In (fun k => p k ∨ G + 1 ≤ k) W7 → z.In (fun k => p k ∨ G + 1 ≤ k) _ := fun z hz => LT.In.turned Tq (fun k _ hk e => by
      rcases hk with hk | hk
      · have := hp k hk; omega
      · omega) (fun _ _ hk => hk) z hz
    refine keep y ?_
    rcases List.mem_or_eq_of_mem_set hy with hy | rfl
    · exact ((LT.ins_iff _).1 h.ins y hy).turned0 hT
    · exact hu.mono (fun k _ hk => hk.elim .inl (fun hk => .inr (by omega)))
theorem ren_noargs {s : Int → Int} {t : Tm Unit} (hk : ¬ t.kind = 0) (ha : t.args = []) : Tm.ren s t = t := by
  cases t with | mk k n nm e aa =>
  simp only [Tm.args] at ha
  subst ha
  unfold Tm.ren
  simp only [Tm.kind] at hk
  simp only [Tm.subT, if_neg hk, Tm.subTs]
theorem ren_args {s : Int → Int} {t : LT} (hg : goodOneB t = true) (ha : ¬ t.args = []) : Tm.ren s t.bare = .mk 2 0 t.name () (t.args.map fun x => Tm.ren s x.bare) := by
  obtain ⟨h1, h2, _⟩ := Tm.one_args hg ha
  cases t with | mk k n nm e aa =>
  simp only [Tm.kind, Tm.n] at h1 h2
  subst h1 h2
  unfold Tm.ren
  simp only [Tm.bare, Tm.subT]
  rw [if_neg (by omega), Tm.subTs_eq, Tm.bares_eq, List.map_map]
  rfl
theorem ren_var {s : Int → Int} {t : LT} (hg : goodOneB t = true) (hk : t.kind = 0) : Tm.ren s t.bare = Tm.V (s t.n) := by
  rw [goodOneB_0 t hk] at hg
  cases t with | mk k n nm e aa =>
  simp only [Tm.kind] at hk
  subst hk
  unfold Tm.ren
  simp only [Tm.bare, Tm.subT, if_pos, Tm.n]
theorem row_some {w : World} {e : TypeId} {size n g cap : Nat} {xs : List Value} (h : Row w e size (.slice (some ⟨g, 0, none⟩) n cap) n xs) (k : Nat) (hk : k < n * size) : ∃ z, w.cell? ⟨g, k, none⟩ = some z :=
  ⟨_, h.cells rfl k _ (List.getElem?_eq_getElem (by rw [h.1]; exact hk))⟩
def RenL (vs : List Int) (n : Int) (w2 : World) (q : Nat) (i : Value) (wr : World) : Prop := ∃ j : Nat, Hid (j + q = vs.length) ∧ j ≤ vs.length ∧ i = .int .i64 j ∧ Hid (∀ k, k < j → vs[k]? ≠ some n) ∧ Turned (fun _ => False) w2 wr
set_option maxRecDepth 100000 in
set_option maxHeartbeats 3200000 in
theorem rename140 {vs : List Int} {first : Int} {va : Option Addr} {vc : Nat} (hf0 : 0 ≤ first) (hf1 : first ≤ 2147483648) (hvl : vs.length ≤ 2000) (n : Nat) : ∀ (p : Nat → Prop) (t : LT) (w : World), t.depth ≤ n → t.In p w → (∀ x ∈ t.flat, goodOneB x = true) → (∀ x ∈ t.flat, x.kind = 0 → x.n ∈ vs) → Row w 2 1 (.slice va vs.length vc) vs.length (vs.map (Value.int .i64)) →
    Calls Try.prog 140 #[t.val, .slice va vs.length vc, .int .i64 first] w fun e w' => ∃ u : LT, e = .returned u.val ∧ u.bare = Tm.ren (Tm.fromS vs first) t.bare ∧ u.In (fun k => p k ∨ w.heap.size ≤ k) w' ∧ Turned (fun _ => False) w w' := by
  induction n with
  | zero => intro p t w h; have := Tm.depth_pos t; omega
  | succ n ih =>
    intro p t w hd ht hg hn hrow
    have h2 := twoBox w (.cells #[.int .i64 t.kind, .int .i64 t.n, .string t.name, .slice t.at_.1 t.args.length t.at_.2] 41) (.cells #[.int .i64 0, .int .i64 0, .string ⟨#[]⟩, .slice none 0 0] 41)
    have hself : t ∈ t.flat := by rw [Tm.flat_eq]; exact List.mem_cons_self ..
    have hg1 := hg t hself
    by_cases hk : t.kind = 0
    · have k0 : (t.kind == 0) = true := by simp [hk]
      have hmem := hn t hself hk
      have hrv := ren_var (s := Tm.fromS vs first) hg1 hk
      obtain ⟨tn, htn⟩ : ∃ z, z = t.n := ⟨_, rfl⟩
      rw [← htn] at hmem hrv h2
      have HRV := Lib.hid hrv
      have HM := Lib.hid hmem
      have HROW := Lib.hid (hrow.turned0 h2.1)
      have H2 := Lib.hid h2
      have hmax := hrow.max
      rw [LT.val_eq t, ← htn]
      clear ih hd ht hg hn hrow hg1 hk hself hmem hrv htn
      obtain ⟨c0, c1, c2, c3, _⟩ := cells4 h2.2.2.1
      clear h2
      go_enter Try.func140, Try.ntmps140
      go_wp2_with fail
      revert H2 HROW
      generalize ((w.alloc (.cells #[.int .i64 t.kind, .int .i64 tn, .string t.name, .slice t.at_.1 t.args.length t.at_.2] 41)).alloc (.cells #[.int .i64 0, .int .i64 0, .string ⟨#[]⟩, .slice none 0 0] 41)) = w2
      intro HROW H2
      clear c0 c1 c2 c3
      go_loopg [7] vs.length (fun q i wr => RenL vs tn w2 q i wr)
      case atStart => exact ⟨0, Nat.zero_add _, Nat.zero_le _, rfl, fun k hk => absurd hk (Nat.not_lt_zero k), Turned.refl _ _⟩
      case round =>
        obtain ⟨j, HG, hj, rfl, HNO, hT⟩ := hrel
        by_cases hjl : j < vs.length
        · obtain ⟨x, hx⟩ : ∃ x, vs[j]? = some x := ⟨_, List.getElem?_eq_getElem hjl⟩
          have hrw := HROW.out.turned0 hT
          obtain ⟨gv, cap, he⟩ := hrw.shape_pos (by omega)
          injection he with e1 _ e3
          subst e1 e3
          have hcv := hrw.cells rfl j (.int .i64 x) (by rw [List.getElem?_map, hx]; rfl)
          obtain ⟨c0, c1, c2, c3, _⟩ := cells4 ((hT.block _ (Array.getElem?_eq_some_iff.1 H2.out.2.2.1).1 (fun f => f)).trans H2.out.2.2.1)
          have HX := Lib.hid hx
          clear hx hrw
          by_cases hxt : x = tn
          · have hb : (x == tn) = true := by simp [hxt]
            have hpos := posOf_first (n := tn) (j := j) (by rw [HX.out, hxt]) HNO.out
            have HP := Lib.hid hpos
            have hb1 := (hT.block _ (Array.getElem?_eq_some_iff.1 H2.out.2.2.2).1 (fun f => f)).trans H2.out.2.2.2
            obtain ⟨d0, d1, d2, d3, f0, f1, f2, f3⟩ := cells4 hb1
            have HB1 := Lib.hid hb1
            clear hpos hxt hb1
            go_wp2_with fail
            go_quiet (fail)
            go_wp2_with fail
            have hb2 : (wr.drewN nq).heap[w.heap.size + 1]? = _ := HB1.out
            have hset := set4 (a' := .int .i64 0) (b' := .int .i64 (first + j)) (c' := .string ⟨#[]⟩) (d' := .slice none 0 0) hb2
            have T4 := turned4 (a := .int .i64 0) (b := .int .i64 (first + j)) (c := .string ⟨#[]⟩) (d := .slice none 0 0) ((H2.out.1.trans hT).drewN nq) (g := w.heap.size + 1) (by omega)
            refine bodyPost_ret (v := .agg #[.int .i64 0, .int .i64 (first + j), .string ⟨#[]⟩, .slice none 0 0]) (results_cell_row Try.results140 _ _ (w.heap.size + 1) 41 _ (0, 0) _ rfl hset Try.underlying41 rfl (by kernel_rfl)) rfl ⟨leaf 0 (first + j) ByteArray.empty, rfl, ?_, leafIn' (i64_lit _ (by omega)) (by unfold I64; omega) (by unfold maxLen; decide), T4⟩
            rw [HRV.out, Tm.fromS, HP.out]
            rfl
          · have hb : (x == tn) = false := by simp [hxt]
            have HNE := Lib.hid hxt
            clear hxt
            go_wp2_with fail
            go_quiet (fail)
            go_wp2_with fail
            go_roundg (gk - 1)
            case measure => have := HG.out; omega
            case rel => exact ⟨j + 1, show _ = _ by have := HG.out; omega, by omega, by go_num, fun k hk e => by
                rcases Nat.lt_or_ge k j with h | h
                · exact HNO.out k h e
                · obtain rfl : k = j := by omega
                  rw [HX.out] at e
                  injection e with e
                  exact HNE.out e, hT.drewN nq⟩
        · exfalso
          obtain ⟨k, hk⟩ := List.getElem?_of_mem HM.out
          have := (List.getElem?_eq_some_iff.1 hk).1
          exact HNO.out k (by omega) hk
    · have k0 : (t.kind == 0) = false := by simp [hk]
      by_cases ha : t.args = []
      · have hl : t.args.length = 0 := by rw [ha]; rfl
        have hren : Tm.ren (Tm.fromS vs first) t.bare = t.bare := ren_noargs (by rw [Tm.bare_kind]; exact hk) (by rw [Tm.bare_args, ha]; rfl)
        have HREN := Lib.hid hren
        have HIN := Lib.hid (LT.val_eq t)
        have HT := Lib.hid ht
        have H2 := Lib.hid h2
        rw [LT.val_eq t, hl]
        have hb0 := h2.2.2.1
        rw [hl] at hb0
        obtain ⟨c0, c1, c2, c3, _⟩ := cells4 hb0
        have hb1 := h2.2.2.2
        rw [hl] at hb1
        obtain ⟨d0, d1, d2, d3, f0, f1, f2, f3⟩ := cells4 hb1
        have HB1 := Lib.hid hb1
        have HA := Lib.hid hl
        clear ih hd ht hg hn hrow hg1 hk hself hren ha hl h2 hb0 hb1
        go_enter Try.func140, Try.ntmps140
        go_wp2_with fail
        have h2' := twoBox w (.cells #[.int .i64 t.kind, .int .i64 t.n, .string t.name, .slice t.at_.1 0 t.at_.2] 41) (.cells #[.int .i64 t.kind, .int .i64 t.n, .string t.name, .slice t.at_.1 0 t.at_.2] 41)
        have hset := h2'.2.2.2
        have T4 := h2'.1
        refine bodyPost_ret (v := .agg #[.int .i64 t.kind, .int .i64 t.n, .string t.name, .slice t.at_.1 0 t.at_.2]) (results_cell_row Try.results140 _ _ (w.heap.size + 1) 41 _ (0, 0) _ rfl hset Try.underlying41 rfl (by kernel_rfl)) rfl ⟨t, ?_, ?_, ?_, T4⟩
        · rw [HIN.out, HA.out]
        · rw [HREN.out]
        · exact (HT.out.turned0 T4).mono (fun k _ h => .inl h)
      · have hlen : t.args.length ≤ 8 := (Tm.one_args hg1 ha).2.2
        have hkn := Tm.one_args hg1 ha
        have hren := ren_args (s := Tm.fromS vs first) hg1 ha
        have hlp : 0 < t.args.length := by
          rcases Nat.eq_zero_or_pos t.args.length with h | h
          · exact absurd (List.eq_nil_of_length_eq_zero h) ha
          · exact h
        have hmk := fun W => (make_blanks t.args.length (by omega) W).1
        have HMK := Lib.hid (fun W => (make_blanks t.args.length (by omega) W).2)
        obtain ⟨p', hp'⟩ : ∃ q : Nat → Prop, q = fun k => p k ∧ k < w.heap.size := ⟨_, rfl⟩
        have HPL : Hid (∀ k, p' k → p k ∧ k < w.heap.size) := by intro k hq; rw [hp'] at hq; exact hq
        have ht' : t.In p' w := ht.mono (fun k hk h => by rw [hp']; exact ⟨h, hk⟩)
        have hcall : ∀ x : LT, x ∈ t.args → ∀ W, Turned (fun _ => False) w W → Calls Try.prog 140 #[x.val, .slice va vs.length vc, .int .i64 first] W fun e w' => ∃ u : LT, e = .returned u.val ∧ u.bare = Tm.ren (Tm.fromS vs first) x.bare ∧ u.In (fun k => p' k ∨ W.heap.size ≤ k) w' ∧ Turned (fun _ => False) W w' := fun x hx W hW =>
          ih p' x W (by have := arg_depth hx; omega) ((LT.ins_iff _).1 (ht'.turned0 hW).args x hx) (fun y hy => hg y (by rw [Tm.flat_eq]; exact List.mem_cons_of_mem _ (mem_flats_arg hx hy))) (fun y hy => hn y (by rw [Tm.flat_eq]; exact List.mem_cons_of_mem _ (mem_flats_arg hx hy))) (hrow.turned0 hW)
        have HC := Lib.hid hcall
        have HIN := Lib.hid ht'
        have HREN := Lib.hid hren
        have HKN := Lib.hid hkn
        have hL := fun W h => (LT.In.lies (p := p') (w := W) (t := t) h)
        rw [LT.val_eq]
        obtain ⟨ad, had⟩ : ∃ z, z = t.at_.1 := ⟨_, rfl⟩
        obtain ⟨cd, hcd⟩ : ∃ z, z = t.at_.2 := ⟨_, rfl⟩
        rw [← had] at hL h2
        rw [← hcd] at h2
        rw [← had, ← hcd]
        have HL := Lib.hid hL
        have H2 := Lib.hid h2
        obtain ⟨c0, c1, c2, c3, _⟩ := cells4 h2.2.2.1
        have hal : (t.args.length == 0) = false := by simp; omega
        have hal2 : ((t.args.length : Int) == 0) = false := by simp; omega
        clear ih hd ht ht' hg hn hrow hg1 hk hself hcall hren hkn had hcd hp' hL ha h2
        generalize hZZ : madeCells zeroR.cells (t.args.length * 4) = ZZ at hmk HMK
        clear hZZ
        go_enter Try.func140, Try.ntmps140
        go_wp2_with fail
        have HR0 := HMK.out ((w.alloc (.cells #[.int .i64 t.kind, .int .i64 t.n, .string t.name, .slice ad t.args.length cd] 41)).alloc (.cells #[.int .i64 0, .int .i64 0, .string ⟨#[]⟩, .slice none 0 0] 41))
        have HT0 := (Turned.refl (fun _ => False) ((w.alloc (.cells #[.int .i64 t.kind, .int .i64 t.n, .string t.name, .slice ad t.args.length cd] 41)).alloc (.cells #[.int .i64 0, .int .i64 0, .string ⟨#[]⟩, .slice none 0 0] 41))).alloc (.cells ZZ 41)
        have hsz : ((w.alloc (.cells #[.int .i64 t.kind, .int .i64 t.n, .string t.name, .slice ad t.args.length cd] 41)).alloc (.cells #[.int .i64 0, .int .i64 0, .string ⟨#[]⟩, .slice none 0 0] 41)).heap.size = w.heap.size + 2 := H2.out.2.1
        rw [hsz] at HR0
        try rw [hsz]
        have HH := And.intro (Lib.hid HR0) (And.intro (Lib.hid (H2.out.1.trans HT0)) (And.intro (Lib.hid ((HT0.block _ (Array.getElem?_eq_some_iff.1 H2.out.2.2.1).1 (fun f => f)).trans H2.out.2.2.1)) (And.intro (Lib.hid ((HT0.block _ (Array.getElem?_eq_some_iff.1 H2.out.2.2.2).1 (fun f => f)).trans H2.out.2.2.2)) (Lib.hid (show (((w.alloc (.cells #[.int .i64 t.kind, .int .i64 t.n, .string t.name, .slice ad t.args.length cd] 41)).alloc (.cells #[.int .i64 0, .int .i64 0, .string ⟨#[]⟩, .slice none 0 0] 41)).alloc (.cells ZZ 41)).heap.size = w.heap.size + 3 by simp)))))
        clear HR0 HT0 H2 c0 c1 c2 c3 hmk HMK hsz
        revert HH
        generalize ((w.alloc (.cells #[.int .i64 t.kind, .int .i64 t.n, .string t.name, .slice ad t.args.length cd] 41)).alloc (.cells #[.int .i64 0, .int .i64 0, .string ⟨#[]⟩, .slice none 0 0] 41)).alloc (.cells ZZ 41) = w3
        obtain ⟨G, hG⟩ : ∃ z, z = w.heap.size + 2 := ⟨_, rfl⟩
        obtain ⟨B1, hB1⟩ : ∃ z, z = w.heap.size + 1 := ⟨_, rfl⟩
        obtain ⟨B0, hB0⟩ : ∃ z, z = w.heap.size := ⟨_, rfl⟩
        rw [← hG, ← hB1]
        try rw [← hB0]
        intro HH
        obtain ⟨HR0, HT0, HB0, HB1, HS⟩ := HH
        have HE := Lib.hid (And.intro hG (And.intro hB1 hB0))
        clear hG hB1 hB0
        have hinit : Hid (RenI p' (Tm.ren (Tm.fromS vs first)) G t w3 0 (blanks t.args.length) w3) := ⟨blanks_length _, rfl, HR0.out, blanks_in _ _ _, Turned.refl _ _⟩
        go_loopg [9] t.args.length (fun q i wr => ∃ j : Nat, Hid (j + q = t.args.length) ∧ j ≤ t.args.length ∧ i = .int .i64 j ∧ ∃ us, Hid (RenI p' (Tm.ren (Tm.fromS vs first)) G t w3 j us wr))
        case atStart => exact ⟨0, Nat.zero_add _, Nat.zero_le _, rfl, _, hinit⟩
        case round =>
          obtain ⟨j, HG, hj, rfl, us, HOR⟩ := hrel
          have HTw : Hid (Turned (fun _ => False) w wr) := HT0.out.step HOR.out.turned (fun i hi e => by have := HE.out; omega)
          have hb0 := (HOR.out.turned.block _ (Array.getElem?_eq_some_iff.1 HB0.out).1 (fun e => by have := HE.out; omega)).trans HB0.out
          obtain ⟨c0, c1, c2, c3, _⟩ := cells4 hb0
          clear hb0
          by_cases hjl : j < t.args.length
          · obtain ⟨x, hx⟩ : ∃ x : LT, t.args[j]? = some x := ⟨_, List.getElem?_eq_getElem hjl⟩
            have tin := HIN.out.turned0 HTw.out
            obtain ⟨b, o, rfl, _, x0, x1, x2, x3⟩ := (HL.out _ tin).cell hx
            have hcx := HC.out x (List.mem_of_getElem? hx) wr HTw.out
            rw [LT.val_eq x] at hcx
            have HCX := Lib.hid hcx
            have HX := Lib.hid hx
            clear hx hcx tin
            go_wp2_with (go_at_call 140; (with_reducible refine HCX.out.mono ?_); rintro e w7 ⟨u, rfl, hub, hui, T7⟩; rw [LT.val_eq u]; have hI := HOR.out.put (fun k hk => by have := (HPL.out k hk).2; have := HE.out; omega) (by have := HOR.out.turned.size; have := HS.out; have := HE.out; omega) HX.out hub hui T7; have hrw := HOR.out.row.turned0 T7; have f0 := hrw.free rfl (j * 4); have f1 := hrw.free rfl (j * 4 + 1); have f2 := hrw.free rfl (j * 4 + 2); have f3 := hrw.free rfl (j * 4 + 3); have g0 := row_some hrw (j * 4) (by omega); have g1 := row_some hrw (j * 4 + 1) (by omega); have g2 := row_some hrw (j * 4 + 2) (by omega); have g3 := row_some hrw (j * 4 + 3) (by omega); obtain ⟨z0, g0⟩ := g0; obtain ⟨z1, g1⟩ := g1; obtain ⟨z2, g2⟩ := g2; obtain ⟨z3, g3⟩ := g3; have HI := Lib.hid hI; clear hI hrw hub hui)
            go_roundg (gk - 1)
            case measure => have := HG.out; omega
            case rel => exact ⟨j + 1, show _ = _ by have := HG.out; omega, by omega, by go_num, _, HI⟩
          · obtain rfl : j = t.args.length := by omega
            have hb1 := (HOR.out.turned.block _ (Array.getElem?_eq_some_iff.1 HB1.out).1 (fun e => by have := HE.out; omega)).trans HB1.out
            have HBX := Lib.hid hb1
            clear hb1
            go_wp2_with (go_at_call 160; (with_reducible refine (rComp160 _ _ _ _ _).mono ?_); rintro e w7 ⟨rfl, T7⟩; have hb1 := (T7.block _ (Array.getElem?_eq_some_iff.1 HBX.out).1 (fun f => f)).trans HBX.out; obtain ⟨d0, d1, d2, d3, f0, f1, f2, f3⟩ := cells4 hb1; have HB7 := Lib.hid hb1; clear hb1)
            have hset := set4 (a' := .int .i64 2) (b' := .int .i64 0) (c' := .string t.name) (d' := .slice (some ⟨G, 0, none⟩) t.args.length t.args.length) HB7.out
            have hge : w.heap.size ≤ B1 := by have := HE.out; omega
            have T4 := turned4 (a := .int .i64 2) (b := .int .i64 0) (c := .string t.name) (d := .slice (some ⟨G, 0, none⟩) t.args.length t.args.length) (HTw.out.trans T7) hge
            refine bodyPost_ret (v := .agg #[.int .i64 2, .int .i64 0, .string t.name, .slice (some ⟨G, 0, none⟩) t.args.length t.args.length]) (results_cell_row Try.results140 _ _ B1 41 _ (0, 0) _ rfl hset Try.underlying41 rfl (by kernel_rfl)) rfl ?_
            have hne : ∀ q, (Value.slice (some ⟨G, 0, none⟩) t.args.length t.args.length).ownBlock ≠ some (Addr.block ⟨B1, q, none⟩) := fun q e => by simp [Value.ownBlock] at e; have := HE.out; omega
            have hrow := (((((HOR.out.row.turned0 T7).setCell (hne 0) (.int .i64 2)).setCell (hne 1) (.int .i64 0)).setCell (hne 2) (.string t.name)).setCell (hne 3) (.slice (some ⟨G, 0, none⟩) t.args.length t.args.length))
            have Tq : Turned (fun k => k = B1) w7 _ := ((((Turned.refl (fun k => k = B1) w7).setCell (p := ⟨B1, 0, none⟩) (.inr rfl) (.int .i64 2)).setCell (p := ⟨B1, 1, none⟩) (.inr rfl) (.int .i64 0)).setCell (p := ⟨B1, 2, none⟩) (.inr rfl) (.string t.name)).setCell (p := ⟨B1, 3, none⟩) (.inr rfl) (.slice (some ⟨G, 0, none⟩) t.args.length t.args.length)
            have hpl := HPL.out
            have hins := (HOR.out.ins.turned0 T7).turned (q := fun k => p k ∨ w.heap.size ≤ k) Tq (fun k _ hk e => by
              have := HE.out
              rcases hk with h | h
              · have := (hpl k h).2; omega
              · omega) (fun k _ hk => by
              have := HE.out
              rcases hk with h | h
              · exact .inl (hpl k h).1
              · exact .inr (by omega))
            obtain ⟨e1, e2⟩ := LT.Sl.of_row (p := fun k => p k ∨ w.heap.size ≤ k) hrow (fun k hk => .inr (by simp [Value.ownBlock] at hk; have := HE.out; omega)) hins
            have hUL : us.length = t.args.length := HOR.out.len
            refine ⟨.mk 2 0 t.name (some ⟨G, 0, none⟩, t.args.length) us, ?_, ?_, e2.in_ (i64_lit _ (by omega)) (i64_lit _ (by omega)) HIN.out.name, T4⟩
            · show _ = Ending.returned (LT.val (.mk 2 0 t.name (some ⟨G, 0, none⟩, t.args.length) us))
              rw [LT.val_eq]
              show _ = Ending.returned (.agg #[.int .i64 2, .int .i64 0, .string t.name, .slice (some ⟨G, 0, none⟩) us.length t.args.length])
              rw [hUL]
            · have hbr := HOR.out.bares
              rw [List.take_length, ← hUL, List.take_length] at hbr
              rw [HREN.out, Tm.bare, Tm.bares_eq, hbr]
end Go.Proofs.Ytoihjobdfjajfaa

/- bind's maker: make. -/
namespace Go.Proofs.Ytoihjobdfjajfaa
set_option linter.unusedVariables false
set_option linter.unusedSimpArgs false
open Go.RowKit Go.Maps
theorem made_blanksT (n : Nat) : (madeCells zeroT.cells (n * 4)).toList = (blanks n).flatMap LT.cells := made_blanks n
/-- A row of empty terms is made (the program's own type). -/
theorem make_blanksT (n : Nat) (hn : n ≤ 1000) (W : World) : (Instr.makeSlice 22 (.int .i64 n) (.int .i64 n)).run Try.prog W = .ok (.slice (some ⟨W.heap.size, 0, none⟩) n n) (W.alloc (.cells (madeCells zeroT.cells (n * 4)) 27)) ∧
    Row (W.alloc (.cells (madeCells zeroT.cells (n * 4)) 27)) 27 4 (.slice (some ⟨W.heap.size, 0, none⟩) n n) n ((blanks n).flatMap LT.cells) := by
  obtain ⟨i0, hi0, hz0, hz1, hz2⟩ := info_parts infoT
  refine ⟨?_, ?_⟩
  · have h := run_make (P := Try.prog) W 22 27 i0 zeroT Try.underlying22 hi0 hz0 .i64 .i64 n n (by omega) (Int.le_refl _) (by rw [hz2]; omega) (by omega)
    rw [hz1] at h
    simpa using h
  · have h := Row.made W 27 4 (madeCells zeroT.cells (n * 4)) n (size_madeCells _ _) (by unfold maxLen; omega)
    rw [made_blanksT] at h
    exact h
/-- What lies in memory when so many args are done: row block G, terms us in it; the maker's block K is written. -/
structure MakI (p : Nat → Prop) (σ : Tm Unit → Tm Unit) (G K : Nat) (t : LT) (w3 : World) (j : Nat) (us : List LT) (W : World) : Prop where
  len : us.length = t.args.length
  bares : (us.take j).map Tm.bare = (t.args.take j).map fun x => σ x.bare
  row : Row W 27 4 (.slice (some ⟨G, 0, none⟩) t.args.length t.args.length) t.args.length (us.flatMap LT.cells)
  ins : LT.Ins (fun k => p k ∨ G + 1 ≤ k) W us
  turned : Turned (fun k => k = G ∨ k = K) w3 W
theorem MakI.put {p : Nat → Prop} {σ : Tm Unit → Tm Unit} {G K : Nat} {t x u : LT} {w3 W W7 : World} {j : Nat} {us : List LT} (h : MakI p σ G K t w3 j us W) (hp : ∀ k, p k → k < G ∧ k ≠ K) (hKG : K < G) (hG : G < W.heap.size) (hx : t.args[j]? = some x) (hb : u.bare = σ x.bare) (hu : u.In (fun k => p k ∨ W.heap.size ≤ k) W7) (hT : Turned (fun k => k = K) W W7) :
    MakI p σ G K t w3 (j + 1) (us.set j u) ((((W7.setCell ⟨G, j * 4, none⟩ (.int .i64 u.kind)).setCell ⟨G, j * 4 + 1, none⟩ (.int .i64 u.n)).setCell ⟨G, j * 4 + 2, none⟩ (.string u.name)).setCell ⟨G, j * 4 + 3, none⟩ (.slice u.at_.1 u.args.length u.at_.2)) := by
  have hjl : j < t.args.length := (List.getElem?_eq_some_iff.1 hx).1
  have hju : j < us.length := by rw [h.len]; exact hjl
  have Tq : Turned (fun k => k = G) W7 ((((W7.setCell ⟨G, j * 4, none⟩ (.int .i64 u.kind)).setCell ⟨G, j * 4 + 1, none⟩ (.int .i64 u.n)).setCell ⟨G, j * 4 + 2, none⟩ (.string u.name)).setCell ⟨G, j * 4 + 3, none⟩ (.slice u.at_.1 u.args.length u.at_.2)) :=
    ((((Turned.refl (fun k => k = G) W7).setCell (p := ⟨G, j * 4, none⟩) (.inr rfl) _).setCell (p := ⟨G, j * 4 + 1, none⟩) (.inr rfl) _).setCell (p := ⟨G, j * 4 + 2, none⟩) (.inr rfl) _).setCell (p := ⟨G, j * 4 + 3, none⟩) (.inr rfl) _
  refine ⟨by rw [List.length_set]; exact h.len, ?_, ?_, ?_, (h.turned.trans (hT.mono (fun _ _ e => .inr e))).trans (Tq.mono (fun _ _ e => .inl e))⟩
  · have e1 : (us.set j u).take (j + 1) = us.take j ++ [u] := by
      rw [List.take_add_one, List.take_set, List.getElem?_set_self hju]
      rw [List.set_eq_of_length_le (by rw [List.length_take]; omega)]
      rfl
    have e2 : t.args.take (j + 1) = t.args.take j ++ [x] := by rw [List.take_add_one, hx]; rfl
    rw [e1, e2, List.map_append, List.map_append, h.bares]
    simp [hb]
  · have hr := h.row.turned hT (fun k hk e => by simp [Value.ownBlock] at hk; omega)
    have r1 := hr.setAt (off := j * 4) (by omega) (.int .i64 u.kind)
    have r2 := r1.setAt (off := j * 4 + 1) (by omega) (.int .i64 u.n)
    have r3 := r2.setAt (off := j * 4 + 2) (by omega) (.string u.name)
    have r4 := r3.setAt (off := j * 4 + 3) (by omega) (.slice u.at_.1 u.args.length u.at_.2)
    rw [flat_set hju] at r4
    exact r4
  · rw [LT.ins_iff]
    intro y hy
    have keep : ∀ z : LT, z.In (fun k => p k ∨ G + 1 ≤ k) W7 → z.In (fun k => p k ∨ G + 1 ≤ k) _ := fun z hz => LT.In.turned Tq (fun k _ hk e => by
      rcases hk with hk | hk
      · have := hp k hk; omega
      · omega) (fun _ _ hk => hk) z hz
    refine keep y ?_
    rcases List.mem_or_eq_of_mem_set hy with hy | rfl
    · exact LT.In.turned hT (fun k _ hk e => by
        rcases hk with hk | hk
        · exact (hp k hk).2 e
        · omega) (fun _ _ hk => hk) y ((LT.ins_iff _).1 h.ins y hy)
    · exact hu.mono (fun k _ hk => hk.elim .inl (fun hk => .inr (by omega)))
/-- The maker lies apart from all else. -/
def apart (p : Nat → Prop) (bb sb : Nat) (lv tv : Value) (l : TL) (K : Nat) : Prop := ¬ ownK bb sb lv tv K ∧ (∀ b ∈ l, K ≠ b.2.1) ∧ ¬ p K
/-- What stands behind make. -/
def MakeQ (p : Nat → Prop) (bb K : Nat) (l : TL) (t : LT) (s d : Nat) (w : World) (e : Ending) (w' : World) : Prop :=
  ∃ u : LT, e = .returned (.tuple #[u.val, .bool (Tm.makeOk s d (Tm.img (bt l) t.bare))]) ∧ u.In (fun k => p k ∨ w.heap.size ≤ k) w' ∧ (Tm.makeOk s d (Tm.img (bt l) t.bare) = true → u.bare = Tm.img (bt l) t.bare) ∧
    (∃ s' : Int, w'.heap[K]? = some (.cells #[.pointer (some ⟨bb, 0, none⟩), .int .i64 s'] 170 (0, 0)) ∧ (Tm.makeOk s d (Tm.img (bt l) t.bare) = true → s' = ((s + (Tm.img (bt l) t.bare).size : Nat) : Int))) ∧ Turned (fun k => k = K) w w'
end Go.Proofs.Ytoihjobdfjajfaa

/- bind's maker: the region that makes the row and the term (whichever first). -/
namespace Go.Proofs.Ytoihjobdfjajfaa
set_option linter.unusedVariables false
set_option linter.unusedSimpArgs false
open Go.RowKit Go.Maps
structure MkR (w0 : World) (x : LT) (n : Nat) (hs : Hist) (W : World) : Prop where
  t : Turned (fun _ => False) w0 W
  row : ∀ v, (7, v) ∈ hs → ∃ G, v = .slice (some ⟨G, 0, none⟩) n n ∧ w0.heap.size ≤ G ∧ Row W 27 4 v n ((blanks n).flatMap LT.cells)
  agg : ∀ v, (8, v) ∈ hs → ∃ s, (7, s) ∈ hs ∧ v = .agg #[.int .i64 x.kind, .int .i64 0, .string x.name, s]
  box : ∀ v, (9, v) ∈ hs → ∃ B c0 c1 c2 c3, v = ptr B ∧ w0.heap.size ≤ B ∧ W.heap[B]? = some (.cells #[c0, c1, c2, c3] 27 (0, 0)) ∧ (∀ s, (7, s) ∈ hs → s.ownBlock ≠ some B) ∧ ∀ q, (10, q) ∈ hs → (8, .agg #[c0, c1, c2, c3]) ∈ hs
  uq : ∀ v v', (9, v) ∈ hs → (9, v') ∈ hs → v = v'
section
variable {w0 W W' : World} {x : LT} {n : Nat} {hs : Hist}
theorem MkR.start (h : Turned (fun _ => False) w0 W) : MkR w0 x n [] W := ⟨h, fun v h => (List.not_mem_nil h).elim, fun v h => (List.not_mem_nil h).elim, fun v h => (List.not_mem_nil h).elim, fun v v' h => (List.not_mem_nil h).elim⟩
theorem MkR.turned0 (h : MkR w0 x n hs W) (T : Turned (fun _ => False) W W') : MkR w0 x n hs W' := by
  refine ⟨h.t.trans T, fun v hv => ?_, h.agg, fun v hv => ?_, h.uq⟩
  · obtain ⟨G, h1, h2, h3⟩ := h.row v hv
    exact ⟨G, h1, h2, h3.turned0 T⟩
  · obtain ⟨B, c0, c1, c2, c3, h1, h2, h3, h4⟩ := h.box v hv
    exact ⟨B, c0, c1, c2, c3, h1, h2, (T.block B (Array.getElem?_eq_some_iff.1 h3).1 (fun f => f)).trans h3, h4⟩
theorem MkR.made {ZZ : Array Value} (h : MkR w0 x n hs W) (hno : ∀ v, (7, v) ∉ hs) (hr : Row (W.alloc (.cells ZZ 27)) 27 4 (.slice (some ⟨W.heap.size, 0, none⟩) n n) n ((blanks n).flatMap LT.cells)) :
    MkR w0 x n (hs ++ [(7, .slice (some ⟨W.heap.size, 0, none⟩) n n)]) (W.alloc (.cells ZZ 27)) := by
  have T : Turned (fun _ => False) W (W.alloc (.cells ZZ 27)) := (Turned.refl _ W).alloc _
  refine ⟨h.t.trans T, fun v hv => ?_, fun v hv => ?_, fun v hv => ?_, fun v v' hv hv' => ?_⟩
  · rcases mem_snoc hv with hm | ⟨_, e⟩
    · exact absurd hm (hno v)
    · rw [e]; exact ⟨_, rfl, h.t.size, hr⟩
  · rcases mem_snoc hv with hm | ⟨e, _⟩
    · obtain ⟨s, h1, h2⟩ := h.agg v hm
      exact ⟨s, List.mem_append_left _ h1, h2⟩
    · omega
  · rcases mem_snoc hv with hm | ⟨e, _⟩
    · obtain ⟨B, c0, c1, c2, c3, h1, h2, h3, h4, h5⟩ := h.box v hm
      have hl := (Array.getElem?_eq_some_iff.1 h3).1
      refine ⟨B, c0, c1, c2, c3, h1, h2, (T.block B hl (fun f => f)).trans h3, fun s hs => ?_, fun q hq => ?_⟩
      · rcases mem_snoc hs with hm | ⟨_, e⟩
        · exact absurd hm (hno s)
        · rw [e]; intro e2; simp [Value.ownBlock] at e2; omega
      · rcases mem_snoc hq with hq | ⟨e, _⟩
        · exact List.mem_append_left _ (h5 q hq)
        · omega
    · omega
  · rcases mem_snoc hv with hm | ⟨e, _⟩
    · rcases mem_snoc hv' with hm' | ⟨e, _⟩
      · exact h.uq v v' hm hm'
      · omega
    · omega
theorem MkR.built {s : Value} (h : MkR w0 x n hs W) (hs7 : (7, s) ∈ hs) : MkR w0 x n (hs ++ [(8, .agg #[.int .i64 x.kind, .int .i64 0, .string x.name, s])]) W := by
  have ne : ∀ {j : Nat} {v : Value}, j ≠ 8 → (j, v) ∈ hs ++ [(8, Value.agg #[.int .i64 x.kind, .int .i64 0, .string x.name, s])] → (j, v) ∈ hs := fun hj hm => by
    rcases mem_snoc hm with hm | ⟨e, _⟩
    · exact hm
    · exact absurd e hj
  refine ⟨h.t, fun v hv => h.row v (ne (by decide) hv), fun v hv => ?_, fun v hv => ?_, fun v v' hv hv' => h.uq v v' (ne (by decide) hv) (ne (by decide) hv')⟩
  · rcases mem_snoc hv with hm | ⟨_, e⟩
    · obtain ⟨s, h1, h2⟩ := h.agg v hm
      exact ⟨s, List.mem_append_left _ h1, h2⟩
    · exact ⟨s, List.mem_append_left _ hs7, e⟩
  · obtain ⟨B, c0, c1, c2, c3, h1, h2, h3, h4, h5⟩ := h.box v (ne (by decide) hv)
    exact ⟨B, c0, c1, c2, c3, h1, h2, h3, fun s hs => h4 s (ne (by decide) hs), fun q hq => List.mem_append_left _ (h5 q (ne (by decide) hq))⟩
theorem MkR.laid {c0 c1 c2 c3 : Value} (h : MkR w0 x n hs W) (hno : ∀ v, (9, v) ∉ hs) (hst : ∀ q, (10, q) ∉ hs) : MkR w0 x n (hs ++ [(9, ptr W.heap.size)]) (W.alloc (.cells #[c0, c1, c2, c3] 27)) := by
  have T : Turned (fun _ => False) W (W.alloc (.cells #[c0, c1, c2, c3] 27)) := (Turned.refl _ W).alloc _
  have ne : ∀ {j : Nat} {v : Value}, j ≠ 9 → (j, v) ∈ hs ++ [(9, ptr W.heap.size)] → (j, v) ∈ hs := fun hj hm => by
    rcases mem_snoc hm with hm | ⟨e, _⟩
    · exact hm
    · exact absurd e hj
  have last : ∀ {v : Value}, (9, v) ∈ hs ++ [(9, ptr W.heap.size)] → v = ptr W.heap.size := fun hm => by
    rcases mem_snoc hm with hm | ⟨_, e⟩
    · exact absurd hm (hno _)
    · exact e
  refine ⟨h.t.trans T, fun v hv => ?_, fun v hv => ?_, fun v hv => ?_, fun v v' hv hv' => by rw [last hv, last hv']⟩
  · obtain ⟨G, h1, h2, h3⟩ := h.row v (ne (by decide) hv)
    exact ⟨G, h1, h2, h3.turned0 T⟩
  · obtain ⟨s, h1, h2⟩ := h.agg v (ne (by decide) hv)
    exact ⟨s, List.mem_append_left _ h1, h2⟩
  · refine ⟨W.heap.size, c0, c1, c2, c3, last hv, h.t.size, heap_alloc_new W _, fun s hs => ?_, fun q hq => absurd (ne (by decide) hq) (hst q)⟩
    obtain ⟨G, h1, _, h3⟩ := h.row s (ne (by decide) hs)
    intro e
    have := h3.lt _ e
    omega
theorem MkR.cell {v : Value} (h : MkR w0 x n hs W) (h9 : (9, v) ∈ hs) : ∃ B c0 c1 c2 c3, v = .pointer (some ⟨B, 0, none⟩) ∧ W.heap[B]? = some (.cells #[c0, c1, c2, c3] 27 (0, 0)) := by
  obtain ⟨B, c0, c1, c2, c3, h1, h2, h3, _⟩ := h.box v h9
  exact ⟨B, c0, c1, c2, c3, h1, h3⟩
theorem MkR.stored {B : Nat} {s q : Value} (h : MkR w0 x n hs W) (h9 : (9, ptr B) ∈ hs) (h8 : (8, .agg #[.int .i64 x.kind, .int .i64 0, .string x.name, s]) ∈ hs) :
    MkR w0 x n (hs ++ [(10, q)]) ((((W.setCell ⟨B, 0, none⟩ (.int .i64 x.kind)).setCell ⟨B, 1, none⟩ (.int .i64 0)).setCell ⟨B, 2, none⟩ (.string x.name)).setCell ⟨B, 3, none⟩ s) := by
  obtain ⟨B', c0, c1, c2, c3, h1, h2, h3, h4, h5⟩ := h.box _ h9
  obtain rfl := ptr_inj h1
  have hset := set4 (a' := .int .i64 x.kind) (b' := .int .i64 0) (c' := .string x.name) (d' := s) h3
  have T := turned_store4 W B (.int .i64 x.kind) (.int .i64 0) (.string x.name) s
  have ne : ∀ {j : Nat} {v : Value}, j ≠ 10 → (j, v) ∈ hs ++ [(10, q)] → (j, v) ∈ hs := fun hj hm => by
    rcases mem_snoc hm with hm | ⟨e, _⟩
    · exact hm
    · exact absurd e hj
  refine ⟨h.t.step T (fun i hi e => by omega), fun v hv => ?_, fun v hv => ?_, fun v hv => ?_, fun v v' hv hv' => h.uq v v' (ne (by decide) hv) (ne (by decide) hv')⟩
  · obtain ⟨G, g1, g2, g3⟩ := h.row v (ne (by decide) hv)
    exact ⟨G, g1, g2, g3.turned T (fun k hk e => h4 v (ne (by decide) hv) (by rw [hk, e]))⟩
  · obtain ⟨s, h1, h2⟩ := h.agg v (ne (by decide) hv)
    exact ⟨s, List.mem_append_left _ h1, h2⟩
  · rw [h.uq _ _ (ne (by decide) hv) h9]
    exact ⟨B, _, _, _, _, rfl, h2, hset, fun s hs => h4 s (ne (by decide) hs), fun q hq => List.mem_append_left _ h8⟩
theorem MkR.done {v : Value} (h : MkR w0 x n hs W) (hall : ∀ i ∈ [7, 8, 9, 10], ∃ v, (i, v) ∈ hs) (h9 : (9, v) ∈ hs) (uniq : ∀ i v v', (i, v) ∈ hs → (i, v') ∈ hs → v = v') :
    ∃ G B, v = .pointer (some ⟨B, 0, none⟩) ∧ G ≠ B ∧ w0.heap.size ≤ G ∧ w0.heap.size ≤ B ∧ W.heap[B]? = some (.cells #[.int .i64 x.kind, .int .i64 0, .string x.name, .slice (some ⟨G, 0, none⟩) n n] 27 (0, 0)) ∧ Row W 27 4 (.slice (some ⟨G, 0, none⟩) n n) n ((blanks n).flatMap LT.cells) ∧ Turned (fun _ => False) w0 W := by
  obtain ⟨B, c0, c1, c2, c3, h1, h2, h3, h4, h5⟩ := h.box _ h9
  obtain ⟨q, hq⟩ := hall 10 (by simp)
  obtain ⟨s, s1, s2⟩ := h.agg _ (h5 q hq)
  obtain ⟨G, g1, g2, g3⟩ := h.row s s1
  have hne := h4 s s1
  injection s2 with s2
  rw [s2, g1] at h3
  rw [g1] at hne g3
  refine ⟨G, B, h1, fun e => hne (by rw [e]; rfl), g2, h2, h3, g3, h.t⟩
end
end Go.Proofs.Ytoihjobdfjajfaa

/- bind's maker: make: all that a term's variables stand for, put in. -/
namespace Go.Proofs.Ytoihjobdfjajfaa
set_option linter.unusedVariables false
set_option linter.unusedSimpArgs false
open Go.RowKit Go.Maps
theorem afterWalk {w3 : World} {N K bb : Nat} {s : Value} {a0 b0 c0 d0 z0 z1 z2 z3 : Value} (hN : w3.heap[N]? = some (.cells #[a0, b0, c0, d0] 27 (0, 0))) (hK : w3.heap[K]? = some (.cells #[.pointer (some ⟨bb, 0, none⟩), s] 170 (0, 0))) (h1 : w3.heap[N + 1]? = some (.cells #[z0, z1, z2, z3] 27 (0, 0))) (hne : K < N) (a b c d v : Value) :
    (((((w3.setCell ⟨N, 0, none⟩ a).setCell ⟨N, 1, none⟩ b).setCell ⟨N, 2, none⟩ c).setCell ⟨N, 3, none⟩ d).setCell ⟨K, 1, none⟩ v).heap[N]? = some (.cells #[a, b, c, d] 27 (0, 0)) ∧
    (((((w3.setCell ⟨N, 0, none⟩ a).setCell ⟨N, 1, none⟩ b).setCell ⟨N, 2, none⟩ c).setCell ⟨N, 3, none⟩ d).setCell ⟨K, 1, none⟩ v).heap[K]? = some (.cells #[.pointer (some ⟨bb, 0, none⟩), v] 170 (0, 0)) ∧
    (((((w3.setCell ⟨N, 0, none⟩ a).setCell ⟨N, 1, none⟩ b).setCell ⟨N, 2, none⟩ c).setCell ⟨N, 3, none⟩ d).setCell ⟨K, 1, none⟩ v).heap[N + 1]? = some (.cells #[z0, z1, z2, z3] 27 (0, 0)) ∧
    Turned (fun k => k = N ∨ k = K) w3 (((((w3.setCell ⟨N, 0, none⟩ a).setCell ⟨N, 1, none⟩ b).setCell ⟨N, 2, none⟩ c).setCell ⟨N, 3, none⟩ d).setCell ⟨K, 1, none⟩ v) := by
  have T1 := turned_store4 w3 N a b c d
  have hs := set4 (a' := a) (b' := b) (c' := c) (d' := d) hN
  have hk := (T1.block K (Array.getElem?_eq_some_iff.1 hK).1 (by omega)).trans hK
  have h1' := (T1.block (N + 1) (Array.getElem?_eq_some_iff.1 h1).1 (by omega)).trans h1
  revert T1 hs hk h1'
  generalize (((w3.setCell ⟨N, 0, none⟩ a).setCell ⟨N, 1, none⟩ b).setCell ⟨N, 2, none⟩ c).setCell ⟨N, 3, none⟩ d = W
  intro T1 hs hk h1'
  have T2 : Turned (fun k => k = K) W (W.setCell ⟨K, 1, none⟩ v) := (Turned.refl (fun k => k = K) W).setCell (p := ⟨K, 1, none⟩) (.inr rfl) v
  refine ⟨(T2.block N (Array.getElem?_eq_some_iff.1 hs).1 (by omega)).trans hs, rec2_set1 hk v, (T2.block (N + 1) (Array.getElem?_eq_some_iff.1 h1').1 (by omega)).trans h1', (T1.mono (fun _ _ e => .inl e)).trans (T2.mono (fun _ _ e => .inr e))⟩
/-- Back with what is not used. -/
theorem MakeQ.no {p : Nat → Prop} {bb K : Nat} {l : TL} {t : LT} {s d : Nat} {s' : Int} {w w' : World} (hno : Tm.makeOk s d (Tm.img (bt l) t.bare) = false) (hK : w'.heap[K]? = some (.cells #[.pointer (some ⟨bb, 0, none⟩), .int .i64 s'] 170 (0, 0))) (T : Turned (fun k => k = K) w w') :
    MakeQ p bb K l t s d w (.returned (.tuple #[.agg #[.int .i64 0, .int .i64 0, .string ⟨#[]⟩, .slice none 0 0], .bool false])) w' :=
  ⟨leaf 0 0 ByteArray.empty, by rw [hno]; rfl, leafIn' (i64_lit _ (by omega)) (i64_lit _ (by omega)) (by unfold maxLen; decide), fun c => by (rw [hno] at c; cases c), ⟨s', hK, fun c => by (rw [hno] at c; cases c)⟩, T⟩
theorem MakeQ.yes {p : Nat → Prop} {bb K : Nat} {l : TL} {t u : LT} {s d : Nat} {s' : Int} {w w' : World} (hok : Tm.makeOk s d (Tm.img (bt l) t.bare) = true) (hb : u.bare = Tm.img (bt l) t.bare) (hu : u.In (fun k => p k ∨ w.heap.size ≤ k) w') (hK : w'.heap[K]? = some (.cells #[.pointer (some ⟨bb, 0, none⟩), .int .i64 s'] 170 (0, 0))) (hs : s' = ((s + (Tm.img (bt l) t.bare).size : Nat) : Int)) (T : Turned (fun k => k = K) w w') :
    MakeQ p bb K l t s d w (.returned (.tuple #[.agg #[.int .i64 u.kind, .int .i64 u.n, .string u.name, .slice u.at_.1 u.args.length u.at_.2], .bool true])) w' :=
  ⟨u, by rw [hok, LT.val_eq], hu, fun _ => hb, ⟨s', hK, fun _ => hs⟩, T⟩
theorem leaf_make {m s d : Nat} {l : Tm.Trail} {t X : Tm Unit} (hl : Tm.okT m l) (h : Tm.Walked m l t X) (ha : X.args.length = 0) (hs : s + 1 ≤ 2000) (hd : d ≤ 64) : Tm.img l t = X ∧ Tm.makeOk s d (Tm.img l t) = true ∧ (Tm.img l t).size = 1 := by
  have ha' := List.eq_nil_of_length_eq_zero ha
  have hx := h.flat hl ha'
  have h1 : X.size = 1 := by rw [Tm.size_eq, ha']; rfl
  have h2 : X.depth = 1 := by rw [Tm.depth_eq, ha']; rfl
  exact ⟨hx, by rw [hx, Tm.makeOk_iff]; omega, by rw [hx, h1]⟩
/-- What lay in p lies there still. -/
theorem make_in {p q : Nat → Prop} {w3 w W W' : World} {K : Nat} {x : LT} (hp : ∀ k, p k → k < w.heap.size ∧ k ≠ K) (A : Turned (fun k => k = w.heap.size ∨ k = K) w3 W) (Tq : Turned (fun k => k = w.heap.size + 1) W W') (h : x.In p w3) (hq : ∀ k, p k → q k) : x.In q W' :=
  LT.In.turned Tq (fun k _ hk e => by have := (hp k hk).1; omega) (fun k _ hk => hq k hk) x (LT.In.turned A (fun k _ hk e => by have := hp k hk; omega) (fun _ _ hk => hk) x h)
/-- What is known where the row is made. -/
structure MadeW (p : Nat → Prop) (bb sb m : Nat) (lv tv : Value) (l : TL) (K : Nat) (x : LT) (s : Int) (w W : World) : Prop where
  n0 : W.heap[w.heap.size]? = some (.cells #[.int .i64 x.kind, .int .i64 x.n, .string x.name, .slice x.at_.1 x.args.length x.at_.2] 27 (0, 0))
  n1 : W.heap[w.heap.size + 1]? = some (.cells #[.int .i64 0, .int .i64 0, .string ⟨#[]⟩, .slice none 0 0] 27 (0, 0))
  k : W.heap[K]? = some (.cells #[.pointer (some ⟨bb, 0, none⟩), .int .i64 s] 170 (0, 0))
  inn : x.In p W
  bi : BI p bb sb lv tv m l W
  turned : Turned (fun k => k = K) w W
theorem MadeW.mk' {p : Nat → Prop} {bb sb m : Nat} {lv tv : Value} {l : TL} {K : Nat} {x : LT} {s : Int} {w w2 w3 W : World} (h : BI p bb sb lv tv m l w) (hap : apart p bb sb lv tv l K) (A : W.heap[w.heap.size]? = some (.cells #[.int .i64 x.kind, .int .i64 x.n, .string x.name, .slice x.at_.1 x.args.length x.at_.2] 27 (0, 0)) ∧ W.heap[K]? = some (.cells #[.pointer (some ⟨bb, 0, none⟩), .int .i64 s] 170 (0, 0)) ∧ W.heap[w.heap.size + 1]? = some (.cells #[.int .i64 0, .int .i64 0, .string ⟨#[]⟩, .slice none 0 0] 27 (0, 0)) ∧ Turned (fun k => k = w.heap.size ∨ k = K) w3 W)
    (T2 : Turned (fun _ => False) w w2) (S3 : Turned (fun _ => False) w2 w3) (hx : x.In p w3) : MadeW p bb sb m lv tv l K x s w W := by
  have T : Turned (fun k => k = K) w W := ((T2.trans S3).mono (fun _ _ f => f.elim)).step A.2.2.2 (fun i hi e => e.elim (fun c => by omega) (fun c => c))
  exact ⟨A.1, A.2.2.1, A.2.1, LT.In.turned A.2.2.2 (fun k _ hk e => e.elim (fun c => by have := (h.sep k hk).1; omega) (fun c => hap.2.2 (c ▸ hk))) (fun _ _ hk => hk) x hx, h.turned T (fun k hk e => by rw [show k = K from e]; exact hap), T⟩
theorem MadeW.on {p : Nat → Prop} {bb sb m : Nat} {lv tv : Value} {l : TL} {K : Nat} {x : LT} {s : Int} {w W W' : World} (h : MadeW p bb sb m lv tv l K x s w W) (T : Turned (fun _ => False) W W') : MadeW p bb sb m lv tv l K x s w W' :=
  ⟨(T.block _ (Array.getElem?_eq_some_iff.1 h.n0).1 (fun f => f)).trans h.n0, (T.block _ (Array.getElem?_eq_some_iff.1 h.n1).1 (fun f => f)).trans h.n1, (T.block _ (Array.getElem?_eq_some_iff.1 h.k).1 (fun f => f)).trans h.k, h.inn.turned0 T, h.bi.turned0 T, h.turned.trans (T.mono (fun _ _ f => f.elim))⟩
theorem make_turned {w w2 w3 W W' : World} {K : Nat} (T2 : Turned (fun _ => False) w w2) (S3 : Turned (fun _ => False) w2 w3) (A : Turned (fun k => k = w.heap.size ∨ k = K) w3 W) (Tq : Turned (fun k => k = w.heap.size + 1) W W') : Turned (fun k => k = K) w W' :=
  ((((T2.trans S3).mono (fun _ _ f => f.elim)).step A (fun i hi e => e.elim (fun c => by omega) (fun c => c))).step Tq (fun i hi e => by omega))
/-- Behind the call for one arg. -/
def CallQ (p : Nat → Prop) (bb K : Nat) (ok : Bool) (y : Tm Unit) (sj : Nat) (wx : World) (u : LT) (W : World) : Prop :=
  u.In (fun k => p k ∨ wx.heap.size ≤ k) W ∧ (ok = true → u.bare = y) ∧ (∃ s' : Int, W.heap[K]? = some (.cells #[.pointer (some ⟨bb, 0, none⟩), .int .i64 s'] 170 (0, 0)) ∧ (ok = true → s' = ((sj + y.size : Nat) : Int))) ∧ Turned (fun k => k = K) wx W
/-- Behind its store. -/
def RowQ (p : Nat → Prop) (σ : Tm Unit → Tm Unit) (bb K G : Nat) (ok : Bool) (y : Tm Unit) (sj : Nat) (x : LT) (j : Nat) (W5 wx W : World) : Prop :=
  (∃ s' : Int, W.heap[K]? = some (.cells #[.pointer (some ⟨bb, 0, none⟩), .int .i64 s'] 170 (0, 0)) ∧ (ok = true → s' = ((sj + y.size : Nat) : Int))) ∧ Turned (fun k => k = K ∨ k = G) wx W ∧ (ok = true → ∃ us, MakI p σ G K x W5 (j + 1) us W)
def MrS (p : Nat → Prop) (σ : Tm Unit → Tm Unit) (bb K G : Nat) (ok : Bool) (y : Tm Unit) (sj : Nat) (x : LT) (j : Nat) (W5 wx : World) : List Value → World → Prop
  | [], W => Turned (fun _ => False) wx W
  | [a], W => ∃ u : LT, a = .tuple #[.agg #[.int .i64 u.kind, .int .i64 u.n, .string u.name, .slice u.at_.1 u.args.length u.at_.2], .bool ok] ∧ CallQ p bb K ok y sj wx u W
  | [_, b], W => ∃ u : LT, b = .tuple #[.agg #[.int .i64 u.kind, .int .i64 u.n, .string u.name, .slice u.at_.1 u.args.length u.at_.2], .bool ok] ∧ CallQ p bb K ok y sj wx u W
  | [_, b, c], W => ∃ u : LT, b = .tuple #[.agg #[.int .i64 u.kind, .int .i64 u.n, .string u.name, .slice u.at_.1 u.args.length u.at_.2], .bool ok] ∧ c = .agg #[.int .i64 u.kind, .int .i64 u.n, .string u.name, .slice u.at_.1 u.args.length u.at_.2] ∧ CallQ p bb K ok y sj wx u W
  | [_, b, _, _], W => (∃ u : LT, b = .tuple #[.agg #[.int .i64 u.kind, .int .i64 u.n, .string u.name, .slice u.at_.1 u.args.length u.at_.2], .bool ok]) ∧ RowQ p σ bb K G ok y sj x j W5 wx W
  | _, _ => False
section
variable {p : Nat → Prop} {σ : Tm Unit → Tm Unit} {bb K G : Nat} {ok : Bool} {y : Tm Unit} {sj : Nat} {x : LT} {j : Nat} {W5 wx W W' : World} {u : LT}
theorem CallQ.turned0 (h : CallQ p bb K ok y sj wx u W) (T : Turned (fun _ => False) W W') : CallQ p bb K ok y sj wx u W' := by
  obtain ⟨h1, h2, ⟨s', h3, h4⟩, h5⟩ := h
  exact ⟨h1.turned0 T, h2, ⟨s', (T.block _ (Array.getElem?_eq_some_iff.1 h3).1 (fun f => f)).trans h3, h4⟩, h5.trans (T.mono (fun _ _ f => f.elim))⟩
theorem MakI.on {t : LT} {w3 : World} {us : List LT} (h : MakI p σ G K t w3 j us W) (T : Turned (fun _ => False) W W') : MakI p σ G K t w3 j us W' :=
  ⟨h.len, h.bares, h.row.turned0 T, h.ins.turned0 T, h.turned.trans (T.mono (fun _ _ f => f.elim))⟩
theorem RowQ.turned0 (h : RowQ p σ bb K G ok y sj x j W5 wx W) (T : Turned (fun _ => False) W W') : RowQ p σ bb K G ok y sj x j W5 wx W' := by
  obtain ⟨⟨s', h3, h4⟩, h5, h6⟩ := h
  refine ⟨⟨s', (T.block _ (Array.getElem?_eq_some_iff.1 h3).1 (fun f => f)).trans h3, h4⟩, h5.trans (T.mono (fun _ _ f => f.elim)), fun e => ?_⟩
  obtain ⟨us, h⟩ := h6 e
  exact ⟨us, h.on T⟩
theorem MrS.turned0 : ∀ (hs : List Value) (w w' : World), MrS p σ bb K G ok y sj x j W5 wx hs w → Turned (fun _ => False) w w' → MrS p σ bb K G ok y sj x j W5 wx hs w'
  | [], _, _, h, T => Turned.trans h T
  | [_], _, _, h, T => by obtain ⟨u, h1, h2⟩ := h; exact ⟨u, h1, h2.turned0 T⟩
  | [_, _], _, _, h, T => by obtain ⟨u, h1, h2⟩ := h; exact ⟨u, h1, h2.turned0 T⟩
  | [_, _, _], _, _, h, T => by obtain ⟨u, h1, h2, h3⟩ := h; exact ⟨u, h1, h2, h3.turned0 T⟩
  | [_, _, _, _], _, _, h, T => ⟨h.1, h.2.turned0 T⟩
  | _ :: _ :: _ :: _ :: _ :: _, _, _, h, _ => h.elim
theorem MrS.turned : ∀ (hs : List Value) (W : World), MrS p σ bb K G ok y sj x j W5 wx hs W → Turned (fun k => k = K ∨ k = G) wx W
  | [], _, h => Turned.mono h (fun _ _ f => f.elim)
  | [_], _, h => by obtain ⟨u, h1, h2⟩ := h; exact h2.2.2.2.mono (fun _ _ e => .inl e)
  | [_, _], _, h => by obtain ⟨u, h1, h2⟩ := h; exact h2.2.2.2.mono (fun _ _ e => .inl e)
  | [_, _, _], _, h => by obtain ⟨u, h1, h2, h3⟩ := h; exact h3.2.2.2.mono (fun _ _ e => .inl e)
  | [_, _, _, _], _, h => h.2.2.1
  | _ :: _ :: _ :: _ :: _ :: _, _, h => h.elim
theorem MrS.tup : ∀ (hs : List Value) (W : World) (b : Value), MrS p σ bb K G ok y sj x j W5 wx hs W → hs[1]? = some b → ∃ u : LT, b = .tuple #[.agg #[.int .i64 u.kind, .int .i64 u.n, .string u.name, .slice u.at_.1 u.args.length u.at_.2], .bool ok]
  | [], _, _, _, e => by simp at e
  | [_], _, _, _, e => by simp at e
  | [_, _], _, _, h, e => by simp at e; subst e; obtain ⟨u, h1, _⟩ := h; exact ⟨u, h1⟩
  | [_, _, _], _, _, h, e => by simp at e; subst e; obtain ⟨u, h1, _⟩ := h; exact ⟨u, h1⟩
  | [_, _, _, _], _, _, h, e => by simp at e; subst e; exact h.1
  | _ :: _ :: _ :: _ :: _ :: _, _, _, h, _ => h.elim
theorem mr_store {w3 wr : World} {us : List LT} {xj : LT} (h : MakI p σ G K x W5 j us wr) (TX : Turned (fun _ => False) wr wx) (hp : ∀ k, p k → k < G ∧ k ≠ K) (hKG : K < G) (hG : G < wr.heap.size) (hx : x.args[j]? = some xj) (hy : σ xj.bare = y) (hC : CallQ p bb K ok y sj wx u W) :
    RowQ p σ bb K G ok y sj x j W5 wx ((((W.setCell ⟨G, j * 4, none⟩ (.int .i64 u.kind)).setCell ⟨G, j * 4 + 1, none⟩ (.int .i64 u.n)).setCell ⟨G, j * 4 + 2, none⟩ (.string u.name)).setCell ⟨G, j * 4 + 3, none⟩ (.slice u.at_.1 u.args.length u.at_.2)) := by
  obtain ⟨h1, h2, ⟨s', h3, h4⟩, h5⟩ := hC
  have Tq : Turned (fun k => k = G) W ((((W.setCell ⟨G, j * 4, none⟩ (.int .i64 u.kind)).setCell ⟨G, j * 4 + 1, none⟩ (.int .i64 u.n)).setCell ⟨G, j * 4 + 2, none⟩ (.string u.name)).setCell ⟨G, j * 4 + 3, none⟩ (.slice u.at_.1 u.args.length u.at_.2)) :=
    ((((Turned.refl (fun k => k = G) W).setCell (p := ⟨G, j * 4, none⟩) (.inr rfl) _).setCell (p := ⟨G, j * 4 + 1, none⟩) (.inr rfl) _).setCell (p := ⟨G, j * 4 + 2, none⟩) (.inr rfl) _).setCell (p := ⟨G, j * 4 + 3, none⟩) (.inr rfl) _
  refine ⟨⟨s', (Tq.block K (Array.getElem?_eq_some_iff.1 h3).1 (by omega)).trans h3, h4⟩, (h5.mono (fun _ _ e => .inl e)).trans (Tq.mono (fun _ _ e => .inr e)), fun e => ⟨_, h.put hp hKG hG hx ((h2 e).trans hy.symm) (h1.mono (fun k _ hk => hk.elim .inl (fun hk => .inr (Nat.le_trans TX.size hk)))) ((TX.mono (fun _ _ f => f.elim)).trans h5)⟩⟩
end
theorem brings_build27 {o : Oper} {a : Act} {w : World} {F : Value → World → Prop} (x y z : Tmp) (ho : o.op = Op.build 27 #[(0, .tmp x), (2, .tmp y), (3, .tmp z)]) {k : Int} {nm : ByteArray} {sa : Option Addr} {sn sc : Nat} (hx : a.tmps.getD x undef = .int .i64 k) (hy : a.tmps.getD y undef = .string nm) (hz : a.tmps.getD z undef = .slice sa sn sc)
    (h : F (.agg #[.int .i64 k, .int .i64 0, .string nm, .slice sa sn sc]) w) : Brings Try.prog F ((execOp a.eval o).run Try.prog w) := by
  have e : ∀ q, a.eval (.tmp q) = a.tmps.getD q undef := fun _ => rfl
  unfold execOp
  simp only [ho, List.map_toArray, List.map_cons, List.map_nil, e, hx, hy, hz]
  go_simp
  exact h
/-- Where the loop over the args stands. -/
def MakL (p : Nat → Prop) (bb K : Nat) (l : TL) (x : LT) (s d G : Nat) (Y : List (Tm Unit)) (W5 : World) (k : Nat) (i : Value) (wr : World) : Prop :=
  ∃ (j : Nat) (us : List LT), Hid (j + k = x.args.length) ∧ j ≤ x.args.length ∧ i = .int .i64 j ∧ Hid (MakI p (Tm.img (bt l)) G K x W5 j us wr) ∧ Hid (wr.heap[K]? = some (.cells #[.pointer (some ⟨bb, 0, none⟩), .int .i64 ((s + 1 + Tm.sizes (Y.take j) : Nat) : Int)] 170 (0, 0))) ∧ Hid (s + 1 + Tm.sizes (Y.take j) ≤ 2000) ∧ Hid (∀ y ∈ Y.take j, d + 1 + y.depth ≤ 65)
set_option maxRecDepth 100000 in
set_option maxHeartbeats 12800000 in
theorem make147 {p : Nat → Prop} {bb sb m : Nat} {lv tv : Value} {l : TL} {K : Nat} (n : Nat) : ∀ (t : LT) (w : World) (s d : Nat), d + n = 66 → d ≤ 65 → BI p bb sb lv tv m l w → t.In p w → (∀ z ∈ t.bare.flat, goodOneB z = true) → apart p bb sb lv tv l K →
    w.heap[K]? = some (.cells #[.pointer (some ⟨bb, 0, none⟩), .int .i64 s] 170 (0, 0)) → s ≤ 2000 → Calls Try.prog 147 #[.pointer (some ⟨K, 0, none⟩), t.val, .int .i64 d] w (MakeQ p bb K l t s d w) := by
  induction n with
  | zero => intro t w s d h1 h2; omega
  | succ n ih =>
    intro t w s d hdn hd h ht hg hap hK hs
    have h2 := twoBox w (.cells #[.int .i64 t.kind, .int .i64 t.n, .string t.name, .slice t.at_.1 t.args.length t.at_.2] 27) (.cells #[.int .i64 0, .int .i64 0, .string ⟨#[]⟩, .slice none 0 0] 27)
    have hkl := (Array.getElem?_eq_some_iff.1 hK).1
    obtain ⟨w2, hw2⟩ : ∃ z, z = (w.alloc (.cells #[.int .i64 t.kind, .int .i64 t.n, .string t.name, .slice t.at_.1 t.args.length t.at_.2] 27)).alloc (.cells #[.int .i64 0, .int .i64 0, .string ⟨#[]⟩, .slice none 0 0] 27) := ⟨_, rfl⟩
    rw [← hw2] at h2
    have hkp : ∀ W, Turned (fun _ => False) w2 W → W.heap[K]? = some (.cells #[.pointer (some ⟨bb, 0, none⟩), .int .i64 s] 170 (0, 0)) := fun W hW => ((h2.1.trans hW).block K hkl (fun f => f)).trans hK
    have hcp : ∀ W, Turned (fun _ => False) w2 W → W.heap[w.heap.size]? = some (.cells #[.int .i64 t.kind, .int .i64 t.n, .string t.name, .slice t.at_.1 t.args.length t.at_.2] 27 (0, 0)) ∧ W.heap[w.heap.size + 1]? = some (.cells #[.int .i64 0, .int .i64 0, .string ⟨#[]⟩, .slice none 0 0] 27 (0, 0)) := fun W hW => ⟨(hW.block _ (by have := h2.2.1; omega) (fun f => f)).trans h2.2.2.1, (hW.block _ (by have := h2.2.1; omega) (fun f => f)).trans h2.2.2.2⟩
    have hwk : ∀ W, Turned (fun _ => False) w2 W → Calls Try.prog 90 #[.pointer (some ⟨bb, 0, none⟩), t.val] W fun e w' => ∃ x : LT, e = .returned x.val ∧ x.In p w' ∧ x.bare = Tm.walkT (bt l) t.bare ∧ Turned (fun _ => False) W w' := fun W hW => walk90 (h.turned0 (h2.1.trans hW)) (ht.turned0 (h2.1.trans hW)) hg
    have hwd := Tm.walked h.ok _ t.bare (Nat.le_refl _) hg
    obtain ⟨X, hX⟩ : ∃ z, z = Tm.walkT (bt l) t.bare := ⟨_, rfl⟩
    rw [← hX] at hwk hwd
    have HV := LT.val_eq t
    rw [HV] at hwk
    rw [HV]
    have HWK := Lib.hid hwk
    have HKP := Lib.hid hkp
    have HCP := Lib.hid hcp
    have HW2 := Lib.hid hw2
    have HWD := Lib.hid hwd
    have HKL := Lib.hid hkl
    have hKN : K ≠ w.heap.size := by omega
    have hNK : w.heap.size ≠ K := by omega
    have hKN1 : K ≠ w.heap.size + 1 := by omega
    have hNK1 : w.heap.size + 1 ≠ K := by omega
    have HT2 := Lib.hid h2.1
    have HH := Lib.hid h
    have HAP := Lib.hid hap
    clear hwk hkp hcp h2 hX hkl hK ht hg hap HV hw2 hwd h
    by_cases hA : s + 1 ≤ 2000
    · have d1 : decide (2000 < (s : Int) + 1) = false := decide_eq_false (by omega)
      by_cases hD : d ≤ 64
      · have d2 : decide (64 < (d : Int)) = false := decide_eq_false (by omega)
        obtain ⟨q, hq⟩ : ∃ z, z = X.args.length := ⟨_, rfl⟩
        by_cases hL : q = 0
        · have HLM := Lib.hid (leaf_make HH.out.ok HWD.out (by rw [← hq]; exact hL) hA hD)
          have HQ := Lib.hid (show X.args.length = 0 by rw [← hq]; exact hL)
          clear hq hL
          go_enter Try.func147, Try.ntmps147
          go_wp2_with fail
          rw [← HW2.out]
          obtain ⟨e0, e1, _⟩ := rec2b (HKP.out w2 (Turned.refl _ _))
          obtain ⟨y0, y1, y2, y3, _⟩ := cells4 (HCP.out w2 (Turned.refl _ _)).1
          refine region_tail 5 (by kernel_rfl) (by kernel_rfl) ?_
          simp only [List.take_succ_cons, List.take_zero, List.drop_succ_cons, List.drop_zero]
          repeat still_step
          refine wpStill_nil ?_
          go_wp2_with (go_at_call 90; (with_reducible refine (HWK.out _ (Turned.refl _ _).drew).mono ?_); rintro e w3 ⟨x, rfl, hxin, hxb, T3⟩; rw [LT.val_eq x]; have S3 := (Turned.refl _ w2).drew.trans T3; have hq3 := HKP.out _ S3; obtain ⟨hb3, hz3⟩ := HCP.out _ S3; obtain ⟨k0, k1, kf0, kf1⟩ := rec2b hq3; obtain ⟨c0, c1, c2, c3, f0, f1, f2, f3⟩ := cells4 hb3; obtain ⟨z0, z1, z2, z3, g0, g1, g2, g3⟩ := cells4 hz3; have HAW := Lib.hid (afterWalk hb3 hq3 hz3 HKL.out (.int .i64 x.kind) (.int .i64 x.n) (.string x.name) (.slice x.at_.1 x.args.length x.at_.2) (.int .i64 ((s : Int) + 1))); have HXI := Lib.hid hxin; have HXB := Lib.hid hxb; have HS3 := Lib.hid S3; have hal2 : ((x.args.length : Int) == 0) = true := (by (have h1 := Tm.bare_arity x; have h2 := HQ.out; rw [hxb] at h1; rw [← h1, h2]; rfl)); clear hq3 hb3 hz3 hxin hxb S3 T3)
          obtain ⟨A1, A2, A3, A4⟩ := HAW.out
          have hset := set4 (a' := .int .i64 x.kind) (b' := .int .i64 x.n) (c' := .string x.name) (d' := .slice x.at_.1 x.args.length x.at_.2) A3
          have Tq := fun W => turned_store4 W (w.heap.size + 1) (.int .i64 x.kind) (.int .i64 x.n) (.string x.name) (.slice x.at_.1 x.args.length x.at_.2)
          have hp : ∀ k, p k → k < w.heap.size ∧ k ≠ K := fun k hk => ⟨(HH.out.sep k hk).1, fun e => HAP.out.2.2 (e ▸ hk)⟩
          refine bodyPost_ret (results_cell_tmp1 Try.results147 _ _ (w.heap.size + 1) 27 _ (0, 0) _ rfl hset Try.underlying27 rfl (by kernel_rfl)) rfl (MakeQ.yes HLM.out.2.1 (HXB.out.trans HLM.out.1.symm) (make_in hp A4 (Tq _) HXI.out (fun _ hk => .inl hk)) (((Tq _).block K (Array.getElem?_eq_some_iff.1 A2).1 (by omega)).trans A2) (by rw [HLM.out.2.2]; omega) (make_turned HT2.out HS3.out A4 (Tq _)))
        · have hxa : ¬ X.args = [] := fun e => hL (by rw [hq, e]; rfl)
          have HKN := Lib.hid (Tm.one_args (HWD.out.ones X (by rw [Tm.flat_eq]; exact List.mem_cons_self ..)) hxa)
          have HAR := Lib.hid (HWD.out.args hxa)
          have HQ := Lib.hid (show 0 < X.args.length by omega)
          clear hq hL hxa
          go_enter Try.func147, Try.ntmps147
          go_wp2_with fail
          rw [← HW2.out]
          obtain ⟨e0, e1, _⟩ := rec2b (HKP.out w2 (Turned.refl _ _))
          obtain ⟨y0, y1, y2, y3, _⟩ := cells4 (HCP.out w2 (Turned.refl _ _)).1
          refine region_tail 5 (by kernel_rfl) (by kernel_rfl) ?_
          simp only [List.take_succ_cons, List.take_zero, List.drop_succ_cons, List.drop_zero]
          repeat still_step
          refine wpStill_nil ?_
          go_wp2_with (go_at_call 90; (with_reducible refine (HWK.out _ (Turned.refl _ _).drew).mono ?_); rintro e w3 ⟨x, rfl, hxin, hxb, T3⟩; rw [LT.val_eq x]; have S3 := (Turned.refl _ w2).drew.trans T3; have hq3 := HKP.out _ S3; obtain ⟨hb3, hz3⟩ := HCP.out _ S3; obtain ⟨k0, k1, kf0, kf1⟩ := rec2b hq3; obtain ⟨c0, c1, c2, c3, f0, f1, f2, f3⟩ := cells4 hb3; obtain ⟨z0, z1, z2, z3, g0, g1, g2, g3⟩ := cells4 hz3; have HAW := Lib.hid (afterWalk hb3 hq3 hz3 HKL.out (.int .i64 x.kind) (.int .i64 x.n) (.string x.name) (.slice x.at_.1 x.args.length x.at_.2) (.int .i64 ((s : Int) + 1))); have HXI := Lib.hid hxin; have HXB := Lib.hid hxb; have HS3 := Lib.hid S3; have hal2 : ((x.args.length : Int) == 0) = false := (by (have h1 := Tm.bare_arity x; have h2 := HQ.out; rw [hxb] at h1; simp only [beq_eq_false_iff_ne, ne_eq]; omega)); clear hq3 hb3 hz3 hxin hxb S3 T3)
          have HM := Lib.hid (MadeW.mk' HH.out HAP.out HAW.out HT2.out HS3.out HXI.out)
          clear HAW HXI HS3 HT2
          revert HM
          generalize (((((w3.setCell ⟨w.heap.size, 0, none⟩ (.int .i64 x.kind)).setCell ⟨w.heap.size, 1, none⟩ (.int .i64 x.n)).setCell ⟨w.heap.size, 2, none⟩ (.string x.name)).setCell ⟨w.heap.size, 3, none⟩ (.slice x.at_.1 x.args.length x.at_.2)).setCell ⟨K, 1, none⟩ (.int .i64 ((s : Int) + 1))) = W4
          intro HM
          have hal8 : x.args.length ≤ 8 := by have h1 := Tm.bare_arity x; have h2 := HKN.out.2.2; rw [HXB.out] at h1; omega
          have HLP : Hid (0 < x.args.length) := by show 0 < _; have h1 := Tm.bare_arity x; have h2 := HQ.out; rw [HXB.out] at h1; omega
          have HCX := Lib.hid (fun W (T : Turned (fun _ => False) W4 W) => cells4 (HM.out.on T).n0)
          clear c0 c1 c2 c3 f0 f1 f2 f3 z0 z1 z2 z3 g0 g1 g2 g3 k0 k1 kf0 kf1 e0 e1 y0 y1 y2 y3
          refine wp_region_k [40, 41, 42, 43, 44, 45, 46, 47, 48, 8] [7, 8, 9, 10] [(47, 7), (48, 8), (8, 9)] (fun dd v => (match dd with | 40 => v = .pointer (some ⟨w.heap.size, 0, none⟩) | 41 => v = .int .i64 x.kind | 42 => v = .pointer (some ⟨w.heap.size, 2, none⟩) | 43 => v = .string x.name | 44 => v = .pointer (some ⟨w.heap.size, 3, none⟩) | 45 => v = .slice x.at_.1 x.args.length x.at_.2 | 46 => v = .int .i64 x.args.length | _ => True : Prop)) (MkR W4 x x.args.length) (by kernel_rfl) rfl (by kernel_rfl) (by kernel_rfl) (fun w h => MkR.start h) (fun hs w w' h ht => h.turned0 ht) ?hs ?hQ
          case hs =>
            refine ⟨?s0, ?s1, ?s2, ?s3, ?s4, ?s5, ?s6, ?s7, ?s8, ?s9, ?s10, trivial⟩
            case s0 =>
              refine fun hs hl => stepG_free [] [4] (by kernel_rfl) rfl ?_
              intro ac W hT hI hO
              have h4 : ac.tmps.getD 4 undef = .pointer (some ⟨w.heap.size, 0, none⟩) := hO 4 (by simp)
              show Brings Try.prog (fun v w' => Turned (fun _ => False) W w' ∧ v = .pointer (some ⟨w.heap.size, 0, none⟩)) _
              simp only [execOp, Act.eval, h4]
              go_simp
              try exact ⟨Turned.refl _ _, rfl⟩
            case s1 =>
              refine fun hs hl => stepG_free [40] [] (by kernel_rfl) rfl ?_
              intro ac W hT hI hO
              have h40 : ac.tmps.getD 40 undef = .pointer (some ⟨w.heap.size, 0, none⟩) := hI 40 (by simp)
              show Brings Try.prog (fun v w' => Turned (fun _ => False) W w' ∧ v = .int .i64 x.kind) _
              obtain ⟨q0, q1, q2, q3, _⟩ := HCX.out W hT.t
              simp only [execOp, Act.eval, h40]
              go_simp
              try exact ⟨Turned.refl _ _, rfl⟩
            case s2 =>
              refine fun hs hl => stepG_free [] [4] (by kernel_rfl) rfl ?_
              intro ac W hT hI hO
              have h4 : ac.tmps.getD 4 undef = .pointer (some ⟨w.heap.size, 0, none⟩) := hO 4 (by simp)
              show Brings Try.prog (fun v w' => Turned (fun _ => False) W w' ∧ v = .pointer (some ⟨w.heap.size, 2, none⟩)) _
              simp only [execOp, Act.eval, h4]
              go_simp
              try exact ⟨Turned.refl _ _, rfl⟩
            case s3 =>
              refine fun hs hl => stepG_free [42] [] (by kernel_rfl) rfl ?_
              intro ac W hT hI hO
              have h42 : ac.tmps.getD 42 undef = .pointer (some ⟨w.heap.size, 2, none⟩) := hI 42 (by simp)
              show Brings Try.prog (fun v w' => Turned (fun _ => False) W w' ∧ v = .string x.name) _
              obtain ⟨q0, q1, q2, q3, _⟩ := HCX.out W hT.t
              simp only [execOp, Act.eval, h42]
              go_simp
              try exact ⟨Turned.refl _ _, rfl⟩
            case s4 =>
              refine fun hs hl => stepG_free [] [4] (by kernel_rfl) rfl ?_
              intro ac W hT hI hO
              have h4 : ac.tmps.getD 4 undef = .pointer (some ⟨w.heap.size, 0, none⟩) := hO 4 (by simp)
              show Brings Try.prog (fun v w' => Turned (fun _ => False) W w' ∧ v = .pointer (some ⟨w.heap.size, 3, none⟩)) _
              simp only [execOp, Act.eval, h4]
              go_simp
              try exact ⟨Turned.refl _ _, rfl⟩
            case s5 =>
              refine fun hs hl => stepG_free [44] [] (by kernel_rfl) rfl ?_
              intro ac W hT hI hO
              have h44 : ac.tmps.getD 44 undef = .pointer (some ⟨w.heap.size, 3, none⟩) := hI 44 (by simp)
              show Brings Try.prog (fun v w' => Turned (fun _ => False) W w' ∧ v = .slice x.at_.1 x.args.length x.at_.2) _
              obtain ⟨q0, q1, q2, q3, _⟩ := HCX.out W hT.t
              simp only [execOp, Act.eval, h44]
              go_simp
              try exact ⟨Turned.refl _ _, rfl⟩
            case s6 =>
              refine fun hs hl => stepG_free [45] [] (by kernel_rfl) rfl ?_
              intro ac W hT hI hO
              have h45 : ac.tmps.getD 45 undef = .slice x.at_.1 x.args.length x.at_.2 := hI 45 (by simp)
              show Brings Try.prog (fun v w' => Turned (fun _ => False) W w' ∧ v = .int .i64 x.args.length) _
              simp only [execOp, Act.eval, h45]
              go_simp
              try exact ⟨Turned.refl _ _, rfl⟩
            case s7 =>
              refine fun hs hno hl => stepG_free [46] [] (by kernel_rfl) rfl ?_
              intro ac W hT hI hO
              have h46 : ac.tmps.getD 46 undef = .int .i64 x.args.length := hI 46 (by simp)
              show Brings Try.prog (fun v w' => MkR W4 x x.args.length (hs ++ [(7, v)]) w') _
              have hmk := make_blanksT x.args.length (by omega) W
              have hm1 := hmk.1
              have HM2 := Lib.hid hmk.2
              clear hmk
              simp only [execOp, Act.eval, h46]
              go_simp
              exact hT.made hno HM2.out
            case s8 =>
              refine fun hs hno hl => stepG_free [41, 43, 47] [] (by kernel_rfl) rfl ?_
              intro ac W hT hI hO
              have h41 : ac.tmps.getD 41 undef = .int .i64 x.kind := hI 41 (by simp)
              have h43 : ac.tmps.getD 43 undef = .string x.name := hI 43 (by simp)
              have h47 : (7, ac.tmps.getD 47 undef) ∈ hs := hI 47 (by simp)
              show Brings Try.prog (fun v w' => MkR W4 x x.args.length (hs ++ [(8, v)]) w') _
              obtain ⟨G, eG, _, _⟩ := hT.row _ h47
              refine brings_build27 41 43 47 rfl h41 h43 eG ?_
              rw [eG] at h47
              exact hT.built h47
            case s9 =>
              refine fun hs hno hl => stepG_free [] [] (by kernel_rfl) rfl ?_
              intro ac W hT hI hO
              show Brings Try.prog (fun v w' => MkR W4 x x.args.length (hs ++ [(9, v)]) w') _
              simp only [execOp, Act.eval]
              go_simp
              exact hT.laid hno (fun q => hl 10 11 q (by kernel_rfl))
            case s10 =>
              refine fun hs hno hl => stepG_free [8, 48] [] (by kernel_rfl) rfl ?_
              intro ac W hT hI hO
              have h8 : (9, ac.tmps.getD 8 undef) ∈ hs := hI 8 (by simp)
              have h48 : (8, ac.tmps.getD 48 undef) ∈ hs := hI 48 (by simp)
              obtain ⟨B, a0, a1, a2, a3, eB, hB⟩ := hT.cell h8
              obtain ⟨sv, hsv, eA⟩ := hT.agg _ h48
              obtain ⟨G, eG, _, _⟩ := hT.row _ hsv
              rw [eG] at eA
              obtain ⟨d0, d1, d2, d3, f0, f1, f2, f3⟩ := cells4 hB
              show Brings Try.prog (fun v w' => MkR W4 x x.args.length (hs ++ [(10, v)]) w') _
              simp only [execOp, Act.eval, eB, eA]
              go_simp
              rw [eB] at h8
              rw [eA] at h48
              exact hT.stored h8 h48
          case hQ =>
            intro hs7 vs W5 hall huniq hR hV
            obtain ⟨G, B, q8, hGB, hG, hB, hb5, hr5, T5⟩ := hR.done hall (hV 8 (by simp)) huniq
            simp only [List.foldl_cons, List.foldl_nil, List.setIfInBounds_toArray, List.set_cons_zero, List.set_cons_succ, q8]
            have HM5 := Lib.hid (HM.out.on T5)
            have HB5 := Lib.hid hb5
            have HZ : Hid (G ≠ B ∧ w.heap.size + 2 ≤ G ∧ w.heap.size + 2 ≤ B ∧ B < W5.heap.size ∧ G < W5.heap.size) := by
              have h1 := (Array.getElem?_eq_some_iff.1 HM.out.n1).1
              exact ⟨hGB, by omega, by omega, (Array.getElem?_eq_some_iff.1 hb5).1, hr5.lt G rfl⟩
            obtain ⟨c0, c1, c2, c3, _⟩ := cells4 HM5.out.n0
            have hL := fun W h => (LT.In.lies (p := p) (w := W) (t := x) h)
            obtain ⟨ad, had⟩ : ∃ z, z = x.at_.1 := ⟨_, rfl⟩
            rw [← had] at hL c3
            rw [← had]
            have HL := Lib.hid hL
            obtain ⟨o0, o1, o2, o3, _⟩ := cells4 hb5
            have HMI : Hid (MakI p (Tm.img (bt l)) G K x W5 0 (blanks x.args.length) W5) := ⟨blanks_length _, rfl, hr5, blanks_in _ _ _, Turned.refl _ _⟩
            obtain ⟨Y, hY⟩ : ∃ z, z = x.args.map (fun y => Tm.img (bt l) y.bare) := ⟨_, rfl⟩
            have HYI : Hid (Tm.img (bt l) t.bare = .mk x.kind 0 x.name () Y) := by
              show _ = _
              have h1 := HAR.out
              rw [← HXB.out, Tm.bare_kind, Tm.bare_name, Tm.bare_args, Tm.bares_eq, List.map_map] at h1
              rw [h1, hY]
              rfl
            have HY := Lib.hid hY
            clear hall huniq hR hV hs7 hGB hG hB hb5 hr5 T5 q8 hY had hL
            go_wp2_with fail
            go_loopg [52] x.args.length (fun k i wr => MakL p bb K l x s d G Y W5 k i wr)
            case atStart => exact ⟨0, _, Nat.zero_add _, Nat.zero_le _, rfl, HMI, show _ = _ by (have := HM5.out.k; simpa [Tm.sizes] using this), show _ ≤ _ by simpa [Tm.sizes] using hA, fun y hy => by simp at hy⟩
            case round =>
              obtain ⟨j, us, HG, hj, rfl, HMI, HKJ, HSJ, HDJ⟩ := hrel
              have hob := (HMI.out.turned.block B HZ.out.2.2.2.1 (fun e => by have := HZ.out; have := HKL.out; omega)).trans HB5.out
              have HXJ := Lib.hid (LT.In.turned HMI.out.turned (fun k _ hk e => by
                have h1 := (HH.out.sep k hk).1
                rcases e with e | e
                · have := HZ.out; omega
                · exact HAP.out.2.2 (e ▸ hk)) (fun _ _ hk => hk) x HM5.out.inn)
              have HBJ : Hid (BI p bb sb lv tv m l wr) := HM5.out.bi.turned HMI.out.turned (fun k hk e => by
                rcases e with e | e
                · subst e
                  have h0 := HZ.out.2.1
                  refine ⟨fun c => by have := HH.out.own_lt _ c; omega, fun b hb c => by have := (Array.getElem?_eq_some_iff.1 (HH.out.terms b hb).1).1; omega, fun c => by have := (HH.out.sep _ c).1; omega⟩
                · rw [show k = K from e]; exact HAP.out)
              have HSZ : Hid (W5.heap.size ≤ wr.heap.size) := HMI.out.turned.size
              obtain ⟨o0, o1, o2, o3, _⟩ := cells4 hob
              have HOB := Lib.hid hob
              clear hob
              by_cases hjl : j < x.args.length
              · obtain ⟨xj, hxj⟩ : ∃ y : LT, x.args[j]? = some y := ⟨_, List.getElem?_eq_getElem hjl⟩
                have hYj : Y[j]? = some (Tm.img (bt l) xj.bare) := by rw [HY.out, List.getElem?_map, hxj]; rfl
                have hone : ∀ z ∈ xj.bare.flat, goodOneB z = true := fun z hz => HWD.out.ones z (by
                  rw [← HXB.out, Tm.flat_eq]
                  refine List.mem_cons_of_mem _ (Tm.mem_flats_iff.2 ⟨xj.bare, ?_, hz⟩)
                  rw [Tm.bare_args, Tm.bares_eq]
                  exact List.mem_map_of_mem (List.mem_of_getElem? hxj))
                have hih := fun W (T : Turned (fun _ => False) wr W) => ih xj W (s + 1 + Tm.sizes (Y.take j)) (d + 1) (by omega) (by omega) (HBJ.out.turned0 T) ((LT.ins_iff _).1 (HXJ.out.turned0 T).args xj (List.mem_of_getElem? hxj)) hone HAP.out ((T.block K (Array.getElem?_eq_some_iff.1 HKJ.out).1 (fun f => f)).trans HKJ.out) HSJ.out
                rw [show (((d + 1 : Nat) : Int)) = (d : Int) + 1 from by omega, LT.val_eq xj] at hih
                obtain ⟨b, o, rfl, _, x0, x1, x2, x3⟩ := (HL.out _ HXJ.out).cell hxj
                have HXX := Lib.hid hxj
                have HYJ := Lib.hid hYj
                have hhw : (w.heap.size + 1 : Nat) ≠ G := by have := HZ.out; omega
                have hbx := heap_alloc_new wr (.cells #[.int .i64 xj.kind, .int .i64 xj.n, .string xj.name, .slice xj.at_.1 xj.args.length xj.at_.2] 27)
                have TX : Turned (fun _ => False) wr (wr.alloc (.cells #[.int .i64 xj.kind, .int .i64 xj.n, .string xj.name, .slice xj.at_.1 xj.args.length xj.at_.2] 27)) := (Turned.refl _ wr).alloc _
                have HBT := And.intro (Lib.hid hbx) (Lib.hid TX)
                clear hbx TX hxj hYj hone
                obtain ⟨ok, hok⟩ : ∃ z, z = Tm.makeOk (s + 1 + Tm.sizes (Y.take j)) (d + 1) (Tm.img (bt l) xj.bare) := ⟨_, rfl⟩
                have hih' : ∀ W, Turned (fun _ => False) wr W → Calls Try.prog 147 #[.pointer (some ⟨K, 0, none⟩), .agg #[.int .i64 xj.kind, .int .i64 xj.n, .string xj.name, .slice xj.at_.1 xj.args.length xj.at_.2], .int .i64 ((d : Int) + 1)] W fun e w' => ∃ u : LT, e = .returned (.tuple #[u.val, .bool ok]) ∧ CallQ p bb K ok (Tm.img (bt l) xj.bare) (s + 1 + Tm.sizes (Y.take j)) W u w' := fun W T => (hih W T).mono (fun e w' ⟨u, h1, h2, h3, h4, h5⟩ => ⟨u, by rw [h1, hok], h2, by rw [hok]; exact h3, by rw [hok]; exact h4, h5⟩)
                have HIH := Lib.hid hih'
                have HOK := Lib.hid hok
                clear hih hih' hok
                go_wp2_with fail
                revert HBT
                generalize wr.alloc (.cells #[.int .i64 xj.kind, .int .i64 xj.n, .string xj.name, .slice xj.at_.1 xj.args.length xj.at_.2] 27) = wx
                obtain ⟨B9, hB9⟩ : ∃ z, z = wr.heap.size := ⟨_, rfl⟩
                rw [← hB9]
                intro HBT
                have HB9 := Lib.hid hB9
                clear hB9
                obtain ⟨HBX, HTX⟩ := HBT
                have HCB := Lib.hid (fun W (T : Turned (fun k => k = K ∨ k = G) wx W) => cells4 ((T.block B9 (Array.getElem?_eq_some_iff.1 HBX.out).1 (fun e => by have := HB9.out; have := HKL.out; have := HZ.out; have := HSZ.out; omega)).trans HBX.out))
                have HCO := Lib.hid (fun W (T : Turned (fun k => k = K ∨ k = G) wx W) => cells4 ((T.block B (Nat.lt_of_lt_of_le (Array.getElem?_eq_some_iff.1 HOB.out).1 HTX.out.size) (fun e => by have := HKL.out; have := HZ.out; omega)).trans ((HTX.out.block B (Array.getElem?_eq_some_iff.1 HOB.out).1 (fun f => f)).trans HOB.out)))
                clear o0 o1 o2 o3 x0 x1 x2 x3
                refine wp_region_hsW [58, 59, 60, 61, 62, 63, 64, 65, 57, 66, 67, 68, 11] [7, 8, 9, 12] [3, 3, 3, 0, 0, 0, 0, 1, 2, 3, 4, 3, 4, 4] [65, 57, 66, 100012] (fun dd v => (match dd with | 58 => v = .pointer (some ⟨B, 3, none⟩) | 59 => v = .slice (some ⟨G, 0, none⟩) x.args.length x.args.length | 60 => v = .int .i64 j | 61 => v = .pointer (some ⟨K, 0, none⟩) | 62 => v = .agg #[.int .i64 xj.kind, .int .i64 xj.n, .string xj.name, .slice xj.at_.1 xj.args.length xj.at_.2] | 63 => v = .int .i64 d | 64 => v = .int .i64 ((d : Int) + 1) | 67 => v = .bool ok | 68 => v = .pointer (some ⟨G, j * 4, none⟩) | 11 => v = .bool ok | _ => True : Prop)) (MrS p (Tm.img (bt l)) bb K G ok (Tm.img (bt l) xj.bare) (s + 1 + Tm.sizes (Y.take j)) x j W5 wx) (by kernel_rfl) rfl (by kernel_rfl) (by kernel_rfl) (by kernel_rfl) (by kernel_rfl) (fun w h => h) (fun hs w w' h T => MrS.turned0 hs w w' h T) ?hs ?hQ
                case hs =>
                  refine ⟨?s0, ?s1, ?s2, ?s3, ?s4, ?s5, ?s6, ?s7, ?s8, ?s9, ?s10, ?s11, ?s12, ?s13, trivial⟩
                  case s0 =>
                    refine fun hs hle => stepG_free [] [8] (by kernel_rfl) rfl ?_
                    intro ac W hT hI hO
                    have h8 : ac.tmps.getD 8 undef = .pointer (some ⟨B, 0, none⟩) := hO 8 (by simp)
                    show Brings Try.prog (fun v w' => Turned (fun _ => False) W w' ∧ v = .pointer (some ⟨B, 3, none⟩)) _
                    simp only [execOp, Act.eval, h8]
                    go_simp
                    try exact ⟨Turned.refl _ _, rfl⟩
                  case s1 =>
                    refine fun hs hle => stepG_free [58] [] (by kernel_rfl) rfl ?_
                    intro ac W hT hI hO
                    have h58 : ac.tmps.getD 58 undef = .pointer (some ⟨B, 3, none⟩) := hI 58 (by simp)
                    show Brings Try.prog (fun v w' => Turned (fun _ => False) W w' ∧ v = .slice (some ⟨G, 0, none⟩) x.args.length x.args.length) _
                    obtain ⟨q0, q1, q2, q3, _⟩ := HCO.out W (MrS.turned hs W hT)
                    simp only [execOp, Act.eval, h58]
                    go_simp
                    try exact ⟨Turned.refl _ _, rfl⟩
                  case s2 =>
                    refine fun hs hle => stepG_free [] [9] (by kernel_rfl) rfl ?_
                    intro ac W hT hI hO
                    have h9 : ac.tmps.getD 9 undef = .int .i64 j := hO 9 (by simp)
                    show Brings Try.prog (fun v w' => Turned (fun _ => False) W w' ∧ v = .int .i64 j) _
                    simp only [execOp, Act.eval, h9]
                    go_simp
                    try exact ⟨Turned.refl _ _, rfl⟩
                  case s3 =>
                    refine fun hs hle => stepG_free [] [0] (by kernel_rfl) rfl ?_
                    intro ac W hT hI hO
                    have h0 : ac.tmps.getD 0 undef = .pointer (some ⟨K, 0, none⟩) := hO 0 (by simp)
                    show Brings Try.prog (fun v w' => Turned (fun _ => False) W w' ∧ v = .pointer (some ⟨K, 0, none⟩)) _
                    simp only [execOp, Act.eval, h0]
                    go_simp
                    try exact ⟨Turned.refl _ _, rfl⟩
                  case s4 =>
                    refine fun hs hle => stepG_free [] [10] (by kernel_rfl) rfl ?_
                    intro ac W hT hI hO
                    have h10 : ac.tmps.getD 10 undef = .pointer (some ⟨B9, 0, none⟩) := hO 10 (by simp)
                    show Brings Try.prog (fun v w' => Turned (fun _ => False) W w' ∧ v = .agg #[.int .i64 xj.kind, .int .i64 xj.n, .string xj.name, .slice xj.at_.1 xj.args.length xj.at_.2]) _
                    obtain ⟨q0, q1, q2, q3, _⟩ := HCB.out W (MrS.turned hs W hT)
                    simp only [execOp, Act.eval, h10]
                    go_simp
                    try exact ⟨Turned.refl _ _, rfl⟩
                  case s5 =>
                    refine fun hs hle => stepG_free [] [2] (by kernel_rfl) rfl ?_
                    intro ac W hT hI hO
                    have h2 : ac.tmps.getD 2 undef = .int .i64 d := hO 2 (by simp)
                    show Brings Try.prog (fun v w' => Turned (fun _ => False) W w' ∧ v = .int .i64 d) _
                    simp only [execOp, Act.eval, h2]
                    go_simp
                    try exact ⟨Turned.refl _ _, rfl⟩
                  case s6 =>
                    refine fun hs hle => stepG_free [63] [] (by kernel_rfl) rfl ?_
                    intro ac W hT hI hO
                    have h63 : ac.tmps.getD 63 undef = .int .i64 d := hI 63 (by simp)
                    show Brings Try.prog (fun v w' => Turned (fun _ => False) W w' ∧ v = .int .i64 ((d : Int) + 1)) _
                    simp only [execOp, Act.eval, h63]
                    go_simp
                    try rw [wrapI (by omega) (by omega)]
                    try exact ⟨Turned.refl _ _, rfl⟩
                  case s7 =>
                    refine fun hs hlen => stepG_free [61, 62, 64] [] (by kernel_rfl) rfl ?_
                    intro ac W hT hI hO
                    have h61 : ac.tmps.getD 61 undef = .pointer (some ⟨K, 0, none⟩) := hI 61 (by simp)
                    have h62 : ac.tmps.getD 62 undef = .agg #[.int .i64 xj.kind, .int .i64 xj.n, .string xj.name, .slice xj.at_.1 xj.args.length xj.at_.2] := hI 62 (by simp)
                    have h64 : ac.tmps.getD 64 undef = .int .i64 ((d : Int) + 1) := hI 64 (by simp)
                    obtain rfl : hs = [] := List.eq_nil_of_length_eq_zero hlen
                    replace hT : Turned (fun _ => False) wx W := hT
                    show Brings Try.prog (fun v w' => MrS p (Tm.img (bt l)) bb K G ok (Tm.img (bt l) xj.bare) (s + 1 + Tm.sizes (Y.take j)) x j W5 wx [v] w') _
                    simp only [execOp, Act.eval, h61, h62, h64]
                    go_simp
                    show Calls Try.prog 147 _ W _
                    (with_reducible refine (HIH.out W (HTX.out.trans hT)).mono ?_)
                    rintro e w' ⟨u, rfl, k1, k2, k3, k4⟩
                    exact ⟨_, rfl, u, by rw [LT.val_eq], k1.mono (fun k _ hk => hk.elim .inl (fun hk => .inr (Nat.le_trans hT.size hk))), k2, k3, (hT.mono (fun _ _ f => f.elim)).trans k4⟩
                  case s8 =>
                    refine fun hs hlen => stepG_free [65] [] (by kernel_rfl) rfl ?_
                    intro ac W hT hI hO
                    have h65 : hs[0]? = some (ac.tmps.getD 65 undef) := hI 65 (by simp)
                    obtain ⟨a, rfl⟩ := List.length_eq_one_iff.1 hlen
                    obtain ⟨u, ea, hC⟩ := hT
                    have e65 : a = ac.tmps.getD 65 undef := by simpa using h65
                    rw [e65] at ea
                    show Brings Try.prog (fun v w' => MrS p (Tm.img (bt l)) bb K G ok (Tm.img (bt l) xj.bare) (s + 1 + Tm.sizes (Y.take j)) x j W5 wx [a, v] w') _
                    simp only [execOp, Act.eval, ea]
                    go_simp
                    exact ⟨u, rfl, hC⟩
                  case s9 =>
                    refine fun hs hlen => stepG_free [57] [] (by kernel_rfl) rfl ?_
                    intro ac W hT hI hO
                    have h57 : hs[1]? = some (ac.tmps.getD 57 undef) := hI 57 (by simp)
                    obtain ⟨a, b, rfl⟩ := list2' hlen
                    obtain ⟨u, ea, hC⟩ := hT
                    have e57 : b = ac.tmps.getD 57 undef := by simpa using h57
                    show Brings Try.prog (fun v w' => MrS p (Tm.img (bt l)) bb K G ok (Tm.img (bt l) xj.bare) (s + 1 + Tm.sizes (Y.take j)) x j W5 wx [a, b, v] w') _
                    rw [e57] at ea
                    simp only [execOp, Act.eval, ea]
                    go_simp
                    exact ⟨u, by first | rfl | (rw [e57]; exact ea), rfl, hC⟩
                  case s10 =>
                    refine fun hs hle => stepG_free [57] [] (by kernel_rfl) rfl ?_
                    intro ac W hT hI hO
                    have h57 : hs[1]? = some (ac.tmps.getD 57 undef) := hI 57 (by simp)
                    show Brings Try.prog (fun v w' => Turned (fun _ => False) W w' ∧ v = .bool ok) _
                    obtain ⟨u, eu⟩ := MrS.tup hs W _ hT h57
                    simp only [execOp, Act.eval, eu]
                    go_simp
                    try exact ⟨Turned.refl _ _, rfl⟩
                  case s11 =>
                    refine fun hs hle => stepG_free [59, 60] [] (by kernel_rfl) rfl ?_
                    intro ac W hT hI hO
                    have h59 : ac.tmps.getD 59 undef = .slice (some ⟨G, 0, none⟩) x.args.length x.args.length := hI 59 (by simp)
                    have h60 : ac.tmps.getD 60 undef = .int .i64 j := hI 60 (by simp)
                    show Brings Try.prog (fun v w' => Turned (fun _ => False) W w' ∧ v = .pointer (some ⟨G, j * 4, none⟩)) _
                    simp only [execOp, Act.eval, h59, h60]
                    go_simp
                    try exact ⟨Turned.refl _ _, rfl⟩
                  case s12 =>
                    refine fun hs hlen => stepG_free [68, 66] [] (by kernel_rfl) rfl ?_
                    intro ac W hT hI hO
                    have h68 : ac.tmps.getD 68 undef = .pointer (some ⟨G, j * 4, none⟩) := hI 68 (by simp)
                    have h66 : hs[2]? = some (ac.tmps.getD 66 undef) := hI 66 (by simp)
                    obtain ⟨a, b, c, rfl⟩ := list3' hlen
                    obtain ⟨u, eb, ec, hC⟩ := hT
                    have e66 : c = ac.tmps.getD 66 undef := by simpa using h66
                    show Brings Try.prog (fun v w' => MrS p (Tm.img (bt l)) bb K G ok (Tm.img (bt l) xj.bare) (s + 1 + Tm.sizes (Y.take j)) x j W5 wx [a, b, c, v] w') _
                    rw [e66] at ec
                    have hrw := (HMI.out.row.turned0 HTX.out).turned hC.2.2.2 (fun k hk e => by simp [Value.ownBlock] at hk; have := HZ.out; have := HKL.out; omega)
                    have f0 := hrw.free rfl (j * 4)
                    have f1 := hrw.free rfl (j * 4 + 1)
                    have f2 := hrw.free rfl (j * 4 + 2)
                    have f3 := hrw.free rfl (j * 4 + 3)
                    obtain ⟨z0, g0⟩ := row_some hrw (j * 4) (by omega)
                    obtain ⟨z1, g1⟩ := row_some hrw (j * 4 + 1) (by omega)
                    obtain ⟨z2, g2⟩ := row_some hrw (j * 4 + 2) (by omega)
                    obtain ⟨z3, g3⟩ := row_some hrw (j * 4 + 3) (by omega)
                    have HRS := Lib.hid (mr_store (w3 := W5) HMI.out HTX.out (fun k hk => ⟨by have := (HH.out.sep k hk).1; have := HZ.out; omega, fun e => HAP.out.2.2 (e ▸ hk)⟩) (by have := HZ.out; have := HKL.out; omega) (by have := HZ.out; have := HSZ.out; omega) HXX.out rfl hC)
                    simp only [execOp, Act.eval, h68, ec]
                    go_simp
                    exact ⟨⟨u, by first | rfl | exact eb⟩, HRS.out⟩
                  case s13 =>
                    refine fun hs hle => stepG_free [67] [] (by kernel_rfl) rfl ?_
                    intro ac W hT hI hO
                    have h67 : ac.tmps.getD 67 undef = .bool ok := hI 67 (by simp)
                    show Brings Try.prog (fun v w' => Turned (fun _ => False) W w' ∧ v = .bool ok) _
                    simp only [execOp, Act.eval, h67]
                    go_simp
                    try exact ⟨Turned.refl _ _, rfl⟩
                case hQ =>
                  intro hs4 vs4 W9 hlen hR hV
                  have q11 : vs4 11 = .bool ok := hV 11 (by simp)
                  simp only [List.foldl_cons, List.foldl_nil, List.setIfInBounds_toArray, List.set_cons_zero, List.set_cons_succ, q11]
                  obtain ⟨e1, e2, e3, e4, rfl⟩ : ∃ a b c d, hs4 = [a, b, c, d] := list4' hlen
                  have HRQ := Lib.hid (show RowQ p (Tm.img (bt l)) bb K G ok (Tm.img (bt l) xj.bare) (s + 1 + Tm.sizes (Y.take j)) x j W5 wx W9 from hR.2)
                  clear hR hV q11 hlen
                  cases ok with
                  | false =>
                    have HNO : Hid (Tm.makeOk s d (Tm.img (bt l) t.bare) = false) := Tm.makeOk_no (i := j) (x := Tm.img (bt l) xj.bare) (by rw [HYI.out]; exact HYJ.out) (by rw [HYI.out]; exact HOK.out.symm)
                    have hz9 := (HRQ.out.2.1.block (w.heap.size + 1) (by have := (Array.getElem?_eq_some_iff.1 HM5.out.n1).1; have := HSZ.out; have := HTX.out.size; omega) (fun e => by have := HKL.out; have := HZ.out; omega)).trans ((HTX.out.block _ (by have := (Array.getElem?_eq_some_iff.1 HM5.out.n1).1; have := HSZ.out; omega) (fun f => f)).trans ((HMI.out.turned.block _ (Array.getElem?_eq_some_iff.1 HM5.out.n1).1 (fun e => by have := HKL.out; have := HZ.out; omega)).trans HM5.out.n1))
                    obtain ⟨z0, z1, z2, z3, f0, f1, f2, f3⟩ := cells4 hz9
                    have HZ9 := Lib.hid hz9
                    clear hz9
                    go_wp2_with fail
                    have hset := set4 (a' := .int .i64 0) (b' := .int .i64 0) (c' := .string ⟨#[]⟩) (d' := .slice none 0 0) HZ9.out
                    have Tq := fun W => turned_store4 W (w.heap.size + 1) (.int .i64 0) (.int .i64 0) (.string ⟨#[]⟩) (.slice none 0 0)
                    obtain ⟨⟨s', hk9, _⟩, ht9, _⟩ := HRQ.out
                    refine bodyPost_ret (results_cell_tmp1 Try.results147 _ _ (w.heap.size + 1) 27 _ (0, 0) _ rfl hset Try.underlying27 rfl (by kernel_rfl)) rfl (MakeQ.no HNO.out (((Tq _).block K (Array.getElem?_eq_some_iff.1 hk9).1 (by omega)).trans hk9) ?_)
                    refine ((((HM5.out.turned.step HMI.out.turned (fun i hi e => ?_)).trans (HTX.out.mono (fun _ _ f => f.elim))).step ht9 (fun i hi e => ?_))).step (Tq _) (fun i hi e => by omega)
                    · rcases e with e | e
                      · have := HZ.out; omega
                      · exact e
                    · rcases e with e | e
                      · exact e
                      · have := HZ.out; omega
                  | true =>
                    obtain ⟨⟨s', hk9, hs9⟩, ht9, hm9⟩ := HRQ.out
                    have hs9' := hs9 rfl
                    subst hs9'
                    have HK9 := Lib.hid hk9
                    have HT9 := Lib.hid ht9
                    have HM9 := Lib.hid (hm9 rfl)
                    clear hk9 ht9 hm9 hs9
                    go_wp2_with fail
                    have hst := Tm.sizes_take HYJ.out
                    obtain ⟨h1, h2⟩ := Tm.makeOk_iff.1 HOK.out.symm
                    obtain ⟨us', hI9⟩ := HM9.out
                    have HST := Lib.hid hst
                    have HI9 := Lib.hid hI9
                    have H12 := Lib.hid (And.intro h1 h2)
                    clear hst hI9 h1 h2
                    go_roundg (gk - 1)
                    case measure => have := HG.out; omega
                    case rel =>
                      refine ⟨j + 1, us', show _ = _ by have := HG.out; omega, by omega, by go_num, HI9, ?_, ?_, ?_⟩
                      · show _ = _
                        rw [HST.out]
                        have := HK9.out
                        rw [show s + 1 + (Tm.sizes (Y.take j) + (Tm.img (bt l) xj.bare).size) = s + 1 + Tm.sizes (Y.take j) + (Tm.img (bt l) xj.bare).size from by omega]
                        exact this
                      · show _ ≤ _
                        rw [HST.out]; have := H12.out.1; omega
                      · show ∀ y ∈ _, _
                        intro y hy
                        rw [List.take_add_one, HYJ.out] at hy
                        rcases List.mem_append.1 hy with hy | hy
                        · exact HDJ.out y hy
                        · simp at hy; rw [hy]; have := H12.out.2; omega
              · obtain rfl : j = x.args.length := by omega
                have hyl : Y.length = x.args.length := by rw [HY.out, List.length_map]
                have hk0 := HKJ.out
                have hs0 := HSJ.out
                have hd0 := HDJ.out
                rw [← hyl, List.take_length] at hk0 hs0 hd0
                have hmk : Tm.makeOk s d (Tm.img (bt l) t.bare) = true := Tm.makeOk_yes hA hD (by rw [HYI.out]; exact hs0) (by rw [HYI.out]; exact hd0)
                have hms : (Tm.img (bt l) t.bare).size = 1 + Tm.sizes Y := by rw [HYI.out, Tm.size_eq]; rfl
                have HK0 := Lib.hid hk0
                have HMK := Lib.hid (And.intro hmk hms)
                have hz9 := (HMI.out.turned.block _ (Array.getElem?_eq_some_iff.1 HM5.out.n1).1 (fun e => by have := HKL.out; have := HZ.out; omega)).trans HM5.out.n1
                obtain ⟨z0, z1, z2, z3, f0, f1, f2, f3⟩ := cells4 hz9
                have HZ9 := Lib.hid hz9
                clear hz9 hyl hk0 hs0 hd0 hmk hms
                go_wp2_with fail
                have hset := set4 (a' := .int .i64 x.kind) (b' := .int .i64 0) (c' := .string x.name) (d' := .slice (some ⟨G, 0, none⟩) x.args.length x.args.length) HZ9.out
                have Tq := fun W => turned_store4 W (w.heap.size + 1) (.int .i64 x.kind) (.int .i64 0) (.string x.name) (.slice (some ⟨G, 0, none⟩) x.args.length x.args.length)
                refine bodyPost_ret (results_cell_tmp1 Try.results147 _ _ (w.heap.size + 1) 27 _ (0, 0) _ rfl hset Try.underlying27 rfl (by kernel_rfl)) rfl ?_
                have hTT := (HM5.out.turned.step HMI.out.turned (fun i hi e => by
                  rcases e with e | e
                  · have := HZ.out; omega
                  · exact e)).step (Tq _) (fun i hi e => by omega)
                have hrow := HMI.out.row.turned (Tq _) (fun k hk e => by simp [Value.ownBlock] at hk; have := HZ.out; omega)
                have hins := HMI.out.ins.turned (q := fun k => p k ∨ w.heap.size ≤ k) (Tq _) (fun k _ hk e => by
                  rcases hk with hk | hk
                  · have := (HH.out.sep k hk).1; omega
                  · have := HZ.out; omega) (fun k _ hk => hk.elim .inl (fun hk => .inr (by have := HZ.out; omega)))
                obtain ⟨e1, e2⟩ := LT.Sl.of_row (p := fun k => p k ∨ w.heap.size ≤ k) hrow (fun k hk => .inr (by simp [Value.ownBlock] at hk; have := HZ.out; omega)) hins
                have hUL : us.length = x.args.length := HMI.out.len
                have hyes := MakeQ.yes (p := p) (bb := bb) (K := K) (l := l) (t := t) (u := .mk x.kind 0 x.name (some ⟨G, 0, none⟩, x.args.length) us) (s := s) (d := d) (w := w) HMK.out.1 ?_ (e2.in_ HM5.out.inn.kind (i64_lit _ (by omega)) HM5.out.inn.name) (((Tq _).block K (Array.getElem?_eq_some_iff.1 HK0.out).1 (by omega)).trans HK0.out) (by rw [HMK.out.2]; omega) hTT
                · simp only [Tm.kind, Tm.n, Tm.name, Tm.args, LT.at_] at hyes
                  rw [hUL] at hyes
                  exact hyes
                · have hbr := HMI.out.bares
                  rw [List.take_length, ← hUL, List.take_length] at hbr
                  rw [HYI.out, Tm.bare, Tm.bares_eq, hbr, HY.out]
      · have d2 : decide (64 < (d : Int)) = true := decide_eq_true (by omega)
        have hno : Tm.makeOk s d (Tm.img (bt l) t.bare) = false := by
          rw [Bool.eq_false_iff, ne_eq, Tm.makeOk_iff]
          have := Tm.depth_pos (Tm.img (bt l) t.bare)
          omega
        go_enter Try.func147, Try.ntmps147
        go_wp2_with fail
        rw [← HW2.out]
        obtain ⟨e0, e1, _⟩ := rec2b (HKP.out w2 (Turned.refl _ _))
        obtain ⟨y0, y1, y2, y3, _⟩ := cells4 (HCP.out w2 (Turned.refl _ _)).1
        refine region_tail 5 (by kernel_rfl) (by kernel_rfl) ?_
        simp only [List.take_succ_cons, List.take_zero, List.drop_succ_cons, List.drop_zero]
        repeat still_step
        refine wpStill_nil ?_
        go_wp2_with (go_at_call 90; (with_reducible refine (HWK.out _ (Turned.refl _ _).drew).mono ?_); rintro e w3 ⟨x, rfl, hxin, hxb, T3⟩; rw [LT.val_eq x]; have S3 := (Turned.refl _ w2).drew.trans T3; have hq3 := HKP.out _ S3; obtain ⟨hb3, hz3⟩ := HCP.out _ S3; obtain ⟨k0, k1, kf0, kf1⟩ := rec2b hq3; obtain ⟨c0, c1, c2, c3, f0, f1, f2, f3⟩ := cells4 hb3; obtain ⟨z0, z1, z2, z3, g0, g1, g2, g3⟩ := cells4 hz3; have HAW := Lib.hid (afterWalk hb3 hq3 hz3 HKL.out (.int .i64 x.kind) (.int .i64 x.n) (.string x.name) (.slice x.at_.1 x.args.length x.at_.2) (.int .i64 ((s : Int) + 1))); have HXI := Lib.hid hxin; have HXB := Lib.hid hxb; have HS3 := Lib.hid S3; clear hq3 hb3 hz3 hxin hxb S3 T3)
        obtain ⟨A1, A2, A3, A4⟩ := HAW.out
        have hset := set4 (a' := .int .i64 0) (b' := .int .i64 0) (c' := .string ⟨#[]⟩) (d' := .slice none 0 0) A3
        have Tq := fun W => turned_store4 W (w.heap.size + 1) (.int .i64 0) (.int .i64 0) (.string ⟨#[]⟩) (.slice none 0 0)
        refine bodyPost_ret (results_cell_tmp1 Try.results147 _ _ (w.heap.size + 1) 27 _ (0, 0) _ rfl hset Try.underlying27 rfl (by kernel_rfl)) rfl (MakeQ.no hno (((Tq _).block K (Array.getElem?_eq_some_iff.1 A2).1 (by omega)).trans A2) (make_turned HT2.out HS3.out A4 (Tq _)))
    · have d1 : decide (2000 < (s : Int) + 1) = true := decide_eq_true (by omega)
      have hno : Tm.makeOk s d (Tm.img (bt l) t.bare) = false := by
        rw [Bool.eq_false_iff, ne_eq, Tm.makeOk_iff]
        have := Tm.size_pos (Tm.img (bt l) t.bare)
        omega
      go_enter Try.func147, Try.ntmps147
      go_wp2_with fail
      rw [← HW2.out]
      obtain ⟨e0, e1, _⟩ := rec2b (HKP.out w2 (Turned.refl _ _))
      obtain ⟨y0, y1, y2, y3, _⟩ := cells4 (HCP.out w2 (Turned.refl _ _)).1
      refine region_tail 5 (by kernel_rfl) (by kernel_rfl) ?_
      simp only [List.take_succ_cons, List.take_zero, List.drop_succ_cons, List.drop_zero]
      repeat still_step
      refine wpStill_nil ?_
      go_wp2_with (go_at_call 90; (with_reducible refine (HWK.out _ (Turned.refl _ _).drew).mono ?_); rintro e w3 ⟨x, rfl, hxin, hxb, T3⟩; rw [LT.val_eq x]; have S3 := (Turned.refl _ w2).drew.trans T3; have hq3 := HKP.out _ S3; obtain ⟨hb3, hz3⟩ := HCP.out _ S3; obtain ⟨k0, k1, kf0, kf1⟩ := rec2b hq3; obtain ⟨c0, c1, c2, c3, f0, f1, f2, f3⟩ := cells4 hb3; obtain ⟨z0, z1, z2, z3, g0, g1, g2, g3⟩ := cells4 hz3; have HAW := Lib.hid (afterWalk hb3 hq3 hz3 HKL.out (.int .i64 x.kind) (.int .i64 x.n) (.string x.name) (.slice x.at_.1 x.args.length x.at_.2) (.int .i64 ((s : Int) + 1))); have HXI := Lib.hid hxin; have HXB := Lib.hid hxb; have HS3 := Lib.hid S3; clear hq3 hb3 hz3 hxin hxb S3 T3)
      obtain ⟨A1, A2, A3, A4⟩ := HAW.out
      have hset := set4 (a' := .int .i64 0) (b' := .int .i64 0) (c' := .string ⟨#[]⟩) (d' := .slice none 0 0) A3
      have Tq := fun W => turned_store4 W (w.heap.size + 1) (.int .i64 0) (.int .i64 0) (.string ⟨#[]⟩) (.slice none 0 0)
      refine bodyPost_ret (results_cell_tmp1 Try.results147 _ _ (w.heap.size + 1) 27 _ (0, 0) _ rfl hset Try.underlying27 rfl (by kernel_rfl)) rfl (MakeQ.no hno (((Tq _).block K (Array.getElem?_eq_some_iff.1 A2).1 (by omega)).trans A2) (make_turned HT2.out HS3.out A4 (Tq _)))
end Go.Proofs.Ytoihjobdfjajfaa

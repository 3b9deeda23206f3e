/- Merged texts: RL1, RL2, RL3, RL4, BS, BS2, RL5, RL6, Own79, AL10, Opens. -/
import Derived.Test.YtoihjobdfjajfaaQa3
import Derived.Laws.MakeOwn
import Derived.ProofKit
import Derived.Deep.Strs
import Derived.Lib.SmallJoins
/- The document's more. -/
namespace Go.Proofs.Ytoihjobdfjajfaa
set_option linter.unusedVariables false
set_option linter.unusedSimpArgs false
open Go.RowKit Go.Maps

theorem zero41 (w : World) : (zeroValue 41).run Try.prog w = .ok zeroT w := by kernel_rfl
set_option maxRecDepth 100000 in
set_option maxHeartbeats 6400000 in
theorem rMore141 {p : Nat → Prop} {mb : Nat} (hpm : ∀ k, p k → k ≠ mb) (n : Nat) : ∀ (a b : LT) (w : World) (mn : Nat) (g : Int → Option LT), a.depth ≤ n → a.In p w → b.In p w → goodB b = true → IMap Try.prog 2 w mb mn (valsM g) → (∀ i x, g i = some x → x.In p w ∧ goodB x = true) → mn + a.size ≤ 100000 →
    Calls Try.prog 141 #[a.val, b.val, .map (some mb)] w fun e w' => e = .returned (.bool (Tm.moreM a.bare b.bare (baresM g)).isSome) ∧ Turned (fun k => k = mb) w w' ∧ MoreP p mb (mn + a.size) (Tm.moreM a.bare b.bare (baresM g)) w' := by
  induction n with
  | zero => intro a b w mn g h; have := Tm.depth_pos a; omega
  | succ n ih =>
    intro a b w mn g hd ha hb hgb hm hg hsz
    have h2 := twoBox w (.cells #[.int .i64 a.kind, .int .i64 a.n, .string a.name, .slice a.at_.1 a.args.length a.at_.2] 41) (.cells #[.int .i64 b.kind, .int .i64 b.n, .string b.name, .slice b.at_.1 b.args.length b.at_.2] 41)
    have hmlt := hm.lt
    have hm2 := hm.turned h2.1 (fun f => f)
    have HB2 : Hid (((w.alloc (.cells #[.int .i64 a.kind, .int .i64 a.n, .string a.name, .slice a.at_.1 a.args.length a.at_.2] 41)).alloc (.cells #[.int .i64 b.kind, .int .i64 b.n, .string b.name, .slice b.at_.1 b.args.length b.at_.2] 41)).heap[w.heap.size + 1]? = some (.cells #[.int .i64 b.kind, .int .i64 b.n, .string b.name, .slice b.at_.1 b.args.length b.at_.2] 41 (0, 0))) := h2.2.2.2
    by_cases hk : a.kind = 0
    · have k0 : (a.kind == 0) = true := by simp [hk]
      have hn := ha.n
      have hlk := hm2.look_ok law2 Try.underlying157 (zero41 _) (key2 hn)
      have hmo : Tm.moreM a.bare b.bare (baresM g) = (match g a.n with | none => some (Tm.setM (baresM g) a.n b.bare) | some x => if Tm.same x.bare b.bare = true then some (baresM g) else none) := by
        rw [moreM_eq, Tm.bare_kind, if_pos hk, Tm.bare_n]
        unfold baresM
        cases g a.n <;> rfl
      have hkey := key2 hn
      rw [LT.val_eq a, LT.val_eq b]
      cases hga : g a.n with
      | none =>
        have hv0 : valsM g a.n = none := by unfold valsM; rw [hga]; rfl
        rw [hv0] at hlk
        simp only [Option.getD_none, Option.isSome_none] at hlk
        unfold zeroT at hlk
        rw [hga] at hmo
        simp only at hmo
        rw [hmo]
        have HMM := Lib.hid (And.intro hm2 (And.intro hm (And.intro hv0 h2)))
        have HIN := Lib.hid (And.intro hb (And.intro hgb (And.intro hg hsz)))
        have hc1 : ∀ o j u, ((w.alloc (.cells #[.int .i64 a.kind, .int .i64 a.n, .string a.name, .slice a.at_.1 a.args.length a.at_.2] 41)).alloc (.cells #[.int .i64 b.kind, .int .i64 b.n, .string b.name, .slice b.at_.1 b.args.length b.at_.2] 41)).cell? ⟨w.heap.size + 1, j, none⟩ = some u → (((w.alloc (.cells #[.int .i64 a.kind, .int .i64 a.n, .string a.name, .slice a.at_.1 a.args.length a.at_.2] 41)).alloc (.cells #[.int .i64 b.kind, .int .i64 b.n, .string b.name, .slice b.at_.1 b.args.length b.at_.2] 41)).alloc o).cell? ⟨w.heap.size + 1, j, none⟩ = some u := fun o j u h => cell_old h
        obtain ⟨d0, d1, d2, d3, _⟩ := cells4 HB2.out
        have HC1 := Lib.hid hc1
        have e0 := hc1 (.cells #[.int .i64 0, .int .i64 0, .string ByteArray.empty, .slice none 0 0] 41) _ _ d0
        have e1 := hc1 (.cells #[.int .i64 0, .int .i64 0, .string ByteArray.empty, .slice none 0 0] 41) _ _ d1
        have e2 := hc1 (.cells #[.int .i64 0, .int .i64 0, .string ByteArray.empty, .slice none 0 0] 41) _ _ d2
        have e3 := hc1 (.cells #[.int .i64 0, .int .i64 0, .string ByteArray.empty, .slice none 0 0] 41) _ _ d3
        clear hk hga hv0 hmo hb hgb hg hm hm2 h2 ih hd ha hc1 d0 d1 d2 d3
        go_enter Try.func141, Try.ntmps141
        go_wp2_with (at_mapUpdate; refine wpList_put rfl _ _ _ 157 rfl law2 Try.underlying157 rfl (HMM.out.1.alloc (.cells #[.int .i64 0, .int .i64 0, .string ByteArray.empty, .slice none 0 0] 41)) (by unfold maxLen; omega) rfl rfl hkey trivial ?_; intro w6 hm6 T6)
        go_ret
        have TW : Turned (fun k => k = mb) w w6 := ((HMM.out.2.2.2.1.alloc _).mono (fun _ _ f => f.elim)).trans T6
        refine ⟨rfl, TW, ?_⟩
        intro m' hm'
        injection hm' with hm'
        subst hm'
        have hm7 : IMap Try.prog 2 w6 mb (mn + 1) (valsM (setG g a.n b)) := by
          have h := hm6
          rw [HMM.out.2.2.1] at h
          rw [← setG_vals, LT.val_eq b]
          exact h
        obtain ⟨hb, hgb, hg, hsz⟩ := HIN.out
        have hp := Tm.size_pos a
        refine ⟨mn + 1, setG g a.n b, by omega, hm7, setG_bares g a.n b, fun i x hx => ?_⟩
        unfold setG at hx
        split at hx
        · injection hx with hx
          subst hx
          exact ⟨LT.In.turned TW (fun k _ hk e => hpm k hk e) (fun _ _ h => h) _ hb, hgb⟩
        · exact ⟨LT.In.turned TW (fun k _ hk e => hpm k hk e) (fun _ _ h => h) _ (hg i x hx).1, (hg i x hx).2⟩
      | some x =>
        have hv0 : valsM g a.n = some x.val := by unfold valsM; rw [hga]; rfl
        rw [hv0] at hlk
        simp only [Option.getD_some, Option.isSome_some] at hlk
        rw [LT.val_eq x] at hlk
        rw [hga] at hmo
        simp only at hmo
        obtain ⟨hxi, hxg⟩ := hg a.n x hga
        have TX := h2.1.alloc (.cells #[.int .i64 x.kind, .int .i64 x.n, .string x.name, .slice x.at_.1 x.args.length x.at_.2] 41)
        have hsm := rSame48 x.depth x b _ (Nat.le_refl _) (hxi.turned0 TX) (hb.turned0 TX)
        have hsb := same_bares x b
        rw [LT.val_eq x, LT.val_eq b, hsb] at hsm
        obtain ⟨SM, hSM⟩ : ∃ z, z = Tm.same x.bare b.bare := ⟨_, rfl⟩
        rw [← hSM] at hsm hmo
        have hmo2 : Tm.moreM a.bare b.bare (baresM g) = if SM = true then some (baresM g) else none := hmo
        have HSM := Lib.hid hsm
        have HMO := Lib.hid hmo2
        have HG := Lib.hid (And.intro hm hg)
        have HTX := Lib.hid TX
        obtain ⟨d0, d1, d2, d3, _⟩ := cells4 HB2.out
        have e0 := cell_old (o := .cells #[.int .i64 x.kind, .int .i64 x.n, .string x.name, .slice x.at_.1 x.args.length x.at_.2] 41) d0
        have e1 := cell_old (o := .cells #[.int .i64 x.kind, .int .i64 x.n, .string x.name, .slice x.at_.1 x.args.length x.at_.2] 41) d1
        have e2 := cell_old (o := .cells #[.int .i64 x.kind, .int .i64 x.n, .string x.name, .slice x.at_.1 x.args.length x.at_.2] 41) d2
        have e3 := cell_old (o := .cells #[.int .i64 x.kind, .int .i64 x.n, .string x.name, .slice x.at_.1 x.args.length x.at_.2] 41) d3
        clear hk hga hv0 hmo hmo2 hb hgb hg hm hm2 h2 ih hd ha d0 d1 d2 d3 hsm hsb hSM TX hxi hxg
        go_enter Try.func141, Try.ntmps141
        go_wp2_with (go_at_call 48; (with_reducible refine HSM.out.mono ?_); rintro e w5 ⟨rfl, T5⟩)
        go_ret
        rw [HMO.out]
        have TW := HTX.out.trans T5
        refine ⟨by cases SM <;> rfl, TW.mono (fun _ _ f => f.elim), ?_⟩
        intro m' hm'
        cases SM with
        | true =>
          rw [if_pos rfl] at hm'
          injection hm' with hm'
          subst hm'
          exact ⟨mn, g, by omega, HG.out.1.turned TW (fun f => f), rfl, fun i y hy => ⟨(HG.out.2 i y hy).1.turned0 TW, (HG.out.2 i y hy).2⟩⟩
        | false => rw [if_neg (by simp)] at hm'; cases hm'
    · have k0 : (a.kind == 0) = false := by simp [hk]
      have hmo : Tm.moreM a.bare b.bare (baresM g) = (if a.kind = b.kind ∧ a.n = b.n ∧ a.name = b.name ∧ a.args.length = b.args.length then Tm.moresM (Tm.bares a.args) (Tm.bares b.args) (baresM g) else none) := by
        rw [moreM_eq, Tm.bare_kind, if_neg hk, Tm.bare_n, Tm.bare_name, Tm.bare_arity, Tm.bare_kind, Tm.bare_n, Tm.bare_name, Tm.bare_arity, Tm.bare_args, Tm.bare_args]
      have HTB := Lib.hid h2.1
      by_cases hc : a.kind = b.kind ∧ a.n = b.n ∧ a.name = b.name ∧ a.args.length = b.args.length
      · rw [if_pos hc] at hmo
        obtain ⟨c1, c2, c3, c4⟩ := hc
        have z1 : (a.kind != b.kind) = false := by simp [c1]
        have z2 : (a.n != b.n) = false := by simp [c2]
        have z3 : (a.name.toList == b.name.toList) = true := by simp [c3]
        obtain ⟨MO, hMO⟩ : ∃ z, z = Tm.moreM a.bare b.bare (baresM g) := ⟨_, rfl⟩
        rw [← hMO] at hmo ⊢
        have hal : a.args.length ≤ 9223372036854775807 := by have := ha.len; unfold maxLen at this; omega
        have HMO := Lib.hid hmo
        have HIH := Lib.hid ih
        have HAB := Lib.hid (And.intro ha (And.intro hb hgb))
        have hini : Hid (MoreI p mb a b mn g 0 g mn ((w.alloc (.cells #[.int .i64 a.kind, .int .i64 a.n, .string a.name, .slice a.at_.1 a.args.length a.at_.2] 41)).alloc (.cells #[.int .i64 b.kind, .int .i64 b.n, .string b.name, .slice b.at_.1 b.args.length b.at_.2] 41)) ((w.alloc (.cells #[.int .i64 a.kind, .int .i64 a.n, .string a.name, .slice a.at_.1 a.args.length a.at_.2] 41)).alloc (.cells #[.int .i64 b.kind, .int .i64 b.n, .string b.name, .slice b.at_.1 b.args.length b.at_.2] 41))) :=
          ⟨Turned.refl _ _, hm2, fun i x hx => ⟨(hg i x hx).1.turned0 h2.1, (hg i x hx).2⟩, rfl, by simp [Tm.sizes]⟩
        have HA0 : Hid (((w.alloc (.cells #[.int .i64 a.kind, .int .i64 a.n, .string a.name, .slice a.at_.1 a.args.length a.at_.2] 41)).alloc (.cells #[.int .i64 b.kind, .int .i64 b.n, .string b.name, .slice b.at_.1 b.args.length b.at_.2] 41)).heap[w.heap.size]? = some (.cells #[.int .i64 a.kind, .int .i64 a.n, .string a.name, .slice a.at_.1 a.args.length a.at_.2] 41 (0, 0))) := h2.2.2.1
        have HSZ := Lib.hid h2.2.1
        rw [LT.val_eq a, LT.val_eq b]
        rw [← c4] at HB2 HA0 HTB HSZ hini ⊢
        have HC4 := Lib.hid c4
        obtain ⟨ad, had⟩ : ∃ z, z = a.at_.1 := ⟨_, rfl⟩
        obtain ⟨ca, hca⟩ : ∃ z, z = a.at_.2 := ⟨_, rfl⟩
        obtain ⟨bd, hbd⟩ : ∃ z, z = b.at_.1 := ⟨_, rfl⟩
        obtain ⟨cb, hcb⟩ : ∃ z, z = b.at_.2 := ⟨_, rfl⟩
        rw [← had, ← hca, ← hbd, ← hcb] at HB2 HA0 HTB HSZ hini ⊢
        have HL : Hid ((∀ W, a.In p W → LT.Lies p W ad a.args) ∧ (∀ W, b.In p W → LT.Lies p W bd b.args)) := by
          rw [had, hbd]; exact ⟨fun W h => h.lies, fun W h => h.lies⟩
        have z4 : ((a.args.length : Int) != (a.args.length : Int)) = false := by simp
        clear hmo h2 hm2 hm hg ih hb ha hgb c1 c2 c3 c4 hMO had hca hbd hcb hk
        go_enter Try.func141, Try.ntmps141
        obtain ⟨_, _, _, aa3, _⟩ := cells4 HA0.out
        go_wp2_with fail
        have HTT := And.intro HB2 (And.intro HA0 (And.intro HTB (And.intro HSZ hini)))
        clear HB2 HA0 HTB HSZ hini aa3
        revert HTT
        generalize ((w.alloc (.cells #[.int .i64 a.kind, .int .i64 a.n, .string a.name, .slice ad a.args.length ca] 41)).alloc (.cells #[.int .i64 b.kind, .int .i64 b.n, .string b.name, .slice bd a.args.length cb] 41)) = w2
        intro HTT
        obtain ⟨HB2, HA0, HTB, HSZ, hini⟩ := HTT
        go_loopg [9] a.args.length (fun q i wr => ∃ (j mj : Nat) (gj : Int → Option LT), Hid (j + q = a.args.length) ∧ j ≤ a.args.length ∧ i = .int .i64 j ∧ Hid (MoreI p mb a b mn g j gj mj w2 wr))
        case atStart => exact ⟨0, mn, g, Nat.zero_add _, Nat.zero_le _, rfl, hini⟩
        case round =>
          obtain ⟨j, mj, gj, HG, hj, rfl, HI⟩ := hrel
          have TW : Turned (fun k => k = mb) w wr := (HTB.out.mono (fun _ _ f => f.elim)).trans HI.out.turned
          obtain ⟨_, _, _, a3, _⟩ := cells4 ((HI.out.turned.block _ (Array.getElem?_eq_some_iff.1 HA0.out).1 (by omega)).trans HA0.out)
          by_cases hjl : j < a.args.length
          · obtain ⟨x, hx⟩ : ∃ x : LT, a.args[j]? = some x := ⟨_, List.getElem?_eq_getElem hjl⟩
            obtain ⟨y, hy⟩ : ∃ y : LT, b.args[j]? = some y := ⟨_, List.getElem?_eq_getElem (by have := HC4.out; omega)⟩
            have ain := LT.In.turned TW (fun k _ hk e => hpm k hk e) (fun _ _ h => h) a HAB.out.1
            have bin := LT.In.turned TW (fun k _ hk e => hpm k hk e) (fun _ _ h => h) b HAB.out.2.1
            obtain ⟨ab, ao, rfl, _, x0, x1, x2, x3⟩ := (HL.out.1 _ ain).cell hx
            obtain ⟨bb, bo, rfl, _, y0, y1, y2, y3⟩ := (HL.out.2 _ bin).cell hy
            obtain ⟨_, _, _, b3, _⟩ := cells4 ((HI.out.turned.block _ (Array.getElem?_eq_some_iff.1 HB2.out).1 (by omega)).trans HB2.out)
            have hgy := goodB_arg HAB.out.2.2 (List.mem_of_getElem? hy)
            have hst := sizes_at hx
            have hst2 := sizes_take a.args (j + 1)
            have hsz2 := Tm.size_eq a
            have hle := HI.out.le
            have hcx := fun W (h : Turned (fun _ => False) wr W) => HIH.out x y W mj gj (by have := arg_depth (List.mem_of_getElem? hx); omega) ((LT.ins_iff _).1 (ain.turned0 h).args x (List.mem_of_getElem? hx)) ((LT.ins_iff _).1 (bin.turned0 h).args y (List.mem_of_getElem? hy)) hgy (HI.out.map.turned h (fun f => f)) (fun i z hz => ⟨(HI.out.ok i z hz).1.turned0 h, (HI.out.ok i z hz).2⟩) (by omega)
            rw [LT.val_eq x, LT.val_eq y] at hcx
            obtain ⟨RB, hRB⟩ : ∃ z, z = (Tm.moreM x.bare y.bare (baresM gj)).isSome := ⟨_, rfl⟩
            rw [← hRB] at hcx
            have HRB := Lib.hid hRB
            have HCX := Lib.hid hcx
            have HXY := Lib.hid (And.intro hx hy)
            have HN : Hid (mj + x.size ≤ mn + Tm.sizes (a.args.take (j + 1))) := show _ ≤ _ by omega
            have HTW := Lib.hid TW
            clear hx hy ain bin hgy hst hst2 hsz2 hle hcx hRB TW
            go_wp2_with fail
            obtain ⟨B76, HB76⟩ : ∃ B, Hid (B = (!RB)) := ⟨_, rfl⟩
            refine wp_region_hsW [64, 65, 66, 67, 68, 69, 70, 71, 72, 73, 74, 75, 76] [11] [0, 0, 0, 0, 0, 0, 0, 0, 0, 0, 0, 1, 1] [75] (fun d v => (match d with | 64 => v = .pointer (some ⟨w.heap.size, 3, none⟩) | 65 => v = .slice (some ⟨ab, ao, none⟩) a.args.length ca | 66 => v = .int .i64 (j : Int) | 67 => v = .pointer (some ⟨ab, ao + j * 4, none⟩) | 68 => v = .agg #[.int .i64 x.kind, .int .i64 x.n, .string x.name, .slice x.at_.1 x.args.length x.at_.2] | 69 => v = .pointer (some ⟨(w.heap.size + 1), 3, none⟩) | 70 => v = .slice (some ⟨bb, bo, none⟩) a.args.length cb | 71 => v = .int .i64 (j : Int) | 72 => v = .pointer (some ⟨bb, bo + j * 4, none⟩) | 73 => v = .agg #[.int .i64 y.kind, .int .i64 y.n, .string y.name, .slice y.at_.1 y.args.length y.at_.2] | 74 => v = .map (some mb) | 76 => v = .bool B76 | _ => True : Prop)) (MoreS p mb mj gj x y wr RB) (by kernel_rfl) rfl (by kernel_rfl) (by kernel_rfl) (by kernel_rfl) (by kernel_rfl) (fun _ h => h) (fun hs w w' h ht => MoreS.turned0 hs w w' h ht) ?hs ?hQ
            case hs =>
              refine ⟨?s0, ?s1, ?s2, ?s3, ?s4, ?s5, ?s6, ?s7, ?s8, ?s9, ?s10, ?s11, ?s12, trivial⟩
              case s0 =>
                refine fun hs hle => stepG_free [] [3] (by kernel_rfl) rfl ?_
                · intro ac W hT hI hO
                  have hle : hs.length ≤ 0 := hle
                  have h3 : ac.tmps.getD 3 undef = .pointer (some ⟨w.heap.size, 0, none⟩) := hO 3 (by simp)
                  show Brings Try.prog (fun v w' => Turned (fun _ => False) W w' ∧ v = .pointer (some ⟨w.heap.size, 3, none⟩)) _
                  simp only [execOp, Act.eval, h3]
                  go_simp
                  try exact ⟨Turned.refl _ _, rfl⟩
              case s1 =>
                refine fun hs hle => stepG_free [64] [] (by kernel_rfl) rfl ?_
                · intro ac W hT hI hO
                  have hle : hs.length ≤ 0 := hle
                  have h64 : ac.tmps.getD 64 undef = .pointer (some ⟨w.heap.size, 3, none⟩) := hI 64 (by simp)
                  show Brings Try.prog (fun v w' => Turned (fun _ => False) W w' ∧ v = .slice (some ⟨ab, ao, none⟩) a.args.length ca) _
                  have hT0 : Turned (fun _ => False) wr W := more_nil hle hT; have a3 := hT0.cell0 a3; have b3 := hT0.cell0 b3; have x0 := hT0.cell0 x0; have x1 := hT0.cell0 x1; have x2 := hT0.cell0 x2; have x3 := hT0.cell0 x3; have y0 := hT0.cell0 y0; have y1 := hT0.cell0 y1; have y2 := hT0.cell0 y2; have y3 := hT0.cell0 y3
                  simp only [execOp, Act.eval, h64]
                  go_simp
                  exact ⟨Turned.refl _ _, rfl⟩
              case s2 =>
                refine fun hs hle => stepG_free [] [9] (by kernel_rfl) rfl ?_
                · intro ac W hT hI hO
                  have hle : hs.length ≤ 0 := hle
                  have h9 : ac.tmps.getD 9 undef = .int .i64 (j : Int) := hO 9 (by simp)
                  show Brings Try.prog (fun v w' => Turned (fun _ => False) W w' ∧ v = .int .i64 (j : Int)) _
                  simp only [execOp, Act.eval, h9]
                  go_simp
                  try exact ⟨Turned.refl _ _, rfl⟩
              case s3 =>
                refine fun hs hle => stepG_free [65, 66] [] (by kernel_rfl) rfl ?_
                · intro ac W hT hI hO
                  have hle : hs.length ≤ 0 := hle
                  have h65 : ac.tmps.getD 65 undef = .slice (some ⟨ab, ao, none⟩) a.args.length ca := hI 65 (by simp)
                  have h66 : ac.tmps.getD 66 undef = .int .i64 (j : Int) := hI 66 (by simp)
                  show Brings Try.prog (fun v w' => Turned (fun _ => False) W w' ∧ v = .pointer (some ⟨ab, ao + j * 4, none⟩)) _
                  simp only [execOp, Act.eval, h65, h66]
                  go_simp
                  try rw [if_pos (by omega)]
                  try exact ⟨Turned.refl _ _, rfl⟩
              case s4 =>
                refine fun hs hle => stepG_free [67] [] (by kernel_rfl) rfl ?_
                · intro ac W hT hI hO
                  have hle : hs.length ≤ 0 := hle
                  have h67 : ac.tmps.getD 67 undef = .pointer (some ⟨ab, ao + j * 4, none⟩) := hI 67 (by simp)
                  show Brings Try.prog (fun v w' => Turned (fun _ => False) W w' ∧ v = .agg #[.int .i64 x.kind, .int .i64 x.n, .string x.name, .slice x.at_.1 x.args.length x.at_.2]) _
                  have hT0 : Turned (fun _ => False) wr W := more_nil hle hT; have a3 := hT0.cell0 a3; have b3 := hT0.cell0 b3; have x0 := hT0.cell0 x0; have x1 := hT0.cell0 x1; have x2 := hT0.cell0 x2; have x3 := hT0.cell0 x3; have y0 := hT0.cell0 y0; have y1 := hT0.cell0 y1; have y2 := hT0.cell0 y2; have y3 := hT0.cell0 y3
                  simp only [execOp, Act.eval, h67]
                  go_simp
                  exact ⟨Turned.refl _ _, rfl⟩
              case s5 =>
                refine fun hs hle => stepG_free [] [4] (by kernel_rfl) rfl ?_
                · intro ac W hT hI hO
                  have hle : hs.length ≤ 0 := hle
                  have h4 : ac.tmps.getD 4 undef = .pointer (some ⟨(w.heap.size + 1), 0, none⟩) := hO 4 (by simp)
                  show Brings Try.prog (fun v w' => Turned (fun _ => False) W w' ∧ v = .pointer (some ⟨(w.heap.size + 1), 3, none⟩)) _
                  simp only [execOp, Act.eval, h4]
                  go_simp
                  try exact ⟨Turned.refl _ _, rfl⟩
              case s6 =>
                refine fun hs hle => stepG_free [69] [] (by kernel_rfl) rfl ?_
                · intro ac W hT hI hO
                  have hle : hs.length ≤ 0 := hle
                  have h69 : ac.tmps.getD 69 undef = .pointer (some ⟨(w.heap.size + 1), 3, none⟩) := hI 69 (by simp)
                  show Brings Try.prog (fun v w' => Turned (fun _ => False) W w' ∧ v = .slice (some ⟨bb, bo, none⟩) a.args.length cb) _
                  have hT0 : Turned (fun _ => False) wr W := more_nil hle hT; have a3 := hT0.cell0 a3; have b3 := hT0.cell0 b3; have x0 := hT0.cell0 x0; have x1 := hT0.cell0 x1; have x2 := hT0.cell0 x2; have x3 := hT0.cell0 x3; have y0 := hT0.cell0 y0; have y1 := hT0.cell0 y1; have y2 := hT0.cell0 y2; have y3 := hT0.cell0 y3
                  simp only [execOp, Act.eval, h69]
                  go_simp
                  exact ⟨Turned.refl _ _, rfl⟩
              case s7 =>
                refine fun hs hle => stepG_free [] [9] (by kernel_rfl) rfl ?_
                · intro ac W hT hI hO
                  have hle : hs.length ≤ 0 := hle
                  have h9 : ac.tmps.getD 9 undef = .int .i64 (j : Int) := hO 9 (by simp)
                  show Brings Try.prog (fun v w' => Turned (fun _ => False) W w' ∧ v = .int .i64 (j : Int)) _
                  simp only [execOp, Act.eval, h9]
                  go_simp
                  try exact ⟨Turned.refl _ _, rfl⟩
              case s8 =>
                refine fun hs hle => stepG_free [70, 71] [] (by kernel_rfl) rfl ?_
                · intro ac W hT hI hO
                  have hle : hs.length ≤ 0 := hle
                  have h70 : ac.tmps.getD 70 undef = .slice (some ⟨bb, bo, none⟩) a.args.length cb := hI 70 (by simp)
                  have h71 : ac.tmps.getD 71 undef = .int .i64 (j : Int) := hI 71 (by simp)
                  show Brings Try.prog (fun v w' => Turned (fun _ => False) W w' ∧ v = .pointer (some ⟨bb, bo + j * 4, none⟩)) _
                  simp only [execOp, Act.eval, h70, h71]
                  go_simp
                  try rw [if_pos (by omega)]
                  try exact ⟨Turned.refl _ _, rfl⟩
              case s9 =>
                refine fun hs hle => stepG_free [72] [] (by kernel_rfl) rfl ?_
                · intro ac W hT hI hO
                  have hle : hs.length ≤ 0 := hle
                  have h72 : ac.tmps.getD 72 undef = .pointer (some ⟨bb, bo + j * 4, none⟩) := hI 72 (by simp)
                  show Brings Try.prog (fun v w' => Turned (fun _ => False) W w' ∧ v = .agg #[.int .i64 y.kind, .int .i64 y.n, .string y.name, .slice y.at_.1 y.args.length y.at_.2]) _
                  have hT0 : Turned (fun _ => False) wr W := more_nil hle hT; have a3 := hT0.cell0 a3; have b3 := hT0.cell0 b3; have x0 := hT0.cell0 x0; have x1 := hT0.cell0 x1; have x2 := hT0.cell0 x2; have x3 := hT0.cell0 x3; have y0 := hT0.cell0 y0; have y1 := hT0.cell0 y1; have y2 := hT0.cell0 y2; have y3 := hT0.cell0 y3
                  simp only [execOp, Act.eval, h72]
                  go_simp
                  exact ⟨Turned.refl _ _, rfl⟩
              case s10 =>
                refine fun hs hle => stepG_free [] [2] (by kernel_rfl) rfl ?_
                · intro ac W hT hI hO
                  have hle : hs.length ≤ 0 := hle
                  have h2 : ac.tmps.getD 2 undef = .map (some mb) := hO 2 (by simp)
                  show Brings Try.prog (fun v w' => Turned (fun _ => False) W w' ∧ v = .map (some mb)) _
                  simp only [execOp, Act.eval, h2]
                  go_simp
                  try exact ⟨Turned.refl _ _, rfl⟩
              case s11 =>
                refine fun hs hlen => stepG_free [68, 73, 74] [] (by kernel_rfl) rfl ?_
                · intro ac W hT hI hO
                  have h68 : ac.tmps.getD 68 undef = .agg #[.int .i64 x.kind, .int .i64 x.n, .string x.name, .slice x.at_.1 x.args.length x.at_.2] := hI 68 (by simp)
                  have h73 : ac.tmps.getD 73 undef = .agg #[.int .i64 y.kind, .int .i64 y.n, .string y.name, .slice y.at_.1 y.args.length y.at_.2] := hI 73 (by simp)
                  have h74 : ac.tmps.getD 74 undef = .map (some mb) := hI 74 (by simp)
                  show Brings Try.prog (fun v w' => MoreS p mb mj gj x y wr RB (hs ++ [v]) w') _
                  obtain rfl : hs = [] := List.eq_nil_of_length_eq_zero hlen
                  replace hT : Turned (fun _ => False) wr W := hT
                  simp only [execOp, Act.eval, h68, h73, h74]
                  go_simp
                  show Calls Try.prog 141 _ W _
                  (with_reducible refine (HCX.out W hT).mono ?_)
                  rintro e w' ⟨rfl, T', hP⟩
                  exact ⟨_, rfl, RB, rfl, rfl, (hT.mono (fun _ _ f => f.elim)).trans T', hP⟩
              case s12 =>
                refine fun hs hle => stepG_free [75] [] (by kernel_rfl) rfl ?_
                · intro ac W hT hI hO
                  have hle : hs.length ≤ 1 := hle
                  have h75 : hs[0]? = some (ac.tmps.getD 75 undef) := hI 75 (by simp)
                  replace h75 : ac.tmps.getD 75 undef = .bool RB := more_val hs W hT _ h75
                  show Brings Try.prog (fun v w' => Turned (fun _ => False) W w' ∧ v = .bool B76) _
                  rw [HB76.out]
                  simp only [execOp, Act.eval, h75]
                  go_simp
                  try exact ⟨Turned.refl _ _, rfl⟩
            case hQ =>
              intro hs vq w7 hlen hR hV
              obtain ⟨v, rfl⟩ := List.length_eq_one_iff.1 hlen
              obtain ⟨b', rfl, hbr, T7, hP⟩ := hR
              have q76 : vq 76 = .bool B76 := hV 76 (by simp)
              simp only [List.foldl_cons, List.foldl_nil, List.setIfInBounds_toArray, List.set_cons_zero, List.set_cons_succ, q76]
              have hrest := HI.out.rest
              rw [drop_bares HXY.out.1, drop_bares HXY.out.2, moresM_cons] at hrest
              have TW7 := HTW.out.trans T7
              cases hmx : Tm.moreM x.bare y.bare (baresM gj) with
              | none =>
                have hb76 : B76 = true := by rw [HB76.out, HRB.out, hmx]; rfl
                rw [hmx] at hrest
                have HMN : Hid (MO = none) := by show _ = _; rw [HMO.out]; exact hrest
                clear hV q76 hrest hP hmx
                subst hb76
                go_wp2_with fail
                go_ret
                rw [HMN.out]
                exact ⟨rfl, TW7, fun m' hm' => by cases hm'⟩
              | some m' =>
                have hb76 : B76 = false := by rw [HB76.out, HRB.out, hmx]; rfl
                rw [hmx] at hrest
                obtain ⟨mj', gj', h1, h3, h4, h5⟩ := hP m' hmx
                have HI' : Hid (MoreI p mb a b mn g (j + 1) gj' mj' w2 w7) := ⟨HI.out.turned.trans T7, h3, h5, by rw [h4]; exact hrest, Nat.le_trans h1 HN.out⟩
                clear hV q76 hrest hP hmx h1 h3 h4 h5
                subst hb76
                go_wp2_with fail
                go_roundg (gk - 1)
                case measure => have := HG.out; omega
                case rel => exact ⟨j + 1, mj', gj', show _ = _ by have := HG.out; omega, by omega, by go_num, HI'⟩
          · obtain rfl : j = a.args.length := by omega
            have hrest := HI.out.rest
            rw [show (Tm.bares a.args).drop a.args.length = [] from List.drop_of_length_le (by rw [Tm.bares_length]; omega), moresM_nil] at hrest
            have HMS : Hid (MO = some (baresM gj)) := by show _ = _; rw [HMO.out]; exact hrest
            clear hrest
            go_wp2_with fail
            go_ret
            rw [HMS.out]
            refine ⟨rfl, TW, fun m' hm' => ?_⟩
            injection hm' with hm'
            subst hm'
            have hle := HI.out.le
            rw [List.take_length] at hle
            have hsz2 := Tm.size_eq a
            exact ⟨mj, gj, by omega, HI.out.map, rfl, HI.out.ok⟩
      · rw [if_neg hc] at hmo
        rw [hmo]
        have fin : ∀ W, Turned (fun _ => False) ((w.alloc (.cells #[.int .i64 a.kind, .int .i64 a.n, .string a.name, .slice a.at_.1 a.args.length a.at_.2] 41)).alloc (.cells #[.int .i64 b.kind, .int .i64 b.n, .string b.name, .slice b.at_.1 b.args.length b.at_.2] 41)) W → Ending.returned (.bool false) = .returned (.bool (none : Option Tm.MM).isSome) ∧ Turned (fun k => k = mb) w W ∧ MoreP p mb (mn + a.size) none W := fun W h =>
          ⟨rfl, (HTB.out.trans h).mono (fun _ _ f => f.elim), fun m' hm' => by cases hm'⟩
        have FIN := Lib.hid fin
        rw [LT.val_eq a, LT.val_eq b]
        clear hmo h2 hm2 hm hg ih hb ha hgb fin
        by_cases c1 : a.kind = b.kind
        · have z1 : (a.kind != b.kind) = false := by simp [c1]
          by_cases c2 : a.n = b.n
          · have z2 : (a.n != b.n) = false := by simp [c2]
            by_cases c3 : a.name = b.name
            · have z3 : (a.name.toList == b.name.toList) = true := by simp [c3]
              have c4 : a.args.length ≠ b.args.length := fun h => hc ⟨c1, c2, c3, h⟩
              obtain ⟨la, hla⟩ : ∃ z, z = a.args.length := ⟨_, rfl⟩
              obtain ⟨lb, hlb⟩ : ∃ z, z = b.args.length := ⟨_, rfl⟩
              rw [← hla, ← hlb] at c4
              have z4 : ((la : Int) != (lb : Int)) = true := by simp; omega
              have z5 : (la != lb) = true := by simp; exact c4
              rw [← hla, ← hlb] at FIN HB2 HTB ⊢
              clear c1 c2 c3 c4 hc hla hlb
              go_enter Try.func141, Try.ntmps141
              go_wp2_with fail
              go_ret
              exact FIN.out _ (Turned.refl _ _)
            · have z3 : (a.name.toList == b.name.toList) = false := by
                rw [beq_eq_false_iff_ne]; exact fun h => c3 ((bytes_eq _ _).1 h)
              clear c1 c2 c3 hc
              go_enter Try.func141, Try.ntmps141
              go_wp2_with fail
              go_ret
              exact FIN.out _ (Turned.refl _ _)
          · have z2 : (a.n != b.n) = true := by simp [c2]
            clear c1 c2 hc
            go_enter Try.func141, Try.ntmps141
            go_wp2_with fail
            go_ret
            exact FIN.out _ (Turned.refl _ _)
        · have z1 : (a.kind != b.kind) = true := by simp [c1]
          clear c1 hc
          go_enter Try.func141, Try.ntmps141
          go_wp2_with fail
          go_ret
          exact FIN.out _ (Turned.refl _ _)
end Go.Proofs.Ytoihjobdfjajfaa

/- The document's More. -/
namespace Go.Proofs.Ytoihjobdfjajfaa
set_option linter.unusedVariables false
set_option linter.unusedSimpArgs false
open Go.RowKit Go.Maps

set_option maxRecDepth 100000 in
set_option maxHeartbeats 3200000 in
theorem rMore83 {p : Nat → Prop} {a b : LT} {w : World} (ha : a.In p w) (hb : b.In p w) :
    Calls Try.prog 83 #[a.val, b.val] w fun e w' => e = .returned (.bool (moreB a b)) ∧ Turned (fun _ => False) w w' := by
  have hmm := @run_makeMap Try.prog
  have h2 := twoBox w (.cells #[.int .i64 a.kind, .int .i64 a.n, .string a.name, .slice a.at_.1 a.args.length a.at_.2] 41) (.cells #[.int .i64 b.kind, .int .i64 b.n, .string b.name, .slice b.at_.1 b.args.length b.at_.2] 41)
  have hkp : ∀ W, Turned (fun _ => False) ((w.alloc (.cells #[.int .i64 a.kind, .int .i64 a.n, .string a.name, .slice a.at_.1 a.args.length a.at_.2] 41)).alloc (.cells #[.int .i64 b.kind, .int .i64 b.n, .string b.name, .slice b.at_.1 b.args.length b.at_.2] 41)) W →
      (W.cell? ⟨w.heap.size, 0, none⟩ = some (.int .i64 a.kind) ∧ W.cell? ⟨w.heap.size, 1, none⟩ = some (.int .i64 a.n) ∧ W.cell? ⟨w.heap.size, 2, none⟩ = some (.string a.name) ∧ W.cell? ⟨w.heap.size, 3, none⟩ = some (.slice a.at_.1 a.args.length a.at_.2)) ∧
      (W.cell? ⟨w.heap.size + 1, 0, none⟩ = some (.int .i64 b.kind) ∧ W.cell? ⟨w.heap.size + 1, 1, none⟩ = some (.int .i64 b.n) ∧ W.cell? ⟨w.heap.size + 1, 2, none⟩ = some (.string b.name) ∧ W.cell? ⟨w.heap.size + 1, 3, none⟩ = some (.slice b.at_.1 b.args.length b.at_.2)) := fun W h =>
    ⟨four_of ((h.block _ (Array.getElem?_eq_some_iff.1 h2.2.2.1).1 (fun f => f)).trans h2.2.2.1), four_of ((h.block _ (Array.getElem?_eq_some_iff.1 h2.2.2.2).1 (fun f => f)).trans h2.2.2.2)⟩
  have ga := rGood45 (ha.turned0 h2.1)
  have gb := fun W (h : Turned (fun _ => False) w W) => rGood45 (hb.turned0 h)
  rw [LT.val_eq a] at ga ⊢
  rw [LT.val_eq b] at gb ⊢
  have HKP := Lib.hid hkp
  have HT := Lib.hid h2.1
  have HSZ := Lib.hid h2.2.1
  have HAB := Lib.hid (And.intro ha hb)
  clear hkp h2 ha hb
  cases g1 : goodB a with
  | false =>
    have e1 : moreB a b = false := by unfold moreB; rw [g1]; rfl
    rw [e1]
    rw [g1] at ga
    have GA := Lib.hid ga
    clear ga gb g1 e1
    go_enter Try.func83, Try.ntmps83
    go_wp2_with (go_at_call 45; (with_reducible refine GA.out.mono ?_); rintro e w3 ⟨rfl, T3⟩)
    go_ret
    exact ⟨rfl, HT.out.trans T3⟩
  | true =>
    rw [g1] at ga
    have GA := Lib.hid ga
    clear ga
    cases g2 : goodB b with
    | false =>
      have e1 : moreB a b = false := by unfold moreB; rw [g1, g2]; rfl
      rw [e1]
      rw [g2] at gb
      have GB := Lib.hid gb
      clear gb g1 g2 e1
      go_enter Try.func83, Try.ntmps83
      go_wp2_with (first
        | (go_at_call 45; (with_reducible refine GA.out.mono ?_); rintro e w3 ⟨rfl, T3⟩; obtain ⟨⟨a0, a1, a2, a3⟩, ⟨b0, b1, b2, b3⟩⟩ := HKP.out _ T3; have S3 := HT.out.trans T3)
        | (go_at_call 45; (with_reducible refine (GB.out _ S3).mono ?_); rintro e w4 ⟨rfl, T4⟩))
      go_ret
      exact ⟨rfl, S3.trans T4⟩
    | true =>
      have e1 : moreB a b = Tm.moreS a.bare b.bare := by unfold moreB; rw [g1, g2]; rfl
      rw [e1]
      rw [g2] at gb
      have hle : a.size ≤ 2000 := by
        unfold goodB at g1
        simp only [Bool.and_eq_true, decide_eq_true_eq] at g1
        exact g1.1
      have GB := Lib.hid gb
      have HGB := Lib.hid g2
      clear gb g1 g2 e1
      go_enter Try.func83, Try.ntmps83
      go_wp2_with (first
        | (go_at_call 45; (with_reducible refine GA.out.mono ?_); rintro e w3 ⟨rfl, T3⟩; obtain ⟨⟨a0, a1, a2, a3⟩, ⟨b0, b1, b2, b3⟩⟩ := HKP.out _ T3; have S3 := HT.out.trans T3)
        | (go_at_call 45; (with_reducible refine (GB.out _ S3).mono ?_); rintro e w4 ⟨rfl, T4⟩; obtain ⟨⟨a4, a5, a6, a7⟩, ⟨b4, b5, b6, b7⟩⟩ := HKP.out _ ((T3.trans T4).alloc (.map #[] 0)); have S4 := S3.trans T4))
      have S5 := S4.alloc (.map #[] 0)
      have hm := rMore141 (p := fun k => k < w.heap.size) (mb := w4.heap.size) (fun k hk e => by have := S4.size; omega) a.depth a b (w4.alloc (.map #[] 0)) 0 (fun _ => none) (Nat.le_refl _)
        ((HAB.out.1.mono (q := fun k => k < w.heap.size) (fun k hk _ => hk)).turned0 S5) ((HAB.out.2.mono (q := fun k => k < w.heap.size) (fun k hk _ => hk)).turned0 S5) HGB.out (IMap.made w4 Try.prog 2) (fun i x hx => by cases hx) (by omega)
      rw [LT.val_eq a, LT.val_eq b, baresM_none'] at hm
      (with_reducible refine hm.mono ?_)
      rintro e w6 ⟨rfl, T6, _⟩
      have S6 := S5.step T6 (fun i hi e => by have := S4.size; omega)
      go_wp2_with fail
      go_ret
      exact ⟨rfl, S6⟩
end Go.Proofs.Ytoihjobdfjajfaa

/- The document's Comp. -/
namespace Go.Proofs.Ytoihjobdfjajfaa
set_option linter.unusedVariables false
set_option linter.unusedSimpArgs false
open Go.RowKit Go.Maps
set_option maxHeartbeats 800000 in
theorem rComp160 (s : ByteArray) (a : Option Addr) (n c : Nat) (w : World) :
    Calls Try.prog 160 #[.string s, .slice a n c] w fun e w' => e = .returned (.agg #[.int .i64 2, .int .i64 0, .string s, .slice a n c]) ∧ Turned (fun _ => False) w w' := by
  go_enter Try.func160, Try.ntmps160
  go_wp2_with fail
  exact bodyPost_ret (v := .agg #[.int .i64 2, .int .i64 0, .string s, .slice a n c]) (results_cell_row Try.results160 _ _ w.heap.size 41 _ (0, 0) _ rfl (heap_alloc_new w _) Try.underlying41 rfl (by kernel_rfl)) rfl ⟨rfl, (Turned.refl _ _).alloc _⟩
/-- A number's place in a row, looked for from the start. -/
theorem posOf_first {vs : List Int} {n : Int} {j : Nat} (h : vs[j]? = some n) (hno : ∀ i, i < j → vs[i]? ≠ some n) : Tm.posOf vs n = j := by
  unfold Tm.posOf
  induction vs generalizing j with
  | nil => simp at h
  | cons v vs ih =>
    cases j with
    | zero =>
      simp at h
      subst h
      simp [List.idxOf_cons]
    | succ j =>
      have hv : v ≠ n := fun e => hno 0 (by omega) (by simp [e])
      have hb : (v == n) = false := by rw [beq_eq_false_iff_ne]; exact hv
      rw [List.idxOf_cons, hb]
      simp only [cond_false]
      rw [ih (j := j) (by simpa using h) (fun i hi => by have := hno (i + 1) (by omega); simpa using this)]
end Go.Proofs.Ytoihjobdfjajfaa

/- A term put at its place in a row of terms. -/
namespace Go.Proofs.Ytoihjobdfjajfaa
set_option linter.unusedVariables false
set_option linter.unusedSimpArgs false
open Go.RowKit Go.Maps
theorem Row.setAt {w : World} {e : TypeId} {size n g cap off : Nat} {xs : List Value} (h : Row w e size (.slice (some ⟨g, 0, none⟩) n cap) n xs) (ho : off < n * size) (u : Value) : Row (w.setCell ⟨g, off, none⟩ u) e size (.slice (some ⟨g, 0, none⟩) n cap) n (xs.set off u) := by
  refine ⟨by rw [List.length_set]; exact h.1, .inr ?_⟩
  rcases h.2 with ⟨he, h0⟩ | ⟨g', cap', cur, he, hg, h1, h2, h3, h4⟩
  · cases he
  · injection he with e1 _ e3
    injection e1 with e1
    injection e1 with e1
    subst e1 e3
    refine ⟨g, cap, cur.setIfInBounds off u, rfl, heap_setCell_same w g off cur e u hg, h1, h2, by simpa using h3, ?_⟩
    rw [Array.toList_setIfInBounds, List.take_set, h4]
theorem flat_set {us : List LT} {j : Nat} {u : LT} (hj : j < us.length) :
    ((((us.flatMap LT.cells).set (j * 4) (.int .i64 u.kind)).set (j * 4 + 1) (.int .i64 u.n)).set (j * 4 + 2) (.string u.name)).set (j * 4 + 3) (.slice u.at_.1 u.args.length u.at_.2) = (us.set j u).flatMap LT.cells := by
  induction us generalizing j with
  | nil => simp at hj
  | cons x us ih =>
    cases j with
    | zero =>
      rw [List.set_cons_zero, List.flatMap_cons, List.flatMap_cons, LT.cells_eq x, LT.cells_eq u]
      rfl
    | succ j =>
      have ih := ih (j := j) (by simpa using hj)
      rw [List.set_cons_succ, List.flatMap_cons, List.flatMap_cons, ← ih, LT.cells_eq x]
      have e0 : (j + 1) * 4 = j * 4 + 4 := by omega
      rw [e0]
      rfl
end Go.Proofs.Ytoihjobdfjajfaa

/- Plain: what stands for what: a list of what was set, the last one first; all the way in. No program in sight. -/
namespace Go.Proofs.Ytoihjobdfjajfaa
set_option linter.unusedVariables false
set_option linter.unusedSimpArgs false
namespace Tm
theorem numsIn_V {i v : Int} : numsIn (V i) v ↔ v = i := by
  unfold numsIn V
  constructor
  · rintro ⟨x, hx, _, rfl⟩
    simp only [flat, flats, List.mem_cons, List.not_mem_nil, or_false] at hx
    subst hx
    rfl
  · rintro rfl
    exact ⟨_, by simp only [flat, flats]; exact List.mem_cons_self .., rfl, rfl⟩
theorem flat_V (i : Int) : (V i).flat = [V i] := by unfold V; simp only [flat, flats]
theorem leafy_V (i : Int) : leafy (V i) := by
  intro x hx hk
  rw [flat_V] at hx
  simp only [List.mem_cons, List.not_mem_nil, or_false] at hx
  subst hx
  rfl
theorem leafy_self {t : Tm Unit} (h : leafy t) (hk : t.kind = 0) : t = V t.n := h t (by rw [flat_eq]; exact List.mem_cons_self ..) hk
theorem mem_flat_trans (n : Nat) : ∀ (t x y : Tm Unit), t.size ≤ n → x ∈ t.flat → y ∈ x.flat → y ∈ t.flat := by
  induction n with
  | zero => intro t; have := size_pos t; omega
  | succ n ih =>
    intro t x y hn hx hy
    rw [flat_eq] at hx
    rcases List.mem_cons.1 hx with rfl | hx
    · exact hy
    · rw [flat_eq]
      refine List.mem_cons_of_mem _ ?_
      have hs := size_eq t
      have gen : ∀ l : List (Tm Unit), sizes l ≤ n → x ∈ flats l → y ∈ flats l := by
        intro l
        induction l with
        | nil => intro _ h; simp [flats] at h
        | cons z l ihl =>
          intro h1 h2
          simp only [flats, List.mem_append, sizes] at h1 h2 ⊢
          rcases h2 with h2 | h2
          · exact .inl (ih z x y (by omega) h2 hy)
          · exact .inr (ihl (by omega) h2)
      exact gen _ (by omega) hx
theorem numsIn_mk {k n : Int} {s : ByteArray} {e : Unit} {aa : List (Tm Unit)} {v : Int} (hk : ¬ k = 0) : numsIn (.mk k n s e aa) v ↔ ∃ x ∈ flats aa, x.kind = 0 ∧ x.n = v := by
  unfold numsIn
  constructor
  · rintro ⟨x, hx, h1, h2⟩
    rw [flat_eq] at hx
    rcases List.mem_cons.1 hx with rfl | hx
    · exact absurd h1 hk
    · exact ⟨x, hx, h1, h2⟩
  · rintro ⟨x, hx, h1, h2⟩
    exact ⟨x, by rw [flat_eq]; exact List.mem_cons_of_mem _ hx, h1, h2⟩
mutual
theorem numsIn_subT {σ : Int → Tm Unit} {v : Int} : ∀ t : Tm Unit, leafy t → (numsIn (subT σ t) v ↔ ∃ u, numsIn t u ∧ numsIn (σ u) v)
  | .mk k n s e aa, h => by
    by_cases hk : k = 0
    · have := leafy_self h hk
      rw [this]
      simp only [Tm.n, V, subT, if_pos]
      constructor
      · intro hv; exact ⟨n, numsIn_V.2 rfl, hv⟩
      · rintro ⟨u, hu, hv⟩
        have := numsIn_V.1 hu
        subst this
        exact hv
    · simp only [subT, if_neg hk]
      rw [numsIn_mk hk, numsIn_subTs aa (fun x hx => h x (by rw [flat_eq]; exact List.mem_cons_of_mem _ hx))]
      constructor
      · rintro ⟨u, hu, hv⟩; exact ⟨u, (numsIn_mk hk).2 hu, hv⟩
      · rintro ⟨u, hu, hv⟩; exact ⟨u, (numsIn_mk hk).1 hu, hv⟩
theorem numsIn_subTs {σ : Int → Tm Unit} {v : Int} : ∀ l : List (Tm Unit), (∀ x ∈ flats l, x.kind = 0 → x = V x.n) → ((∃ x ∈ flats (subTs σ l), x.kind = 0 ∧ x.n = v) ↔ ∃ u, (∃ x ∈ flats l, x.kind = 0 ∧ x.n = u) ∧ numsIn (σ u) v)
  | [], _ => by simp [flats, subTs]
  | y :: l, h => by
    have h1 := numsIn_subT (σ := σ) (v := v) y (fun x hx => h x (by simp only [flats]; exact List.mem_append_left _ hx))
    have h2 := numsIn_subTs (σ := σ) (v := v) l (fun x hx => h x (by simp only [flats]; exact List.mem_append_right _ hx))
    unfold numsIn at h1
    simp only [subTs, flats, List.mem_append]
    constructor
    · rintro ⟨x, hx | hx, hk, hn⟩
      · obtain ⟨u, ⟨z, hz, h3, h4⟩, hv⟩ := h1.1 ⟨x, hx, hk, hn⟩
        exact ⟨u, ⟨z, .inl hz, h3, h4⟩, hv⟩
      · obtain ⟨u, ⟨z, hz, h3, h4⟩, hv⟩ := h2.1 ⟨x, hx, hk, hn⟩
        exact ⟨u, ⟨z, .inr hz, h3, h4⟩, hv⟩
    · rintro ⟨u, ⟨z, hz | hz, h3, h4⟩, hv⟩
      · obtain ⟨x, hx, hk, hn⟩ := h1.2 ⟨u, ⟨z, hz, h3, h4⟩, hv⟩
        exact ⟨x, .inl hx, hk, hn⟩
      · obtain ⟨x, hx, hk, hn⟩ := h2.2 ⟨u, ⟨z, hz, h3, h4⟩, hv⟩
        exact ⟨x, .inr hx, hk, hn⟩
end
/-- All nodes of a term in whose variables' place terms were put: such of the term's own that are no variables, or of what was put. -/
def allN (P : Tm Unit → Prop) (t : Tm Unit) : Prop := ∀ x ∈ t.flat, P x
mutual
theorem allN_subT {P : Tm Unit → Prop} {σ : Int → Tm Unit} (hP : ∀ k n s aa bb, P (.mk k n s () aa) → aa.length = bb.length → ¬ k = 0 → P (.mk k n s () bb)) : ∀ t : Tm Unit, allN P t → (∀ u, numsIn t u → allN P (σ u)) → allN P (subT σ t)
  | .mk k n s e aa, h, hσ => by
    by_cases hk : k = 0
    · simp only [subT, if_pos hk]
      exact hσ n ⟨.mk k n s e aa, by rw [flat_eq]; exact List.mem_cons_self .., hk, rfl⟩
    · simp only [subT, if_neg hk]
      intro x hx
      rw [flat_eq] at hx
      rcases List.mem_cons.1 hx with rfl | hx
      · exact hP k n s aa _ (h _ (by rw [flat_eq]; exact List.mem_cons_self ..)) (by rw [subTs_eq, List.length_map]) hk
      · exact allN_subTs hP aa (fun x hx => h x (by rw [flat_eq]; exact List.mem_cons_of_mem _ hx)) (fun u hu => hσ u ((numsIn_mk hk).2 hu)) x hx
theorem allN_subTs {P : Tm Unit → Prop} {σ : Int → Tm Unit} (hP : ∀ k n s aa bb, P (.mk k n s () aa) → aa.length = bb.length → ¬ k = 0 → P (.mk k n s () bb)) : ∀ l : List (Tm Unit), (∀ x ∈ flats l, P x) → (∀ u, (∃ x ∈ flats l, x.kind = 0 ∧ x.n = u) → allN P (σ u)) → ∀ x ∈ flats (subTs σ l), P x
  | [], _, _ => by simp [flats, subTs]
  | y :: l, h, hσ => by
    intro x hx
    simp only [subTs, flats, List.mem_append] at hx
    rcases hx with hx | hx
    · exact allN_subT hP y (fun x hx => h x (by simp only [flats]; exact List.mem_append_left _ hx)) (fun u ⟨z, hz, h3⟩ => hσ u ⟨z, by simp only [flats]; exact List.mem_append_left _ hz, h3⟩) x hx
    · exact allN_subTs hP l (fun x hx => h x (by simp only [flats]; exact List.mem_append_right _ hx)) (fun u ⟨z, hz, h3⟩ => hσ u ⟨z, by simp only [flats]; exact List.mem_append_right _ hz, h3⟩) x hx
end
theorem leafy_subT {σ : Int → Tm Unit} {t : Tm Unit} (h : leafy t) (hσ : ∀ u, numsIn t u → leafy (σ u)) : leafy (subT σ t) :=
  allN_subT (P := fun x => x.kind = 0 → x = V x.n) (fun k n s aa bb _ _ hk h => absurd h hk) t h hσ

/-! ### What was set -/
/-- One variable's place taken. -/
def put (n : Int) (x : Tm Unit) : Int → Tm Unit := fun i => if i = n then x else V i
theorem put_self (n : Int) (x : Tm Unit) : put n x n = x := by unfold put; rw [if_pos rfl]
theorem put_ne {n i : Int} (x : Tm Unit) (h : ¬ i = n) : put n x i = V i := by unfold put; rw [if_neg h]
abbrev Trail := List (Int × Tm Unit)
/-- What a variable stands for, all the way in. -/
def sig : Trail → Int → Tm Unit
  | [] => V
  | b :: l => fun i => subT (put b.1 (subT (sig l) b.2)) (sig l i)
/-- A term with all that its variables stand for. -/
def img (l : Trail) (t : Tm Unit) : Tm Unit := subT (sig l) t
def dom (l : Trail) : List Int := l.map (·.1)
def look : Trail → Int → Option (Tm Unit)
  | [], _ => none
  | b :: l, n => if b.1 = n then some b.2 else look l n
/-- What may have been set, where so many variables were given. -/
def okT (m : Nat) : Trail → Prop
  | [] => True
  | b :: l => okT m l ∧ 0 ≤ b.1 ∧ b.1 < m ∧ b.1 ∉ dom l ∧ goodB b.2 = true ∧ (∀ v, numsIn b.2 v → v < (m : Int)) ∧ ¬ numsIn (img l b.2) b.1
theorem okT.more {m m' : Nat} (h : m ≤ m') : ∀ {l : Trail}, okT m l → okT m' l
  | [], _ => trivial
  | b :: l, ⟨h1, h2, h3, h4, h5, h6, h7⟩ => ⟨okT.more h h1, h2, by omega, h4, h5, fun v hv => by have := h6 v hv; omega, h7⟩
theorem look_none {l : Trail} {n : Int} : look l n = none ↔ n ∉ dom l := by
  induction l with
  | nil => simp [look, dom]
  | cons b l ih =>
    simp only [look, dom, List.map_cons, List.mem_cons, not_or]
    by_cases h : b.1 = n
    · rw [if_pos h]; simp [h]
    · rw [if_neg h]
      rw [ih]
      have h' : ¬ n = b.1 := fun e => h e.symm
      unfold dom
      exact ⟨fun c => ⟨h', c⟩, fun c => c.2⟩
theorem look_mem {l : Trail} {n : Int} {t : Tm Unit} (h : look l n = some t) : (n, t) ∈ l := by
  induction l with
  | nil => simp [look] at h
  | cons b l ih =>
    simp only [look] at h
    split at h
    · rename_i e; injection h with h; subst e h; exact List.mem_cons_self ..
    · exact List.mem_cons_of_mem _ (ih h)
theorem okT_mem {m : Nat} {l : Trail} (h : okT m l) {b : Int × Tm Unit} (hb : b ∈ l) : 0 ≤ b.1 ∧ b.1 < m ∧ goodB b.2 = true ∧ ∀ v, numsIn b.2 v → v < (m : Int) := by
  induction l with
  | nil => cases hb
  | cons c l ih =>
    obtain ⟨h1, h2, h3, h4, h5, h6, h7⟩ := h
    rcases List.mem_cons.1 hb with rfl | hb
    · exact ⟨h2, h3, h5, h6⟩
    · exact ih h1 hb
theorem sig_free {m : Nat} {l : Trail} (h : okT m l) {i : Int} (hi : i ∉ dom l) : sig l i = V i := by
  induction l with
  | nil => rfl
  | cons b l ih =>
    simp only [dom, List.map_cons, List.mem_cons, not_or] at hi
    simp only [sig]
    rw [ih h.1 hi.2]
    simp only [V, subT, if_pos]
    exact put_ne _ hi.1
theorem sig_leafy {m : Nat} {l : Trail} (h : okT m l) (i : Int) : leafy (sig l i) := by
  induction l generalizing i with
  | nil => exact leafy_V i
  | cons b l ih =>
    simp only [sig]
    refine leafy_subT (ih h.1 i) (fun u _ => ?_)
    unfold put
    split
    · exact leafy_subT (good_leafy h.2.2.2.2.1) (fun u _ => ih h.1 u)
    · exact leafy_V u
theorem img_leafy {m : Nat} {l : Trail} (h : okT m l) {t : Tm Unit} (ht : leafy t) : leafy (img l t) := leafy_subT ht (fun u _ => sig_leafy h u)
theorem sig_nums {m : Nat} {l : Trail} (h : okT m l) {i v : Int} (hv : numsIn (sig l i) v) : v ∉ dom l := by
  induction l generalizing i v with
  | nil => simp [dom]
  | cons b l ih =>
    simp only [sig] at hv
    obtain ⟨u, hu, hv⟩ := (numsIn_subT _ (sig_leafy h.1 i)).1 hv
    have h1 := ih h.1 hu
    unfold put at hv
    simp only [dom, List.map_cons, List.mem_cons, not_or]
    split at hv
    · obtain ⟨z, _, hz⟩ := (numsIn_subT _ (good_leafy h.2.2.2.2.1)).1 hv
      exact ⟨fun e => h.2.2.2.2.2.2 (by rw [← e]; exact hv), ih h.1 hz⟩
    · rename_i hne
      have := numsIn_V.1 hv
      subst this
      exact ⟨hne, h1⟩
theorem img_nums {m : Nat} {l : Trail} (h : okT m l) {t : Tm Unit} (ht : leafy t) {v : Int} (hv : numsIn (img l t) v) : v ∉ dom l := by
  obtain ⟨u, _, hu⟩ := (numsIn_subT t ht).1 hv
  exact sig_nums h hu
theorem img_same {m : Nat} {l : Trail} (h : okT m l) {t : Tm Unit} (ht : leafy t) (hv : ∀ v, numsIn t v → v ∉ dom l) : img l t = t := by
  unfold img
  rw [subT_congr (τ := V) t (fun x hx hk => sig_free h (hv _ ⟨x, hx, hk, rfl⟩)), subT_V t ht]
theorem img_img {m : Nat} {l : Trail} (h : okT m l) {t : Tm Unit} (ht : leafy t) : img l (img l t) = img l t :=
  img_same h (img_leafy h ht) (fun v hv => img_nums h ht hv)
theorem img_cons {m : Nat} {b : Int × Tm Unit} {l : Trail} (t : Tm Unit) : img (b :: l) t = subT (put b.1 (img l b.2)) (img l t) := by
  unfold img
  rw [subT_subT]
  rfl
theorem put_none {n : Int} {x t : Tm Unit} (ht : leafy t) (h : ¬ numsIn t n) : subT (put n x) t = t := by
  rw [subT_congr (τ := V) t (fun y hy hk => put_ne _ (fun e => h ⟨y, hy, hk, e⟩)), subT_V t ht]
theorem sig_look {m : Nat} {l : Trail} (h : okT m l) {i : Int} {t : Tm Unit} (hi : look l i = some t) : sig l i = img l t := by
  induction l generalizing i t with
  | nil => simp [look] at hi
  | cons b l ih =>
    have hg := good_leafy h.2.2.2.2.1
    rw [img_cons (m := m)]
    simp only [look] at hi
    simp only [sig]
    split at hi
    · rename_i e
      injection hi with hi
      subst hi
      rw [sig_free h.1 (by rw [← e]; exact h.2.2.2.1), put_none (img_leafy h.1 hg) h.2.2.2.2.2.2]
      simp only [V, subT, if_pos]
      rw [← e, put_self]
      rfl
    · rw [ih h.1 hi]
      rfl
theorem img_V (l : Trail) (i : Int) : img l (V i) = sig l i := by unfold img V; simp only [subT, if_pos]
theorem img_mk {k n : Int} {s : ByteArray} {e : Unit} {aa : List (Tm Unit)} (l : Trail) (hk : ¬ k = 0) : img l (.mk k n s e aa) = .mk k n s () (aa.map (img l)) := by
  unfold img
  simp only [subT, if_neg hk, subTs_eq]
theorem img_goodOne {m : Nat} {l : Trail} (h : okT m l) {t : Tm Unit} (ht : ∀ x ∈ t.flat, goodOneB x = true) : ∀ x ∈ (img l t).flat, goodOneB x = true := by
  have hP : ∀ k n s (aa bb : List (Tm Unit)), goodOneB (.mk k n s () aa) = true → aa.length = bb.length → ¬ k = 0 → goodOneB (.mk k n s () bb) = true := by
    intro k n s aa bb h1 h2 h3
    unfold goodOneB at h1 ⊢
    simp only [kind, Tm.n, name, args] at h1 ⊢
    simp only [h2] at h1
    exact h1
  have hs : ∀ (l : Trail), okT m l → ∀ i, 0 ≤ i ∧ i < 2147483648 → allN (fun x => goodOneB x = true) (sig l i) := by
    intro l
    induction l with
    | nil =>
      intro _ i hi x hx
      simp only [sig] at hx
      rw [flat_V] at hx
      simp only [List.mem_cons, List.not_mem_nil, or_false] at hx
      subst hx
      rw [goodOneB_0 _ rfl]
      simp only [V, Tm.n, name, args, List.length_nil, Bool.and_eq_true, decide_eq_true_eq]
      refine ⟨decide_eq_true (show 0 ≤ i by omega), decide_eq_true (show i ≤ 2147483647 by omega), ?_, ?_⟩
      · first | rfl | (exact decide_eq_true rfl) | simp
      · first | rfl | trivial | simp
    | cons b l ih =>
      intro hok i hi
      simp only [sig]
      refine allN_subT hP _ (ih hok.1 i hi) (fun u hu => ?_)
      have hgb := hok.2.2.2.2.1
      have hones : ∀ x ∈ b.2.flat, goodOneB x = true := by
        unfold goodB at hgb
        simp only [Bool.and_eq_true, List.all_eq_true] at hgb
        exact hgb.2.2
      have hnum : ∀ {t : Tm Unit}, allN (fun x => goodOneB x = true) t → ∀ u, numsIn t u → 0 ≤ u ∧ u < 2147483648 := by
        rintro t ht u ⟨x, hx, hk, rfl⟩
        have := ht x hx
        simp only [goodOneB_0 x hk, Bool.and_eq_true, decide_eq_true_eq] at this
        omega
      unfold put
      split
      · exact allN_subT hP _ hones (fun u hu => ih hok.1 u (hnum hones u hu))
      · have h1 := hnum (ih hok.1 i hi) u hu
        have := ih hok.1 i hi
        intro x hx
        rw [flat_V] at hx
        simp only [List.mem_cons, List.not_mem_nil, or_false] at hx
        subst hx
        rw [goodOneB_0 _ rfl]
        simp only [V, Tm.n, name, args, List.length_nil, Bool.and_eq_true, decide_eq_true_eq]
        refine ⟨decide_eq_true (show 0 ≤ u by omega), decide_eq_true (show u ≤ 2147483647 by omega), ?_, ?_⟩
        · first | rfl | (exact decide_eq_true rfl) | simp
        · first | rfl | trivial | simp
  refine allN_subT hP t ht (fun u hu => hs l h u ?_)
  obtain ⟨x, hx, hk, rfl⟩ := hu
  have := ht x hx
  simp only [goodOneB_0 x hk, Bool.and_eq_true, decide_eq_true_eq] at this
  omega
theorem img_lt {m : Nat} {l : Trail} (h : okT m l) {t : Tm Unit} (ht : leafy t) (hv : ∀ v, numsIn t v → v < (m : Int)) : ∀ v, numsIn (img l t) v → v < (m : Int) := by
  have hs : ∀ (l : Trail), okT m l → ∀ i, i < (m : Int) → ∀ v, numsIn (sig l i) v → v < (m : Int) := by
    intro l
    induction l with
    | nil => intro _ i hi v hv; have := numsIn_V.1 hv; omega
    | cons b l ih =>
      intro hok i hi v hv
      simp only [sig] at hv
      obtain ⟨u, hu, hv⟩ := (numsIn_subT _ (sig_leafy hok.1 i)).1 hv
      unfold put at hv
      split at hv
      · obtain ⟨z, hz, hv⟩ := (numsIn_subT _ (good_leafy hok.2.2.2.2.1)).1 hv
        exact ih hok.1 z (hok.2.2.2.2.2.1 z hz) v hv
      · have := numsIn_V.1 hv
        subst this
        exact ih hok.1 i hi _ hu
  intro v hv'
  obtain ⟨u, hu, hv'⟩ := (numsIn_subT _ ht).1 hv'
  exact hs l h u (hv u hu) v hv'

/-! ### A rank: what a variable stands for lies lower -/
def total (f : Int → Nat) (l : List Int) : Nat := (l.map f).sum
theorem total_mem {f : Int → Nat} {l : List Int} {v : Int} (h : v ∈ l) : f v ≤ total f l := by
  unfold total
  induction l with
  | nil => cases h
  | cons a l ih =>
    simp only [List.map_cons, List.sum_cons]
    rcases List.mem_cons.1 h with rfl | h
    · omega
    · have := ih h; omega
open Classical in
noncomputable def rk : Trail → Int → Nat
  | [], _ => 0
  | b :: l, i => if numsIn (sig l i) b.1 then rk l i + total (rk l) b.2.vars + 1 else rk l i
theorem rk_lt {m : Nat} {l : Trail} (h : okT m l) {i v : Int} {t : Tm Unit} (hi : look l i = some t) (hv : numsIn t v) : rk l v < rk l i := by
  induction l generalizing i t v with
  | nil => simp [look] at hi
  | cons b l ih =>
    have hg := good_leafy h.2.2.2.2.1
    simp only [look] at hi
    simp only [rk]
    split at hi
    · rename_i e
      injection hi with hi
      subst hi
      have h0 : ¬ numsIn (sig l v) b.1 := fun c => h.2.2.2.2.2.2 ((numsIn_subT _ hg).2 ⟨v, hv, c⟩)
      rw [if_neg h0, if_pos]
      · have := total_mem (f := rk l) ((vars_mem v).2 hv)
        omega
      · rw [← e, sig_free h.1 h.2.2.2.1]
        exact numsIn_V.2 rfl
    · have h1 := ih h.1 hi hv
      have hl : leafy t := by
        have := okT_mem h.1 (look_mem hi)
        exact good_leafy this.2.2.1
      by_cases hc : numsIn (sig l v) b.1
      · rw [if_pos hc, if_pos]
        · omega
        · rw [sig_look h.1 hi]
          exact (numsIn_subT _ hl).2 ⟨v, hv, hc⟩
      · rw [if_neg hc]
        split <;> omega
end Tm
end Go.Proofs.Ytoihjobdfjajfaa

/- Plain: looking for a variable all the way in, each variable once; what is whole. No program in sight. -/
namespace Go.Proofs.Ytoihjobdfjajfaa
set_option linter.unusedVariables false
set_option linter.unusedSimpArgs false
namespace Tm
/-- Lower than a variable. -/
def lower (l : Trail) (y : Tm Unit) (h : Int) : Prop := ∀ v, numsIn y v → rk l v < rk l h
/-- Where the search for a variable stands: what is still to be looked at, which variables were met. -/
structure Seek (l : Trail) (n : Int) (t : Tm Unit) (todo : List (Tm Unit)) (had : List Int) : Prop where
  leafy : ∀ y ∈ todo, leafy y
  sound : ∀ y ∈ todo, numsIn (img l y) n → numsIn (img l t) n
  met : ∀ h ∈ had, numsIn (sig l h) n → ∃ y ∈ todo, numsIn (img l y) n ∧ lower l y h
  whole : numsIn (img l t) n → ∃ y ∈ todo, numsIn (img l y) n
theorem Seek.start {l : Trail} {n : Int} {t : Tm Unit} (ht : Tm.leafy t) : Seek l n t [t] [] :=
  ⟨fun y hy => by rw [List.mem_singleton] at hy; rw [hy]; exact ht, fun y hy h => by rw [List.mem_singleton] at hy; rwa [← hy], fun h hh => (by cases hh), fun h => ⟨t, List.mem_singleton.2 rfl, h⟩⟩
theorem Seek.stop {l : Trail} {n : Int} {t : Tm Unit} {had : List Int} (h : Seek l n t [] had) : ¬ numsIn (img l t) n := fun c => by
  obtain ⟨y, hy, _⟩ := h.whole c
  cases hy
theorem mem_flats_iff {α : Type} {l : List (Tm α)} {x : Tm α} : x ∈ flats l ↔ ∃ y ∈ l, x ∈ y.flat := by
  induction l with
  | nil => simp [flats]
  | cons z l ih => simp only [flats, List.mem_append, ih, List.mem_cons]; constructor
                   · rintro (h | ⟨y, hy, h⟩)
                     · exact ⟨z, .inl rfl, h⟩
                     · exact ⟨y, .inr hy, h⟩
                   · rintro ⟨y, rfl | hy, h⟩
                     · exact .inl h
                     · exact .inr ⟨y, hy, h⟩
theorem numsIn_args {y : Tm Unit} (hk : ¬ y.kind = 0) {v : Int} : numsIn y v ↔ ∃ a ∈ y.args, numsIn a v := by
  cases y with | mk k n s e aa =>
  rw [numsIn_mk (by exact hk)]
  simp only [mem_flats_iff, args]
  unfold numsIn
  constructor
  · rintro ⟨x, ⟨a, ha, hx⟩, h1, h2⟩; exact ⟨a, ha, x, hx, h1, h2⟩
  · rintro ⟨a, ha, x, hx, h1, h2⟩; exact ⟨x, ⟨a, ha, hx⟩, h1, h2⟩
theorem img_args {l : Trail} {y : Tm Unit} (hk : ¬ y.kind = 0) : img l y = .mk y.kind y.n y.name () (y.args.map (img l)) := by
  cases y with | mk k n s e aa => exact img_mk l hk
theorem leafy_arg {y : Tm Unit} (h : Tm.leafy y) : ∀ a ∈ y.args, Tm.leafy a := by
  cases y with | mk k n s e aa => exact leafy_args h
/-- Its args in its place. -/
theorem Seek.args {l : Trail} {n : Int} {t y : Tm Unit} {todo : List (Tm Unit)} {had : List Int} (h : Seek l n t (todo ++ [y]) had) (hk : ¬ y.kind = 0) : Seek l n t (todo ++ y.args) had := by
  have hi : numsIn (img l y) n ↔ ∃ a ∈ y.args, numsIn (img l a) n := by
    rw [img_args hk, numsIn_args (by exact hk)]
    simp only [Tm.args, List.mem_map]
    constructor
    · rintro ⟨_, ⟨a, ha, rfl⟩, h⟩; exact ⟨a, ha, h⟩
    · rintro ⟨a, ha, h⟩; exact ⟨_, ⟨a, ha, rfl⟩, h⟩
  have hy : y ∈ todo ++ [y] := by simp
  refine ⟨fun x hx => ?_, fun x hx hn => ?_, fun m hm hn => ?_, fun hn => ?_⟩
  · rcases List.mem_append.1 hx with hx | hx
    · exact h.leafy x (List.mem_append_left _ hx)
    · exact leafy_arg (h.leafy y hy) x hx
  · rcases List.mem_append.1 hx with hx | hx
    · exact h.sound x (List.mem_append_left _ hx) hn
    · exact h.sound y hy (hi.2 ⟨x, hx, hn⟩)
  · obtain ⟨z, hz, h1, h2⟩ := h.met m hm hn
    rcases List.mem_append.1 hz with hz | hz
    · exact ⟨z, List.mem_append_left _ hz, h1, h2⟩
    · rw [List.mem_singleton] at hz
      subst hz
      obtain ⟨a, ha, h3⟩ := hi.1 h1
      exact ⟨a, List.mem_append_right _ ha, h3, fun v hv => h2 v ((numsIn_args hk).2 ⟨a, ha, hv⟩)⟩
  · obtain ⟨z, hz, h1⟩ := h.whole hn
    rcases List.mem_append.1 hz with hz | hz
    · exact ⟨z, List.mem_append_left _ hz, h1⟩
    · rw [List.mem_singleton] at hz
      subst hz
      obtain ⟨a, ha, h3⟩ := hi.1 h1
      exact ⟨a, List.mem_append_right _ ha, h3⟩
/-- A variable that was met is left. -/
theorem Seek.skip {l : Trail} {n k : Int} {t : Tm Unit} {todo : List (Tm Unit)} {had : List Int} (h : Seek l n t (todo ++ [V k]) had) (hk : k ∈ had) : Seek l n t todo had := by
  have hR : numsIn (img l (V k)) n → ∃ y ∈ todo, numsIn (img l y) n ∧ lower l y k := by
    intro hr
    rw [img_V] at hr
    obtain ⟨z, hz, h1, h2⟩ := h.met k hk hr
    rcases List.mem_append.1 hz with hz | hz
    · exact ⟨z, hz, h1, h2⟩
    · rw [List.mem_singleton] at hz
      subst hz
      have := h2 k (numsIn_V.2 rfl)
      omega
  refine ⟨fun x hx => h.leafy x (List.mem_append_left _ hx), fun x hx hn => h.sound x (List.mem_append_left _ hx) hn, fun m hm hn => ?_, fun hn => ?_⟩
  · obtain ⟨z, hz, h1, h2⟩ := h.met m hm hn
    rcases List.mem_append.1 hz with hz | hz
    · exact ⟨z, hz, h1, h2⟩
    · rw [List.mem_singleton] at hz
      subst hz
      obtain ⟨z', hz', h3, h4⟩ := hR h1
      have := h2 k (numsIn_V.2 rfl)
      exact ⟨z', hz', h3, fun v hv => by have := h4 v hv; omega⟩
  · obtain ⟨z, hz, h1⟩ := h.whole hn
    rcases List.mem_append.1 hz with hz | hz
    · exact ⟨z, hz, h1⟩
    · rw [List.mem_singleton] at hz
      subst hz
      obtain ⟨z', hz', h3, _⟩ := hR h1
      exact ⟨z', hz', h3⟩
/-- It was found. -/
theorem Seek.found {m : Nat} {l : Trail} {n : Int} {t : Tm Unit} {todo : List (Tm Unit)} {had : List Int} (hl : okT m l) (h : Seek l n t (todo ++ [V n]) had) (hn : n ∉ dom l) : numsIn (img l t) n :=
  h.sound (V n) (by simp) (by rw [img_V, sig_free hl hn]; exact numsIn_V.2 rfl)
/-- A variable that stands for nothing. -/
theorem Seek.free {m : Nat} {l : Trail} {n k : Int} {t : Tm Unit} {todo : List (Tm Unit)} {had : List Int} (hl : okT m l) (h : Seek l n t (todo ++ [V k]) had) (hk : look l k = none) (hne : ¬ k = n) : Seek l n t todo (k :: had) := by
  have hR : ¬ numsIn (img l (V k)) n := by
    rw [img_V, sig_free hl (look_none.1 hk), numsIn_V]
    exact fun e => hne e.symm
  have hR' : ¬ numsIn (sig l k) n := by rwa [img_V] at hR
  have hf : ∀ P : Tm Unit → Prop, (∃ y ∈ todo ++ [V k], numsIn (img l y) n ∧ P y) → ∃ y ∈ todo, numsIn (img l y) n ∧ P y := by
    rintro P ⟨z, hz, h1, h2⟩
    rcases List.mem_append.1 hz with hz | hz
    · exact ⟨z, hz, h1, h2⟩
    · rw [List.mem_singleton] at hz
      subst hz
      exact absurd h1 hR
  refine ⟨fun x hx => h.leafy x (List.mem_append_left _ hx), fun x hx hn => h.sound x (List.mem_append_left _ hx) hn, fun m hm hn => ?_, fun hn => ?_⟩
  · rcases List.mem_cons.1 hm with rfl | hm
    · exact absurd hn hR'
    · exact hf _ (h.met m hm hn)
  · obtain ⟨z, hz, h1⟩ := h.whole hn
    obtain ⟨z', hz', h3, _⟩ := hf (fun _ => True) ⟨z, hz, h1, trivial⟩
    exact ⟨z', hz', h3⟩
/-- A variable that stands for a term. -/
theorem Seek.bound {m : Nat} {l : Trail} {n k : Int} {t p : Tm Unit} {todo : List (Tm Unit)} {had : List Int} (hl : okT m l) (h : Seek l n t (todo ++ [V k]) had) (hk : look l k = some p) : Seek l n t (todo ++ [p]) (k :: had) := by
  have hp : Tm.leafy p := good_leafy (okT_mem hl (look_mem hk)).2.2.1
  have hR : numsIn (img l (V k)) n → numsIn (img l p) n := by rw [img_V, sig_look hl hk]; exact id
  have hR' : numsIn (img l p) n → numsIn (img l (V k)) n := by rw [img_V, sig_look hl hk]; exact id
  have hbl : lower l p k := fun v hv => rk_lt hl hk hv
  refine ⟨fun x hx => ?_, fun x hx hn => ?_, fun m hm hn => ?_, fun hn => ?_⟩
  · rcases List.mem_append.1 hx with hx | hx
    · exact h.leafy x (List.mem_append_left _ hx)
    · rw [List.mem_singleton] at hx; rw [hx]; exact hp
  · rcases List.mem_append.1 hx with hx | hx
    · exact h.sound x (List.mem_append_left _ hx) hn
    · rw [List.mem_singleton] at hx
      rw [hx] at hn
      exact h.sound (V k) (by simp) (hR' hn)
  · rcases List.mem_cons.1 hm with rfl | hm
    · refine ⟨p, by simp, ?_, hbl⟩
      rw [← sig_look hl hk]
      exact hn
    · obtain ⟨z, hz, h1, h2⟩ := h.met m hm hn
      rcases List.mem_append.1 hz with hz | hz
      · exact ⟨z, List.mem_append_left _ hz, h1, h2⟩
      · rw [List.mem_singleton] at hz
        subst hz
        have := h2 k (numsIn_V.2 rfl)
        exact ⟨p, by simp, hR h1, fun v hv => by have := hbl v hv; omega⟩
  · obtain ⟨z, hz, h1⟩ := h.whole hn
    rcases List.mem_append.1 hz with hz | hz
    · exact ⟨z, List.mem_append_left _ hz, h1⟩
    · rw [List.mem_singleton] at hz
      subst hz
      exact ⟨p, by simp, hR h1⟩
/-- How much there is at the most still to be looked at. -/
def gasT : Trail → List Int → Nat
  | [], _ => 0
  | b :: l, had => (if b.1 ∈ had then 0 else b.2.size) + gasT l had
theorem gasT_mono {l : Trail} {had : List Int} (k : Int) : gasT l (k :: had) ≤ gasT l had := by
  induction l with
  | nil => exact Nat.le_refl _
  | cons b l ih =>
    simp only [gasT]
    by_cases h : b.1 ∈ had
    · rw [if_pos h, if_pos (List.mem_cons_of_mem _ h)]; omega
    · rw [if_neg h]
      split <;> omega
theorem gasT_met {l : Trail} {had : List Int} {k : Int} {p : Tm Unit} (h : look l k = some p) (hk : k ∉ had) : gasT l (k :: had) + p.size ≤ gasT l had := by
  induction l with
  | nil => simp [look] at h
  | cons b l ih =>
    simp only [look] at h
    simp only [gasT]
    split at h
    · rename_i e
      injection h with h
      subst h
      rw [if_pos (by rw [e]; exact List.mem_cons_self ..), if_neg (by rw [e]; exact hk)]
      have := gasT_mono (l := l) (had := had) k
      omega
    · have := ih h
      by_cases hb : b.1 ∈ had
      · rw [if_pos hb, if_pos (List.mem_cons_of_mem _ hb)]; omega
      · rw [if_neg hb]
        split <;> omega
theorem gasT_le {m : Nat} {l : Trail} (h : okT m l) (had : List Int) : gasT l had ≤ 2000 * l.length := by
  induction l with
  | nil => exact Nat.zero_le _
  | cons b l ih =>
    have hg := h.2.2.2.2.1
    have h1 := ih h.1
    unfold goodB at hg
    simp only [Bool.and_eq_true, decide_eq_true_eq] at hg
    simp only [gasT, List.length_cons]
    split <;> omega

/-! ### Walked, whole -/
/-- What a term is walked to. -/
structure Walked (m : Nat) (l : Trail) (t x : Tm Unit) : Prop where
  img : img l x = img l t
  free : x.kind = 0 → x.n ∉ dom l
  leafy : leafy x
  ones : ∀ y ∈ x.flat, goodOneB y = true
  lt : (∀ v, numsIn t v → v < (m : Int)) → ∀ v, numsIn x v → v < (m : Int)
theorem Walked.self {m : Nat} {l : Trail} {t : Tm Unit} (ht : ∀ y ∈ t.flat, goodOneB y = true) (h : t.kind = 0 → t.n ∉ dom l) : Walked m l t t :=
  ⟨rfl, h, leafy_good ht, ht, fun h => h⟩
theorem Walked.step {m : Nat} {l : Trail} {t p x : Tm Unit} (hl : okT m l) (ht : Tm.leafy t) (hk : t.kind = 0) (hp : look l t.n = some p) (h : Walked m l p x) : Walked m l t x :=
  ⟨by rw [h.img, leafy_self ht hk, img_V, sig_look hl hp], h.free, h.leafy, h.ones, fun _ => h.lt (okT_mem hl (look_mem hp)).2.2.2⟩
/-- A walked term as it is, all the way in. -/
theorem Walked.var {m : Nat} {l : Trail} {t x : Tm Unit} (hl : okT m l) (h : Walked m l t x) (hk : x.kind = 0) : Tm.img l t = x := by
  rw [← h.img, leafy_self h.leafy hk, img_V, sig_free hl (h.free hk)]
theorem Walked.flat {m : Nat} {l : Trail} {t x : Tm Unit} (hl : okT m l) (h : Walked m l t x) (ha : x.args = []) : Tm.img l t = x := by
  by_cases hk : x.kind = 0
  · exact h.var hl hk
  · rw [← h.img, img_args hk, ha]
    cases x with | mk k n s e aa =>
    simp only [args] at ha
    subst ha
    rfl
theorem one_args {α : Type} {x : Tm α} (h : goodOneB x = true) (ha : ¬ x.args = []) : x.kind = 2 ∧ x.n = 0 ∧ x.args.length ≤ 8 := by
  have hl : ¬ x.args.length = 0 := fun c => ha (List.eq_nil_of_length_eq_zero c)
  by_cases h0 : x.kind = 0
  · rw [goodOneB_0 x h0] at h
    simp only [Bool.and_eq_true, decide_eq_true_eq] at h
    exact absurd h.2.2.2 hl
  · by_cases h1 : x.kind = 1
    · rw [goodOneB_1 x h1] at h
      simp only [Bool.and_eq_true, decide_eq_true_eq] at h
      exact absurd h.2 hl
    · by_cases h2 : x.kind = 2
      · rw [goodOneB_2 x h2] at h
        simp only [Bool.and_eq_true, decide_eq_true_eq] at h
        exact ⟨h2, h.1, h.2.2⟩
      · rw [goodOneB_3 x h0 h1 h2] at h
        cases h
theorem Walked.args {m : Nat} {l : Trail} {t x : Tm Unit} (h : Walked m l t x) (ha : ¬ x.args = []) : Tm.img l t = .mk x.kind 0 x.name () (x.args.map (Tm.img l)) := by
  obtain ⟨h1, h2, _⟩ := one_args (h.ones x (by rw [flat_eq]; exact List.mem_cons_self ..)) ha
  rw [← h.img, img_args (by omega), h2]
/-- Whether a term is neither too great nor too deep, where so many were made, so deep. -/
def makeOk (s d : Nat) (u : Tm Unit) : Bool := decide (s + u.size ≤ 2000) && decide (d + u.depth ≤ 65)
theorem makeOk_iff {s d : Nat} {u : Tm Unit} : makeOk s d u = true ↔ s + u.size ≤ 2000 ∧ d + u.depth ≤ 65 := by
  unfold makeOk; simp only [Bool.and_eq_true, decide_eq_true_eq]
theorem depths_mem {α : Type} {l : List (Tm α)} {x : Tm α} (h : x ∈ l) : x.depth ≤ depths l := by
  induction l with
  | nil => cases h
  | cons z l ih =>
    simp only [depths]
    rcases List.mem_cons.1 h with rfl | h
    · omega
    · have := ih h; omega
theorem depths_le {α : Type} {l : List (Tm α)} {d : Nat} (h : ∀ x ∈ l, x.depth ≤ d) : depths l ≤ d := by
  induction l with
  | nil => exact Nat.zero_le _
  | cons z l ih =>
    simp only [depths]
    have := h z (List.mem_cons_self ..)
    have := ih (fun x hx => h x (List.mem_cons_of_mem _ hx))
    omega
theorem sizes_take {α : Type} {l : List (Tm α)} {i : Nat} {x : Tm α} (h : l[i]? = some x) : sizes (l.take (i + 1)) = sizes (l.take i) + x.size := by
  rw [List.take_add_one, h, sizes_append]
  simp only [Option.toList, sizes]
  omega
theorem sizes_take_le {α : Type} (l : List (Tm α)) (i : Nat) : sizes (l.take i) ≤ sizes l := by
  have := sizes_append (l.take i) (l.drop i)
  rw [List.take_append_drop] at this
  omega
/-- One of the args was too great or too deep. -/
theorem makeOk_no {s d i : Nat} {u x : Tm Unit} (h : u.args[i]? = some x) (hx : makeOk (s + 1 + sizes (u.args.take i)) (d + 1) x = false) : makeOk s d u = false := by
  rw [Bool.eq_false_iff, ne_eq, makeOk_iff] at hx ⊢
  intro c
  apply hx
  have h1 := sizes_take h
  have h2 := sizes_take_le u.args (i + 1)
  have h3 := depths_mem (List.mem_of_getElem? h)
  have h4 := size_eq u
  have h5 := depth_eq u
  omega
theorem makeOk_yes {s d : Nat} {u : Tm Unit} (h0 : s + 1 ≤ 2000) (h1 : d ≤ 64) (h2 : s + 1 + sizes u.args ≤ 2000) (h3 : ∀ x ∈ u.args, d + 1 + x.depth ≤ 65) : makeOk s d u = true := by
  rw [makeOk_iff]
  have h4 := size_eq u
  have h5 := depth_eq u
  have h6 := depths_le (d := 64 - d) (l := u.args) (fun x hx => by have := h3 x hx; omega)
  omega
/-- Given variables alone. -/
def ownB {α : Type} (m : Nat) (t : Tm α) : Bool := goodB t && t.vars.all fun v => decide (v < (m : Int))
theorem ownB_iff {m : Nat} {t : Tm Unit} : ownB m t = true ↔ goodB t = true ∧ ∀ v, numsIn t v → v < (m : Int) := by
  unfold ownB
  simp only [Bool.and_eq_true, List.all_eq_true, decide_eq_true_eq]
  constructor
  · rintro ⟨h1, h2⟩; exact ⟨h1, fun v hv => h2 v ((vars_mem v).2 hv)⟩
  · rintro ⟨h1, h2⟩; exact ⟨h1, fun v hv => h2 v ((vars_mem v).1 hv)⟩
theorem good_ones' {t : Tm Unit} (h : goodB t = true) : ∀ x ∈ t.flat, goodOneB x = true := by
  unfold goodB at h
  simp only [Bool.and_eq_true, List.all_eq_true] at h
  exact h.2.2
/-- What Whole makes. -/
def wholeB (l : Trail) (t : Tm Unit) : Bool := decide ((img l t).size ≤ 2000) && decide ((img l t).depth ≤ 64)
theorem makeOk_whole (l : Trail) (t : Tm Unit) : makeOk 0 1 (img l t) = wholeB l t := by
  unfold makeOk wholeB
  rw [Nat.zero_add]
  congr 1
  rw [decide_eq_decide]
  omega
theorem whole_good {m : Nat} {l : Trail} {t : Tm Unit} (hl : okT m l) (ht : ownB m t = true) (hw : wholeB l t = true) : ownB m (img l t) = true := by
  obtain ⟨h1, h2⟩ := ownB_iff.1 ht
  refine ownB_iff.2 ⟨?_, img_lt hl (good_leafy h1) h2⟩
  unfold wholeB at hw
  unfold goodB
  simp only [Bool.and_eq_true, decide_eq_true_eq, List.all_eq_true] at hw ⊢
  exact ⟨hw.1, hw.2, img_goodOne hl (good_ones' h1)⟩
theorem whole_whole {m : Nat} {l : Trail} {t : Tm Unit} (hl : okT m l) (ht : ownB m t = true) (hw : wholeB l t = true) : img l (img l t) = img l t ∧ wholeB l (img l t) = true := by
  have h := img_img hl (good_leafy (ownB_iff.1 ht).1)
  exact ⟨h, by unfold wholeB at hw ⊢; rw [h]; exact hw⟩
end Tm
end Go.Proofs.Ytoihjobdfjajfaa

/- The document's rename. -/
namespace Go.Proofs.Ytoihjobdfjajfaa
set_option linter.unusedVariables false
set_option linter.unusedSimpArgs false
open Go.RowKit Go.Maps

/-- So many empty terms. -/
def blanks (n : Nat) : List LT := List.replicate n (leaf 0 0 ByteArray.empty)
theorem made_blanks (n : Nat) : (madeCells zeroR.cells (n * 4)).toList = (blanks n).flatMap LT.cells := by
  refine List.ext_getElem? (fun k => ?_)
  have hl : ((blanks n).flatMap LT.cells).length = n * 4 := by rw [LT.flat_length]; unfold blanks; rw [List.length_replicate]
  by_cases hk : k < n * 4
  · have hi : (blanks n)[k / 4]? = some (leaf 0 0 ByteArray.empty) := by
      unfold blanks
      rw [List.getElem?_replicate, if_pos (by omega)]
    have h := LT.flat_at hi (k % 4) (by omega)
    rw [show k / 4 * 4 + k % 4 = k from by omega] at h
    rw [h]
    unfold madeCells
    rw [Array.toList_map, Array.toList_range, List.getElem?_map, List.getElem?_range hk]
    have h4 : k % 4 = 0 ∨ k % 4 = 1 ∨ k % 4 = 2 ∨ k % 4 = 3 := by omega
    have hz : zeroR.cells.size = 4 := rfl
    show some (zeroR.cells[k % zeroR.cells.size]!) = _
    rw [hz]
    rcases h4 with h4 | h4 | h4 | h4 <;> rw [h4] <;> rfl
  · refine (List.getElem?_eq_none ?_).trans (List.getElem?_eq_none (by rw [hl]; omega)).symm
    unfold madeCells
    simp
    omega
theorem blanks_length (n : Nat) : (blanks n).length = n := by unfold blanks; rw [List.length_replicate]
/-- A row of empty terms is made. -/
theorem make_blanks (n : Nat) (hn : n ≤ 1000) (W : World) : (Instr.makeSlice 39 (.int .i64 n) (.int .i64 n)).run Try.prog W = .ok (.slice (some ⟨W.heap.size, 0, none⟩) n n) (W.alloc (.cells (madeCells zeroR.cells (n * 4)) 41)) ∧
    Row (W.alloc (.cells (madeCells zeroR.cells (n * 4)) 41)) 41 4 (.slice (some ⟨W.heap.size, 0, none⟩) n n) n ((blanks n).flatMap LT.cells) := by
  obtain ⟨i0, hi0, hz0, hz1, hz2⟩ := info_parts infoR
  refine ⟨?_, ?_⟩
  · have h := run_make (P := Try.prog) W 39 41 i0 zeroR Try.underlying39 hi0 hz0 .i64 .i64 n n (by omega) (Int.le_refl _) (by rw [hz2]; omega) (by omega)
    rw [hz1] at h
    simpa using h
  · have h := Row.made W 41 4 (madeCells zeroR.cells (n * 4)) n (size_madeCells _ _) (by unfold maxLen; omega)
    rw [made_blanks] at h
    exact h
theorem blanks_in (n : Nat) (p : Nat → Prop) (w : World) : LT.Ins p w (blanks n) := by
  rw [LT.ins_iff]
  intro x hx
  unfold blanks at hx
  rw [List.eq_of_mem_replicate hx]
  exact leafIn' (i64_lit _ (by omega)) (i64_lit _ (by omega)) (by unfold maxLen; decide)

/-- What lies in memory when so many args are done: row block G, terms us in it. -/
structure RenI (p : Nat → Prop) (σ : Tm Unit → Tm Unit) (G : Nat) (t : LT) (w3 : World) (j : Nat) (us : List LT) (W : World) : Prop where
  len : us.length = t.args.length
  bares : (us.take j).map Tm.bare = (t.args.take j).map fun x => σ x.bare
  row : Row W 41 4 (.slice (some ⟨G, 0, none⟩) t.args.length t.args.length) t.args.length (us.flatMap LT.cells)
  ins : LT.Ins (fun k => p k ∨ G + 1 ≤ k) W us
  turned : Turned (fun k => k = G) w3 W
theorem RenI.put {p : Nat → Prop} {σ : Tm Unit → Tm Unit} {G : Nat} {t x u : LT} {w3 W W7 : World} {j : Nat} {us : List LT} (h : RenI p σ G t w3 j us W) (hp : ∀ k, p k → k < G) (hG : G < W.heap.size) (hx : t.args[j]? = some x) (hb : u.bare = σ x.bare) (hu : u.In (fun k => p k ∨ W.heap.size ≤ k) W7) (hT : Turned (fun _ => False) W W7) :
    RenI p σ G t w3 (j + 1) (us.set j u) ((((W7.setCell ⟨G, j * 4, none⟩ (.int .i64 u.kind)).setCell ⟨G, j * 4 + 1, none⟩ (.int .i64 u.n)).setCell ⟨G, j * 4 + 2, none⟩ (.string u.name)).setCell ⟨G, j * 4 + 3, none⟩ (.slice u.at_.1 u.args.length u.at_.2)) := by
  have hjl : j < t.args.length := (List.getElem?_eq_some_iff.1 hx).1
  have hju : j < us.length := by rw [h.len]; exact hjl
  have Tq : Turned (fun k => k = G) W7 ((((W7.setCell ⟨G, j * 4, none⟩ (.int .i64 u.kind)).setCell ⟨G, j * 4 + 1, none⟩ (.int .i64 u.n)).setCell ⟨G, j * 4 + 2, none⟩ (.string u.name)).setCell ⟨G, j * 4 + 3, none⟩ (.slice u.at_.1 u.args.length u.at_.2)) :=
    ((((Turned.refl (fun k => k = G) W7).setCell (p := ⟨G, j * 4, none⟩) (.inr rfl) _).setCell (p := ⟨G, j * 4 + 1, none⟩) (.inr rfl) _).setCell (p := ⟨G, j * 4 + 2, none⟩) (.inr rfl) _).setCell (p := ⟨G, j * 4 + 3, none⟩) (.inr rfl) _
  refine ⟨by rw [List.length_set]; exact h.len, ?_, ?_, ?_, (h.turned.trans (hT.mono (fun _ _ f => f.elim))).trans Tq⟩
  · have e1 : (us.set j u).take (j + 1) = us.take j ++ [u] := by
      rw [List.take_add_one, List.take_set, List.getElem?_set_self hju]
      rw [List.set_eq_of_length_le (by rw [List.length_take]; omega)]
      rfl
    have e2 : t.args.take (j + 1) = t.args.take j ++ [x] := by rw [List.take_add_one, hx]; rfl
    rw [e1, e2, List.map_append, List.map_append, h.bares]
    simp [hb]
  · have hr := h.row.turned0 hT
    have r1 := hr.setAt (off := j * 4) (by omega) (.int .i64 u.kind)
    have r2 := r1.setAt (off := j * 4 + 1) (by omega) (.int .i64 u.n)
    have r3 := r2.setAt (off := j * 4 + 2) (by omega) (.string u.name)
    have r4 := r3.setAt (off := j * 4 + 3) (by omega) (.slice u.at_.1 u.args.length u.at_.2)
    rw [flat_set hju] at r4
    exact r4
  · rw [LT.ins_iff]
    intro y hy
    have keep : ∀ z : LT, z.In (fun k => p k ∨ G + 1 ≤ k) W7 → z.In (fun k => p k ∨ G + 1 ≤ k) _ := fun z hz => LT.In.turned Tq (fun k _ hk e => by
      rcases hk with hk | hk
      · have := hp k hk; omega
      · omega) (fun _ _ hk => hk) z hz
    refine keep y ?_
    rcases List.mem_or_eq_of_mem_set hy with hy | rfl
    · exact ((LT.ins_iff _).1 h.ins y hy).turned0 hT
    · exact hu.mono (fun k _ hk => hk.elim .inl (fun hk => .inr (by omega)))
theorem ren_noargs {s : Int → Int} {t : Tm Unit} (hk : ¬ t.kind = 0) (ha : t.args = []) : Tm.ren s t = t := by
  cases t with | mk k n nm e aa =>
  simp only [Tm.args] at ha
  subst ha
  unfold Tm.ren
  simp only [Tm.kind] at hk
  simp only [Tm.subT, if_neg hk, Tm.subTs]
theorem ren_args {s : Int → Int} {t : LT} (hg : goodOneB t = true) (ha : ¬ t.args = []) : Tm.ren s t.bare = .mk 2 0 t.name () (t.args.map fun x => Tm.ren s x.bare) := by
  obtain ⟨h1, h2, _⟩ := Tm.one_args hg ha
  cases t with | mk k n nm e aa =>
  simp only [Tm.kind, Tm.n] at h1 h2
  subst h1 h2
  unfold Tm.ren
  simp only [Tm.bare, Tm.subT]
  rw [if_neg (by omega), Tm.subTs_eq, Tm.bares_eq, List.map_map]
  rfl
theorem ren_var {s : Int → Int} {t : LT} (hg : goodOneB t = true) (hk : t.kind = 0) : Tm.ren s t.bare = Tm.V (s t.n) := by
  rw [goodOneB_0 t hk] at hg
  cases t with | mk k n nm e aa =>
  simp only [Tm.kind] at hk
  subst hk
  unfold Tm.ren
  simp only [Tm.bare, Tm.subT, if_pos, Tm.n]
theorem row_some {w : World} {e : TypeId} {size n g cap : Nat} {xs : List Value} (h : Row w e size (.slice (some ⟨g, 0, none⟩) n cap) n xs) (k : Nat) (hk : k < n * size) : ∃ z, w.cell? ⟨g, k, none⟩ = some z :=
  ⟨_, h.cells rfl k _ (List.getElem?_eq_getElem (by rw [h.1]; exact hk))⟩
def RenL (vs : List Int) (n : Int) (w2 : World) (q : Nat) (i : Value) (wr : World) : Prop := ∃ j : Nat, Hid (j + q = vs.length) ∧ j ≤ vs.length ∧ i = .int .i64 j ∧ Hid (∀ k, k < j → vs[k]? ≠ some n) ∧ Turned (fun _ => False) w2 wr
set_option maxRecDepth 100000 in
set_option maxHeartbeats 3200000 in
theorem rename140 {vs : List Int} {first : Int} {va : Option Addr} {vc : Nat} (hf0 : 0 ≤ first) (hf1 : first ≤ 2147483648) (hvl : vs.length ≤ 2000) (n : Nat) : ∀ (p : Nat → Prop) (t : LT) (w : World), t.depth ≤ n → t.In p w → (∀ x ∈ t.flat, goodOneB x = true) → (∀ x ∈ t.flat, x.kind = 0 → x.n ∈ vs) → Row w 2 1 (.slice va vs.length vc) vs.length (vs.map (Value.int .i64)) →
    Calls Try.prog 140 #[t.val, .slice va vs.length vc, .int .i64 first] w fun e w' => ∃ u : LT, e = .returned u.val ∧ u.bare = Tm.ren (Tm.fromS vs first) t.bare ∧ u.In (fun k => p k ∨ w.heap.size ≤ k) w' ∧ Turned (fun _ => False) w w' := by
  induction n with
  | zero => intro p t w h; have := Tm.depth_pos t; omega
  | succ n ih =>
    intro p t w hd ht hg hn hrow
    have h2 := twoBox w (.cells #[.int .i64 t.kind, .int .i64 t.n, .string t.name, .slice t.at_.1 t.args.length t.at_.2] 41) (.cells #[.int .i64 0, .int .i64 0, .string ⟨#[]⟩, .slice none 0 0] 41)
    have hself : t ∈ t.flat := by rw [Tm.flat_eq]; exact List.mem_cons_self ..
    have hg1 := hg t hself
    by_cases hk : t.kind = 0
    · have k0 : (t.kind == 0) = true := by simp [hk]
      have hmem := hn t hself hk
      have hrv := ren_var (s := Tm.fromS vs first) hg1 hk
      obtain ⟨tn, htn⟩ : ∃ z, z = t.n := ⟨_, rfl⟩
      rw [← htn] at hmem hrv h2
      have HRV := Lib.hid hrv
      have HM := Lib.hid hmem
      have HROW := Lib.hid (hrow.turned0 h2.1)
      have H2 := Lib.hid h2
      have hmax := hrow.max
      rw [LT.val_eq t, ← htn]
      clear ih hd ht hg hn hrow hg1 hk hself hmem hrv htn
      obtain ⟨c0, c1, c2, c3, _⟩ := cells4 h2.2.2.1
      clear h2
      go_enter Try.func140, Try.ntmps140
      go_wp2_with fail
      revert H2 HROW
      generalize ((w.alloc (.cells #[.int .i64 t.kind, .int .i64 tn, .string t.name, .slice t.at_.1 t.args.length t.at_.2] 41)).alloc (.cells #[.int .i64 0, .int .i64 0, .string ⟨#[]⟩, .slice none 0 0] 41)) = w2
      intro HROW H2
      clear c0 c1 c2 c3
      go_loopg [7] vs.length (fun q i wr => RenL vs tn w2 q i wr)
      case atStart => exact ⟨0, Nat.zero_add _, Nat.zero_le _, rfl, fun k hk => absurd hk (Nat.not_lt_zero k), Turned.refl _ _⟩
      case round =>
        obtain ⟨j, HG, hj, rfl, HNO, hT⟩ := hrel
        by_cases hjl : j < vs.length
        · obtain ⟨x, hx⟩ : ∃ x, vs[j]? = some x := ⟨_, List.getElem?_eq_getElem hjl⟩
          have hrw := HROW.out.turned0 hT
          obtain ⟨gv, cap, he⟩ := hrw.shape_pos (by omega)
          injection he with e1 _ e3
          subst e1 e3
          have hcv := hrw.cells rfl j (.int .i64 x) (by rw [List.getElem?_map, hx]; rfl)
          obtain ⟨c0, c1, c2, c3, _⟩ := cells4 ((hT.block _ (Array.getElem?_eq_some_iff.1 H2.out.2.2.1).1 (fun f => f)).trans H2.out.2.2.1)
          have HX := Lib.hid hx
          clear hx hrw
          by_cases hxt : x = tn
          · have hb : (x == tn) = true := by simp [hxt]
            have hpos := posOf_first (n := tn) (j := j) (by rw [HX.out, hxt]) HNO.out
            have HP := Lib.hid hpos
            have hb1 := (hT.block _ (Array.getElem?_eq_some_iff.1 H2.out.2.2.2).1 (fun f => f)).trans H2.out.2.2.2
            obtain ⟨d0, d1, d2, d3, f0, f1, f2, f3⟩ := cells4 hb1
            have HB1 := Lib.hid hb1
            clear hpos hxt hb1
            go_wp2_with fail
            go_quiet (fail)
            go_wp2_with fail
            have hb2 : (wr.drewN nq).heap[w.heap.size + 1]? = _ := HB1.out
            have hset := set4 (a' := .int .i64 0) (b' := .int .i64 (first + j)) (c' := .string ⟨#[]⟩) (d' := .slice none 0 0) hb2
            have T4 := turned4 (a := .int .i64 0) (b := .int .i64 (first + j)) (c := .string ⟨#[]⟩) (d := .slice none 0 0) ((H2.out.1.trans hT).drewN nq) (g := w.heap.size + 1) (by omega)
            refine bodyPost_ret (v := .agg #[.int .i64 0, .int .i64 (first + j), .string ⟨#[]⟩, .slice none 0 0]) (results_cell_row Try.results140 _ _ (w.heap.size + 1) 41 _ (0, 0) _ rfl hset Try.underlying41 rfl (by kernel_rfl)) rfl ⟨leaf 0 (first + j) ByteArray.empty, rfl, ?_, leafIn' (i64_lit _ (by omega)) (by unfold I64; omega) (by unfold maxLen; decide), T4⟩
            rw [HRV.out, Tm.fromS, HP.out]
            rfl
          · have hb : (x == tn) = false := by simp [hxt]
            have HNE := Lib.hid hxt
            clear hxt
            go_wp2_with fail
            go_quiet (fail)
            go_wp2_with fail
            go_roundg (gk - 1)
            case measure => have := HG.out; omega
            case rel => exact ⟨j + 1, show _ = _ by have := HG.out; omega, by omega, by go_num, fun k hk e => by
                rcases Nat.lt_or_ge k j with h | h
                · exact HNO.out k h e
                · obtain rfl : k = j := by omega
                  rw [HX.out] at e
                  injection e with e
                  exact HNE.out e, hT.drewN nq⟩
        · exfalso
          obtain ⟨k, hk⟩ := List.getElem?_of_mem HM.out
          have := (List.getElem?_eq_some_iff.1 hk).1
          exact HNO.out k (by omega) hk
    · have k0 : (t.kind == 0) = false := by simp [hk]
      by_cases ha : t.args = []
      · have hl : t.args.length = 0 := by rw [ha]; rfl
        have hren : Tm.ren (Tm.fromS vs first) t.bare = t.bare := ren_noargs (by rw [Tm.bare_kind]; exact hk) (by rw [Tm.bare_args, ha]; rfl)
        have HREN := Lib.hid hren
        have HIN := Lib.hid (LT.val_eq t)
        have HT := Lib.hid ht
        have H2 := Lib.hid h2
        rw [LT.val_eq t, hl]
        have hb0 := h2.2.2.1
        rw [hl] at hb0
        obtain ⟨c0, c1, c2, c3, _⟩ := cells4 hb0
        have hb1 := h2.2.2.2
        rw [hl] at hb1
        obtain ⟨d0, d1, d2, d3, f0, f1, f2, f3⟩ := cells4 hb1
        have HB1 := Lib.hid hb1
        have HA := Lib.hid hl
        clear ih hd ht hg hn hrow hg1 hk hself hren ha hl h2 hb0 hb1
        go_enter Try.func140, Try.ntmps140
        go_wp2_with fail
        have h2' := twoBox w (.cells #[.int .i64 t.kind, .int .i64 t.n, .string t.name, .slice t.at_.1 0 t.at_.2] 41) (.cells #[.int .i64 t.kind, .int .i64 t.n, .string t.name, .slice t.at_.1 0 t.at_.2] 41)
        have hset := h2'.2.2.2
        have T4 := h2'.1
        refine bodyPost_ret (v := .agg #[.int .i64 t.kind, .int .i64 t.n, .string t.name, .slice t.at_.1 0 t.at_.2]) (results_cell_row Try.results140 _ _ (w.heap.size + 1) 41 _ (0, 0) _ rfl hset Try.underlying41 rfl (by kernel_rfl)) rfl ⟨t, ?_, ?_, ?_, T4⟩
        · rw [HIN.out, HA.out]
        · rw [HREN.out]
        · exact (HT.out.turned0 T4).mono (fun k _ h => .inl h)
      · have hlen : t.args.length ≤ 8 := (Tm.one_args hg1 ha).2.2
        have hkn := Tm.one_args hg1 ha
        have hren := ren_args (s := Tm.fromS vs first) hg1 ha
        have hlp : 0 < t.args.length := by
          rcases Nat.eq_zero_or_pos t.args.length with h | h
          · exact absurd (List.eq_nil_of_length_eq_zero h) ha
          · exact h
        have hmk := fun W => (make_blanks t.args.length (by omega) W).1
        have HMK := Lib.hid (fun W => (make_blanks t.args.length (by omega) W).2)
        obtain ⟨p', hp'⟩ : ∃ q : Nat → Prop, q = fun k => p k ∧ k < w.heap.size := ⟨_, rfl⟩
        have HPL : Hid (∀ k, p' k → p k ∧ k < w.heap.size) := by intro k hq; rw [hp'] at hq; exact hq
        have ht' : t.In p' w := ht.mono (fun k hk h => by rw [hp']; exact ⟨h, hk⟩)
        have hcall : ∀ x : LT, x ∈ t.args → ∀ W, Turned (fun _ => False) w W → Calls Try.prog 140 #[x.val, .slice va vs.length vc, .int .i64 first] W fun e w' => ∃ u : LT, e = .returned u.val ∧ u.bare = Tm.ren (Tm.fromS vs first) x.bare ∧ u.In (fun k => p' k ∨ W.heap.size ≤ k) w' ∧ Turned (fun _ => False) W w' := fun x hx W hW =>
          ih p' x W (by have := arg_depth hx; omega) ((LT.ins_iff _).1 (ht'.turned0 hW).args x hx) (fun y hy => hg y (by rw [Tm.flat_eq]; exact List.mem_cons_of_mem _ (mem_flats_arg hx hy))) (fun y hy => hn y (by rw [Tm.flat_eq]; exact List.mem_cons_of_mem _ (mem_flats_arg hx hy))) (hrow.turned0 hW)
        have HC := Lib.hid hcall
        have HIN := Lib.hid ht'
        have HREN := Lib.hid hren
        have HKN := Lib.hid hkn
        have hL := fun W h => (LT.In.lies (p := p') (w := W) (t := t) h)
        rw [LT.val_eq]
        obtain ⟨ad, had⟩ : ∃ z, z = t.at_.1 := ⟨_, rfl⟩
        obtain ⟨cd, hcd⟩ : ∃ z, z = t.at_.2 := ⟨_, rfl⟩
        rw [← had] at hL h2
        rw [← hcd] at h2
        rw [← had, ← hcd]
        have HL := Lib.hid hL
        have H2 := Lib.hid h2
        obtain ⟨c0, c1, c2, c3, _⟩ := cells4 h2.2.2.1
        have hal : (t.args.length == 0) = false := by simp; omega
        have hal2 : ((t.args.length : Int) == 0) = false := by simp; omega
        clear ih hd ht ht' hg hn hrow hg1 hk hself hcall hren hkn had hcd hp' hL ha h2
        generalize hZZ : madeCells zeroR.cells (t.args.length * 4) = ZZ at hmk HMK
        clear hZZ
        go_enter Try.func140, Try.ntmps140
        go_wp2_with fail
        have HR0 := HMK.out ((w.alloc (.cells #[.int .i64 t.kind, .int .i64 t.n, .string t.name, .slice ad t.args.length cd] 41)).alloc (.cells #[.int .i64 0, .int .i64 0, .string ⟨#[]⟩, .slice none 0 0] 41))
        have HT0 := (Turned.refl (fun _ => False) ((w.alloc (.cells #[.int .i64 t.kind, .int .i64 t.n, .string t.name, .slice ad t.args.length cd] 41)).alloc (.cells #[.int .i64 0, .int .i64 0, .string ⟨#[]⟩, .slice none 0 0] 41))).alloc (.cells ZZ 41)
        have hsz : ((w.alloc (.cells #[.int .i64 t.kind, .int .i64 t.n, .string t.name, .slice ad t.args.length cd] 41)).alloc (.cells #[.int .i64 0, .int .i64 0, .string ⟨#[]⟩, .slice none 0 0] 41)).heap.size = w.heap.size + 2 := H2.out.2.1
        rw [hsz] at HR0
        try rw [hsz]
        have HH := And.intro (Lib.hid HR0) (And.intro (Lib.hid (H2.out.1.trans HT0)) (And.intro (Lib.hid ((HT0.block _ (Array.getElem?_eq_some_iff.1 H2.out.2.2.1).1 (fun f => f)).trans H2.out.2.2.1)) (And.intro (Lib.hid ((HT0.block _ (Array.getElem?_eq_some_iff.1 H2.out.2.2.2).1 (fun f => f)).trans H2.out.2.2.2)) (Lib.hid (show (((w.alloc (.cells #[.int .i64 t.kind, .int .i64 t.n, .string t.name, .slice ad t.args.length cd] 41)).alloc (.cells #[.int .i64 0, .int .i64 0, .string ⟨#[]⟩, .slice none 0 0] 41)).alloc (.cells ZZ 41)).heap.size = w.heap.size + 3 by simp)))))
        clear HR0 HT0 H2 c0 c1 c2 c3 hmk HMK hsz
        revert HH
        generalize ((w.alloc (.cells #[.int .i64 t.kind, .int .i64 t.n, .string t.name, .slice ad t.args.length cd] 41)).alloc (.cells #[.int .i64 0, .int .i64 0, .string ⟨#[]⟩, .slice none 0 0] 41)).alloc (.cells ZZ 41) = w3
        obtain ⟨G, hG⟩ : ∃ z, z = w.heap.size + 2 := ⟨_, rfl⟩
        obtain ⟨B1, hB1⟩ : ∃ z, z = w.heap.size + 1 := ⟨_, rfl⟩
        obtain ⟨B0, hB0⟩ : ∃ z, z = w.heap.size := ⟨_, rfl⟩
        rw [← hG, ← hB1]
        try rw [← hB0]
        intro HH
        obtain ⟨HR0, HT0, HB0, HB1, HS⟩ := HH
        have HE := Lib.hid (And.intro hG (And.intro hB1 hB0))
        clear hG hB1 hB0
        have hinit : Hid (RenI p' (Tm.ren (Tm.fromS vs first)) G t w3 0 (blanks t.args.length) w3) := ⟨blanks_length _, rfl, HR0.out, blanks_in _ _ _, Turned.refl _ _⟩
        go_loopg [9] t.args.length (fun q i wr => ∃ j : Nat, Hid (j + q = t.args.length) ∧ j ≤ t.args.length ∧ i = .int .i64 j ∧ ∃ us, Hid (RenI p' (Tm.ren (Tm.fromS vs first)) G t w3 j us wr))
        case atStart => exact ⟨0, Nat.zero_add _, Nat.zero_le _, rfl, _, hinit⟩
        case round =>
          obtain ⟨j, HG, hj, rfl, us, HOR⟩ := hrel
          have HTw : Hid (Turned (fun _ => False) w wr) := HT0.out.step HOR.out.turned (fun i hi e => by have := HE.out; omega)
          have hb0 := (HOR.out.turned.block _ (Array.getElem?_eq_some_iff.1 HB0.out).1 (fun e => by have := HE.out; omega)).trans HB0.out
          obtain ⟨c0, c1, c2, c3, _⟩ := cells4 hb0
          clear hb0
          by_cases hjl : j < t.args.length
          · obtain ⟨x, hx⟩ : ∃ x : LT, t.args[j]? = some x := ⟨_, List.getElem?_eq_getElem hjl⟩
            have tin := HIN.out.turned0 HTw.out
            obtain ⟨b, o, rfl, _, x0, x1, x2, x3⟩ := (HL.out _ tin).cell hx
            have hcx := HC.out x (List.mem_of_getElem? hx) wr HTw.out
            rw [LT.val_eq x] at hcx
            have HCX := Lib.hid hcx
            have HX := Lib.hid hx
            clear hx hcx tin
            go_wp2_with (go_at_call 140; (with_reducible refine HCX.out.mono ?_); rintro e w7 ⟨u, rfl, hub, hui, T7⟩; rw [LT.val_eq u]; have hI := HOR.out.put (fun k hk => by have := (HPL.out k hk).2; have := HE.out; omega) (by have := HOR.out.turned.size; have := HS.out; have := HE.out; omega) HX.out hub hui T7; have hrw := HOR.out.row.turned0 T7; have f0 := hrw.free rfl (j * 4); have f1 := hrw.free rfl (j * 4 + 1); have f2 := hrw.free rfl (j * 4 + 2); have f3 := hrw.free rfl (j * 4 + 3); have g0 := row_some hrw (j * 4) (by omega); have g1 := row_some hrw (j * 4 + 1) (by omega); have g2 := row_some hrw (j * 4 + 2) (by omega); have g3 := row_some hrw (j * 4 + 3) (by omega); obtain ⟨z0, g0⟩ := g0; obtain ⟨z1, g1⟩ := g1; obtain ⟨z2, g2⟩ := g2; obtain ⟨z3, g3⟩ := g3; have HI := Lib.hid hI; clear hI hrw hub hui)
            go_roundg (gk - 1)
            case measure => have := HG.out; omega
            case rel => exact ⟨j + 1, show _ = _ by have := HG.out; omega, by omega, by go_num, _, HI⟩
          · obtain rfl : j = t.args.length := by omega
            have hb1 := (HOR.out.turned.block _ (Array.getElem?_eq_some_iff.1 HB1.out).1 (fun e => by have := HE.out; omega)).trans HB1.out
            have HBX := Lib.hid hb1
            clear hb1
            go_wp2_with (go_at_call 160; (with_reducible refine (rComp160 _ _ _ _ _).mono ?_); rintro e w7 ⟨rfl, T7⟩; have hb1 := (T7.block _ (Array.getElem?_eq_some_iff.1 HBX.out).1 (fun f => f)).trans HBX.out; obtain ⟨d0, d1, d2, d3, f0, f1, f2, f3⟩ := cells4 hb1; have HB7 := Lib.hid hb1; clear hb1)
            have hset := set4 (a' := .int .i64 2) (b' := .int .i64 0) (c' := .string t.name) (d' := .slice (some ⟨G, 0, none⟩) t.args.length t.args.length) HB7.out
            have hge : w.heap.size ≤ B1 := by have := HE.out; omega
            have T4 := turned4 (a := .int .i64 2) (b := .int .i64 0) (c := .string t.name) (d := .slice (some ⟨G, 0, none⟩) t.args.length t.args.length) (HTw.out.trans T7) hge
            refine bodyPost_ret (v := .agg #[.int .i64 2, .int .i64 0, .string t.name, .slice (some ⟨G, 0, none⟩) t.args.length t.args.length]) (results_cell_row Try.results140 _ _ B1 41 _ (0, 0) _ rfl hset Try.underlying41 rfl (by kernel_rfl)) rfl ?_
            have hne : ∀ q, (Value.slice (some ⟨G, 0, none⟩) t.args.length t.args.length).ownBlock ≠ some (Addr.block ⟨B1, q, none⟩) := fun q e => by simp [Value.ownBlock] at e; have := HE.out; omega
            have hrow := (((((HOR.out.row.turned0 T7).setCell (hne 0) (.int .i64 2)).setCell (hne 1) (.int .i64 0)).setCell (hne 2) (.string t.name)).setCell (hne 3) (.slice (some ⟨G, 0, none⟩) t.args.length t.args.length))
            have Tq : Turned (fun k => k = B1) w7 _ := ((((Turned.refl (fun k => k = B1) w7).setCell (p := ⟨B1, 0, none⟩) (.inr rfl) (.int .i64 2)).setCell (p := ⟨B1, 1, none⟩) (.inr rfl) (.int .i64 0)).setCell (p := ⟨B1, 2, none⟩) (.inr rfl) (.string t.name)).setCell (p := ⟨B1, 3, none⟩) (.inr rfl) (.slice (some ⟨G, 0, none⟩) t.args.length t.args.length)
            have hpl := HPL.out
            have hins := (HOR.out.ins.turned0 T7).turned (q := fun k => p k ∨ w.heap.size ≤ k) Tq (fun k _ hk e => by
              have := HE.out
              rcases hk with h | h
              · have := (hpl k h).2; omega
              · omega) (fun k _ hk => by
              have := HE.out
              rcases hk with h | h
              · exact .inl (hpl k h).1
              · exact .inr (by omega))
            obtain ⟨e1, e2⟩ := LT.Sl.of_row (p := fun k => p k ∨ w.heap.size ≤ k) hrow (fun k hk => .inr (by simp [Value.ownBlock] at hk; have := HE.out; omega)) hins
            have hUL : us.length = t.args.length := HOR.out.len
            refine ⟨.mk 2 0 t.name (some ⟨G, 0, none⟩, t.args.length) us, ?_, ?_, e2.in_ (i64_lit _ (by omega)) (i64_lit _ (by omega)) HIN.out.name, T4⟩
            · show _ = Ending.returned (LT.val (.mk 2 0 t.name (some ⟨G, 0, none⟩, t.args.length) us))
              rw [LT.val_eq]
              show _ = Ending.returned (.agg #[.int .i64 2, .int .i64 0, .string t.name, .slice (some ⟨G, 0, none⟩) us.length t.args.length])
              rw [hUL]
            · have hbr := HOR.out.bares
              rw [List.take_length, ← hUL, List.take_length] at hbr
              rw [HREN.out, Tm.bare, Tm.bares_eq, hbr]
end Go.Proofs.Ytoihjobdfjajfaa

/- The document's From, Alike. -/
namespace Go.Proofs.Ytoihjobdfjajfaa
set_option linter.unusedVariables false
set_option linter.unusedSimpArgs false
open Go.RowKit Go.Maps
set_option maxRecDepth 100000 in
set_option maxHeartbeats 3200000 in
theorem rFrom80 {p : Nat → Prop} {t : LT} {w : World} {first : Int} (ht : t.In p w) (hf : I64 first) :
    Calls Try.prog 80 #[t.val, .int .i64 first] w fun e w' => ∃ (u : LT) (m er : Int), e = .returned (.tuple #[u.val, .int .i64 m, .int .i64 er]) ∧ FromR t.bare first u.bare m er ∧ u.In (fun k => p k ∨ w.heap.size ≤ k) w' ∧ Turned (fun _ => False) w w' := by
  have h2 := twoBox w (.cells #[.int .i64 t.kind, .int .i64 t.n, .string t.name, .slice t.at_.1 t.args.length t.at_.2] 41) (.cells #[.int .i64 0, .int .i64 0, .string ⟨#[]⟩, .slice none 0 0] 41)
  have hgo := rGood45 (ht.turned0 h2.1)
  obtain ⟨hf1, hf2⟩ := hf
  have H2 := Lib.hid h2
  obtain ⟨p', hp'⟩ : ∃ q : Nat → Prop, q = fun k => p k ∧ k < w.heap.size := ⟨_, rfl⟩
  have HPL : Hid (∀ k, p' k → p k ∧ k < w.heap.size) := by intro k hq; rw [hp'] at hq; exact hq
  have ht' : t.In p' w := ht.mono (fun k hk h => by rw [hp']; exact ⟨h, hk⟩)
  have HIN := Lib.hid ht'
  clear hp' ht'
  rw [LT.val_eq] at hgo ⊢
  clear ht h2
  have hboxes : ∀ W, Turned (fun _ => False) ((w.alloc (.cells #[.int .i64 t.kind, .int .i64 t.n, .string t.name, .slice t.at_.1 t.args.length t.at_.2] 41)).alloc (.cells #[.int .i64 0, .int .i64 0, .string ⟨#[]⟩, .slice none 0 0] 41)) W →
      W.heap[w.heap.size]? = some (.cells #[.int .i64 t.kind, .int .i64 t.n, .string t.name, .slice t.at_.1 t.args.length t.at_.2] 41 (0, 0)) ∧ W.heap[w.heap.size + 1]? = some (.cells #[.int .i64 0, .int .i64 0, .string ⟨#[]⟩, .slice none 0 0] 41 (0, 0)) := fun W h =>
    ⟨(h.block _ (Array.getElem?_eq_some_iff.1 H2.out.2.2.1).1 (fun f => f)).trans H2.out.2.2.1, (h.block _ (Array.getElem?_eq_some_iff.1 H2.out.2.2.2).1 (fun f => f)).trans H2.out.2.2.2⟩
  have HBX := Lib.hid hboxes
  clear hboxes
  have fin : ∀ W, Turned (fun _ => False) ((w.alloc (.cells #[.int .i64 t.kind, .int .i64 t.n, .string t.name, .slice t.at_.1 t.args.length t.at_.2] 41)).alloc (.cells #[.int .i64 0, .int .i64 0, .string ⟨#[]⟩, .slice none 0 0] 41)) W →
      W.heap[w.heap.size + 1]? = some (.cells #[.int .i64 0, .int .i64 0, .string ⟨#[]⟩, .slice none 0 0] 41 (0, 0)) ∧
      ((((W.setCell ⟨w.heap.size + 1, 0, none⟩ (.int .i64 0)).setCell ⟨w.heap.size + 1, 1, none⟩ (.int .i64 0)).setCell ⟨w.heap.size + 1, 2, none⟩ (.string ⟨#[]⟩)).setCell ⟨w.heap.size + 1, 3, none⟩ (.slice none 0 0)).heap[w.heap.size + 1]? = some (.cells #[.int .i64 0, .int .i64 0, .string ⟨#[]⟩, .slice none 0 0] 41 (0, 0)) ∧
      Turned (fun _ => False) w ((((W.setCell ⟨w.heap.size + 1, 0, none⟩ (.int .i64 0)).setCell ⟨w.heap.size + 1, 1, none⟩ (.int .i64 0)).setCell ⟨w.heap.size + 1, 2, none⟩ (.string ⟨#[]⟩)).setCell ⟨w.heap.size + 1, 3, none⟩ (.slice none 0 0)) := fun W h => by
    obtain ⟨_, b1⟩ := HBX.out W h
    exact ⟨b1, set4 b1, turned4 (H2.out.1.trans h) (by omega)⟩
  have FIN := Lib.hid fin
  clear fin
  by_cases hall : goodB t = true ∧ 0 ≤ first ∧ first ≤ 2147483647
  · obtain ⟨hg, h0, h1⟩ := hall
    have hvars := fun W (h : Turned (fun _ => False) w W) => rVars51 (HIN.out.turned0 h)
    rw [LT.val_eq] at hvars
    have ev : varsB t = t.vars := by unfold varsB; rw [if_pos hg]
    have hle : t.vars.length ≤ 2000 := by have := varsB_le t; rw [ev] at this; exact this
    rw [ev] at hvars
    obtain ⟨vs, hvs⟩ : ∃ z, z = t.vars := ⟨_, rfl⟩
    rw [← hvs] at hvars hle
    have HV := Lib.hid hvars
    have HVS := Lib.hid hvs
    have HG := Lib.hid hg
    rw [hg] at hgo
    have HGO := Lib.hid hgo
    have hnum : ∀ x ∈ t.flat, x.kind = 0 → x.n ∈ vs := fun x hx hk => by
      rw [hvs, ← Tm.vars_bare]
      exact (Tm.vars_mem x.n).2 ⟨x.bare, by rw [Tm.flat_bare]; exact List.mem_map_of_mem hx, by rw [Tm.bare_kind]; exact hk, Tm.bare_n x⟩
    have HNUM := Lib.hid hnum
    clear hgo hvars hvs hg ev hnum
    have d1 : decide (first < 0) = false := decide_eq_false (by omega)
    have d2 : decide (first ≥ 2147483648) = false := decide_eq_false (by omega)
    have d2' : decide (2147483648 ≤ first) = false := decide_eq_false (by omega)
    by_cases hov : first + (vs.length : Int) ≤ 2147483648
    · have d3 : decide (2147483648 < first + (vs.length : Int)) = false := decide_eq_false (by omega)
      have HREN := Lib.hid (fun va vc W (h : Turned (fun _ => False) w W) hrow => rename140 (va := va) (vc := vc) h0 (by omega) hle t.depth p' t W (Nat.le_refl _) (HIN.out.turned0 h) (good_ones HG.out) HNUM.out hrow)
      rw [LT.val_eq t] at HREN
      go_enter Try.func80, Try.ntmps80
      go_wp2_with (first
        | (go_at_call 45; (with_reducible refine HGO.out.mono ?_); rintro e w3 ⟨rfl, T3⟩; obtain ⟨b0, b1⟩ := HBX.out _ T3; obtain ⟨c0, c1, c2, c3, _⟩ := cells4 b0; clear b0 b1)
        | (go_at_call 51; (with_reducible refine (HV.out _ (H2.out.1.trans T3)).mono ?_); rintro e w4 ⟨v, rfl, hrow, hown, T4⟩; obtain ⟨va, vc, rfl⟩ := hrow.shape; obtain ⟨b0, b1⟩ := HBX.out _ (T3.trans T4); obtain ⟨g0, g1, g2, g3, _⟩ := cells4 b0; have hmx := hrow.max; have HROW := Lib.hid hrow; have TT := H2.out.1.trans (T3.trans T4); clear b0 b1 hrow)
        | (go_at_call 140; (with_reducible refine (HREN.out va vc _ TT HROW.out).mono ?_); rintro e w5 ⟨u, rfl, hub, hui, T5⟩; rw [LT.val_eq u]; obtain ⟨b0, b1⟩ := HBX.out _ ((T3.trans T4).trans T5); obtain ⟨_, _, _, _, f0, f1, f2, f3⟩ := cells4 b1; have HB1 := Lib.hid b1; have HU := Lib.hid (And.intro hub hui); clear b0 b1 hub hui))
      have hset := set4 (a' := .int .i64 u.kind) (b' := .int .i64 u.n) (c' := .string u.name) (d' := .slice u.at_.1 u.args.length u.at_.2) HB1.out
      have T4' := turned4 (a := .int .i64 u.kind) (b := .int .i64 u.n) (c := .string u.name) (d := .slice u.at_.1 u.args.length u.at_.2) (TT.trans T5) (g := w.heap.size + 1) (by omega)
      refine bodyPost_ret (results_cell_tmp2 Try.results80 _ _ (w.heap.size + 1) 41 _ (0, 0) _ rfl hset Try.underlying41 rfl (by kernel_rfl)) rfl ⟨u, first + (vs.length : Int), 0, by rw [LT.val_eq u]; rfl, ?_, ?_, T4'⟩
      · unfold FromR
        rw [if_pos ⟨by rw [goodB_bare]; exact HG.out, h0, h1⟩, Tm.vars_bare, ← HVS.out, if_pos hov]
        refine ⟨rfl, rfl, ?_⟩
        rw [HU.out.1, HVS.out]
        unfold Tm.fromT
        rw [Tm.vars_bare]
      · have Tq : Turned (fun k => k = w.heap.size + 1) w5 _ := ((((Turned.refl (fun k => k = w.heap.size + 1) w5).setCell (p := ⟨w.heap.size + 1, 0, none⟩) (.inr rfl) (.int .i64 u.kind)).setCell (p := ⟨w.heap.size + 1, 1, none⟩) (.inr rfl) (.int .i64 u.n)).setCell (p := ⟨w.heap.size + 1, 2, none⟩) (.inr rfl) (.string u.name)).setCell (p := ⟨w.heap.size + 1, 3, none⟩) (.inr rfl) (.slice u.at_.1 u.args.length u.at_.2)
        have hpl := HPL.out
        have hsz : w.heap.size + 2 ≤ w4.heap.size := by have := (T3.trans T4).size; have := H2.out.2.1; omega
        refine LT.In.turned Tq (fun k _ hk e => ?_) (fun k _ hk => ?_) u HU.out.2
        · rcases hk with h | h
          · have := (hpl k h).2; omega
          · omega
        · rcases hk with h | h
          · exact .inl (hpl k h).1
          · exact .inr (by omega)
    · have d3 : decide (2147483648 < first + (vs.length : Int)) = true := decide_eq_true (by omega)
      go_enter Try.func80, Try.ntmps80
      go_wp2_with (first
        | (go_at_call 45; (with_reducible refine HGO.out.mono ?_); rintro e w3 ⟨rfl, T3⟩; obtain ⟨b0, b1⟩ := HBX.out _ T3; obtain ⟨c0, c1, c2, c3, _⟩ := cells4 b0; clear b0 b1)
        | (go_at_call 51; (with_reducible refine (HV.out _ (H2.out.1.trans T3)).mono ?_); rintro e w4 ⟨v, rfl, hrow, hown, T4⟩; obtain ⟨va, vc, rfl⟩ := hrow.shape; have hmx := hrow.max; obtain ⟨b1, hset, T4'⟩ := FIN.out _ (T3.trans T4); obtain ⟨d0, d1, d2, d3, f0, f1, f2, f3⟩ := cells4 b1; have HSET := Lib.hid hset; clear hset b1 hrow))
      refine bodyPost_ret (results_cell_tmp2 Try.results80 _ _ (w.heap.size + 1) 41 _ (0, 0) _ rfl HSET.out Try.underlying41 rfl (by kernel_rfl)) rfl ⟨leaf 0 0 ByteArray.empty, 0, 3, rfl, ?_, vtIn, T4'⟩
      unfold FromR
      rw [if_pos ⟨by rw [goodB_bare]; exact HG.out, h0, h1⟩, Tm.vars_bare, ← HVS.out, if_neg (by omega)]
      exact ⟨rfl, rfl, rfl⟩
  · have hbad : ∀ (u : Tm Unit) (m er : Int), FromR t.bare first u m er = (er = 1 ∧ m = 0 ∧ u = Tm.V 0) := fun u m er => by
      unfold FromR
      rw [if_neg (by rw [goodB_bare]; exact hall)]
    have HBAD := Lib.hid hbad
    clear hbad
    cases hg : goodB t with
    | false =>
      rw [hg] at hgo
      have HGO := Lib.hid hgo
      clear hgo hg hall
      go_enter Try.func80, Try.ntmps80
      go_wp2_with (go_at_call 45; (with_reducible refine HGO.out.mono ?_); rintro e w3 ⟨rfl, T3⟩; obtain ⟨b1, hset, T4⟩ := FIN.out _ T3; obtain ⟨d0, d1, d2, d3, f0, f1, f2, f3⟩ := cells4 b1; have HSET := Lib.hid hset; clear hset b1)
      refine bodyPost_ret (results_cell_tmp2 Try.results80 _ _ (w.heap.size + 1) 41 _ (0, 0) _ rfl HSET.out Try.underlying41 rfl (by kernel_rfl)) rfl ⟨leaf 0 0 ByteArray.empty, 0, 1, rfl, ?_, vtIn, T4⟩
      rw [HBAD.out]
      exact ⟨rfl, rfl, rfl⟩
    | true =>
      rw [hg] at hgo
      have HGO := Lib.hid hgo
      have hout : first < 0 ∨ 2147483647 < first := by
        rcases Int.lt_or_le first 0 with h | h
        · exact .inl h
        · rcases Int.lt_or_le 2147483647 first with h' | h'
          · exact .inr h'
          · exact absurd ⟨hg, h, h'⟩ hall
      clear hgo hg hall
      rcases hout with hout | hout
      · have d1 : decide (first < 0) = true := decide_eq_true hout
        go_enter Try.func80, Try.ntmps80
        go_wp2_with (go_at_call 45; (with_reducible refine HGO.out.mono ?_); rintro e w3 ⟨rfl, T3⟩; obtain ⟨b1, hset, T4⟩ := FIN.out _ T3; obtain ⟨d0, d1, d2, d3, f0, f1, f2, f3⟩ := cells4 b1; have HSET := Lib.hid hset; clear hset b1)
        refine bodyPost_ret (results_cell_tmp2 Try.results80 _ _ (w.heap.size + 1) 41 _ (0, 0) _ rfl HSET.out Try.underlying41 rfl (by kernel_rfl)) rfl ⟨leaf 0 0 ByteArray.empty, 0, 1, rfl, ?_, vtIn, T4⟩
        rw [HBAD.out]
        exact ⟨rfl, rfl, rfl⟩
      · have d1 : decide (first < 0) = false := decide_eq_false (by omega)
        have d2 : decide (2147483648 ≤ first) = true := decide_eq_true (by omega)
        go_enter Try.func80, Try.ntmps80
        go_wp2_with (go_at_call 45; (with_reducible refine HGO.out.mono ?_); rintro e w3 ⟨rfl, T3⟩; obtain ⟨b1, hset, T4⟩ := FIN.out _ T3; obtain ⟨d0, d1, d2, d3, f0, f1, f2, f3⟩ := cells4 b1; have HSET := Lib.hid hset; clear hset b1)
        refine bodyPost_ret (results_cell_tmp2 Try.results80 _ _ (w.heap.size + 1) 41 _ (0, 0) _ rfl HSET.out Try.underlying41 rfl (by kernel_rfl)) rfl ⟨leaf 0 0 ByteArray.empty, 0, 1, rfl, ?_, vtIn, T4⟩
        rw [HBAD.out]
        exact ⟨rfl, rfl, rfl⟩
theorem rFromGood {p : Nat → Prop} {t : LT} {w : World} (ht : t.In p w) (hg : goodB t = true) :
    Calls Try.prog 80 #[.agg #[.int .i64 t.kind, .int .i64 t.n, .string t.name, .slice t.at_.1 t.args.length t.at_.2], .int .i64 0] w fun e w' => ∃ (u : LT), e = .returned (.tuple #[.agg #[.int .i64 u.kind, .int .i64 u.n, .string u.name, .slice u.at_.1 u.args.length u.at_.2], .int .i64 (t.vars.length : Int), .int .i64 0]) ∧ u.bare = Tm.plainT t.bare ∧ u.In (fun _ => True) w' ∧ Turned (fun _ => False) w w' := by
  have h := rFrom80 ht (first := 0) (i64_lit 0 (by omega))
  rw [LT.val_eq] at h
  refine h.mono ?_
  rintro e w' ⟨u, m, er, rfl, hR, hi, hT⟩
  obtain ⟨rfl, rfl, hR2⟩ := fromR_good (by rw [goodB_bare]; exact hg) hR
  exact ⟨u, by rw [LT.val_eq u, Tm.vars_bare], hR2, hi.mono (fun _ _ _ => trivial), hT⟩
theorem rFromBad {p : Nat → Prop} {t : LT} {w : World} (ht : t.In p w) (hg : goodB t = false) :
    Calls Try.prog 80 #[.agg #[.int .i64 t.kind, .int .i64 t.n, .string t.name, .slice t.at_.1 t.args.length t.at_.2], .int .i64 0] w fun e w' => ∃ (u : LT), e = .returned (.tuple #[.agg #[.int .i64 u.kind, .int .i64 u.n, .string u.name, .slice u.at_.1 u.args.length u.at_.2], .int .i64 0, .int .i64 1]) ∧ u.bare = Tm.V 0 ∧ u.In (fun _ => True) w' ∧ Turned (fun _ => False) w w' := by
  have h := rFrom80 ht (first := 0) (i64_lit 0 (by omega))
  rw [LT.val_eq] at h
  refine h.mono ?_
  rintro e w' ⟨u, m, er, rfl, hR, hi, hT⟩
  obtain ⟨rfl, rfl, hR2⟩ := fromR_bad (by rw [goodB_bare]; exact hg) hR
  exact ⟨u, by rw [LT.val_eq u], hR2, hi.mono (fun _ _ _ => trivial), hT⟩
set_option maxRecDepth 100000 in
set_option maxHeartbeats 3200000 in
theorem rAlike82 {p : Nat → Prop} {a b : LT} {w : World} (ha : a.In p w) (hb : b.In p w) :
    Calls Try.prog 82 #[a.val, b.val] w fun e w' => e = .returned (.bool (alikeB a b)) ∧ Turned (fun _ => False) w w' := by
  have h2 := twoBox w (.cells #[.int .i64 a.kind, .int .i64 a.n, .string a.name, .slice a.at_.1 a.args.length a.at_.2] 41) (.cells #[.int .i64 b.kind, .int .i64 b.n, .string b.name, .slice b.at_.1 b.args.length b.at_.2] 41)
  have ha1 := ha.turned0 h2.1
  have hb1 := hb.turned0 h2.1
  rw [LT.val_eq a, LT.val_eq b]
  have H2 := Lib.hid h2
  have HA := Lib.hid ha1
  have HB := Lib.hid hb1
  have hbx : ∀ W, Turned (fun _ => False) ((w.alloc (.cells #[.int .i64 a.kind, .int .i64 a.n, .string a.name, .slice a.at_.1 a.args.length a.at_.2] 41)).alloc (.cells #[.int .i64 b.kind, .int .i64 b.n, .string b.name, .slice b.at_.1 b.args.length b.at_.2] 41)) W → W.heap[w.heap.size + 1]? = some (.cells #[.int .i64 b.kind, .int .i64 b.n, .string b.name, .slice b.at_.1 b.args.length b.at_.2] 41 (0, 0)) := fun W h => (h.block _ (Array.getElem?_eq_some_iff.1 H2.out.2.2.2).1 (fun f => f)).trans H2.out.2.2.2
  have HBX := Lib.hid hbx
  clear ha hb ha1 hb1 h2 hbx
  cases ga : goodB a with
  | false =>
    have e1 : alikeB a b = false := by unfold alikeB; rw [ga]; rfl
    rw [e1]
    have h1 := rFromBad HA.out ga
    have H1 := Lib.hid h1
    clear h1 e1 ga
    cases gb : goodB b with
    | false =>
      have h3 := fun W (h : Turned (fun _ => False) _ W) => rFromBad (HB.out.turned0 h) gb
      have H3 := Lib.hid h3
      clear h3 gb
      go_enter Try.func82, Try.ntmps82
      go_wp2_with (first
        | (go_at_call 80; (with_reducible refine H1.out.mono ?_); rintro e w3 ⟨u, rfl, hub, hui, T3⟩; have TU := T3.alloc (.cells #[.int .i64 u.kind, .int .i64 u.n, .string u.name, .slice u.at_.1 u.args.length u.at_.2] 41); obtain ⟨d0, d1, d2, d3, _⟩ := cells4 (HBX.out _ TU))
        | (go_at_call 80; (with_reducible refine (H3.out _ TU).mono ?_); rintro e w4 ⟨v, rfl, hvb, hvi, T4⟩))
      go_ret
      exact ⟨rfl, H2.out.1.trans ((TU.trans T4).alloc _)⟩
    | true =>
      have h3 := fun W (h : Turned (fun _ => False) _ W) => rFromGood (HB.out.turned0 h) gb
      have H3 := Lib.hid h3
      clear h3 gb
      go_enter Try.func82, Try.ntmps82
      go_wp2_with (first
        | (go_at_call 80; (with_reducible refine H1.out.mono ?_); rintro e w3 ⟨u, rfl, hub, hui, T3⟩; have TU := T3.alloc (.cells #[.int .i64 u.kind, .int .i64 u.n, .string u.name, .slice u.at_.1 u.args.length u.at_.2] 41); obtain ⟨d0, d1, d2, d3, _⟩ := cells4 (HBX.out _ TU))
        | (go_at_call 80; (with_reducible refine (H3.out _ TU).mono ?_); rintro e w4 ⟨v, rfl, hvb, hvi, T4⟩))
      go_ret
      exact ⟨rfl, H2.out.1.trans ((TU.trans T4).alloc _)⟩
  | true =>
    have h1 := rFromGood HA.out ga
    have H1 := Lib.hid h1
    clear h1
    cases gb : goodB b with
    | false =>
      have e1 : alikeB a b = false := by unfold alikeB; rw [ga, gb]; rfl
      rw [e1]
      have h3 := fun W (h : Turned (fun _ => False) _ W) => rFromBad (HB.out.turned0 h) gb
      have H3 := Lib.hid h3
      clear h3 gb ga e1
      go_enter Try.func82, Try.ntmps82
      go_wp2_with (first
        | (go_at_call 80; (with_reducible refine H1.out.mono ?_); rintro e w3 ⟨u, rfl, hub, hui, T3⟩; have TU := T3.alloc (.cells #[.int .i64 u.kind, .int .i64 u.n, .string u.name, .slice u.at_.1 u.args.length u.at_.2] 41); obtain ⟨d0, d1, d2, d3, _⟩ := cells4 (HBX.out _ TU))
        | (go_at_call 80; (with_reducible refine (H3.out _ TU).mono ?_); rintro e w4 ⟨v, rfl, hvb, hvi, T4⟩))
      go_ret
      exact ⟨rfl, H2.out.1.trans ((TU.trans T4).alloc _)⟩
    | true =>
      have h3 := fun W (h : Turned (fun _ => False) _ W) => rFromGood (HB.out.turned0 h) gb
      have H3 := Lib.hid h3
      have GA := Lib.hid ga
      have GB := Lib.hid gb
      clear h3 ga gb
      go_enter Try.func82, Try.ntmps82
      go_wp2_with (first
        | (go_at_call 80; (with_reducible refine H1.out.mono ?_); rintro e w3 ⟨u, rfl, hub, hui, T3⟩; have TU := T3.alloc (.cells #[.int .i64 u.kind, .int .i64 u.n, .string u.name, .slice u.at_.1 u.args.length u.at_.2] 41); obtain ⟨d0, d1, d2, d3, _⟩ := cells4 (HBX.out _ TU); have HUB := Lib.hid hub; have HUI := Lib.hid hui; have hbu := heap_alloc_new w3 (.cells #[.int .i64 u.kind, .int .i64 u.n, .string u.name, .slice u.at_.1 u.args.length u.at_.2] 41); have HBU := Lib.hid hbu; clear hub hui hbu)
        | (go_at_call 80; (with_reducible refine (H3.out _ TU).mono ?_); rintro e w4 ⟨v, rfl, hvb, hvi, T4⟩; have HVB := Lib.hid hvb; have HVI := Lib.hid hvi; have T4v := T4.alloc (.cells #[.int .i64 v.kind, .int .i64 v.n, .string v.name, .slice v.at_.1 v.args.length v.at_.2] 41); obtain ⟨e0, e1, e2, e3, _⟩ := cells4 ((T4v.block _ (Array.getElem?_eq_some_iff.1 HBU.out).1 (fun f => f)).trans HBU.out); clear hvb hvi))
      have hgu : goodB u = true := by rw [← goodB_bare, HUB.out]; exact plain_good (by rw [goodB_bare]; exact GA.out)
      have hgv : goodB v = true := by rw [← goodB_bare, HVB.out]; exact plain_good (by rw [goodB_bare]; exact GB.out)
      have hsm := rSame48 u.depth u v _ (Nat.le_refl _) (HUI.out.turned0 (((Turned.refl _ w3).alloc _).trans T4v)) (HVI.out.turned0 ((Turned.refl _ w4).alloc _))
      have hal : Tm.same u v = alikeB a b := by
        unfold alikeB
        rw [GA.out, GB.out, ← HUB.out, ← HVB.out, ← same_bares]
        rfl
      rw [LT.val_eq u, LT.val_eq v, hal] at hsm
      (with_reducible refine hsm.mono ?_)
      rintro e w5 ⟨rfl, T5⟩
      have T5' := H2.out.1.trans ((TU.trans T4v).trans T5)
      go_wp2_with fail
      go_ret
      exact ⟨rfl, T5'⟩
end Go.Proofs.Ytoihjobdfjajfaa

/- own, as chapter 13's. -/
namespace Go.Proofs.Ytoihjobdfjajfaa
set_option linter.unusedVariables false
set_option linter.unusedSimpArgs false
open Go.RowKit

set_option maxRecDepth 100000 in
set_option maxHeartbeats 3200000 in
theorem own79 {p : Nat → Prop} (n : Nat) : ∀ (t : LT) (w : World), t.depth ≤ n → t.In p w → slim t →
    Calls Try.prog 79 #[t.val] w fun e w' => ∃ u : LT, e = .returned u.val ∧ u.bare = t.bare ∧ u.In (fun k => w.heap.size ≤ k) w' ∧ Turned (fun _ => False) w w' := by
  induction n with
  | zero => intro t w h; have := Tm.depth_pos t; omega
  | succ n ih =>
    intro t w hd ht hsl
    obtain ⟨i0, hi0, hz0, hz1, hz2⟩ := info_parts infoR
    have hl12 : t.args.length ≤ 12 := hsl t (by rw [Tm.flat_eq]; exact List.mem_cons_self ..)
    have hcall : ∀ x : LT, x ∈ t.args → ∀ W, x.In p W → Calls Try.prog 79 #[x.val] W fun e w' => ∃ u : LT, e = .returned u.val ∧ u.bare = x.bare ∧ u.In (fun k => W.heap.size ≤ k) w' ∧ Turned (fun _ => False) W w' := fun x hx W hW => ih x W (by have := arg_depth hx; omega) hW (fun y hy => hsl y (by rw [Tm.flat_eq]; exact List.mem_cons_of_mem _ (mem_flats_arg hx hy)))
    have HC := Lib.hid hcall
    have HIN := Lib.hid ht
    have hL := fun W h => (LT.In.lies (p := p) (w := W) (t := t) h)
    rw [LT.val_eq]
    obtain ⟨ad, had⟩ : ∃ z, z = t.at_.1 := ⟨_, rfl⟩
    obtain ⟨cd, hcd⟩ : ∃ z, z = t.at_.2 := ⟨_, rfl⟩
    rw [← had] at hL
    rw [← had, ← hcd]
    have HL := Lib.hid hL
    have H3 := Lib.hid (three w (.cells #[.int .i64 t.kind, .int .i64 t.n, .string t.name, .slice ad t.args.length cd] 27) (.cells #[.int .i64 0, .int .i64 0, .string ⟨#[]⟩, .slice none 0 0] 41) (.cells #[.int .i64 t.kind, .int .i64 t.n, .string t.name, .slice none 0 0] 41))
    clear ih hd hsl hcall ht hL had hcd
    go_enter Try.func79, Try.ntmps79
    go_wp2_with fail
    revert H3
    generalize (((w.alloc (.cells #[.int .i64 t.kind, .int .i64 t.n, .string t.name, .slice ad t.args.length cd] 27)).alloc (.cells #[.int .i64 0, .int .i64 0, .string ⟨#[]⟩, .slice none 0 0] 41)).alloc (.cells #[.int .i64 t.kind, .int .i64 t.n, .string t.name, .slice none 0 0] 41)) = w1
    intro H3
    obtain ⟨B0, hB0⟩ : ∃ z, z = w.heap.size := ⟨_, rfl⟩
    obtain ⟨B1, hB1⟩ : ∃ z, z = w.heap.size + 1 := ⟨_, rfl⟩
    obtain ⟨B2, hB2⟩ : ∃ z, z = w.heap.size + 2 := ⟨_, rfl⟩
    obtain ⟨N, hN⟩ : ∃ z, z = w.heap.size + 3 := ⟨_, rfl⟩
    rw [← hB1, ← hB2, ← hN, ← hB0] at H3
    have HE := Lib.hid (And.intro hB0 (And.intro hB1 (And.intro hB2 hN)))
    try rw [← hB2]
    try rw [← hB1]
    try rw [← hB0]
    clear hB0 hB1 hB2 hN
    have hinit : Hid (OwnI N B2 t w1 0 [] none 0 w1) := ⟨rfl, H3.out.2.2.2.1, Row.nil _ _ _, trivial, fun b h => by simp [Value.ownBlock] at h, Turned.refl _ _⟩
    go_loopg [4] t.args.length (fun g i wr => ∃ j : Nat, Hid (j + g = t.args.length) ∧ j ≤ t.args.length ∧ i = .int .i64 j ∧ ∃ us a c, Hid (OwnI N B2 t w1 j us a c wr))
    case atStart => exact ⟨0, Nat.zero_add _, Nat.zero_le _, rfl, [], none, 0, hinit⟩
    case round =>
      obtain ⟨j, HG, hj, rfl, us, a, c, HOI⟩ := hrel
      have HTw : Hid (Turned (fun _ => False) w wr) := H3.out.1.step HOI.out.turned (fun i hi e => by have := HE.out; omega)
      have hb0 := (HOI.out.turned.block B0 (Array.getElem?_eq_some_iff.1 H3.out.2.2.1).1 (fun e => by have := HE.out; omega)).trans H3.out.2.2.1
      obtain ⟨_, _, _, k3, _⟩ := cells4 hb0
      have hlen' : us.length = j := by have := congrArg List.length HOI.out.bares; rw [Tm.bares_length, Tm.bares_length, List.length_take] at this; omega
      have HUL := Lib.hid hlen'
      clear hb0 hlen'
      by_cases hjl : j < t.args.length
      · have hx : t.args[j]? = some t.args[j] := List.getElem?_eq_getElem hjl
        obtain ⟨x, hxe⟩ : ∃ x : LT, x = t.args[j] := ⟨_, rfl⟩
        rw [← hxe] at hx
        clear hxe
        have tin := HIN.out.turned0 HTw.out
        have xin := (LT.ins_iff _).1 tin.args x (List.mem_of_getElem? hx)
        obtain ⟨b, o, rfl, _, c0, c1, c2, c3⟩ := (HL.out _ tin).cell hx
        have hcx := fun W (h : Turned (fun _ => False) wr W) => HC.out x (List.mem_of_getElem? hx) W (xin.turned0 h)
        rw [LT.val_eq x] at hcx
        have HCX := Lib.hid hcx
        have HX := Lib.hid hx
        have HBN : Hid (B2 < N ∧ N ≤ wr.heap.size ∧ w1.heap.size ≤ N) := ⟨by have := HE.out; omega, by have := HOI.out.turned.size; have := H3.out.2.1; omega, by have := H3.out.2.1; omega⟩
        clear hx hcx xin tin
        go_wp2_with fail
        · skip
          refine wp_region_hs [19, 20, 21, 22, 23, 24, 25, 26, 27, 28, 29] [7, 8, 9, 11] [4, 2, 0, 0, 0, 0, 0, 4, 4, 4, 4, 4] [26, 27, 28, 100011] (fun d v => (match d with | 19 => v = .pointer (some ⟨B2, 3, none⟩) | 20 => v = .slice a j c | 21 => v = .pointer (some ⟨B0, 3, none⟩) | 22 => v = .slice (some ⟨b, o, none⟩) t.args.length cd | 23 => v = .int .i64 (j : Int) | 24 => v = .pointer (some ⟨b, o + j * 4, none⟩) | 25 => v = .agg #[.int .i64 x.kind, .int .i64 x.n, .string x.name, .slice x.at_.1 x.args.length x.at_.2] | 29 => v = .pointer (some ⟨B2, 3, none⟩) | _ => True : Prop)) (OwnS N B2 t x w1 j us a c wr) (by kernel_rfl) rfl (by kernel_rfl) (by kernel_rfl) (by kernel_rfl) (by kernel_rfl) (fun _ h => h) (fun hs w w' h ht => OwnS.turned0 hs w w' h ht) ?hs ?hQ
          case hs =>
            refine ⟨?s0, ?s1, ?s2, ?s3, ?s4, ?s5, ?s6, ?s7, ?s8, ?s9, ?s10, ?s11, trivial⟩
            case s0 =>
              refine fun hs hle => stepG_free [] [3] (by kernel_rfl) rfl ?_
              · intro ac W hT hI hO
                have h3 : ac.tmps.getD 3 undef = .pointer (some ⟨B2, 0, none⟩) := hO 3 (by simp)
                show Brings Try.prog (fun v w' => Turned (fun _ => False) W w' ∧ v = .pointer (some ⟨B2, 3, none⟩)) _
                simp only [execOp, Act.eval, h3]
                go_simp
                try exact ⟨Turned.refl _ _, rfl⟩
            case s1 =>
              refine fun hs hle => stepG_free [19] [] (by kernel_rfl) rfl ?_
              · intro ac W hT hI hO
                have hle : hs.length ≤ 2 := hle
                have h19 : ac.tmps.getD 19 undef = .pointer (some ⟨B2, 3, none⟩) := hI 19 (by simp)
                show Brings Try.prog (fun v w' => Turned (fun _ => False) W w' ∧ v = .slice a j c) _
                obtain ⟨_, _, _, d3⟩ := OwnS.blk HOI.out hs W hle hT
                simp only [execOp, Act.eval, h19]
                go_simp
                exact ⟨Turned.refl _ _, rfl⟩
            case s2 =>
              refine fun hs hle => stepG_free [] [1] (by kernel_rfl) rfl ?_
              · intro ac W hT hI hO
                have hle : hs.length ≤ 0 := hle
                have h1 : ac.tmps.getD 1 undef = .pointer (some ⟨B0, 0, none⟩) := hO 1 (by simp)
                show Brings Try.prog (fun v w' => Turned (fun _ => False) W w' ∧ v = .pointer (some ⟨B0, 3, none⟩)) _
                simp only [execOp, Act.eval, h1]
                go_simp
                try exact ⟨Turned.refl _ _, rfl⟩
            case s3 =>
              refine fun hs hle => stepG_free [21] [] (by kernel_rfl) rfl ?_
              · intro ac W hT hI hO
                have hle : hs.length ≤ 0 := hle
                have h21 : ac.tmps.getD 21 undef = .pointer (some ⟨B0, 3, none⟩) := hI 21 (by simp)
                show Brings Try.prog (fun v w' => Turned (fun _ => False) W w' ∧ v = .slice (some ⟨b, o, none⟩) t.args.length cd) _
                have hT0 : Turned (fun _ => False) wr W := own_nil (by omega) hT; have e3 := hT0.cell0 k3; have g0 := hT0.cell0 c0; have g1 := hT0.cell0 c1; have g2 := hT0.cell0 c2; have g3 := hT0.cell0 c3
                simp only [execOp, Act.eval, h21]
                go_simp
                exact ⟨Turned.refl _ _, rfl⟩
            case s4 =>
              refine fun hs hle => stepG_free [] [4] (by kernel_rfl) rfl ?_
              · intro ac W hT hI hO
                have hle : hs.length ≤ 0 := hle
                have h4 : ac.tmps.getD 4 undef = .int .i64 (j : Int) := hO 4 (by simp)
                show Brings Try.prog (fun v w' => Turned (fun _ => False) W w' ∧ v = .int .i64 (j : Int)) _
                simp only [execOp, Act.eval, h4]
                go_simp
                try exact ⟨Turned.refl _ _, rfl⟩
            case s5 =>
              refine fun hs hle => stepG_free [22, 23] [] (by kernel_rfl) rfl ?_
              · intro ac W hT hI hO
                have hle : hs.length ≤ 0 := hle
                have h22 : ac.tmps.getD 22 undef = .slice (some ⟨b, o, none⟩) t.args.length cd := hI 22 (by simp)
                have h23 : ac.tmps.getD 23 undef = .int .i64 (j : Int) := hI 23 (by simp)
                show Brings Try.prog (fun v w' => Turned (fun _ => False) W w' ∧ v = .pointer (some ⟨b, o + j * 4, none⟩)) _
                simp only [execOp, Act.eval, h22, h23]
                go_simp
                try rw [if_pos (by omega)]
                try exact ⟨Turned.refl _ _, rfl⟩
            case s6 =>
              refine fun hs hle => stepG_free [24] [] (by kernel_rfl) rfl ?_
              · intro ac W hT hI hO
                have hle : hs.length ≤ 0 := hle
                have h24 : ac.tmps.getD 24 undef = .pointer (some ⟨b, o + j * 4, none⟩) := hI 24 (by simp)
                show Brings Try.prog (fun v w' => Turned (fun _ => False) W w' ∧ v = .agg #[.int .i64 x.kind, .int .i64 x.n, .string x.name, .slice x.at_.1 x.args.length x.at_.2]) _
                have hT0 : Turned (fun _ => False) wr W := own_nil (by omega) hT; have e3 := hT0.cell0 k3; have g0 := hT0.cell0 c0; have g1 := hT0.cell0 c1; have g2 := hT0.cell0 c2; have g3 := hT0.cell0 c3
                simp only [execOp, Act.eval, h24]
                go_simp
                exact ⟨Turned.refl _ _, rfl⟩
            case s7 =>
              refine fun hs hlen => stepG_free [25] [] (by kernel_rfl) rfl ?_
              · intro ac W hT hI hO
                have h25 : ac.tmps.getD 25 undef = .agg #[.int .i64 x.kind, .int .i64 x.n, .string x.name, .slice x.at_.1 x.args.length x.at_.2] := hI 25 (by simp)
                show Brings Try.prog (fun v w' => OwnS N B2 t x w1 j us a c wr (hs ++ [v]) w') _
                obtain rfl : hs = [] := List.eq_nil_of_length_eq_zero hlen
                replace hT : Turned (fun _ => False) wr W := hT
                simp only [execOp, Act.eval, h25]
                go_simp
                show Calls Try.prog 79 _ W _
                (with_reducible refine (HCX.out W hT).mono ?_)
                rintro e w' ⟨u, rfl, hb, hu, T'⟩
                exact ⟨_, rfl, hT.trans T', u, rfl, hb, hu.mono (fun k hk h => Nat.le_trans hT.size h)⟩
            case s8 =>
              refine fun hs hlen => stepG_free [26] [] (by kernel_rfl) rfl ?_
              · intro ac W hT hI hO
                have h26 : hs[0]? = some (ac.tmps.getD 26 undef) := hI 26 (by simp)
                show Brings Try.prog (fun v w' => OwnS N B2 t x w1 j us a c wr (hs ++ [v]) w') _
                obtain ⟨uv, rfl⟩ := List.length_eq_one_iff.1 hlen
                obtain ⟨hT1, u, rfl, hb, hu⟩ := hT
                replace h26 : ac.tmps.getD 26 undef = u.val := by simpa using h26.symm
                rw [LT.val_eq] at h26
                have h26' : ac.tmps[26]?.getD undef = .agg #[.int .i64 u.kind, .int .i64 u.n, .string u.name, .slice u.at_.1 u.args.length u.at_.2] := by rw [← Array.getD_eq_getD_getElem?]; exact h26
                simp only [execOp, Act.eval, h26]
                go_simp
                have hnew := heap_alloc_new W (.cells #[.int .i64 u.kind, .int .i64 u.n, .string u.name, .slice u.at_.1 u.args.length u.at_.2] 41)
                refine ⟨hT1.alloc _, u, W.heap.size, rfl, hb, hu.turned0 ((Turned.refl _ W).alloc _), ?_⟩
                rw [LT.cells_eq]
                exact hnew
            case s9 =>
              refine fun hs hlen => stepG_free [20, 27] [] (by kernel_rfl) rfl ?_
              · intro ac W hT hI hO
                have h20 : ac.tmps.getD 20 undef = .slice a j c := hI 20 (by simp)
                have h27 : hs[1]? = some (ac.tmps.getD 27 undef) := hI 27 (by simp)
                show Brings Try.prog (fun v w' => OwnS N B2 t x w1 j us a c wr (hs ++ [v]) w') _
                obtain ⟨uv, sv, rfl⟩ := list2' hlen
                obtain ⟨hT1, u, g, rfl, hb, hu, hg⟩ := hT
                replace h27 : ac.tmps.getD 27 undef = .slice (some ⟨g, 0, none⟩) 1 1 := by simpa using h27.symm
                refine brings_append (.tmp 20) (.tmp 27) 39 rfl 41 i0 zeroR 4 56 Try.underlying39 hi0 hz0 hz1 hz2 rfl (by decide) _ _ _ h20 (HOI.out.row.turned0 hT1) ⟨g, 0, none⟩ 1 1 u.cells h27 (LT.cells_length u) (news_block hg) (LT.cells_one u) (by omega) (by unfold maxLen; omega) (by omega) ?_
                intro g2 cap2 w2 hrow2 T2 hl2
                have hgw : some g2 = (Value.slice a j c).ownBlock ∨ wr.heap.size ≤ g2 := by
                  rcases hl2 with e | e
                  · exact .inl e
                  · have := hT1.size; exact .inr (by omega)
                refine ⟨u, g2, cap2, rfl, hb, hrow2, ?_, (hT1.mono (fun _ _ f => f.elim)).trans T2, hgw⟩
                refine hu.turned T2 (fun k hk h e => ?_) (fun k hk h => ⟨h, fun e => ?_⟩)
                · have := HOI.out.row.lt k e; omega
                · subst e
                  rcases hl2 with e | e
                  · have := HOI.out.row.lt k e.symm; omega
                  · omega
            case s10 =>
              refine fun hs hle => stepG_free [] [3] (by kernel_rfl) rfl ?_
              · intro ac W hT hI hO
                have h3 : ac.tmps.getD 3 undef = .pointer (some ⟨B2, 0, none⟩) := hO 3 (by simp)
                show Brings Try.prog (fun v w' => Turned (fun _ => False) W w' ∧ v = .pointer (some ⟨B2, 3, none⟩)) _
                simp only [execOp, Act.eval, h3]
                go_simp
                try exact ⟨Turned.refl _ _, rfl⟩
            case s11 =>
              refine fun hs hlen => stepG_free [29, 28] [] (by kernel_rfl) rfl ?_
              · intro ac W hT hI hO
                have h29 : ac.tmps.getD 29 undef = .pointer (some ⟨B2, 3, none⟩) := hI 29 (by simp)
                have h28 : hs[2]? = some (ac.tmps.getD 28 undef) := hI 28 (by simp)
                show Brings Try.prog (fun v w' => OwnS N B2 t x w1 j us a c wr (hs ++ [v]) w') _
                obtain ⟨uv, sv, av, rfl⟩ := list3' hlen
                obtain ⟨u, g, cap, rfl, hb, hrow, hu, hT2, hg⟩ := hT
                replace h28 : ac.tmps.getD 28 undef = .slice (some ⟨g, 0, none⟩) (j + 1) cap := by simpa using h28.symm
                have hbl := (hT2.block B2 (Array.getElem?_eq_some_iff.1 HOI.out.blk).1 (fun e => by have := HOI.out.own B2 e; have := HBN.out.1; omega)).trans HOI.out.blk
                obtain ⟨_, _, _, d3, _, _, _, f3⟩ := cells4 hbl
                simp only [execOp, Act.eval, h29, h28]
                go_simp
                exact ⟨_, _, _, own_close HBN.out.1 HBN.out.2.1 HOI.out HX.out hb hrow hu hT2 hg HBN.out.2.2⟩
          case hQ =>
            intro hs vs w2 hlen hR hV
            obtain ⟨e1, e2, e3, e4, rfl⟩ : ∃ a b c d, hs = [a, b, c, d] := list4' hlen
            obtain ⟨us', a', c', hI⟩ := hR
            have HI' := Lib.hid hI
            simp only [List.foldl_cons, List.foldl_nil, List.setIfInBounds_toArray, List.set_cons_zero, List.set_cons_succ]
            clear hV hlen hI
            go_wp2_with fail
            go_roundg (gk - 1)
            case measure => have := HG.out; omega
            case rel => exact ⟨j + 1, show _ = _ by have := HG.out; omega, by omega, by go_num, us', a', c', HI'⟩
      · obtain rfl : j = t.args.length := by omega
        have hb1 := (HOI.out.turned.block B1 (Array.getElem?_eq_some_iff.1 H3.out.2.2.2.2).1 (fun e => by have := HE.out; omega)).trans H3.out.2.2.2.2
        obtain ⟨d0, d1, d2, d3, f0, f1, f2, f3⟩ := cells4 hb1
        obtain ⟨g0, g1, g2, g3, _⟩ := cells4 HOI.out.blk
        have HB1 := Lib.hid hb1
        clear hb1
        go_wp2_with fail
        have hset := set4 (a' := .int .i64 t.kind) (b' := .int .i64 t.n) (c' := .string t.name) (d' := .slice a t.args.length c) HB1.out
        have hge : w.heap.size ≤ B1 := by have := HE.out; omega
        have T4 := turned4 (a := .int .i64 t.kind) (b := .int .i64 t.n) (c := .string t.name) (d := .slice a t.args.length c) HTw.out hge
        refine bodyPost_ret (v := .agg #[.int .i64 t.kind, .int .i64 t.n, .string t.name, .slice a t.args.length c]) (results_cell_row Try.results79 _ _ B1 41 _ (0, 0) _ rfl hset Try.underlying41 rfl (by kernel_rfl)) rfl ?_
        have hne : ∀ q, (Value.slice a t.args.length c).ownBlock ≠ some (Addr.block ⟨B1, q, none⟩) := fun q e => by have h1 : N ≤ B1 := HOI.out.own _ e; have := HE.out; omega
        have hrow := ((((HOI.out.row.setCell (hne 0) (.int .i64 t.kind)).setCell (hne 1) (.int .i64 t.n)).setCell (hne 2) (.string t.name)).setCell (hne 3) (.slice a t.args.length c))
        have Tq : Turned (fun k => k = B1) wr _ := ((((Turned.refl (fun k => k = B1) wr).setCell (p := ⟨B1, 0, none⟩) (.inr rfl) (.int .i64 t.kind)).setCell (p := ⟨B1, 1, none⟩) (.inr rfl) (.int .i64 t.n)).setCell (p := ⟨B1, 2, none⟩) (.inr rfl) (.string t.name)).setCell (p := ⟨B1, 3, none⟩) (.inr rfl) (.slice a t.args.length c)
        have hins := HOI.out.ins.turned (q := fun k => w.heap.size ≤ k) Tq (fun k _ hk e => by have := HE.out; omega) (fun k _ hk => by have := HE.out; omega)
        obtain ⟨e1, e2⟩ := LT.Sl.of_row (p := fun k => w.heap.size ≤ k) hrow (fun k hk => by have := HOI.out.own k hk; have := HE.out; omega) hins
        refine ⟨.mk t.kind t.n t.name (a, c) us, ?_, ?_, e2.in_ HIN.out.kind HIN.out.n HIN.out.name, T4⟩
        · show _ = Ending.returned (LT.val (.mk t.kind t.n t.name (a, c) us))
          rw [LT.val_eq]
          show _ = Ending.returned (.agg #[.int .i64 t.kind, .int .i64 t.n, .string t.name, .slice a us.length c])
          rw [HUL.out]
        · rw [mk_bare t, Tm.bare, HOI.out.bares, List.take_length]
end Go.Proofs.Ytoihjobdfjajfaa

/- AliasSays: the walk. -/
namespace Go.Proofs.Ytoihjobdfjajfaa
set_option linter.unusedVariables false
set_option linter.unusedSimpArgs false
open Go.RowKit Go.Maps
theorem deepDepth {α : Type} (k : Nat) : ∀ t : Tm α, deepB k t = false → t.depth ≤ k := by
  induction k with
  | zero => intro t h; simp [deepB] at h
  | succ k ih =>
    intro t h
    simp only [deepB, Bool.or_eq_false_iff, List.any_eq_false] at h
    rw [Tm.depth_eq]
    have := Tm.depths_le (d := k) (l := t.args) (fun x hx => ih x (by simpa using h.2 x hx))
    omega
theorem fromR_eq {t u u' : Tm Unit} {f m m' e e' : Int} (h : FromR t f u m e) (h' : FromR t f u' m' e') : m' = m ∧ e' = e ∧ u' = u := by
  unfold FromR at h h'
  split at h
  · rename_i c
    rw [if_pos c] at h'
    split at h
    · rename_i c2
      rw [if_pos c2] at h'
      exact ⟨h'.2.1.trans h.2.1.symm, h'.1.trans h.1.symm, h'.2.2.trans h.2.2.symm⟩
    · rename_i c2
      rw [if_neg c2] at h'
      exact ⟨h'.2.1.trans h.2.1.symm, h'.1.trans h.1.symm, h'.2.2.trans h.2.2.symm⟩
  · rename_i c
    rw [if_neg c] at h'
    exact ⟨h'.2.1.trans h.2.1.symm, h'.1.trans h.1.symm, h'.2.2.trans h.2.2.symm⟩
theorem goodV0 : goodB (Tm.V 0) = true := by kernel_rfl
theorem fromR_goodu {t u : Tm Unit} {f m e : Int} (h : FromR t f u m e) : goodB u = true := by
  unfold FromR at h
  split at h
  · rename_i c
    split at h
    · rename_i c2
      rw [h.2.2]
      exact goodB_fromT c.1 c.2.1 c2
    · rw [h.2.2]; exact goodV0
  · rw [h.2.2]; exact goodV0
theorem plainR_eq {t u u' : Tm Unit} {e e' : Int} (h : PlainR t u e) (h' : PlainR t u' e') : e' = e ∧ u' = u := by
  unfold PlainR at h h'
  split at h
  · rename_i c
    rw [if_pos c] at h'
    exact ⟨h'.1.trans h.1.symm, h'.2.trans h.2.symm⟩
  · rename_i c
    rw [if_neg c] at h'
    exact ⟨h'.1.trans h.1.symm, h'.2.trans h.2.symm⟩
theorem plainR_goodu {t u : Tm Unit} {e : Int} (h : PlainR t u e) : goodB u = true := by
  unfold PlainR at h
  split at h
  · rename_i c
    rw [h.2]; exact plain_good c
  · rw [h.2]; exact goodV0
/-- What the last region has brought: two of its own, a slice of so many. -/
def TriS (wr : World) (u1 u2 : LT) (GX : Bool) (n : Nat) : List Value → World → Prop
  | [], W => Turned (fun _ => False) wr W
  | [v], W => Turned (fun _ => False) wr W ∧ ∃ s : LT, v = s.val ∧ s.bare = u1.bare ∧ s.In (fun _ => True) W
  | [_, v], W => Turned (fun _ => False) wr W ∧ ∃ s : LT, v = s.val ∧ s.bare = u2.bare ∧ s.In (fun _ => True) W
  | [_, _, v], W => Turned (fun _ => False) wr W ∧ (GX = true → ∃ a c, v = .slice a n c)
  | _, _ => False
section
variable {wr : World} {u1 u2 : LT} {GX : Bool} {n : Nat}
theorem TriS.turned : ∀ (hs : List Value) (W : World), TriS wr u1 u2 GX n hs W → Turned (fun _ => False) wr W
  | [], _, h => h
  | [_], _, h => h.1
  | [_, _], _, h => h.1
  | [_, _, _], _, h => h.1
  | _ :: _ :: _ :: _ :: _, _, h => h.elim
theorem TriS.turned0 : ∀ (hs : List Value) (w w' : World), TriS wr u1 u2 GX n hs w → Turned (fun _ => False) w w' → TriS wr u1 u2 GX n hs w'
  | [], _, _, h, ht => Turned.trans h ht
  | [_], _, _, h, ht => by obtain ⟨h1, s, h2, h3, h4⟩ := h; exact ⟨h1.trans ht, s, h2, h3, h4.turned0 ht⟩
  | [_, _], _, _, h, ht => by obtain ⟨h1, s, h2, h3, h4⟩ := h; exact ⟨h1.trans ht, s, h2, h3, h4.turned0 ht⟩
  | [_, _, _], _, _, h, ht => ⟨h.1.trans ht, h.2⟩
  | _ :: _ :: _ :: _ :: _, _, _, h, _ => h.elim
theorem TriS.at0 {hs : List Value} {W : World} (h : TriS wr u1 u2 GX n hs W) (hl : hs.length ≤ 1) {v : Value} (hv : hs[0]? = some v) : ∃ s : LT, v = s.val ∧ s.bare = u1.bare ∧ s.In (fun _ => True) W := by
  match hs, h, hv, hl with
  | [_], h, hv, _ => simp at hv; subst hv; exact h.2
theorem TriS.at1 {hs : List Value} {W : World} (h : TriS wr u1 u2 GX n hs W) (hl : hs.length ≤ 2) {v : Value} (hv : hs[1]? = some v) : ∃ s : LT, v = s.val ∧ s.bare = u2.bare ∧ s.In (fun _ => True) W := by
  match hs, h, hv, hl with
  | [_, _], h, hv, _ => simp at hv; subst hv; exact h.2
theorem TriS.at2 {hs : List Value} {W : World} (h : TriS wr u1 u2 GX n hs W) {v : Value} (hv : hs[2]? = some v) (hg : GX = true) : ∃ a c, v = .slice a n c := by
  match hs, h, hv with
  | [_, _, _], h, hv => simp at hv; subst hv; exact h.2 hg
end
set_option maxRecDepth 100000 in
set_option maxHeartbeats 12800000 in
theorem aliasSays {a b : LT} {first : Int} {w : World} (ha : a.In (fun _ => True) w) (hb : b.In (fun _ => True) w) (hf : I64 first) :
    Calls Try.prog 17 #[a.val, b.val, .int .i64 first] w fun e w' => e = .returned (.bool true) ∧ Turned (fun _ => False) w w' := by
  obtain ⟨w1, hw1⟩ : ∃ z, z = (w.alloc (.cells #[.int .i64 a.kind, .int .i64 a.n, .string a.name, .slice a.at_.1 a.args.length a.at_.2] 27)).alloc (.cells #[.int .i64 b.kind, .int .i64 b.n, .string b.name, .slice b.at_.1 b.args.length b.at_.2] 27) := ⟨_, rfl⟩
  have h2 := twoBox w (.cells #[.int .i64 a.kind, .int .i64 a.n, .string a.name, .slice a.at_.1 a.args.length a.at_.2] 27) (.cells #[.int .i64 b.kind, .int .i64 b.n, .string b.name, .slice b.at_.1 b.args.length b.at_.2] 27)
  rw [← hw1] at h2
  have hkp : ∀ W, Turned (fun _ => False) w1 W → (W.cell? ⟨w.heap.size, 0, none⟩ = some (.int .i64 a.kind) ∧ W.cell? ⟨w.heap.size, 1, none⟩ = some (.int .i64 a.n) ∧ W.cell? ⟨w.heap.size, 2, none⟩ = some (.string a.name) ∧ W.cell? ⟨w.heap.size, 3, none⟩ = some (.slice a.at_.1 a.args.length a.at_.2)) ∧ (W.cell? ⟨w.heap.size + 1, 0, none⟩ = some (.int .i64 b.kind) ∧ W.cell? ⟨w.heap.size + 1, 1, none⟩ = some (.int .i64 b.n) ∧ W.cell? ⟨w.heap.size + 1, 2, none⟩ = some (.string b.name) ∧ W.cell? ⟨w.heap.size + 1, 3, none⟩ = some (.slice b.at_.1 b.args.length b.at_.2)) := fun W h =>
    ⟨four_of ((h.block _ (by have := h2.2.1; omega) (fun f => f)).trans h2.2.2.1), four_of ((h.block _ (by have := h2.2.1; omega) (fun f => f)).trans h2.2.2.2)⟩
  have ha1 := ha.turned0 h2.1
  have hb1 := hb.turned0 h2.1
  have hda := fun W (h : Turned (fun _ => False) w1 W) => deepVal 70 a W 70 rfl (by omega) (ha1.turned0 h)
  have hdb := fun W (h : Turned (fun _ => False) w1 W) => deepVal 70 b W 70 rfl (by omega) (hb1.turned0 h)
  rw [LT.val_eq a, LT.val_eq b]
  have HDa := Lib.hid hda
  have HDb := Lib.hid hdb
  have HA1 := Lib.hid ha1
  have HB1 := Lib.hid hb1
  have HKP := Lib.hid hkp
  have HT1 := Lib.hid h2.1
  have HW := Lib.hid hw1
  have HFI := Lib.hid hf
  clear hda hdb ha1 hb1 ha hb hkp h2 hw1 hf
  cases da : deepB 70 a with
  | true =>
    rw [da] at HDa
    clear da
    go_enter Try.func17, Try.ntmps17
    go_wp2_with (first
      | (go_at_call 69; refine (awake69 _).mono ?_; rintro e W0 ⟨rfl, T0⟩; rw [← HW.out] at T0; have S0 := T0; obtain ⟨⟨c00, c01, c02, c03⟩, ⟨d00, d01, d02, d03⟩⟩ := HKP.out _ S0)
      | (go_at_call 70; (with_reducible refine (HDa.out _ S0).mono ?_); rintro e W1 ⟨rfl, T1⟩; have S1 := S0.trans T1; obtain ⟨⟨c10, c11, c12, c13⟩, ⟨d10, d11, d12, d13⟩⟩ := HKP.out _ S1))
    go_ret
    exact ⟨rfl, HT1.out.trans S1⟩
  | false =>
  rw [da] at HDa
  have HSa := Lib.hid (deep_slim 70 a da)
  clear da
  cases db : deepB 70 b with
  | true =>
    rw [db] at HDb
    clear db
    go_enter Try.func17, Try.ntmps17
    go_wp2_with (first
      | (go_at_call 69; refine (awake69 _).mono ?_; rintro e W0 ⟨rfl, T0⟩; rw [← HW.out] at T0; have S0 := T0; obtain ⟨⟨c00, c01, c02, c03⟩, ⟨d00, d01, d02, d03⟩⟩ := HKP.out _ S0)
      | (go_at_call 70; (with_reducible refine (HDa.out _ S0).mono ?_); rintro e W1 ⟨rfl, T1⟩; have S1 := S0.trans T1; obtain ⟨⟨c10, c11, c12, c13⟩, ⟨d10, d11, d12, d13⟩⟩ := HKP.out _ S1)
      | (go_at_call 70; (with_reducible refine (HDb.out _ S1).mono ?_); rintro e W2 ⟨rfl, T2⟩; have S2 := S1.trans T2; obtain ⟨⟨c20, c21, c22, c23⟩, ⟨d20, d21, d22, d23⟩⟩ := HKP.out _ S2))
    go_ret
    exact ⟨rfl, HT1.out.trans S2⟩
  | false =>
  rw [db] at HDb
  have HSb := Lib.hid (deep_slim 70 b db)
  clear db
  have hoa := fun W (h : Turned (fun _ => False) w1 W) => own79 a.depth a W (Nat.le_refl _) (HA1.out.turned0 h) HSa.out
  have hob := fun W (h : Turned (fun _ => False) w1 W) => own79 b.depth b W (Nat.le_refl _) (HB1.out.turned0 h) HSb.out
  rw [LT.val_eq a] at hoa
  rw [LT.val_eq b] at hob
  have HOA := Lib.hid hoa
  have HOB := Lib.hid hob
  clear hoa hob
  go_enter Try.func17, Try.ntmps17
  go_wp2_with (first
    | (go_at_call 69; refine (awake69 _).mono ?_; rintro e W0 ⟨rfl, T0⟩; rw [← HW.out] at T0; have S0 := T0; obtain ⟨⟨c00, c01, c02, c03⟩, ⟨d00, d01, d02, d03⟩⟩ := HKP.out _ S0)
    | (go_at_call 70; (with_reducible refine (HDa.out _ S0).mono ?_); rintro e W1 ⟨rfl, T1⟩; have S1 := S0.trans T1; obtain ⟨⟨c10, c11, c12, c13⟩, ⟨d10, d11, d12, d13⟩⟩ := HKP.out _ S1)
    | (go_at_call 70; (with_reducible refine (HDb.out _ S1).mono ?_); rintro e W2 ⟨rfl, T2⟩; have S2 := S1.trans T2; obtain ⟨⟨c20, c21, c22, c23⟩, ⟨d20, d21, d22, d23⟩⟩ := HKP.out _ S2))
  have S := S2
  clear S0 S1 S2 T0 T1 T2 c00 d00 c01 d01 c02 d02 c03 d03 c10 d10 c11 d11 c12 d12 c13 d13 c20 d20 c21 d21 c22 d22 c23 d23
  refine wp_region_k [28, 29, 30, 31, 7, 8] [1, 3, 4, 5, 6, 7] [(29, 1), (31, 3), (7, 4), (8, 5)] (fun d v => (match d with | 28 => v = .agg #[.int .i64 a.kind, .int .i64 a.n, .string a.name, .slice a.at_.1 a.args.length a.at_.2] | 30 => v = .agg #[.int .i64 b.kind, .int .i64 b.n, .string b.name, .slice b.at_.1 b.args.length b.at_.2] | _ => True : Prop)) (TwinS W2 a b) (by kernel_rfl) rfl (by kernel_rfl) (by kernel_rfl) (fun w h => TwinS.start h) (fun hs w w' h ht => h.turned0 ht) ?hs ?hQ
  case hs =>
    refine ⟨?s0, ?s1, ?s2, ?s3, ?s4, ?s5, ?s6, ?s7, trivial⟩
    case s0 =>
      refine fun hs hl => stepG_free [] [3] (by kernel_rfl) rfl ?_
      intro ac W hT hI hO
      have h : ac.tmps.getD 3 undef = .pointer (some ⟨w.heap.size, 0, none⟩) := hO 3 (by simp)
      show Brings Try.prog (fun v w' => Turned (fun _ => False) W w' ∧ v = .agg #[.int .i64 a.kind, .int .i64 a.n, .string a.name, .slice a.at_.1 a.args.length a.at_.2]) _
      obtain ⟨⟨x0, x1, x2, x3⟩, ⟨y0, y1, y2, y3⟩⟩ := HKP.out W (S.trans hT.turned)
      simp only [execOp, Act.eval, h]
      go_simp
      exact ⟨Turned.refl _ _, rfl⟩
    case s1 =>
      refine fun hs hno hl => stepG_free [28] [] (by kernel_rfl) rfl ?_
      intro ac W hT hI hO
      have h : ac.tmps.getD 28 undef = .agg #[.int .i64 a.kind, .int .i64 a.n, .string a.name, .slice a.at_.1 a.args.length a.at_.2] := hI 28 (by simp)
      show Brings Try.prog (fun v w' => TwinS W2 a b (hs ++ [(1, v)]) w') _
      simp only [execOp, Act.eval, h]
      go_simp
      show Calls Try.prog 79 _ W _
      (with_reducible refine (HOA.out W (S.trans hT.turned)).mono ?_)
      rintro e w' ⟨u, rfl, hb, hu, T'⟩
      exact ⟨_, rfl, hT.call1 hno (fun q => hl 6 8 q (by kernel_rfl)) T' hb hu⟩
    case s2 =>
      refine fun hs hl => stepG_free [] [4] (by kernel_rfl) rfl ?_
      intro ac W hT hI hO
      have h : ac.tmps.getD 4 undef = .pointer (some ⟨(w.heap.size + 1), 0, none⟩) := hO 4 (by simp)
      show Brings Try.prog (fun v w' => Turned (fun _ => False) W w' ∧ v = .agg #[.int .i64 b.kind, .int .i64 b.n, .string b.name, .slice b.at_.1 b.args.length b.at_.2]) _
      obtain ⟨⟨x0, x1, x2, x3⟩, ⟨y0, y1, y2, y3⟩⟩ := HKP.out W (S.trans hT.turned)
      simp only [execOp, Act.eval, h]
      go_simp
      exact ⟨Turned.refl _ _, rfl⟩
    case s3 =>
      refine fun hs hno hl => stepG_free [30] [] (by kernel_rfl) rfl ?_
      intro ac W hT hI hO
      have h : ac.tmps.getD 30 undef = .agg #[.int .i64 b.kind, .int .i64 b.n, .string b.name, .slice b.at_.1 b.args.length b.at_.2] := hI 30 (by simp)
      show Brings Try.prog (fun v w' => TwinS W2 a b (hs ++ [(3, v)]) w') _
      simp only [execOp, Act.eval, h]
      go_simp
      show Calls Try.prog 79 _ W _
      (with_reducible refine (HOB.out W (S.trans hT.turned)).mono ?_)
      rintro e w' ⟨u, rfl, hb, hu, T'⟩
      exact ⟨_, rfl, hT.call3 hno (fun q => hl 7 8 q (by kernel_rfl)) T' hb hu⟩
    case s4 =>
      refine fun hs hno hl => stepG_free [] [] (by kernel_rfl) rfl ?_
      intro ac W hT hI hO
      show Brings Try.prog (fun v w' => TwinS W2 a b (hs ++ [(4, v)]) w') _
      simp only [execOp, Act.eval]
      go_simp
      exact hT.lay4 hno (fun q => hl 6 8 q (by kernel_rfl))
    case s5 =>
      refine fun hs hno hl => stepG_free [] [] (by kernel_rfl) rfl ?_
      intro ac W hT hI hO
      show Brings Try.prog (fun v w' => TwinS W2 a b (hs ++ [(5, v)]) w') _
      simp only [execOp, Act.eval]
      go_simp
      exact hT.lay5 hno (fun q => hl 7 8 q (by kernel_rfl))
    case s6 =>
      refine fun hs hno hl => stepG_free [7, 29] [] (by kernel_rfl) rfl ?_
      intro ac W hT hI hO
      have h5 : (4, ac.tmps.getD 7 undef) ∈ hs := hI 7 (by simp)
      have h1 : (1, ac.tmps.getD 29 undef) ∈ hs := hI 29 (by simp)
      obtain ⟨g, e5, ⟨c0, c1, c2, c3, d0, d1, d2, d3⟩, f0, f1, f2, f3⟩ := hT.cells4 (.inl h5)
      obtain ⟨u, e1, _⟩ := hT.one.call _ h1
      rw [LT.val_eq] at e1
      show Brings Try.prog (fun v w' => TwinS W2 a b (hs ++ [(6, v)]) w') _
      simp only [execOp, Act.eval, e5, e1]
      go_simp
      rw [e5] at h5
      rw [e1] at h1
      exact hT.store6 hno h5 h1
    case s7 =>
      refine fun hs hno hl => stepG_free [8, 31] [] (by kernel_rfl) rfl ?_
      intro ac W hT hI hO
      have h5 : (5, ac.tmps.getD 8 undef) ∈ hs := hI 8 (by simp)
      have h1 : (3, ac.tmps.getD 31 undef) ∈ hs := hI 31 (by simp)
      obtain ⟨g, e5, ⟨c0, c1, c2, c3, d0, d1, d2, d3⟩, f0, f1, f2, f3⟩ := hT.cells4 (.inr h5)
      obtain ⟨u, e1, _⟩ := hT.two.call _ h1
      rw [LT.val_eq] at e1
      show Brings Try.prog (fun v w' => TwinS W2 a b (hs ++ [(7, v)]) w') _
      simp only [execOp, Act.eval, e5, e1]
      go_simp
      rw [e5] at h5
      rw [e1] at h1
      exact hT.store7 hno h5 h1
  case hQ =>
    intro hs vq w4 hall huniq hR hV
    obtain ⟨x, y, gx, gy, q5, q6, hxb, hyb, n1, n2, n3, bx, bby, ix, iy⟩ := hR.done hall (hV 7 (by simp)) (hV 8 (by simp))
    have S4 := S.trans hR.turned
    simp only [List.foldl_cons, List.foldl_nil, List.setIfInBounds_toArray, List.set_cons_zero, List.set_cons_succ, q5, q6]
    clear hV q5 q6 hall huniq hR hs S
    have HAX := Lib.hid (HA1.out.turned0 S4)
    have HBX := Lib.hid (HB1.out.turned0 S4)
    have HX := Lib.hid (ix.mono (q := fun _ => True) (fun _ _ _ => trivial))
    have HY := Lib.hid (iy.mono (q := fun _ => True) (fun _ _ _ => trivial))
    have HK : Hid (∀ W, Turned (fun _ => False) w4 W → ((W.cell? ⟨w.heap.size, 0, none⟩ = some (.int .i64 a.kind) ∧ W.cell? ⟨w.heap.size, 1, none⟩ = some (.int .i64 a.n) ∧ W.cell? ⟨w.heap.size, 2, none⟩ = some (.string a.name) ∧ W.cell? ⟨w.heap.size, 3, none⟩ = some (.slice a.at_.1 a.args.length a.at_.2)) ∧ (W.cell? ⟨w.heap.size + 1, 0, none⟩ = some (.int .i64 b.kind) ∧ W.cell? ⟨w.heap.size + 1, 1, none⟩ = some (.int .i64 b.n) ∧ W.cell? ⟨w.heap.size + 1, 2, none⟩ = some (.string b.name) ∧ W.cell? ⟨w.heap.size + 1, 3, none⟩ = some (.slice b.at_.1 b.args.length b.at_.2))) ∧ (W.cell? ⟨gx, 0, none⟩ = some (.int .i64 x.kind) ∧ W.cell? ⟨gx, 1, none⟩ = some (.int .i64 x.n) ∧ W.cell? ⟨gx, 2, none⟩ = some (.string x.name) ∧ W.cell? ⟨gx, 3, none⟩ = some (.slice x.at_.1 x.args.length x.at_.2)) ∧ (W.cell? ⟨gy, 0, none⟩ = some (.int .i64 y.kind) ∧ W.cell? ⟨gy, 1, none⟩ = some (.int .i64 y.n) ∧ W.cell? ⟨gy, 2, none⟩ = some (.string y.name) ∧ W.cell? ⟨gy, 3, none⟩ = some (.slice y.at_.1 y.args.length y.at_.2))) := fun W h => ⟨HKP.out W (S4.trans h), four_of ((h.block _ (Array.getElem?_eq_some_iff.1 bx).1 (fun f => f)).trans bx), four_of ((h.block _ (Array.getElem?_eq_some_iff.1 bby).1 (fun f => f)).trans bby)⟩
    have HXB := Lib.hid hxb
    have HYB := Lib.hid hyb
    have HS4 := Lib.hid S4
    clear hxb hyb n1 n2 n3 bx bby ix iy S4
    have h71 := fun W (h : Turned (fun _ => False) w4 W) => from71 (HAX.out.turned0 h) HSa.out HFI.out
    have h80 := fun W (h : Turned (fun _ => False) w4 W) => rFrom80 (HX.out.turned0 h) HFI.out
    have h81 := fun W (h : Turned (fun _ => False) w4 W) => plain81 (HAX.out.turned0 h) HSa.out
    have h80z := fun W (h : Turned (fun _ => False) w4 W) => rFrom80 (first := 0) (HX.out.turned0 h) (i64_lit 0 (by omega))
    rw [LT.val_eq a] at h71 h81
    rw [LT.val_eq x] at h80 h80z
    have H71 := Lib.hid h71
    have H80 := Lib.hid h80
    have H81 := Lib.hid h81
    have H80Z := Lib.hid h80z
    clear h71 h80 h81 h80z
    obtain ⟨⟨⟨a40, a41, a42, a43⟩, _⟩, _⟩ := HK.out w4 (Turned.refl _ _)
    go_wp2_with (first
      | (go_at_call 80; (with_reducible refine (H80Z.out _ U7).mono ?_); rintro e w8 ⟨q, m2, gr', rfl, hR, hqi, T8⟩; rw [HXB.out] at hR; obtain ⟨rfl, hqp⟩ := plainR_eq HP.out (plainR_of hR); rw [LT.val_eq q]; have HQP := Lib.hid hqp; have HQI := Lib.hid hqi; have T8a := T8.alloc (.cells #[.int .i64 q.kind, .int .i64 q.n, .string q.name, .slice q.at_.1 q.args.length q.at_.2] 41); have U8 := U7.trans T8a; have HBQ := Lib.hid (heap_alloc_new w8 (.cells #[.int .i64 q.kind, .int .i64 q.n, .string q.name, .slice q.at_.1 q.args.length q.at_.2] 41)); clear hR hqi hqp)
      | (go_at_call 81; (with_reducible refine (H81.out _ U6).mono ?_); rintro e w7 ⟨p, gr, rfl, hP, hpi, T7⟩; rw [LT.val_eq p]; have HP := Lib.hid hP; have HPI := Lib.hid hpi; have T7a := T7.alloc (.cells #[.int .i64 p.kind, .int .i64 p.n, .string p.name, .slice p.at_.1 p.args.length p.at_.2] 27); have U7 := U6.trans T7a; have HBP := Lib.hid (heap_alloc_new w7 (.cells #[.int .i64 p.kind, .int .i64 p.n, .string p.name, .slice p.at_.1 p.args.length p.at_.2] 27)); obtain ⟨⟨⟨a70, a71, a72, a73⟩, _⟩, ⟨x70, x71, x72, x73⟩, _⟩ := HK.out _ U7; clear hP hpi)
      | (go_at_call 80; (with_reducible refine (H80.out _ U5).mono ?_); rintro e w6 ⟨vz, m', er', rfl, hR, hvi, T6⟩; rw [HXB.out] at hR; obtain ⟨rfl, rfl, hvu⟩ := fromR_eq HR.out hR; rw [LT.val_eq vz]; have HVU := Lib.hid hvu; have HVI := Lib.hid hvi; have T6a := T6.alloc (.cells #[.int .i64 vz.kind, .int .i64 vz.n, .string vz.name, .slice vz.at_.1 vz.args.length vz.at_.2] 41); have U6 := U5.trans T6a; have HBV := Lib.hid (heap_alloc_new w6 (.cells #[.int .i64 vz.kind, .int .i64 vz.n, .string vz.name, .slice vz.at_.1 vz.args.length vz.at_.2] 41)); obtain ⟨⟨⟨a60, a61, a62, a63⟩, _⟩, ⟨x60, x61, x62, x63⟩, _⟩ := HK.out _ U6; clear hR hvi hvu)
      | (go_at_call 71; (with_reducible refine (H71.out _ (Turned.refl _ _)).mono ?_); rintro e w5 ⟨u, m, er, rfl, hR, hui, T5⟩; rw [LT.val_eq u]; have HR := Lib.hid hR; have HUI := Lib.hid hui; have U5 := T5.alloc (.cells #[.int .i64 u.kind, .int .i64 u.n, .string u.name, .slice u.at_.1 u.args.length u.at_.2] 27); have HBU := Lib.hid (heap_alloc_new w5 (.cells #[.int .i64 u.kind, .int .i64 u.n, .string u.name, .slice u.at_.1 u.args.length u.at_.2] 27)); obtain ⟨⟨⟨a50, a51, a52, a53⟩, _⟩, ⟨x50, x51, x52, x53⟩, _⟩ := HK.out _ U5; clear hR hui))
    clear a40 a41 a42 a43 a50 a51 a52 a53 a60 a61 a62 a63 a70 a71 a72 a73 x50 x51 x52 x53 x60 x61 x62 x63 x70 x71 x72 x73
    have HSZ := Lib.hid (And.intro T5.size (And.intro T6.size (And.intro T7.size T8.size)))
    obtain ⟨wz, hwz⟩ : ∃ z, z = w8.alloc (.cells #[.int .i64 q.kind, .int .i64 q.n, .string q.name, .slice q.at_.1 q.args.length q.at_.2] 41) := ⟨_, rfl⟩
    rw [← hwz] at T8a U8 HBQ
    rw [← hwz]
    have hku := fun W (h : Turned (fun _ => False) wz W) => four_of (((((T6a.trans T7a).trans T8a).trans h).block _ (Array.getElem?_eq_some_iff.1 HBU.out).1 (fun f => f)).trans HBU.out)
    have hkv := fun W (h : Turned (fun _ => False) wz W) => four_of ((((T7a.trans T8a).trans h).block _ (Array.getElem?_eq_some_iff.1 HBV.out).1 (fun f => f)).trans HBV.out)
    have hkpp := fun W (h : Turned (fun _ => False) wz W) => four_of (((T8a.trans h).block _ (Array.getElem?_eq_some_iff.1 HBP.out).1 (fun f => f)).trans HBP.out)
    have hkq := fun W (h : Turned (fun _ => False) wz W) => four_of ((h.block _ (Array.getElem?_eq_some_iff.1 HBQ.out).1 (fun f => f)).trans HBQ.out)
    have HIU := Lib.hid (((HUI.out.turned0 ((Turned.refl _ w5).alloc (.cells #[.int .i64 u.kind, .int .i64 u.n, .string u.name, .slice u.at_.1 u.args.length u.at_.2] 27))).turned0 ((T6a.trans T7a).trans T8a)).mono (q := fun _ => True) (fun _ _ _ => trivial))
    have HIV := Lib.hid (((HVI.out.turned0 ((Turned.refl _ w6).alloc (.cells #[.int .i64 vz.kind, .int .i64 vz.n, .string vz.name, .slice vz.at_.1 vz.args.length vz.at_.2] 41))).turned0 (T7a.trans T8a)).mono (q := fun _ => True) (fun _ _ _ => trivial))
    have HIP := Lib.hid (((HPI.out.turned0 ((Turned.refl _ w7).alloc (.cells #[.int .i64 p.kind, .int .i64 p.n, .string p.name, .slice p.at_.1 p.args.length p.at_.2] 27))).turned0 T8a).mono (q := fun _ => True) (fun _ _ _ => trivial))
    have HIQ := Lib.hid ((HQI.out.turned0 (show Turned (fun _ => False) w8 wz by rw [hwz]; exact (Turned.refl _ w8).alloc _)).mono (q := fun _ => True) (fun _ _ _ => trivial))
    have HKR : Hid (∀ W, Turned (fun _ => False) wz W → (((W.cell? ⟨w.heap.size, 0, none⟩ = some (.int .i64 a.kind) ∧ W.cell? ⟨w.heap.size, 1, none⟩ = some (.int .i64 a.n) ∧ W.cell? ⟨w.heap.size, 2, none⟩ = some (.string a.name) ∧ W.cell? ⟨w.heap.size, 3, none⟩ = some (.slice a.at_.1 a.args.length a.at_.2)) ∧ (W.cell? ⟨w.heap.size + 1, 0, none⟩ = some (.int .i64 b.kind) ∧ W.cell? ⟨w.heap.size + 1, 1, none⟩ = some (.int .i64 b.n) ∧ W.cell? ⟨w.heap.size + 1, 2, none⟩ = some (.string b.name) ∧ W.cell? ⟨w.heap.size + 1, 3, none⟩ = some (.slice b.at_.1 b.args.length b.at_.2))) ∧ (W.cell? ⟨gx, 0, none⟩ = some (.int .i64 x.kind) ∧ W.cell? ⟨gx, 1, none⟩ = some (.int .i64 x.n) ∧ W.cell? ⟨gx, 2, none⟩ = some (.string x.name) ∧ W.cell? ⟨gx, 3, none⟩ = some (.slice x.at_.1 x.args.length x.at_.2)) ∧ (W.cell? ⟨gy, 0, none⟩ = some (.int .i64 y.kind) ∧ W.cell? ⟨gy, 1, none⟩ = some (.int .i64 y.n) ∧ W.cell? ⟨gy, 2, none⟩ = some (.string y.name) ∧ W.cell? ⟨gy, 3, none⟩ = some (.slice y.at_.1 y.args.length y.at_.2))) ∧ ((W.cell? ⟨w5.heap.size, 0, none⟩ = some (.int .i64 u.kind) ∧ W.cell? ⟨w5.heap.size, 1, none⟩ = some (.int .i64 u.n) ∧ W.cell? ⟨w5.heap.size, 2, none⟩ = some (.string u.name) ∧ W.cell? ⟨w5.heap.size, 3, none⟩ = some (.slice u.at_.1 u.args.length u.at_.2)) ∧ (W.cell? ⟨w6.heap.size, 0, none⟩ = some (.int .i64 vz.kind) ∧ W.cell? ⟨w6.heap.size, 1, none⟩ = some (.int .i64 vz.n) ∧ W.cell? ⟨w6.heap.size, 2, none⟩ = some (.string vz.name) ∧ W.cell? ⟨w6.heap.size, 3, none⟩ = some (.slice vz.at_.1 vz.args.length vz.at_.2))) ∧ (W.cell? ⟨w7.heap.size, 0, none⟩ = some (.int .i64 p.kind) ∧ W.cell? ⟨w7.heap.size, 1, none⟩ = some (.int .i64 p.n) ∧ W.cell? ⟨w7.heap.size, 2, none⟩ = some (.string p.name) ∧ W.cell? ⟨w7.heap.size, 3, none⟩ = some (.slice p.at_.1 p.args.length p.at_.2)) ∧ (W.cell? ⟨w8.heap.size, 0, none⟩ = some (.int .i64 q.kind) ∧ W.cell? ⟨w8.heap.size, 1, none⟩ = some (.int .i64 q.n) ∧ W.cell? ⟨w8.heap.size, 2, none⟩ = some (.string q.name) ∧ W.cell? ⟨w8.heap.size, 3, none⟩ = some (.slice q.at_.1 q.args.length q.at_.2))) := fun W h => ⟨HK.out W (U8.trans h), ⟨hku W h, hkv W h⟩, hkpp W h, hkq W h⟩
    have HSU := Lib.hid (good_slim (by rw [← goodB_bare]; exact fromR_goodu HR.out) : slim u)
    have HSP := Lib.hid (good_slim (by rw [← goodB_bare]; exact plainR_goodu HP.out) : slim p)
    have hou := fun W (h : Turned (fun _ => False) wz W) => own79 u.depth u W (Nat.le_refl _) (HIU.out.turned0 h) HSU.out
    have hop := fun W (h : Turned (fun _ => False) wz W) => own79 p.depth p W (Nat.le_refl _) (HIP.out.turned0 h) HSP.out
    rw [LT.val_eq u] at hou
    rw [LT.val_eq p] at hop
    have HOU := Lib.hid hou
    have HOP := Lib.hid hop
    obtain ⟨AB, hAB⟩ : ∃ z, z = alikeB a b := ⟨_, rfl⟩
    obtain ⟨MB, hMB⟩ : ∃ z, z = moreB a b := ⟨_, rfl⟩
    obtain ⟨GX, hGX⟩ : ∃ z, z = goodB x := ⟨_, rfl⟩
    obtain ⟨nv, hnv⟩ : ∃ z, z = (varsB x).length := ⟨_, rfl⟩
    obtain ⟨GR, hGR⟩ : ∃ z, z = (goodB a && decide (a.vars = [])) := ⟨_, rfl⟩
    have hab := fun W (h : Turned (fun _ => False) wz W) => alikeVal (HAX.out.turned0 (U8.trans h)) (HBX.out.turned0 (U8.trans h)) HSa.out HSb.out hAB.symm
    have hmo := fun W (h : Turned (fun _ => False) wz W) => moreVal (HAX.out.turned0 (U8.trans h)) (HBX.out.turned0 (U8.trans h)) HSa.out HSb.out hMB.symm
    have hgr := fun W (h : Turned (fun _ => False) wz W) => groundVal (HAX.out.turned0 (U8.trans h)) HSa.out hGR.symm
    have hrab := fun W (h : Turned (fun _ => False) wz W) => rAlike82 (HX.out.turned0 (U8.trans h)) (HY.out.turned0 (U8.trans h))
    have hrmo := fun W (h : Turned (fun _ => False) wz W) => rMore83 (HX.out.turned0 (U8.trans h)) (HY.out.turned0 (U8.trans h))
    have hrg := fun W (h : Turned (fun _ => False) wz W) => rGood45 (HX.out.turned0 (U8.trans h))
    have hrv := fun W (h : Turned (fun _ => False) wz W) => rVars51 (HX.out.turned0 (U8.trans h))
    have eab : alikeB x y = AB := by rw [hAB]; unfold alikeB; rw [goodB_eq HXB.out, goodB_eq HYB.out, HXB.out, HYB.out]
    have emo : moreB x y = MB := by rw [hMB]; unfold moreB; rw [goodB_eq HXB.out, goodB_eq HYB.out, HXB.out, HYB.out]
    rw [eab] at hrab
    rw [emo] at hrmo
    rw [← hGX] at hrg
    rw [← hnv] at hrv
    rw [LT.val_eq x] at hrab hrmo hrg hrv
    rw [LT.val_eq y] at hrab hrmo
    have KGR : GR = (GX && ((nv : Int) == 0)) := by
      rw [hGR, hGX, goodB_eq HXB.out]
      cases hg : goodB a with
      | false => rfl
      | true =>
        rw [Bool.true_and, Bool.true_and, hnv, varsB_eq HXB.out]
        unfold varsB
        rw [if_pos hg]
        cases a.vars with
        | nil => rfl
        | cons v l => simp; omega
    have HAB := Lib.hid hab
    have HMO := Lib.hid hmo
    have HGR := Lib.hid hgr
    have HRAB := Lib.hid hrab
    have HRMO := Lib.hid hrmo
    have HRG := Lib.hid hrg
    have HRV := Lib.hid hrv
    have HKGR := Lib.hid KGR
    have HUW := Lib.hid (HT1.out.trans (HS4.out.trans U8))
    clear hab hmo hgr hrab hrmo hrg hrv KGR eab emo hAB hMB hGX hnv hGR hou hop hku hkv hkpp hkq hwz U5 U6 U7 U8 T5 T6 T6a T7 T7a T8 T8a
    obtain ⟨B64, HB64⟩ : ∃ B, Hid (B = (m' == m')) := ⟨_, rfl⟩
    obtain ⟨B65, HB65⟩ : ∃ B, Hid (B = (true && B64)) := ⟨_, rfl⟩
    obtain ⟨B69, HB69⟩ : ∃ B, Hid (B = (er' == er')) := ⟨_, rfl⟩
    obtain ⟨B70, HB70⟩ : ∃ B, Hid (B = (B65 && B69)) := ⟨_, rfl⟩
    obtain ⟨B76, HB76⟩ : ∃ B, Hid (B = (B70 && true)) := ⟨_, rfl⟩
    obtain ⟨B80, HB80⟩ : ∃ B, Hid (B = (gr' == gr')) := ⟨_, rfl⟩
    obtain ⟨B81, HB81⟩ : ∃ B, Hid (B = (B76 && B80)) := ⟨_, rfl⟩
    obtain ⟨B89, HB89⟩ : ∃ B, Hid (B = (AB == AB)) := ⟨_, rfl⟩
    obtain ⟨B90, HB90⟩ : ∃ B, Hid (B = (B81 && B89)) := ⟨_, rfl⟩
    obtain ⟨B98, HB98⟩ : ∃ B, Hid (B = (MB == MB)) := ⟨_, rfl⟩
    obtain ⟨B99, HB99⟩ : ∃ B, Hid (B = (B90 && B98)) := ⟨_, rfl⟩
    obtain ⟨B109, HB109⟩ : ∃ B, Hid (B = ((nv : Int) == 0)) := ⟨_, rfl⟩
    obtain ⟨B110, HB110⟩ : ∃ B, Hid (B = (GX && B109)) := ⟨_, rfl⟩
    obtain ⟨B111, HB111⟩ : ∃ B, Hid (B = (GR == B110)) := ⟨_, rfl⟩
    obtain ⟨B112, HB112⟩ : ∃ B, Hid (B = (B99 && B111)) := ⟨_, rfl⟩
    have hB64 : B64 = true := by rw [HB64.out]; simp
    have hB65 : B65 = true := by rw [HB65.out, hB64]; simp
    have hB69 : B69 = true := by rw [HB69.out]; simp
    have hB70 : B70 = true := by rw [HB70.out, hB65, hB69]; simp
    have hB76 : B76 = true := by rw [HB76.out, hB70]; simp
    have hB80 : B80 = true := by rw [HB80.out]; simp
    have hB81 : B81 = true := by rw [HB81.out, hB76, hB80]; simp
    have hB89 : B89 = true := by rw [HB89.out]; simp
    have hB90 : B90 = true := by rw [HB90.out, hB81, hB89]; simp
    have hB98 : B98 = true := by rw [HB98.out]; simp
    have hB99 : B99 = true := by rw [HB99.out, hB90, hB98]; simp
    have hB111 : B111 = true := by rw [HB111.out]; rw [HB110.out, HB109.out, HKGR.out]; cases GX <;> simp
    have hB112 : B112 = true := by rw [HB112.out, hB99, hB111]; simp
    refine wp_region_hsW [57, 58, 59, 60, 61, 62, 63, 64, 65, 66, 67, 68, 69, 70, 71, 72, 73, 74, 75, 76, 77, 78, 79, 80, 81, 82, 83, 84, 85, 86, 87, 88, 89, 90, 91, 92, 93, 94, 95, 96, 97, 98, 99, 100, 101, 102, 103, 104, 105, 106, 107, 108, 109, 110, 111, 112, 6] [1, 16, 50] [0, 1, 1, 1, 1, 1, 1, 1, 1, 1, 1, 1, 1, 1, 1, 1, 2, 2, 2, 2, 2, 2, 2, 2, 2, 2, 2, 2, 2, 2, 2, 2, 2, 2, 2, 2, 2, 2, 2, 2, 2, 2, 2, 2, 2, 2, 2, 2, 2, 2, 3, 3, 3, 3, 3, 3, 3] [58, 73, 107] (fun d v => (match d with | 57 => v = .agg #[.int .i64 u.kind, .int .i64 u.n, .string u.name, .slice u.at_.1 u.args.length u.at_.2] | 59 => v = .agg #[.int .i64 vz.kind, .int .i64 vz.n, .string vz.name, .slice vz.at_.1 vz.args.length vz.at_.2] | 60 => v = .bool true | 61 => v = .bool true | 62 => v = bif (true && (true == true)) then .int .i64 m' else undef | 63 => v = bif (true && (true == true)) then .int .i64 m' else undef | 64 => v = bif (true && (true == true)) then .bool B64 else undef | 65 => v = .bool B65 | 66 => v = .bool B65 | 67 => v = bif (true && (B65 == true)) then .int .i64 er' else undef | 68 => v = bif (true && (B65 == true)) then .int .i64 er' else undef | 69 => v = bif (true && (B65 == true)) then .bool B69 else undef | 70 => v = .bool B70 | 71 => v = .bool B70 | 72 => v = bif (true && (B70 == true)) then .agg #[.int .i64 p.kind, .int .i64 p.n, .string p.name, .slice p.at_.1 p.args.length p.at_.2] else undef | 74 => v = bif (true && (B70 == true)) then .agg #[.int .i64 q.kind, .int .i64 q.n, .string q.name, .slice q.at_.1 q.args.length q.at_.2] else undef | 75 => v = bif (true && (B70 == true)) then .bool true else undef | 76 => v = .bool B76 | 77 => v = .bool B76 | 78 => v = bif (true && (B76 == true)) then .int .i64 gr' else undef | 79 => v = bif (true && (B76 == true)) then .int .i64 gr' else undef | 80 => v = bif (true && (B76 == true)) then .bool B80 else undef | 81 => v = .bool B81 | 82 => v = .bool B81 | 83 => v = bif (true && (B81 == true)) then .agg #[.int .i64 a.kind, .int .i64 a.n, .string a.name, .slice a.at_.1 a.args.length a.at_.2] else undef | 84 => v = bif (true && (B81 == true)) then .agg #[.int .i64 b.kind, .int .i64 b.n, .string b.name, .slice b.at_.1 b.args.length b.at_.2] else undef | 85 => v = bif (true && (B81 == true)) then .bool AB else undef | 86 => v = bif (true && (B81 == true)) then .agg #[.int .i64 x.kind, .int .i64 x.n, .string x.name, .slice x.at_.1 x.args.length x.at_.2] else undef | 87 => v = bif (true && (B81 == true)) then .agg #[.int .i64 y.kind, .int .i64 y.n, .string y.name, .slice y.at_.1 y.args.length y.at_.2] else undef | 88 => v = bif (true && (B81 == true)) then .bool AB else undef | 89 => v = bif (true && (B81 == true)) then .bool B89 else undef | 90 => v = .bool B90 | 91 => v = .bool B90 | 92 => v = bif (true && (B90 == true)) then .agg #[.int .i64 a.kind, .int .i64 a.n, .string a.name, .slice a.at_.1 a.args.length a.at_.2] else undef | 93 => v = bif (true && (B90 == true)) then .agg #[.int .i64 b.kind, .int .i64 b.n, .string b.name, .slice b.at_.1 b.args.length b.at_.2] else undef | 94 => v = bif (true && (B90 == true)) then .bool MB else undef | 95 => v = bif (true && (B90 == true)) then .agg #[.int .i64 x.kind, .int .i64 x.n, .string x.name, .slice x.at_.1 x.args.length x.at_.2] else undef | 96 => v = bif (true && (B90 == true)) then .agg #[.int .i64 y.kind, .int .i64 y.n, .string y.name, .slice y.at_.1 y.args.length y.at_.2] else undef | 97 => v = bif (true && (B90 == true)) then .bool MB else undef | 98 => v = bif (true && (B90 == true)) then .bool B98 else undef | 99 => v = .bool B99 | 100 => v = .bool B99 | 101 => v = bif (true && (B99 == true)) then .agg #[.int .i64 a.kind, .int .i64 a.n, .string a.name, .slice a.at_.1 a.args.length a.at_.2] else undef | 102 => v = bif (true && (B99 == true)) then .bool GR else undef | 103 => v = bif (true && (B99 == true)) then .agg #[.int .i64 x.kind, .int .i64 x.n, .string x.name, .slice x.at_.1 x.args.length x.at_.2] else undef | 104 => v = bif (true && (B99 == true)) then .bool GX else undef | 105 => v = bif (true && (B99 == true)) then .bool GX else undef | 106 => v = bif ((true && (B99 == true)) && (GX == true)) then .agg #[.int .i64 x.kind, .int .i64 x.n, .string x.name, .slice x.at_.1 x.args.length x.at_.2] else undef | 108 => v = bif ((true && (B99 == true)) && (GX == true)) then .int .i64 (nv : Int) else undef | 109 => v = bif ((true && (B99 == true)) && (GX == true)) then .bool B109 else undef | 110 => v = bif (true && (B99 == true)) then .bool B110 else undef | 111 => v = bif (true && (B99 == true)) then .bool B111 else undef | 112 => v = .bool B112 | 6 => v = .bool B112 | _ => True : Prop)) (TriS wz u p GX nv) (by kernel_rfl) rfl (by kernel_rfl) (by kernel_rfl) (by kernel_rfl) (by kernel_rfl) (fun _ h => h) (fun hs w w' h ht => TriS.turned0 hs w w' h ht) ?hs ?hQ
    case hs =>
      refine ⟨?s0, ?s1, ?s2, ?s3, ?s4, ?s5, ?s6, ?s7, ?s8, ?s9, ?s10, ?s11, ?s12, ?s13, ?s14, ?s15, ?s16, ?s17, ?s18, ?s19, ?s20, ?s21, ?s22, ?s23, ?s24, ?s25, ?s26, ?s27, ?s28, ?s29, ?s30, ?s31, ?s32, ?s33, ?s34, ?s35, ?s36, ?s37, ?s38, ?s39, ?s40, ?s41, ?s42, ?s43, ?s44, ?s45, ?s46, ?s47, ?s48, ?s49, ?s50, ?s51, ?s52, ?s53, ?s54, ?s55, ?s56, trivial⟩
      case s0 =>
        refine fun hs hle => stepG_free [] [9] (by kernel_rfl) rfl ?_
        · intro ac W hT hI hO
          have hle : hs.length ≤ 0 := hle
          have h9 : ac.tmps.getD 9 undef = .pointer (some ⟨w5.heap.size, 0, none⟩) := hO 9 (by simp)
          show Brings Try.prog (fun v w' => Turned (fun _ => False) W w' ∧ v = .agg #[.int .i64 u.kind, .int .i64 u.n, .string u.name, .slice u.at_.1 u.args.length u.at_.2]) _
          obtain ⟨⟨⟨⟨a0, a1, a2, a3⟩, ⟨b0, b1, b2, b3⟩⟩, ⟨x0, x1, x2, x3⟩, ⟨y0, y1, y2, y3⟩⟩, ⟨⟨u0, u1, u2, u3⟩, ⟨v0, v1, v2, v3⟩⟩, ⟨p0, p1, p2, p3⟩, ⟨q0, q1, q2, q3⟩⟩ := HKR.out W (TriS.turned hs W hT)
          simp only [execOp, Act.eval, h9]
          go_simp
          exact ⟨Turned.refl _ _, rfl⟩
      case s1 =>
        refine fun hs hlen => stepG_free [57] [] (by kernel_rfl) rfl ?_
        · intro ac W hT hI hO
          have h57 : ac.tmps.getD 57 undef = .agg #[.int .i64 u.kind, .int .i64 u.n, .string u.name, .slice u.at_.1 u.args.length u.at_.2] := hI 57 (by simp)
          show Brings Try.prog (fun v w' => (TriS wz u p GX nv) (hs ++ [v]) w') _
          obtain rfl : hs = [] := List.eq_nil_of_length_eq_zero hlen
          replace hT : Turned (fun _ => False) wz W := hT
          simp only [execOp, Act.eval, h57]
          go_simp
          show Calls Try.prog 79 _ W _
          (with_reducible refine (HOU.out W hT).mono ?_)
          rintro e w' ⟨s, rfl, hb, hi, T'⟩
          exact ⟨_, rfl, hT.trans T', s, rfl, hb, hi.mono (fun _ _ _ => trivial)⟩
      case s2 =>
        refine fun hs hle => stepG_free [] [12] (by kernel_rfl) rfl ?_
        · intro ac W hT hI hO
          have hle : hs.length ≤ 1 := hle
          have h12 : ac.tmps.getD 12 undef = .pointer (some ⟨w6.heap.size, 0, none⟩) := hO 12 (by simp)
          show Brings Try.prog (fun v w' => Turned (fun _ => False) W w' ∧ v = .agg #[.int .i64 vz.kind, .int .i64 vz.n, .string vz.name, .slice vz.at_.1 vz.args.length vz.at_.2]) _
          obtain ⟨⟨⟨⟨a0, a1, a2, a3⟩, ⟨b0, b1, b2, b3⟩⟩, ⟨x0, x1, x2, x3⟩, ⟨y0, y1, y2, y3⟩⟩, ⟨⟨u0, u1, u2, u3⟩, ⟨v0, v1, v2, v3⟩⟩, ⟨p0, p1, p2, p3⟩, ⟨q0, q1, q2, q3⟩⟩ := HKR.out W (TriS.turned hs W hT)
          simp only [execOp, Act.eval, h12]
          go_simp
          exact ⟨Turned.refl _ _, rfl⟩
      case s3 =>
        refine fun hs hle => stepG_free [58, 59] [] (by kernel_rfl) rfl ?_
        · intro ac W hT hI hO
          have hle : hs.length ≤ 1 := hle
          have h58 : hs[0]? = some (ac.tmps.getD 58 undef) := hI 58 (by simp)
          have h59 : ac.tmps.getD 59 undef = .agg #[.int .i64 vz.kind, .int .i64 vz.n, .string vz.name, .slice vz.at_.1 vz.args.length vz.at_.2] := hI 59 (by simp)
          show Brings Try.prog (fun v w' => Turned (fun _ => False) W w' ∧ v = .bool true) _
          obtain ⟨s, hs0, hsb, hsi⟩ := TriS.at0 hT hle h58
          rw [LT.val_eq] at hs0
          simp only [execOp, Act.eval, hs0, h59]
          go_simp
          show Calls Try.prog 48 _ W _
          have hsm := rSame48 s.depth s vz W (Nat.le_refl _) hsi (HIV.out.turned0 (TriS.turned hs W hT))
          rw [LT.val_eq s, LT.val_eq vz, (Tm.same_iff s vz).2 (by rw [hsb, HVU.out])] at hsm
          (with_reducible refine hsm.mono ?_)
          rintro e w' ⟨rfl, T'⟩
          exact ⟨_, rfl, T', rfl⟩
      case s4 =>
        refine fun hs hle => stepG_free [60] [] (by kernel_rfl) rfl ?_
        · intro ac W hT hI hO
          have hle : hs.length ≤ 1 := hle
          have h60 : ac.tmps.getD 60 undef = .bool true := hI 60 (by simp)
          show Brings Try.prog (fun v w' => Turned (fun _ => False) W w' ∧ v = .bool true) _
          simp only [execOp, Act.eval, h60]
          go_simp
          try exact ⟨Turned.refl _ _, rfl⟩
      case s5 =>
        refine fun hs hle => stepG_guard [61] [10] (by kernel_rfl) 4 true 61 rfl rfl (by simp) true true (fun _ _ h => h) (fun hc => ?_) (fun hc _ _ => ?_)
        rotate_left
        · refine ⟨Turned.refl _ _, ?_⟩
          show undef = bif (true && (true == true)) then _ else undef
          rw [hc]; rfl
        · intro ac W hT hI hO
          have hle : hs.length ≤ 1 := hle
          have h61 : ac.tmps.getD 61 undef = .bool true := hI 61 (by simp)
          have h10 : ac.tmps.getD 10 undef = .int .i64 m' := hO 10 (by simp)
          show Brings Try.prog (fun v w' => Turned (fun _ => False) W w' ∧ v = bif (true && (true == true)) then .int .i64 m' else undef) _
          rw [hc, cond_true]
          simp only [execOp, Act.eval, h61, h10]
          go_simp
          try exact ⟨Turned.refl _ _, rfl⟩
      case s6 =>
        refine fun hs hle => stepG_guard [61] [13] (by kernel_rfl) 4 true 61 rfl rfl (by simp) true true (fun _ _ h => h) (fun hc => ?_) (fun hc _ _ => ?_)
        rotate_left
        · refine ⟨Turned.refl _ _, ?_⟩
          show undef = bif (true && (true == true)) then _ else undef
          rw [hc]; rfl
        · intro ac W hT hI hO
          have hle : hs.length ≤ 1 := hle
          have h61 : ac.tmps.getD 61 undef = .bool true := hI 61 (by simp)
          have h13 : ac.tmps.getD 13 undef = .int .i64 m' := hO 13 (by simp)
          show Brings Try.prog (fun v w' => Turned (fun _ => False) W w' ∧ v = bif (true && (true == true)) then .int .i64 m' else undef) _
          rw [hc, cond_true]
          simp only [execOp, Act.eval, h61, h13]
          go_simp
          try exact ⟨Turned.refl _ _, rfl⟩
      case s7 =>
        refine fun hs hle => stepG_guard [62, 63, 61] [] (by kernel_rfl) 4 true 61 rfl rfl (by simp) true true (fun _ _ h => h) (fun hc => ?_) (fun hc _ _ => ?_)
        rotate_left
        · refine ⟨Turned.refl _ _, ?_⟩
          show undef = bif (true && (true == true)) then _ else undef
          rw [hc]; rfl
        · intro ac W hT hI hO
          have hle : hs.length ≤ 1 := hle
          have h62 : ac.tmps.getD 62 undef = bif (true && (true == true)) then .int .i64 m' else undef := hI 62 (by simp)
          rw [hc, cond_true] at h62
          have h63 : ac.tmps.getD 63 undef = bif (true && (true == true)) then .int .i64 m' else undef := hI 63 (by simp)
          rw [hc, cond_true] at h63
          have h61 : ac.tmps.getD 61 undef = .bool true := hI 61 (by simp)
          show Brings Try.prog (fun v w' => Turned (fun _ => False) W w' ∧ v = bif (true && (true == true)) then .bool B64 else undef) _
          rw [hc, cond_true]
          rw [HB64.out]
          simp only [execOp, Act.eval, h62, h63, h61]
          go_simp
          try exact ⟨Turned.refl _ _, rfl⟩
      case s8 =>
        refine fun hs hle => stepG_free [61, 64] [] (by kernel_rfl) rfl ?_
        · intro ac W hT hI hO
          have hle : hs.length ≤ 1 := hle
          have h61 : ac.tmps.getD 61 undef = .bool true := hI 61 (by simp)
          have h64 : ac.tmps.getD 64 undef = bif (true && (true == true)) then .bool B64 else undef := hI 64 (by simp)
          show Brings Try.prog (fun v w' => Turned (fun _ => False) W w' ∧ v = .bool B65) _
          rw [HB65.out]
          cases hB : true
          · simp only [hB] at *
            simp [execOp, Act.eval, go_sem, Brings, h61, h64]
            try exact Turned.refl _ _
          · simp only [hB] at *
            simp [execOp, Act.eval, go_sem, Brings, h61, h64]
            try exact Turned.refl _ _
      case s9 =>
        refine fun hs hle => stepG_free [65] [] (by kernel_rfl) rfl ?_
        · intro ac W hT hI hO
          have hle : hs.length ≤ 1 := hle
          have h65 : ac.tmps.getD 65 undef = .bool B65 := hI 65 (by simp)
          show Brings Try.prog (fun v w' => Turned (fun _ => False) W w' ∧ v = .bool B65) _
          simp only [execOp, Act.eval, h65]
          go_simp
          try exact ⟨Turned.refl _ _, rfl⟩
      case s10 =>
        refine fun hs hle => stepG_guard [66] [11] (by kernel_rfl) 9 true 66 rfl rfl (by simp) true B65 (fun _ _ h => h) (fun hc => ?_) (fun hc _ _ => ?_)
        rotate_left
        · refine ⟨Turned.refl _ _, ?_⟩
          show undef = bif (true && (B65 == true)) then _ else undef
          rw [hc]; rfl
        · intro ac W hT hI hO
          have hle : hs.length ≤ 1 := hle
          have h66 : ac.tmps.getD 66 undef = .bool B65 := hI 66 (by simp)
          have h11 : ac.tmps.getD 11 undef = .int .i64 er' := hO 11 (by simp)
          show Brings Try.prog (fun v w' => Turned (fun _ => False) W w' ∧ v = bif (true && (B65 == true)) then .int .i64 er' else undef) _
          rw [hc, cond_true]
          simp only [execOp, Act.eval, h66, h11]
          go_simp
          try exact ⟨Turned.refl _ _, rfl⟩
      case s11 =>
        refine fun hs hle => stepG_guard [66] [14] (by kernel_rfl) 9 true 66 rfl rfl (by simp) true B65 (fun _ _ h => h) (fun hc => ?_) (fun hc _ _ => ?_)
        rotate_left
        · refine ⟨Turned.refl _ _, ?_⟩
          show undef = bif (true && (B65 == true)) then _ else undef
          rw [hc]; rfl
        · intro ac W hT hI hO
          have hle : hs.length ≤ 1 := hle
          have h66 : ac.tmps.getD 66 undef = .bool B65 := hI 66 (by simp)
          have h14 : ac.tmps.getD 14 undef = .int .i64 er' := hO 14 (by simp)
          show Brings Try.prog (fun v w' => Turned (fun _ => False) W w' ∧ v = bif (true && (B65 == true)) then .int .i64 er' else undef) _
          rw [hc, cond_true]
          simp only [execOp, Act.eval, h66, h14]
          go_simp
          try exact ⟨Turned.refl _ _, rfl⟩
      case s12 =>
        refine fun hs hle => stepG_guard [67, 68, 66] [] (by kernel_rfl) 9 true 66 rfl rfl (by simp) true B65 (fun _ _ h => h) (fun hc => ?_) (fun hc _ _ => ?_)
        rotate_left
        · refine ⟨Turned.refl _ _, ?_⟩
          show undef = bif (true && (B65 == true)) then _ else undef
          rw [hc]; rfl
        · intro ac W hT hI hO
          have hle : hs.length ≤ 1 := hle
          have h67 : ac.tmps.getD 67 undef = bif (true && (B65 == true)) then .int .i64 er' else undef := hI 67 (by simp)
          rw [hc, cond_true] at h67
          have h68 : ac.tmps.getD 68 undef = bif (true && (B65 == true)) then .int .i64 er' else undef := hI 68 (by simp)
          rw [hc, cond_true] at h68
          have h66 : ac.tmps.getD 66 undef = .bool B65 := hI 66 (by simp)
          show Brings Try.prog (fun v w' => Turned (fun _ => False) W w' ∧ v = bif (true && (B65 == true)) then .bool B69 else undef) _
          rw [hc, cond_true]
          rw [HB69.out]
          simp only [execOp, Act.eval, h67, h68, h66]
          go_simp
          try exact ⟨Turned.refl _ _, rfl⟩
      case s13 =>
        refine fun hs hle => stepG_free [66, 69] [] (by kernel_rfl) rfl ?_
        · intro ac W hT hI hO
          have hle : hs.length ≤ 1 := hle
          have h66 : ac.tmps.getD 66 undef = .bool B65 := hI 66 (by simp)
          have h69 : ac.tmps.getD 69 undef = bif (true && (B65 == true)) then .bool B69 else undef := hI 69 (by simp)
          show Brings Try.prog (fun v w' => Turned (fun _ => False) W w' ∧ v = .bool B70) _
          rw [HB70.out]
          cases hB : B65
          · simp only [hB] at *
            simp [execOp, Act.eval, go_sem, Brings, h66, h69]
            try exact Turned.refl _ _
          · simp only [hB] at *
            simp [execOp, Act.eval, go_sem, Brings, h66, h69]
            try exact Turned.refl _ _
      case s14 =>
        refine fun hs hle => stepG_free [70] [] (by kernel_rfl) rfl ?_
        · intro ac W hT hI hO
          have hle : hs.length ≤ 1 := hle
          have h70 : ac.tmps.getD 70 undef = .bool B70 := hI 70 (by simp)
          show Brings Try.prog (fun v w' => Turned (fun _ => False) W w' ∧ v = .bool B70) _
          simp only [execOp, Act.eval, h70]
          go_simp
          try exact ⟨Turned.refl _ _, rfl⟩
      case s15 =>
        refine fun hs hle => stepG_guard [71] [15] (by kernel_rfl) 14 true 71 rfl rfl (by simp) true B70 (fun _ _ h => h) (fun hc => ?_) (fun hc _ _ => ?_)
        rotate_left
        · refine ⟨Turned.refl _ _, ?_⟩
          show undef = bif (true && (B70 == true)) then _ else undef
          rw [hc]; rfl
        · intro ac W hT hI hO
          have hle : hs.length ≤ 1 := hle
          have h71 : ac.tmps.getD 71 undef = .bool B70 := hI 71 (by simp)
          have h15 : ac.tmps.getD 15 undef = .pointer (some ⟨w7.heap.size, 0, none⟩) := hO 15 (by simp)
          show Brings Try.prog (fun v w' => Turned (fun _ => False) W w' ∧ v = bif (true && (B70 == true)) then .agg #[.int .i64 p.kind, .int .i64 p.n, .string p.name, .slice p.at_.1 p.args.length p.at_.2] else undef) _
          rw [hc, cond_true]
          obtain ⟨⟨⟨⟨a0, a1, a2, a3⟩, ⟨b0, b1, b2, b3⟩⟩, ⟨x0, x1, x2, x3⟩, ⟨y0, y1, y2, y3⟩⟩, ⟨⟨u0, u1, u2, u3⟩, ⟨v0, v1, v2, v3⟩⟩, ⟨p0, p1, p2, p3⟩, ⟨q0, q1, q2, q3⟩⟩ := HKR.out W (TriS.turned hs W hT)
          simp only [execOp, Act.eval, h71, h15]
          go_simp
          exact ⟨Turned.refl _ _, rfl⟩
      case s16 =>
        refine fun hs hlen => stepG_guard [72, 71] [] (by kernel_rfl) 14 true 71 rfl rfl (by simp) true B70 (fun _ _ h => h) (fun hc => ?_) (fun hc _ _ => ?_)
        rotate_left
        · exact absurd hc (by rw [hB70]; decide)
        · intro ac W hT hI hO
          have h72 : ac.tmps.getD 72 undef = bif (true && (B70 == true)) then .agg #[.int .i64 p.kind, .int .i64 p.n, .string p.name, .slice p.at_.1 p.args.length p.at_.2] else undef := hI 72 (by simp)
          rw [hc, cond_true] at h72
          have h71 : ac.tmps.getD 71 undef = .bool B70 := hI 71 (by simp)
          show Brings Try.prog (fun v w' => (TriS wz u p GX nv) (hs ++ [v]) w') _
          obtain ⟨v1, rfl⟩ := List.length_eq_one_iff.1 hlen
          replace hT := TriS.turned _ _ hT
          simp only [execOp, Act.eval, h72, h71]
          go_simp
          show Calls Try.prog 79 _ W _
          (with_reducible refine (HOP.out W hT).mono ?_)
          rintro e w' ⟨s, rfl, hb, hi, T'⟩
          exact ⟨_, rfl, hT.trans T', s, rfl, hb, hi.mono (fun _ _ _ => trivial)⟩
      case s17 =>
        refine fun hs hle => stepG_guard [71] [17] (by kernel_rfl) 14 true 71 rfl rfl (by simp) true B70 (fun _ _ h => h) (fun hc => ?_) (fun hc _ _ => ?_)
        rotate_left
        · refine ⟨Turned.refl _ _, ?_⟩
          show undef = bif (true && (B70 == true)) then _ else undef
          rw [hc]; rfl
        · intro ac W hT hI hO
          have hle : hs.length ≤ 2 := hle
          have h71 : ac.tmps.getD 71 undef = .bool B70 := hI 71 (by simp)
          have h17 : ac.tmps.getD 17 undef = .pointer (some ⟨w8.heap.size, 0, none⟩) := hO 17 (by simp)
          show Brings Try.prog (fun v w' => Turned (fun _ => False) W w' ∧ v = bif (true && (B70 == true)) then .agg #[.int .i64 q.kind, .int .i64 q.n, .string q.name, .slice q.at_.1 q.args.length q.at_.2] else undef) _
          rw [hc, cond_true]
          obtain ⟨⟨⟨⟨a0, a1, a2, a3⟩, ⟨b0, b1, b2, b3⟩⟩, ⟨x0, x1, x2, x3⟩, ⟨y0, y1, y2, y3⟩⟩, ⟨⟨u0, u1, u2, u3⟩, ⟨v0, v1, v2, v3⟩⟩, ⟨p0, p1, p2, p3⟩, ⟨q0, q1, q2, q3⟩⟩ := HKR.out W (TriS.turned hs W hT)
          simp only [execOp, Act.eval, h71, h17]
          go_simp
          exact ⟨Turned.refl _ _, rfl⟩
      case s18 =>
        refine fun hs hle => stepG_guard [73, 74, 71] [] (by kernel_rfl) 14 true 71 rfl rfl (by simp) true B70 (fun _ _ h => h) (fun hc => ?_) (fun hc _ _ => ?_)
        rotate_left
        · refine ⟨Turned.refl _ _, ?_⟩
          show undef = bif (true && (B70 == true)) then _ else undef
          rw [hc]; rfl
        · intro ac W hT hI hO
          have hle : hs.length ≤ 2 := hle
          have h73 : hs[1]? = some (ac.tmps.getD 73 undef) := hI 73 (by simp)
          have h74 : ac.tmps.getD 74 undef = bif (true && (B70 == true)) then .agg #[.int .i64 q.kind, .int .i64 q.n, .string q.name, .slice q.at_.1 q.args.length q.at_.2] else undef := hI 74 (by simp)
          rw [hc, cond_true] at h74
          have h71 : ac.tmps.getD 71 undef = .bool B70 := hI 71 (by simp)
          show Brings Try.prog (fun v w' => Turned (fun _ => False) W w' ∧ v = bif (true && (B70 == true)) then .bool true else undef) _
          rw [hc, cond_true]
          obtain ⟨s, hs0, hsb, hsi⟩ := TriS.at1 hT hle h73
          rw [LT.val_eq] at hs0
          simp only [execOp, Act.eval, hs0, h74]
          go_simp
          show Calls Try.prog 48 _ W _
          have hsm := rSame48 s.depth s q W (Nat.le_refl _) hsi (HIQ.out.turned0 (TriS.turned hs W hT))
          rw [LT.val_eq s, LT.val_eq q, (Tm.same_iff s q).2 (by rw [hsb, HQP.out])] at hsm
          (with_reducible refine hsm.mono ?_)
          rintro e w' ⟨rfl, T'⟩
          exact ⟨_, rfl, T', rfl⟩
      case s19 =>
        refine fun hs hle => stepG_free [71, 75] [] (by kernel_rfl) rfl ?_
        · intro ac W hT hI hO
          have hle : hs.length ≤ 2 := hle
          have h71 : ac.tmps.getD 71 undef = .bool B70 := hI 71 (by simp)
          have h75 : ac.tmps.getD 75 undef = bif (true && (B70 == true)) then .bool true else undef := hI 75 (by simp)
          show Brings Try.prog (fun v w' => Turned (fun _ => False) W w' ∧ v = .bool B76) _
          rw [HB76.out]
          cases hB : B70
          · simp only [hB] at *
            simp [execOp, Act.eval, go_sem, Brings, h71, h75]
            try exact Turned.refl _ _
          · simp only [hB] at *
            simp [execOp, Act.eval, go_sem, Brings, h71, h75]
            try exact Turned.refl _ _
      case s20 =>
        refine fun hs hle => stepG_free [76] [] (by kernel_rfl) rfl ?_
        · intro ac W hT hI hO
          have hle : hs.length ≤ 2 := hle
          have h76 : ac.tmps.getD 76 undef = .bool B76 := hI 76 (by simp)
          show Brings Try.prog (fun v w' => Turned (fun _ => False) W w' ∧ v = .bool B76) _
          simp only [execOp, Act.eval, h76]
          go_simp
          try exact ⟨Turned.refl _ _, rfl⟩
      case s21 =>
        refine fun hs hle => stepG_guard [77] [16] (by kernel_rfl) 20 true 77 rfl rfl (by simp) true B76 (fun _ _ h => h) (fun hc => ?_) (fun hc _ _ => ?_)
        rotate_left
        · refine ⟨Turned.refl _ _, ?_⟩
          show undef = bif (true && (B76 == true)) then _ else undef
          rw [hc]; rfl
        · intro ac W hT hI hO
          have hle : hs.length ≤ 2 := hle
          have h77 : ac.tmps.getD 77 undef = .bool B76 := hI 77 (by simp)
          have h16 : ac.tmps.getD 16 undef = .int .i64 gr' := hO 16 (by simp)
          show Brings Try.prog (fun v w' => Turned (fun _ => False) W w' ∧ v = bif (true && (B76 == true)) then .int .i64 gr' else undef) _
          rw [hc, cond_true]
          simp only [execOp, Act.eval, h77, h16]
          go_simp
          try exact ⟨Turned.refl _ _, rfl⟩
      case s22 =>
        refine fun hs hle => stepG_guard [77] [19] (by kernel_rfl) 20 true 77 rfl rfl (by simp) true B76 (fun _ _ h => h) (fun hc => ?_) (fun hc _ _ => ?_)
        rotate_left
        · refine ⟨Turned.refl _ _, ?_⟩
          show undef = bif (true && (B76 == true)) then _ else undef
          rw [hc]; rfl
        · intro ac W hT hI hO
          have hle : hs.length ≤ 2 := hle
          have h77 : ac.tmps.getD 77 undef = .bool B76 := hI 77 (by simp)
          have h19 : ac.tmps.getD 19 undef = .int .i64 gr' := hO 19 (by simp)
          show Brings Try.prog (fun v w' => Turned (fun _ => False) W w' ∧ v = bif (true && (B76 == true)) then .int .i64 gr' else undef) _
          rw [hc, cond_true]
          simp only [execOp, Act.eval, h77, h19]
          go_simp
          try exact ⟨Turned.refl _ _, rfl⟩
      case s23 =>
        refine fun hs hle => stepG_guard [78, 79, 77] [] (by kernel_rfl) 20 true 77 rfl rfl (by simp) true B76 (fun _ _ h => h) (fun hc => ?_) (fun hc _ _ => ?_)
        rotate_left
        · refine ⟨Turned.refl _ _, ?_⟩
          show undef = bif (true && (B76 == true)) then _ else undef
          rw [hc]; rfl
        · intro ac W hT hI hO
          have hle : hs.length ≤ 2 := hle
          have h78 : ac.tmps.getD 78 undef = bif (true && (B76 == true)) then .int .i64 gr' else undef := hI 78 (by simp)
          rw [hc, cond_true] at h78
          have h79 : ac.tmps.getD 79 undef = bif (true && (B76 == true)) then .int .i64 gr' else undef := hI 79 (by simp)
          rw [hc, cond_true] at h79
          have h77 : ac.tmps.getD 77 undef = .bool B76 := hI 77 (by simp)
          show Brings Try.prog (fun v w' => Turned (fun _ => False) W w' ∧ v = bif (true && (B76 == true)) then .bool B80 else undef) _
          rw [hc, cond_true]
          rw [HB80.out]
          simp only [execOp, Act.eval, h78, h79, h77]
          go_simp
          try exact ⟨Turned.refl _ _, rfl⟩
      case s24 =>
        refine fun hs hle => stepG_free [77, 80] [] (by kernel_rfl) rfl ?_
        · intro ac W hT hI hO
          have hle : hs.length ≤ 2 := hle
          have h77 : ac.tmps.getD 77 undef = .bool B76 := hI 77 (by simp)
          have h80 : ac.tmps.getD 80 undef = bif (true && (B76 == true)) then .bool B80 else undef := hI 80 (by simp)
          show Brings Try.prog (fun v w' => Turned (fun _ => False) W w' ∧ v = .bool B81) _
          rw [HB81.out]
          cases hB : B76
          · simp only [hB] at *
            simp [execOp, Act.eval, go_sem, Brings, h77, h80]
            try exact Turned.refl _ _
          · simp only [hB] at *
            simp [execOp, Act.eval, go_sem, Brings, h77, h80]
            try exact Turned.refl _ _
      case s25 =>
        refine fun hs hle => stepG_free [81] [] (by kernel_rfl) rfl ?_
        · intro ac W hT hI hO
          have hle : hs.length ≤ 2 := hle
          have h81 : ac.tmps.getD 81 undef = .bool B81 := hI 81 (by simp)
          show Brings Try.prog (fun v w' => Turned (fun _ => False) W w' ∧ v = .bool B81) _
          simp only [execOp, Act.eval, h81]
          go_simp
          try exact ⟨Turned.refl _ _, rfl⟩
      case s26 =>
        refine fun hs hle => stepG_guard [82] [3] (by kernel_rfl) 25 true 82 rfl rfl (by simp) true B81 (fun _ _ h => h) (fun hc => ?_) (fun hc _ _ => ?_)
        rotate_left
        · refine ⟨Turned.refl _ _, ?_⟩
          show undef = bif (true && (B81 == true)) then _ else undef
          rw [hc]; rfl
        · intro ac W hT hI hO
          have hle : hs.length ≤ 2 := hle
          have h82 : ac.tmps.getD 82 undef = .bool B81 := hI 82 (by simp)
          have h3 : ac.tmps.getD 3 undef = .pointer (some ⟨w.heap.size, 0, none⟩) := hO 3 (by simp)
          show Brings Try.prog (fun v w' => Turned (fun _ => False) W w' ∧ v = bif (true && (B81 == true)) then .agg #[.int .i64 a.kind, .int .i64 a.n, .string a.name, .slice a.at_.1 a.args.length a.at_.2] else undef) _
          rw [hc, cond_true]
          obtain ⟨⟨⟨⟨a0, a1, a2, a3⟩, ⟨b0, b1, b2, b3⟩⟩, ⟨x0, x1, x2, x3⟩, ⟨y0, y1, y2, y3⟩⟩, ⟨⟨u0, u1, u2, u3⟩, ⟨v0, v1, v2, v3⟩⟩, ⟨p0, p1, p2, p3⟩, ⟨q0, q1, q2, q3⟩⟩ := HKR.out W (TriS.turned hs W hT)
          simp only [execOp, Act.eval, h82, h3]
          go_simp
          exact ⟨Turned.refl _ _, rfl⟩
      case s27 =>
        refine fun hs hle => stepG_guard [82] [4] (by kernel_rfl) 25 true 82 rfl rfl (by simp) true B81 (fun _ _ h => h) (fun hc => ?_) (fun hc _ _ => ?_)
        rotate_left
        · refine ⟨Turned.refl _ _, ?_⟩
          show undef = bif (true && (B81 == true)) then _ else undef
          rw [hc]; rfl
        · intro ac W hT hI hO
          have hle : hs.length ≤ 2 := hle
          have h82 : ac.tmps.getD 82 undef = .bool B81 := hI 82 (by simp)
          have h4 : ac.tmps.getD 4 undef = .pointer (some ⟨(w.heap.size + 1), 0, none⟩) := hO 4 (by simp)
          show Brings Try.prog (fun v w' => Turned (fun _ => False) W w' ∧ v = bif (true && (B81 == true)) then .agg #[.int .i64 b.kind, .int .i64 b.n, .string b.name, .slice b.at_.1 b.args.length b.at_.2] else undef) _
          rw [hc, cond_true]
          obtain ⟨⟨⟨⟨a0, a1, a2, a3⟩, ⟨b0, b1, b2, b3⟩⟩, ⟨x0, x1, x2, x3⟩, ⟨y0, y1, y2, y3⟩⟩, ⟨⟨u0, u1, u2, u3⟩, ⟨v0, v1, v2, v3⟩⟩, ⟨p0, p1, p2, p3⟩, ⟨q0, q1, q2, q3⟩⟩ := HKR.out W (TriS.turned hs W hT)
          simp only [execOp, Act.eval, h82, h4]
          go_simp
          exact ⟨Turned.refl _ _, rfl⟩
      case s28 =>
        refine fun hs hle => stepG_guard [83, 84, 82] [] (by kernel_rfl) 25 true 82 rfl rfl (by simp) true B81 (fun _ _ h => h) (fun hc => ?_) (fun hc _ _ => ?_)
        rotate_left
        · refine ⟨Turned.refl _ _, ?_⟩
          show undef = bif (true && (B81 == true)) then _ else undef
          rw [hc]; rfl
        · intro ac W hT hI hO
          have hle : hs.length ≤ 2 := hle
          have h83 : ac.tmps.getD 83 undef = bif (true && (B81 == true)) then .agg #[.int .i64 a.kind, .int .i64 a.n, .string a.name, .slice a.at_.1 a.args.length a.at_.2] else undef := hI 83 (by simp)
          rw [hc, cond_true] at h83
          have h84 : ac.tmps.getD 84 undef = bif (true && (B81 == true)) then .agg #[.int .i64 b.kind, .int .i64 b.n, .string b.name, .slice b.at_.1 b.args.length b.at_.2] else undef := hI 84 (by simp)
          rw [hc, cond_true] at h84
          have h82 : ac.tmps.getD 82 undef = .bool B81 := hI 82 (by simp)
          show Brings Try.prog (fun v w' => Turned (fun _ => False) W w' ∧ v = bif (true && (B81 == true)) then .bool AB else undef) _
          rw [hc, cond_true]
          simp only [execOp, Act.eval, h83, h84, h82]
          go_simp
          show Calls Try.prog 72 _ W _
          (with_reducible refine (HAB.out W (TriS.turned hs W hT)).mono ?_)
          rintro e w' ⟨rfl, T'⟩
          exact ⟨_, rfl, T', rfl⟩
      case s29 =>
        refine fun hs hle => stepG_guard [82] [7] (by kernel_rfl) 25 true 82 rfl rfl (by simp) true B81 (fun _ _ h => h) (fun hc => ?_) (fun hc _ _ => ?_)
        rotate_left
        · refine ⟨Turned.refl _ _, ?_⟩
          show undef = bif (true && (B81 == true)) then _ else undef
          rw [hc]; rfl
        · intro ac W hT hI hO
          have hle : hs.length ≤ 2 := hle
          have h82 : ac.tmps.getD 82 undef = .bool B81 := hI 82 (by simp)
          have h7 : ac.tmps.getD 7 undef = .pointer (some ⟨gx, 0, none⟩) := hO 7 (by simp)
          show Brings Try.prog (fun v w' => Turned (fun _ => False) W w' ∧ v = bif (true && (B81 == true)) then .agg #[.int .i64 x.kind, .int .i64 x.n, .string x.name, .slice x.at_.1 x.args.length x.at_.2] else undef) _
          rw [hc, cond_true]
          obtain ⟨⟨⟨⟨a0, a1, a2, a3⟩, ⟨b0, b1, b2, b3⟩⟩, ⟨x0, x1, x2, x3⟩, ⟨y0, y1, y2, y3⟩⟩, ⟨⟨u0, u1, u2, u3⟩, ⟨v0, v1, v2, v3⟩⟩, ⟨p0, p1, p2, p3⟩, ⟨q0, q1, q2, q3⟩⟩ := HKR.out W (TriS.turned hs W hT)
          simp only [execOp, Act.eval, h82, h7]
          go_simp
          exact ⟨Turned.refl _ _, rfl⟩
      case s30 =>
        refine fun hs hle => stepG_guard [82] [8] (by kernel_rfl) 25 true 82 rfl rfl (by simp) true B81 (fun _ _ h => h) (fun hc => ?_) (fun hc _ _ => ?_)
        rotate_left
        · refine ⟨Turned.refl _ _, ?_⟩
          show undef = bif (true && (B81 == true)) then _ else undef
          rw [hc]; rfl
        · intro ac W hT hI hO
          have hle : hs.length ≤ 2 := hle
          have h82 : ac.tmps.getD 82 undef = .bool B81 := hI 82 (by simp)
          have h8 : ac.tmps.getD 8 undef = .pointer (some ⟨gy, 0, none⟩) := hO 8 (by simp)
          show Brings Try.prog (fun v w' => Turned (fun _ => False) W w' ∧ v = bif (true && (B81 == true)) then .agg #[.int .i64 y.kind, .int .i64 y.n, .string y.name, .slice y.at_.1 y.args.length y.at_.2] else undef) _
          rw [hc, cond_true]
          obtain ⟨⟨⟨⟨a0, a1, a2, a3⟩, ⟨b0, b1, b2, b3⟩⟩, ⟨x0, x1, x2, x3⟩, ⟨y0, y1, y2, y3⟩⟩, ⟨⟨u0, u1, u2, u3⟩, ⟨v0, v1, v2, v3⟩⟩, ⟨p0, p1, p2, p3⟩, ⟨q0, q1, q2, q3⟩⟩ := HKR.out W (TriS.turned hs W hT)
          simp only [execOp, Act.eval, h82, h8]
          go_simp
          exact ⟨Turned.refl _ _, rfl⟩
      case s31 =>
        refine fun hs hle => stepG_guard [86, 87, 82] [] (by kernel_rfl) 25 true 82 rfl rfl (by simp) true B81 (fun _ _ h => h) (fun hc => ?_) (fun hc _ _ => ?_)
        rotate_left
        · refine ⟨Turned.refl _ _, ?_⟩
          show undef = bif (true && (B81 == true)) then _ else undef
          rw [hc]; rfl
        · intro ac W hT hI hO
          have hle : hs.length ≤ 2 := hle
          have h86 : ac.tmps.getD 86 undef = bif (true && (B81 == true)) then .agg #[.int .i64 x.kind, .int .i64 x.n, .string x.name, .slice x.at_.1 x.args.length x.at_.2] else undef := hI 86 (by simp)
          rw [hc, cond_true] at h86
          have h87 : ac.tmps.getD 87 undef = bif (true && (B81 == true)) then .agg #[.int .i64 y.kind, .int .i64 y.n, .string y.name, .slice y.at_.1 y.args.length y.at_.2] else undef := hI 87 (by simp)
          rw [hc, cond_true] at h87
          have h82 : ac.tmps.getD 82 undef = .bool B81 := hI 82 (by simp)
          show Brings Try.prog (fun v w' => Turned (fun _ => False) W w' ∧ v = bif (true && (B81 == true)) then .bool AB else undef) _
          rw [hc, cond_true]
          simp only [execOp, Act.eval, h86, h87, h82]
          go_simp
          show Calls Try.prog 82 _ W _
          (with_reducible refine (HRAB.out W (TriS.turned hs W hT)).mono ?_)
          rintro e w' ⟨rfl, T'⟩
          exact ⟨_, rfl, T', rfl⟩
      case s32 =>
        refine fun hs hle => stepG_guard [85, 88, 82] [] (by kernel_rfl) 25 true 82 rfl rfl (by simp) true B81 (fun _ _ h => h) (fun hc => ?_) (fun hc _ _ => ?_)
        rotate_left
        · refine ⟨Turned.refl _ _, ?_⟩
          show undef = bif (true && (B81 == true)) then _ else undef
          rw [hc]; rfl
        · intro ac W hT hI hO
          have hle : hs.length ≤ 2 := hle
          have h85 : ac.tmps.getD 85 undef = bif (true && (B81 == true)) then .bool AB else undef := hI 85 (by simp)
          rw [hc, cond_true] at h85
          have h88 : ac.tmps.getD 88 undef = bif (true && (B81 == true)) then .bool AB else undef := hI 88 (by simp)
          rw [hc, cond_true] at h88
          have h82 : ac.tmps.getD 82 undef = .bool B81 := hI 82 (by simp)
          show Brings Try.prog (fun v w' => Turned (fun _ => False) W w' ∧ v = bif (true && (B81 == true)) then .bool B89 else undef) _
          rw [hc, cond_true]
          rw [HB89.out]
          simp only [execOp, Act.eval, h85, h88, h82]
          go_simp
          try exact ⟨Turned.refl _ _, rfl⟩
      case s33 =>
        refine fun hs hle => stepG_free [82, 89] [] (by kernel_rfl) rfl ?_
        · intro ac W hT hI hO
          have hle : hs.length ≤ 2 := hle
          have h82 : ac.tmps.getD 82 undef = .bool B81 := hI 82 (by simp)
          have h89 : ac.tmps.getD 89 undef = bif (true && (B81 == true)) then .bool B89 else undef := hI 89 (by simp)
          show Brings Try.prog (fun v w' => Turned (fun _ => False) W w' ∧ v = .bool B90) _
          rw [HB90.out]
          cases hB : B81
          · simp only [hB] at *
            simp [execOp, Act.eval, go_sem, Brings, h82, h89]
            try exact Turned.refl _ _
          · simp only [hB] at *
            simp [execOp, Act.eval, go_sem, Brings, h82, h89]
            try exact Turned.refl _ _
      case s34 =>
        refine fun hs hle => stepG_free [90] [] (by kernel_rfl) rfl ?_
        · intro ac W hT hI hO
          have hle : hs.length ≤ 2 := hle
          have h90 : ac.tmps.getD 90 undef = .bool B90 := hI 90 (by simp)
          show Brings Try.prog (fun v w' => Turned (fun _ => False) W w' ∧ v = .bool B90) _
          simp only [execOp, Act.eval, h90]
          go_simp
          try exact ⟨Turned.refl _ _, rfl⟩
      case s35 =>
        refine fun hs hle => stepG_guard [91] [3] (by kernel_rfl) 34 true 91 rfl rfl (by simp) true B90 (fun _ _ h => h) (fun hc => ?_) (fun hc _ _ => ?_)
        rotate_left
        · refine ⟨Turned.refl _ _, ?_⟩
          show undef = bif (true && (B90 == true)) then _ else undef
          rw [hc]; rfl
        · intro ac W hT hI hO
          have hle : hs.length ≤ 2 := hle
          have h91 : ac.tmps.getD 91 undef = .bool B90 := hI 91 (by simp)
          have h3 : ac.tmps.getD 3 undef = .pointer (some ⟨w.heap.size, 0, none⟩) := hO 3 (by simp)
          show Brings Try.prog (fun v w' => Turned (fun _ => False) W w' ∧ v = bif (true && (B90 == true)) then .agg #[.int .i64 a.kind, .int .i64 a.n, .string a.name, .slice a.at_.1 a.args.length a.at_.2] else undef) _
          rw [hc, cond_true]
          obtain ⟨⟨⟨⟨a0, a1, a2, a3⟩, ⟨b0, b1, b2, b3⟩⟩, ⟨x0, x1, x2, x3⟩, ⟨y0, y1, y2, y3⟩⟩, ⟨⟨u0, u1, u2, u3⟩, ⟨v0, v1, v2, v3⟩⟩, ⟨p0, p1, p2, p3⟩, ⟨q0, q1, q2, q3⟩⟩ := HKR.out W (TriS.turned hs W hT)
          simp only [execOp, Act.eval, h91, h3]
          go_simp
          exact ⟨Turned.refl _ _, rfl⟩
      case s36 =>
        refine fun hs hle => stepG_guard [91] [4] (by kernel_rfl) 34 true 91 rfl rfl (by simp) true B90 (fun _ _ h => h) (fun hc => ?_) (fun hc _ _ => ?_)
        rotate_left
        · refine ⟨Turned.refl _ _, ?_⟩
          show undef = bif (true && (B90 == true)) then _ else undef
          rw [hc]; rfl
        · intro ac W hT hI hO
          have hle : hs.length ≤ 2 := hle
          have h91 : ac.tmps.getD 91 undef = .bool B90 := hI 91 (by simp)
          have h4 : ac.tmps.getD 4 undef = .pointer (some ⟨(w.heap.size + 1), 0, none⟩) := hO 4 (by simp)
          show Brings Try.prog (fun v w' => Turned (fun _ => False) W w' ∧ v = bif (true && (B90 == true)) then .agg #[.int .i64 b.kind, .int .i64 b.n, .string b.name, .slice b.at_.1 b.args.length b.at_.2] else undef) _
          rw [hc, cond_true]
          obtain ⟨⟨⟨⟨a0, a1, a2, a3⟩, ⟨b0, b1, b2, b3⟩⟩, ⟨x0, x1, x2, x3⟩, ⟨y0, y1, y2, y3⟩⟩, ⟨⟨u0, u1, u2, u3⟩, ⟨v0, v1, v2, v3⟩⟩, ⟨p0, p1, p2, p3⟩, ⟨q0, q1, q2, q3⟩⟩ := HKR.out W (TriS.turned hs W hT)
          simp only [execOp, Act.eval, h91, h4]
          go_simp
          exact ⟨Turned.refl _ _, rfl⟩
      case s37 =>
        refine fun hs hle => stepG_guard [92, 93, 91] [] (by kernel_rfl) 34 true 91 rfl rfl (by simp) true B90 (fun _ _ h => h) (fun hc => ?_) (fun hc _ _ => ?_)
        rotate_left
        · refine ⟨Turned.refl _ _, ?_⟩
          show undef = bif (true && (B90 == true)) then _ else undef
          rw [hc]; rfl
        · intro ac W hT hI hO
          have hle : hs.length ≤ 2 := hle
          have h92 : ac.tmps.getD 92 undef = bif (true && (B90 == true)) then .agg #[.int .i64 a.kind, .int .i64 a.n, .string a.name, .slice a.at_.1 a.args.length a.at_.2] else undef := hI 92 (by simp)
          rw [hc, cond_true] at h92
          have h93 : ac.tmps.getD 93 undef = bif (true && (B90 == true)) then .agg #[.int .i64 b.kind, .int .i64 b.n, .string b.name, .slice b.at_.1 b.args.length b.at_.2] else undef := hI 93 (by simp)
          rw [hc, cond_true] at h93
          have h91 : ac.tmps.getD 91 undef = .bool B90 := hI 91 (by simp)
          show Brings Try.prog (fun v w' => Turned (fun _ => False) W w' ∧ v = bif (true && (B90 == true)) then .bool MB else undef) _
          rw [hc, cond_true]
          simp only [execOp, Act.eval, h92, h93, h91]
          go_simp
          show Calls Try.prog 78 _ W _
          (with_reducible refine (HMO.out W (TriS.turned hs W hT)).mono ?_)
          rintro e w' ⟨rfl, T'⟩
          exact ⟨_, rfl, T', rfl⟩
      case s38 =>
        refine fun hs hle => stepG_guard [91] [7] (by kernel_rfl) 34 true 91 rfl rfl (by simp) true B90 (fun _ _ h => h) (fun hc => ?_) (fun hc _ _ => ?_)
        rotate_left
        · refine ⟨Turned.refl _ _, ?_⟩
          show undef = bif (true && (B90 == true)) then _ else undef
          rw [hc]; rfl
        · intro ac W hT hI hO
          have hle : hs.length ≤ 2 := hle
          have h91 : ac.tmps.getD 91 undef = .bool B90 := hI 91 (by simp)
          have h7 : ac.tmps.getD 7 undef = .pointer (some ⟨gx, 0, none⟩) := hO 7 (by simp)
          show Brings Try.prog (fun v w' => Turned (fun _ => False) W w' ∧ v = bif (true && (B90 == true)) then .agg #[.int .i64 x.kind, .int .i64 x.n, .string x.name, .slice x.at_.1 x.args.length x.at_.2] else undef) _
          rw [hc, cond_true]
          obtain ⟨⟨⟨⟨a0, a1, a2, a3⟩, ⟨b0, b1, b2, b3⟩⟩, ⟨x0, x1, x2, x3⟩, ⟨y0, y1, y2, y3⟩⟩, ⟨⟨u0, u1, u2, u3⟩, ⟨v0, v1, v2, v3⟩⟩, ⟨p0, p1, p2, p3⟩, ⟨q0, q1, q2, q3⟩⟩ := HKR.out W (TriS.turned hs W hT)
          simp only [execOp, Act.eval, h91, h7]
          go_simp
          exact ⟨Turned.refl _ _, rfl⟩
      case s39 =>
        refine fun hs hle => stepG_guard [91] [8] (by kernel_rfl) 34 true 91 rfl rfl (by simp) true B90 (fun _ _ h => h) (fun hc => ?_) (fun hc _ _ => ?_)
        rotate_left
        · refine ⟨Turned.refl _ _, ?_⟩
          show undef = bif (true && (B90 == true)) then _ else undef
          rw [hc]; rfl
        · intro ac W hT hI hO
          have hle : hs.length ≤ 2 := hle
          have h91 : ac.tmps.getD 91 undef = .bool B90 := hI 91 (by simp)
          have h8 : ac.tmps.getD 8 undef = .pointer (some ⟨gy, 0, none⟩) := hO 8 (by simp)
          show Brings Try.prog (fun v w' => Turned (fun _ => False) W w' ∧ v = bif (true && (B90 == true)) then .agg #[.int .i64 y.kind, .int .i64 y.n, .string y.name, .slice y.at_.1 y.args.length y.at_.2] else undef) _
          rw [hc, cond_true]
          obtain ⟨⟨⟨⟨a0, a1, a2, a3⟩, ⟨b0, b1, b2, b3⟩⟩, ⟨x0, x1, x2, x3⟩, ⟨y0, y1, y2, y3⟩⟩, ⟨⟨u0, u1, u2, u3⟩, ⟨v0, v1, v2, v3⟩⟩, ⟨p0, p1, p2, p3⟩, ⟨q0, q1, q2, q3⟩⟩ := HKR.out W (TriS.turned hs W hT)
          simp only [execOp, Act.eval, h91, h8]
          go_simp
          exact ⟨Turned.refl _ _, rfl⟩
      case s40 =>
        refine fun hs hle => stepG_guard [95, 96, 91] [] (by kernel_rfl) 34 true 91 rfl rfl (by simp) true B90 (fun _ _ h => h) (fun hc => ?_) (fun hc _ _ => ?_)
        rotate_left
        · refine ⟨Turned.refl _ _, ?_⟩
          show undef = bif (true && (B90 == true)) then _ else undef
          rw [hc]; rfl
        · intro ac W hT hI hO
          have hle : hs.length ≤ 2 := hle
          have h95 : ac.tmps.getD 95 undef = bif (true && (B90 == true)) then .agg #[.int .i64 x.kind, .int .i64 x.n, .string x.name, .slice x.at_.1 x.args.length x.at_.2] else undef := hI 95 (by simp)
          rw [hc, cond_true] at h95
          have h96 : ac.tmps.getD 96 undef = bif (true && (B90 == true)) then .agg #[.int .i64 y.kind, .int .i64 y.n, .string y.name, .slice y.at_.1 y.args.length y.at_.2] else undef := hI 96 (by simp)
          rw [hc, cond_true] at h96
          have h91 : ac.tmps.getD 91 undef = .bool B90 := hI 91 (by simp)
          show Brings Try.prog (fun v w' => Turned (fun _ => False) W w' ∧ v = bif (true && (B90 == true)) then .bool MB else undef) _
          rw [hc, cond_true]
          simp only [execOp, Act.eval, h95, h96, h91]
          go_simp
          show Calls Try.prog 83 _ W _
          (with_reducible refine (HRMO.out W (TriS.turned hs W hT)).mono ?_)
          rintro e w' ⟨rfl, T'⟩
          exact ⟨_, rfl, T', rfl⟩
      case s41 =>
        refine fun hs hle => stepG_guard [94, 97, 91] [] (by kernel_rfl) 34 true 91 rfl rfl (by simp) true B90 (fun _ _ h => h) (fun hc => ?_) (fun hc _ _ => ?_)
        rotate_left
        · refine ⟨Turned.refl _ _, ?_⟩
          show undef = bif (true && (B90 == true)) then _ else undef
          rw [hc]; rfl
        · intro ac W hT hI hO
          have hle : hs.length ≤ 2 := hle
          have h94 : ac.tmps.getD 94 undef = bif (true && (B90 == true)) then .bool MB else undef := hI 94 (by simp)
          rw [hc, cond_true] at h94
          have h97 : ac.tmps.getD 97 undef = bif (true && (B90 == true)) then .bool MB else undef := hI 97 (by simp)
          rw [hc, cond_true] at h97
          have h91 : ac.tmps.getD 91 undef = .bool B90 := hI 91 (by simp)
          show Brings Try.prog (fun v w' => Turned (fun _ => False) W w' ∧ v = bif (true && (B90 == true)) then .bool B98 else undef) _
          rw [hc, cond_true]
          rw [HB98.out]
          simp only [execOp, Act.eval, h94, h97, h91]
          go_simp
          try exact ⟨Turned.refl _ _, rfl⟩
      case s42 =>
        refine fun hs hle => stepG_free [91, 98] [] (by kernel_rfl) rfl ?_
        · intro ac W hT hI hO
          have hle : hs.length ≤ 2 := hle
          have h91 : ac.tmps.getD 91 undef = .bool B90 := hI 91 (by simp)
          have h98 : ac.tmps.getD 98 undef = bif (true && (B90 == true)) then .bool B98 else undef := hI 98 (by simp)
          show Brings Try.prog (fun v w' => Turned (fun _ => False) W w' ∧ v = .bool B99) _
          rw [HB99.out]
          cases hB : B90
          · simp only [hB] at *
            simp [execOp, Act.eval, go_sem, Brings, h91, h98]
            try exact Turned.refl _ _
          · simp only [hB] at *
            simp [execOp, Act.eval, go_sem, Brings, h91, h98]
            try exact Turned.refl _ _
      case s43 =>
        refine fun hs hle => stepG_free [99] [] (by kernel_rfl) rfl ?_
        · intro ac W hT hI hO
          have hle : hs.length ≤ 2 := hle
          have h99 : ac.tmps.getD 99 undef = .bool B99 := hI 99 (by simp)
          show Brings Try.prog (fun v w' => Turned (fun _ => False) W w' ∧ v = .bool B99) _
          simp only [execOp, Act.eval, h99]
          go_simp
          try exact ⟨Turned.refl _ _, rfl⟩
      case s44 =>
        refine fun hs hle => stepG_guard [100] [3] (by kernel_rfl) 43 true 100 rfl rfl (by simp) true B99 (fun _ _ h => h) (fun hc => ?_) (fun hc _ _ => ?_)
        rotate_left
        · refine ⟨Turned.refl _ _, ?_⟩
          show undef = bif (true && (B99 == true)) then _ else undef
          rw [hc]; rfl
        · intro ac W hT hI hO
          have hle : hs.length ≤ 2 := hle
          have h100 : ac.tmps.getD 100 undef = .bool B99 := hI 100 (by simp)
          have h3 : ac.tmps.getD 3 undef = .pointer (some ⟨w.heap.size, 0, none⟩) := hO 3 (by simp)
          show Brings Try.prog (fun v w' => Turned (fun _ => False) W w' ∧ v = bif (true && (B99 == true)) then .agg #[.int .i64 a.kind, .int .i64 a.n, .string a.name, .slice a.at_.1 a.args.length a.at_.2] else undef) _
          rw [hc, cond_true]
          obtain ⟨⟨⟨⟨a0, a1, a2, a3⟩, ⟨b0, b1, b2, b3⟩⟩, ⟨x0, x1, x2, x3⟩, ⟨y0, y1, y2, y3⟩⟩, ⟨⟨u0, u1, u2, u3⟩, ⟨v0, v1, v2, v3⟩⟩, ⟨p0, p1, p2, p3⟩, ⟨q0, q1, q2, q3⟩⟩ := HKR.out W (TriS.turned hs W hT)
          simp only [execOp, Act.eval, h100, h3]
          go_simp
          exact ⟨Turned.refl _ _, rfl⟩
      case s45 =>
        refine fun hs hle => stepG_guard [101, 100] [] (by kernel_rfl) 43 true 100 rfl rfl (by simp) true B99 (fun _ _ h => h) (fun hc => ?_) (fun hc _ _ => ?_)
        rotate_left
        · refine ⟨Turned.refl _ _, ?_⟩
          show undef = bif (true && (B99 == true)) then _ else undef
          rw [hc]; rfl
        · intro ac W hT hI hO
          have hle : hs.length ≤ 2 := hle
          have h101 : ac.tmps.getD 101 undef = bif (true && (B99 == true)) then .agg #[.int .i64 a.kind, .int .i64 a.n, .string a.name, .slice a.at_.1 a.args.length a.at_.2] else undef := hI 101 (by simp)
          rw [hc, cond_true] at h101
          have h100 : ac.tmps.getD 100 undef = .bool B99 := hI 100 (by simp)
          show Brings Try.prog (fun v w' => Turned (fun _ => False) W w' ∧ v = bif (true && (B99 == true)) then .bool GR else undef) _
          rw [hc, cond_true]
          simp only [execOp, Act.eval, h101, h100]
          go_simp
          show Calls Try.prog 73 _ W _
          (with_reducible refine (HGR.out W (TriS.turned hs W hT)).mono ?_)
          rintro e w' ⟨rfl, T'⟩
          exact ⟨_, rfl, T', rfl⟩
      case s46 =>
        refine fun hs hle => stepG_guard [100] [7] (by kernel_rfl) 43 true 100 rfl rfl (by simp) true B99 (fun _ _ h => h) (fun hc => ?_) (fun hc _ _ => ?_)
        rotate_left
        · refine ⟨Turned.refl _ _, ?_⟩
          show undef = bif (true && (B99 == true)) then _ else undef
          rw [hc]; rfl
        · intro ac W hT hI hO
          have hle : hs.length ≤ 2 := hle
          have h100 : ac.tmps.getD 100 undef = .bool B99 := hI 100 (by simp)
          have h7 : ac.tmps.getD 7 undef = .pointer (some ⟨gx, 0, none⟩) := hO 7 (by simp)
          show Brings Try.prog (fun v w' => Turned (fun _ => False) W w' ∧ v = bif (true && (B99 == true)) then .agg #[.int .i64 x.kind, .int .i64 x.n, .string x.name, .slice x.at_.1 x.args.length x.at_.2] else undef) _
          rw [hc, cond_true]
          obtain ⟨⟨⟨⟨a0, a1, a2, a3⟩, ⟨b0, b1, b2, b3⟩⟩, ⟨x0, x1, x2, x3⟩, ⟨y0, y1, y2, y3⟩⟩, ⟨⟨u0, u1, u2, u3⟩, ⟨v0, v1, v2, v3⟩⟩, ⟨p0, p1, p2, p3⟩, ⟨q0, q1, q2, q3⟩⟩ := HKR.out W (TriS.turned hs W hT)
          simp only [execOp, Act.eval, h100, h7]
          go_simp
          exact ⟨Turned.refl _ _, rfl⟩
      case s47 =>
        refine fun hs hle => stepG_guard [103, 100] [] (by kernel_rfl) 43 true 100 rfl rfl (by simp) true B99 (fun _ _ h => h) (fun hc => ?_) (fun hc _ _ => ?_)
        rotate_left
        · refine ⟨Turned.refl _ _, ?_⟩
          show undef = bif (true && (B99 == true)) then _ else undef
          rw [hc]; rfl
        · intro ac W hT hI hO
          have hle : hs.length ≤ 2 := hle
          have h103 : ac.tmps.getD 103 undef = bif (true && (B99 == true)) then .agg #[.int .i64 x.kind, .int .i64 x.n, .string x.name, .slice x.at_.1 x.args.length x.at_.2] else undef := hI 103 (by simp)
          rw [hc, cond_true] at h103
          have h100 : ac.tmps.getD 100 undef = .bool B99 := hI 100 (by simp)
          show Brings Try.prog (fun v w' => Turned (fun _ => False) W w' ∧ v = bif (true && (B99 == true)) then .bool GX else undef) _
          rw [hc, cond_true]
          simp only [execOp, Act.eval, h103, h100]
          go_simp
          show Calls Try.prog 45 _ W _
          (with_reducible refine (HRG.out W (TriS.turned hs W hT)).mono ?_)
          rintro e w' ⟨rfl, T'⟩
          exact ⟨_, rfl, T', rfl⟩
      case s48 =>
        refine fun hs hle => stepG_guard [104, 100] [] (by kernel_rfl) 43 true 100 rfl rfl (by simp) true B99 (fun _ _ h => h) (fun hc => ?_) (fun hc _ _ => ?_)
        rotate_left
        · refine ⟨Turned.refl _ _, ?_⟩
          show undef = bif (true && (B99 == true)) then _ else undef
          rw [hc]; rfl
        · intro ac W hT hI hO
          have hle : hs.length ≤ 2 := hle
          have h104 : ac.tmps.getD 104 undef = bif (true && (B99 == true)) then .bool GX else undef := hI 104 (by simp)
          rw [hc, cond_true] at h104
          have h100 : ac.tmps.getD 100 undef = .bool B99 := hI 100 (by simp)
          show Brings Try.prog (fun v w' => Turned (fun _ => False) W w' ∧ v = bif (true && (B99 == true)) then .bool GX else undef) _
          rw [hc, cond_true]
          simp only [execOp, Act.eval, h104, h100]
          go_simp
          try exact ⟨Turned.refl _ _, rfl⟩
      case s49 =>
        refine fun hs hle => stepG_guard [105] [7] (by kernel_rfl) 48 true 105 rfl rfl (by simp) (true && (B99 == true)) GX (fun _ _ h => h) (fun hc => ?_) (fun hc _ _ => ?_)
        rotate_left
        · refine ⟨Turned.refl _ _, ?_⟩
          show undef = bif ((true && (B99 == true)) && (GX == true)) then _ else undef
          rw [hc]; rfl
        · intro ac W hT hI hO
          have hle : hs.length ≤ 2 := hle
          have h105 : ac.tmps.getD 105 undef = bif (true && (B99 == true)) then .bool GX else undef := hI 105 (by simp)
          rw [show (true && (B99 == true)) = true from by simp only [Bool.and_eq_true] at hc ⊢; simp [hc]] at h105
          have h7 : ac.tmps.getD 7 undef = .pointer (some ⟨gx, 0, none⟩) := hO 7 (by simp)
          show Brings Try.prog (fun v w' => Turned (fun _ => False) W w' ∧ v = bif ((true && (B99 == true)) && (GX == true)) then .agg #[.int .i64 x.kind, .int .i64 x.n, .string x.name, .slice x.at_.1 x.args.length x.at_.2] else undef) _
          rw [hc, cond_true]
          obtain ⟨⟨⟨⟨a0, a1, a2, a3⟩, ⟨b0, b1, b2, b3⟩⟩, ⟨x0, x1, x2, x3⟩, ⟨y0, y1, y2, y3⟩⟩, ⟨⟨u0, u1, u2, u3⟩, ⟨v0, v1, v2, v3⟩⟩, ⟨p0, p1, p2, p3⟩, ⟨q0, q1, q2, q3⟩⟩ := HKR.out W (TriS.turned hs W hT)
          simp only [execOp, Act.eval, h105, h7]
          go_simp
          exact ⟨Turned.refl _ _, rfl⟩
      case s50 =>
        refine fun hs hlen => stepG_guard [106, 105] [] (by kernel_rfl) 48 true 105 rfl rfl (by simp) (true && (B99 == true)) GX (fun _ _ h => h) (fun hc => ?_) (fun hc _ _ => ?_)
        rotate_left
        · rename_i Wq hTq; obtain ⟨v1, v2, rfl⟩ := list2' hlen; exact ⟨TriS.turned _ _ hTq, fun hg => absurd hc (by rw [hB99, hg]; decide)⟩
        · intro ac W hT hI hO
          have h106 : ac.tmps.getD 106 undef = bif ((true && (B99 == true)) && (GX == true)) then .agg #[.int .i64 x.kind, .int .i64 x.n, .string x.name, .slice x.at_.1 x.args.length x.at_.2] else undef := hI 106 (by simp)
          rw [hc, cond_true] at h106
          have h105 : ac.tmps.getD 105 undef = bif (true && (B99 == true)) then .bool GX else undef := hI 105 (by simp)
          rw [show (true && (B99 == true)) = true from by simp only [Bool.and_eq_true] at hc ⊢; simp [hc]] at h105
          show Brings Try.prog (fun v w' => (TriS wz u p GX nv) (hs ++ [v]) w') _
          obtain ⟨v1, v2, rfl⟩ := list2' hlen
          replace hT := TriS.turned _ _ hT
          simp only [execOp, Act.eval, h106, h105]
          go_simp
          show Calls Try.prog 51 _ W _
          (with_reducible refine (HRV.out W hT).mono ?_)
          rintro e w' ⟨v, rfl, hrow, hown, T'⟩
          obtain ⟨va, vc, rfl⟩ := hrow.shape
          exact ⟨_, rfl, hT.trans T', fun _ => ⟨_, _, rfl⟩⟩
      case s51 =>
        refine fun hs hle => stepG_guard [107, 105] [] (by kernel_rfl) 48 true 105 rfl rfl (by simp) (true && (B99 == true)) GX (fun _ _ h => h) (fun hc => ?_) (fun hc _ _ => ?_)
        rotate_left
        · refine ⟨Turned.refl _ _, ?_⟩
          show undef = bif ((true && (B99 == true)) && (GX == true)) then _ else undef
          rw [hc]; rfl
        · intro ac W hT hI hO
          have hle : hs.length ≤ 3 := hle
          have h107 : hs[2]? = some (ac.tmps.getD 107 undef) := hI 107 (by simp)
          have h105 : ac.tmps.getD 105 undef = bif (true && (B99 == true)) then .bool GX else undef := hI 105 (by simp)
          rw [show (true && (B99 == true)) = true from by simp only [Bool.and_eq_true] at hc ⊢; simp [hc]] at h105
          show Brings Try.prog (fun v w' => Turned (fun _ => False) W w' ∧ v = bif ((true && (B99 == true)) && (GX == true)) then .int .i64 (nv : Int) else undef) _
          rw [hc, cond_true]
          have hgx : GX = true := by revert hc; cases GX <;> simp
          obtain ⟨va, vc, e3⟩ := TriS.at2 hT h107 hgx
          simp only [execOp, Act.eval, e3]
          go_simp
          exact ⟨Turned.refl _ _, rfl⟩
      case s52 =>
        refine fun hs hle => stepG_guard [108, 105] [] (by kernel_rfl) 48 true 105 rfl rfl (by simp) (true && (B99 == true)) GX (fun _ _ h => h) (fun hc => ?_) (fun hc _ _ => ?_)
        rotate_left
        · refine ⟨Turned.refl _ _, ?_⟩
          show undef = bif ((true && (B99 == true)) && (GX == true)) then _ else undef
          rw [hc]; rfl
        · intro ac W hT hI hO
          have hle : hs.length ≤ 3 := hle
          have h108 : ac.tmps.getD 108 undef = bif ((true && (B99 == true)) && (GX == true)) then .int .i64 (nv : Int) else undef := hI 108 (by simp)
          rw [hc, cond_true] at h108
          have h105 : ac.tmps.getD 105 undef = bif (true && (B99 == true)) then .bool GX else undef := hI 105 (by simp)
          rw [show (true && (B99 == true)) = true from by simp only [Bool.and_eq_true] at hc ⊢; simp [hc]] at h105
          show Brings Try.prog (fun v w' => Turned (fun _ => False) W w' ∧ v = bif ((true && (B99 == true)) && (GX == true)) then .bool B109 else undef) _
          rw [hc, cond_true]
          rw [HB109.out]
          simp only [execOp, Act.eval, h108, h105]
          go_simp
          try exact ⟨Turned.refl _ _, rfl⟩
      case s53 =>
        refine fun hs hle => stepG_guard [105, 109, 100] [] (by kernel_rfl) 43 true 100 rfl rfl (by simp) true B99 (fun _ _ h => h) (fun hc => ?_) (fun hc _ _ => ?_)
        rotate_left
        · refine ⟨Turned.refl _ _, ?_⟩
          show undef = bif (true && (B99 == true)) then _ else undef
          rw [hc]; rfl
        · intro ac W hT hI hO
          have hle : hs.length ≤ 3 := hle
          have h105 : ac.tmps.getD 105 undef = bif (true && (B99 == true)) then .bool GX else undef := hI 105 (by simp)
          rw [hc, cond_true] at h105
          have h109 : ac.tmps.getD 109 undef = bif ((true && (B99 == true)) && (GX == true)) then .bool B109 else undef := hI 109 (by simp)
          have h100 : ac.tmps.getD 100 undef = .bool B99 := hI 100 (by simp)
          show Brings Try.prog (fun v w' => Turned (fun _ => False) W w' ∧ v = bif (true && (B99 == true)) then .bool B110 else undef) _
          rw [hc, cond_true]
          rw [HB110.out]
          simp only [Bool.true_and, Bool.and_eq_true, beq_iff_eq] at hc
          cases hB : GX
          · simp only [hB] at *
            simp [execOp, Act.eval, go_sem, Brings, h105, h109, h100, hc]
            try exact Turned.refl _ _
          · simp only [hB] at *
            simp [execOp, Act.eval, go_sem, Brings, h105, h109, h100, hc]
            try exact Turned.refl _ _
      case s54 =>
        refine fun hs hle => stepG_guard [102, 110, 100] [] (by kernel_rfl) 43 true 100 rfl rfl (by simp) true B99 (fun _ _ h => h) (fun hc => ?_) (fun hc _ _ => ?_)
        rotate_left
        · refine ⟨Turned.refl _ _, ?_⟩
          show undef = bif (true && (B99 == true)) then _ else undef
          rw [hc]; rfl
        · intro ac W hT hI hO
          have hle : hs.length ≤ 3 := hle
          have h102 : ac.tmps.getD 102 undef = bif (true && (B99 == true)) then .bool GR else undef := hI 102 (by simp)
          rw [hc, cond_true] at h102
          have h110 : ac.tmps.getD 110 undef = bif (true && (B99 == true)) then .bool B110 else undef := hI 110 (by simp)
          rw [hc, cond_true] at h110
          have h100 : ac.tmps.getD 100 undef = .bool B99 := hI 100 (by simp)
          show Brings Try.prog (fun v w' => Turned (fun _ => False) W w' ∧ v = bif (true && (B99 == true)) then .bool B111 else undef) _
          rw [hc, cond_true]
          rw [HB111.out]
          simp only [execOp, Act.eval, h102, h110, h100]
          go_simp
          try exact ⟨Turned.refl _ _, rfl⟩
      case s55 =>
        refine fun hs hle => stepG_free [100, 111] [] (by kernel_rfl) rfl ?_
        · intro ac W hT hI hO
          have hle : hs.length ≤ 3 := hle
          have h100 : ac.tmps.getD 100 undef = .bool B99 := hI 100 (by simp)
          have h111 : ac.tmps.getD 111 undef = bif (true && (B99 == true)) then .bool B111 else undef := hI 111 (by simp)
          show Brings Try.prog (fun v w' => Turned (fun _ => False) W w' ∧ v = .bool B112) _
          rw [HB112.out]
          cases hB : B99
          · simp only [hB] at *
            simp [execOp, Act.eval, go_sem, Brings, h100, h111]
            try exact Turned.refl _ _
          · simp only [hB] at *
            simp [execOp, Act.eval, go_sem, Brings, h100, h111]
            try exact Turned.refl _ _
      case s56 =>
        refine fun hs hle => stepG_free [112] [] (by kernel_rfl) rfl ?_
        · intro ac W hT hI hO
          have hle : hs.length ≤ 3 := hle
          have h112 : ac.tmps.getD 112 undef = .bool B112 := hI 112 (by simp)
          show Brings Try.prog (fun v w' => Turned (fun _ => False) W w' ∧ v = .bool B112) _
          simp only [execOp, Act.eval, h112]
          go_simp
          try exact ⟨Turned.refl _ _, rfl⟩
    case hQ =>
      intro hs vq w9 hlen hR hV
      have T9 := TriS.turned _ _ hR
      have q6 : vq 6 = .bool B112 := hV 6 (by simp)
      rw [hB112] at q6
      simp only [List.foldl_cons, List.foldl_nil, List.setIfInBounds_toArray, List.set_cons_zero, List.set_cons_succ, q6]
      clear hV q6 hlen hR hs
      go_wp2_with fail
      go_ret
      exact ⟨rfl, HUW.out.trans T9⟩
end Go.Proofs.Ytoihjobdfjajfaa

/- How a term, a slice of terms that came in is opened. -/
namespace Go.Proofs.Ytoihjobdfjajfaa
open Go.Joins Go.Deep Go.ChangeShapes Go.WideShapes Go.ChangeAt Go.RowKit
set_option linter.unusedVariables false
set_option linter.unusedSimpArgs false

theorem cellsOf27 : Try.prog.cellsOf 27 = 4 := by kernel_rfl
theorem cellsOf22 : Try.prog.cellsOf 22 = 1 := by kernel_rfl
theorem cellsOf3 : Try.prog.cellsOf 3 = 1 := by kernel_rfl
theorem cellsOf2 : Try.prog.cellsOf 2 = 1 := by kernel_rfl
theorem cellsOf9 : Try.prog.cellsOf 9 = 1 := by kernel_rfl
theorem I64_of {n : Int} (h : (Lit.int .i64 n).wf = true) : I64 n := by
  unfold I64
  simp [Lit.wf] at h
  have e1 : IntKind.i64.min = -9223372036854775808 := by decide
  have e2 : IntKind.i64.max = 9223372036854775807 := by decide
  omega

section
variable {H : Type} {enc : TypeId × Value → H} {W : World} {base : Nat} {sp : Nat → Bool} {held : Bool}
theorem list4 {α : Type} {l : List α} (h : l.length = 4) : ∃ a b c d, l = [a, b, c, d] := by
  match l, h with
  | [a, b, c, d], _ => exact ⟨a, b, c, d, rfl⟩
set_option maxRecDepth 100000 in
theorem terms_of (fuel : Nat) : (∀ cs (x : DataW H × List MemPlace), DataW.trod enc Try.prog W base sp held fuel 27 cs = some x → ∃ t : LT, cs = t.cells ∧ t.In (fun _ => True) W) ∧
    (∀ cs (x : DataW H × List MemPlace), DataW.trod enc Try.prog W base sp held fuel 22 cs = some x → ∃ a cap, ∃ l : List LT, cs = [.slice a l.length cap] ∧ LT.Sl (fun _ => True) W a cap l) := by
  induction fuel with
  | zero => exact ⟨fun cs x h => by simp [DataW.trod] at h, fun cs x h => by simp [DataW.trod] at h⟩
  | succ fuel ih =>
    refine ⟨fun cs x h => ?_, fun cs x h => ?_⟩
    · obtain ⟨xs, n, hn, hx, hcs, hlen, hf⟩ := DataW.trod_struct Try.underlying27 h
      have hn : fuel = n := by omega
      subst hn
      rw [cellsOf27] at hcs
      obtain ⟨u0, u1, u2, u3, rfl⟩ := list4 hcs
      obtain ⟨y0, y1, y2, y3, rfl⟩ := list4 hlen
      · · have f0 : DataW.trod enc Try.prog W base sp held fuel 3 (([u0, u1, u2, u3].drop 0).take (Try.prog.cellsOf 3)) = some y0 := hf 0 _ rfl
          have f1 : DataW.trod enc Try.prog W base sp held fuel 2 (([u0, u1, u2, u3].drop 1).take (Try.prog.cellsOf 2)) = some y1 := hf 1 _ rfl
          have f2 : DataW.trod enc Try.prog W base sp held fuel 9 (([u0, u1, u2, u3].drop 2).take (Try.prog.cellsOf 9)) = some y2 := hf 2 _ rfl
          have f3 : DataW.trod enc Try.prog W base sp held fuel 22 (([u0, u1, u2, u3].drop 3).take (Try.prog.cellsOf 22)) = some y3 := hf 3 _ rfl
          simp only [cellsOf3, cellsOf2, cellsOf9, cellsOf22] at f0 f1 f2 f3
          simp at f0 f1 f2 f3
          obtain ⟨k, e0, _, wk⟩ := DataW.trod_int Try.underlying3 f0
          obtain ⟨m, e1, _, wm⟩ := DataW.trod_int Try.underlying2 f1
          obtain ⟨s, e2, _, ws⟩ := DataW.trod_string Try.underlying9 f2
          obtain ⟨a, cap, l, e3, hl⟩ := ih.2 _ _ f3
          simp at e0 e1 e2 e3
          subst e0 e1 e2 e3
          exact ⟨.mk k m s (a, cap) l, rfl, hl.in_ (I64_of wk) (I64_of wm) ws⟩
    · rcases DataW.trod_slice Try.underlying22 h with ⟨hcs, _⟩ | ⟨ad, len, cap, elems, rest, n, hn, hcs, _, _, hl, hm, hlen, hel, _⟩
      · exact ⟨none, 0, [], hcs, ⟨fun _ => ⟨rfl, rfl⟩, fun h => by simp at h, trivial, Nat.le_refl _, by unfold maxLen; omega⟩⟩
      · have hn : fuel = n := by omega
        subst hn
        rw [cellsOf27] at hel
        have hp : ∀ i, ∃ t : LT, i < len → t.In (fun _ => True) W ∧ ∀ j, j < 4 → W.cell? (ad.add (i * 4 + j)) = t.cells[j]? := by
          intro i
          by_cases hi : i < len
          · have he := hel i hi
            rw [List.getElem?_eq_getElem (by omega)] at he
            obtain ⟨cs', hc, ht⟩ := Option.bind_eq_some_iff.1 he
            obtain ⟨t, rfl, hin⟩ := ih.1 _ _ ht
            obtain ⟨_, _, hat⟩ := World.cells?_some hc
            refine ⟨t, fun _ => ⟨hin, fun j hj => ?_⟩⟩
            rw [← hat j hj]
            congr 1
            exact (add_add ..).symm
          · exact ⟨.mk 0 0 ByteArray.empty (none, 0) [], fun h => absurd h hi⟩
        obtain ⟨f, hff⟩ := Classical.axiomOfChoice hp
        refine ⟨some ad, cap, (List.range len).map f, by simpa using hcs, ⟨(fun e => by cases e), fun hpos => ?_, (LT.ins_iff _).2 fun x hx => ?_, by simpa using hl, hm⟩⟩
        · simp at hpos
          obtain ⟨b, o, spot⟩ := ad
          have hc := (hff 0 (by omega)).2 0 (by omega)
          have hspot : spot = none := by
            rw [LT.cells_eq] at hc
            simpa [Addr.add] using World.cell?_spot hc
          subst hspot
          refine ⟨b, o, rfl, trivial, fun j u hu => ?_⟩
          have hlt := (List.getElem?_eq_some_iff.1 hu).1
          rw [LT.flat_length, List.length_map, List.length_range] at hlt
          have hi : j / 4 < len := by omega
          have hx : ((List.range len).map f)[j / 4]? = some (f (j / 4)) := by rw [List.getElem?_map, List.getElem?_range hi]; rfl
          have h4 := LT.flat_at hx (j % 4) (by omega)
          rw [show j / 4 * 4 + j % 4 = j by omega, hu] at h4
          have hc := (hff (j / 4) hi).2 (j % 4) (by omega)
          rw [show j / 4 * 4 + j % 4 = j by omega, Addr.add_lit] at hc
          rw [hc, h4]
        · obtain ⟨i, hi, rfl⟩ := List.mem_map.1 hx
          exact (hff i (by simpa using hi)).1
theorem slT_of {fuel : Nat} {a : Option Addr} {len cap : Nat} {x : DataW H × List MemPlace} (hf : DataW.trod enc Try.prog W base sp held fuel 22 (Value.slice a len cap).cells.toList = some x) : ∃ l : List LT, l.length = len ∧ LT.Sl (fun _ => True) W a cap l := by
  obtain ⟨a', cap', l, hcs, hl⟩ := (terms_of fuel).2 _ _ hf
  simp [Value.cells] at hcs
  obtain ⟨rfl, rfl, rfl⟩ := hcs
  exact ⟨l, rfl, hl⟩
set_option maxRecDepth 100000 in
theorem tmT_of {fuel : Nat} {r : Reach} {b0 : Nat} {v : Value} {x : DataW H × List MemPlace} (hv : Value.okWide Try.prog W r b0 27 v) (hf : DataW.trod enc Try.prog W base sp held fuel 27 v.cells.toList = some x) : ∃ t : LT, v = t.val ∧ t.In (fun _ => True) W := by
  obtain ⟨cs, rfl, hsz⟩ := okWide_struct Try.underlying27 hv
  obtain ⟨t, hcs, hin⟩ := (terms_of fuel).1 _ _ hf
  refine ⟨t, ?_, hin⟩
  cases t with | mk k n s e bs =>
  simp only [Value.cells] at hcs
  show Value.agg cs = Value.agg _
  congr 1
  exact Array.toList_inj.1 hcs
end
end Go.Proofs.Ytoihjobdfjajfaa

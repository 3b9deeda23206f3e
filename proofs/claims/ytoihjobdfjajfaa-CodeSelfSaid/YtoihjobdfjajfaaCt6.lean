/- Merged texts: CB10, CB12, MC1, Opens. -/
import Derived.Test.YtoihjobdfjajfaaCt5
import Derived.ProofKit
import Derived.Deep.Strs
import Derived.Lib.SmallJoins
set_option linter.unusedVariables false
set_option linter.unusedSimpArgs false
namespace Go.Proofs.Ytoihjobdfjajfaa
open Lib (hid)
open Go.RowKit Go.Maps
open Tm (Stp sVar sVal sInt sAtom sComp cb met steps stepX reg)
theorem infoS : (Try.prog.info? 139).map (fun i => (i.zero, i.size, i.bytes)) = some (some (.agg #[.string ⟨#[]⟩, .int .i64 0, .int .i64 0, .int .i64 0, .int .i64 0, .string ⟨#[]⟩]), 6, 64) := by kernel_rfl
theorem row_ne_map {P : Program} {kt : TypeId} {w : World} {e : TypeId} {size n m b : Nat} {v : Value} {xs : List Value} {f : Int → Option Value} (h : Row w e size v n xs) (hm : IMap P kt w b m f) : v.ownBlock ≠ some b := by
  intro hv; obtain ⟨D, ⟨es, clock, hb, _⟩, _⟩ := hm
  rcases h.2 with ⟨rfl, _⟩ | ⟨g, cap, cur, rfl, hg, _⟩
  · simp [Value.ownBlock] at hv
  · simp [Value.ownBlock] at hv
    subst hv; rw [hb] at hg
    injection hg with hg
    cases hg
set_option maxRecDepth 100000 in
set_option maxHeartbeats 25600000 in
theorem head93 {t : LT} {w : World} (ht : t.In (fun _ => True) w) (hg : goodB t = true) (hk : t.kind = 2) :
    Calls Try.prog 93 #[.agg #[.int .i64 t.kind, .int .i64 t.n, .string t.name, .slice t.at_.1 t.args.length t.at_.2]] w fun e w' => ∃ lv : Value, e = .returned (.tuple #[.agg #[.int .i64 t.args.length, .int .i64 t.vars.length, .int .i64 (Tm.sizes t.args), lv], .int .i64 0]) ∧ Row w' 139 6 lv (Tm.sizes t.args) ((steps t.vars t.args (Tm.sizes t.args)).flatMap stC) ∧ (∀ k, lv.ownBlock = some k → w.heap.size ≤ k) ∧ Turned (fun _ => False) w w' := by
  have hs : slim t := good_slimB (by rw [goodB_bare]; exact hg); have h2 := twoBox w (.cells #[.int .i64 t.kind, .int .i64 t.n, .string t.name, .slice t.at_.1 t.args.length t.at_.2] 27) (.cells #[.int .i64 0, .int .i64 0, .int .i64 0, .slice none 0 0] 104); obtain ⟨w2, hw2⟩ : ∃ z, z = (w.alloc (.cells #[.int .i64 t.kind, .int .i64 t.n, .string t.name, .slice t.at_.1 t.args.length t.at_.2] 27)).alloc (.cells #[.int .i64 0, .int .i64 0, .int .i64 0, .slice none 0 0] 104) := ⟨_, rfl⟩; rw [← hw2] at h2; have HT2 := hid h2.1; have HB := hid (fun W (T : Turned (fun _ => False) w2 W) => (T.block _ (by have := h2.2.1; omega) (fun f => f)).trans h2.2.2.1); have HR := hid (fun W (T : Turned (fun _ => False) w2 W) => (T.block _ (by have := h2.2.1; omega) (fun f => f)).trans h2.2.2.2); have HX := hid (ht.turned0 h2.1); have HW2 := hid hw2; have HSL := hid hs; have HG := hid hg; have HGB := hid (show goodB t.bare = true by rw [goodB_bare]; exact hg); have HZ := hid h2.2.1; have dk : decide (t.kind ≤ 1) = false := decide_eq_false (by omega); have HK := hid hk; clear h2 ht hs hw2 hg hk; have hmm := @run_makeMap Try.prog; go_enter Try.func93, Try.ntmps93
  go_wp2_with (first
    | (go_at_call 38; rw [← HW2.out]; (with_reducible refine (goodVal' HX.out HSL.out HG.out).mono ?_); rintro e w3 ⟨rfl, T3⟩; obtain ⟨b0, b1, b2, b3, _⟩ := cells4 (HB.out w3 T3); obtain ⟨bm0, bm1, bm2, bm3, _⟩ := cells4 (HB.out (w3.alloc (.map #[] 0)) (T3.trans ((Turned.refl _ w3).alloc _))); have HT3 := hid T3; clear T3)
    | (go_at_call 34; have T4 := HT3.out.trans ((Turned.refl _ w3).alloc (.map #[] 0)); (with_reducible refine (varsVal (HX.out.turned0 T4) HGB.out).mono ?_); rintro e w5 ⟨va, vc, rfl, hvr, T5⟩; have HVR := hid hvr; have HT5 := hid (T4.trans T5); have HM5 := hid ((IMap.made w3 Try.prog 2).turned T5 (fun f => f)); clear T4 T5 hvr))
  obtain ⟨n, hn⟩ : ∃ n, n = t.vars.length := ⟨_, rfl⟩; obtain ⟨mb, hmb⟩ : ∃ b, b = w3.heap.size := ⟨_, rfl⟩; rw [← hn, ← hmb]; have HN := hid hn; have HF := hid (show n ≤ 2000 by rw [hn]; exact vars_few HG.out)
  have HVR2 : Hid (Row w5 2 1 (.slice va n vc) n (t.vars.map (Value.int .i64))) := by have := HVR.out; rw [← hn] at this; exact this
  have HM52 : Hid (IMap Try.prog 2 w5 mb 0 (slotF (t.vars.take 0))) := by show IMap _ _ _ _ _ _; rw [List.take_zero, slotF_nil, hmb]; exact HM5.out
  have HMB := hid (show w2.heap.size ≤ mb by rw [hmb]; exact HT3.out.size); have HVN := hid (row_ne_map HVR2.out HM52.out); clear hn hmb HVR HM5 b0 b1 b2 b3 bm0 bm1 bm2 bm3
  go_loopg [26] n (fun q i wr => ∃ j : Nat, Hid (j + q = n) ∧ j ≤ n ∧ i = .int .i64 j ∧ Hid (IMap Try.prog 2 wr mb j (slotF (t.vars.take j))) ∧ Hid (Turned (fun k => k = mb) w5 wr))
  case atStart => exact ⟨0, Nat.zero_add _, Nat.zero_le _, rfl, HM52, Turned.refl _ _⟩
  case round =>
    obtain ⟨j, HJ, hj, rfl, HM, HT⟩ := hrel
    by_cases hjn : j < n
    · have dj : decide ((j : Int) < (n : Int)) = true := decide_eq_true (by omega)
      have HJN := hid hjn; have hn2 : n ≤ 2000 := HF.out; obtain ⟨v, hv⟩ : ∃ v, t.vars[j]? = some v := ⟨_, List.getElem?_eq_getElem (by have := HN.out; omega)⟩; obtain ⟨g, cap', hcv⟩ := HVR2.out.shape_pos (by omega)
      injection hcv with e1 _ e2
      subst e1 e2; have hrw := HVR2.out.turned HT.out (fun q hq e => HVN.out (by rw [← e]; exact hq)); have hcell := hrw.cells rfl j (.int .i64 v) (by rw [List.getElem?_map, hv]; rfl); have hvm : v ∈ t.vars := List.mem_of_getElem? hv
      have h64 : I64 v := by
        obtain ⟨x, hx, h0, rfl⟩ := (Tm.vars_mem (t := t.bare) v).1 (by rw [Tm.vars_bare]; exact hvm); have hone := Tm.good_ones' HGB.out x hx; rw [goodOneB_0 x h0] at hone; simp only [Bool.and_eq_true, decide_eq_true_eq] at hone; unfold I64; omega
      have hnew : v ∉ t.vars.take j := by
        intro c; obtain ⟨q, hq⟩ := List.mem_iff_getElem?.1 c; rw [List.getElem?_take] at hq
        split at hq
        · have h1 := Tm.posOf_at (Tm.vars_nodup t) hq
          have h2 := Tm.posOf_at (Tm.vars_nodup t) hv; omega
        · cases hq
      have HTK : Hid (upd (slotF (t.vars.take j)) v (.int .i64 j) = slotF (t.vars.take (j + 1))) := by
        show _ = _; obtain ⟨hl, he⟩ := List.getElem?_eq_some_iff.1 hv; rw [List.take_succ_eq_append_getElem hl, he, ← slotF_snoc hnew, List.length_take, Nat.min_eq_left (by omega)]
      have HNO := hid (slotF_none hnew); have hkey := key2 h64; clear hrw hv hvm h64 hnew
      go_wp2_with (at_mapUpdate; refine wpList_put rfl _ _ _ 172 rfl law2 Try.underlying172 rfl HM.out (by unfold maxLen; have := HF.out; omega) rfl rfl hkey trivial ?_; intro w6 hm6 T6; have HM6 : Hid (IMap Try.prog 2 w6 mb (j + 1) (slotF (t.vars.take (j + 1)))) := (by have q := hm6; rw [HNO.out] at q; rw [← HTK.out]; exact q); have HT6 := hid (HT.out.trans T6); clear hm6 T6)
      go_roundg (gk - 1)
      case measure => have := HJ.out; omega
      case rel => exact ⟨j + 1, show _ = _ by have := HJ.out; have := HJN.out; omega, by have := HJN.out; omega, by go_num, HM6, HT6⟩
    · obtain rfl : n = j := by omega
      have hnv := HN.out; clear HJ HN hj hjn; subst hnv; have dj : decide ((t.vars.length : Int) < (t.vars.length : Int)) = false := decide_eq_false (by omega); obtain ⟨wo, hwo⟩ : ∃ z, z = wr := ⟨_, rfl⟩; subst hwo
      have HMS : Hid (IMap Try.prog 2 wo mb t.vars.length (slotF t.vars)) := by have := HM.out; rw [List.take_of_length_le (Nat.le_refl _)] at this; exact this
      have HT6 : Hid (Turned (fun _ => False) w2 wo) := HT5.out.step HT.out (fun i hi e => by have := HMB.out; omega); obtain ⟨b0, b1, b2, b3, _⟩ := cells4 (HB.out wo HT6.out)
      have hln := fun ty => HMS.out.len Try.underlying172 ty
      clear HM HT; have TM := ((Turned.refl (fun _ => False) wo).alloc (.cells #[.int .i64 t.args.length, .int .i64 t.vars.length, .int .i64 0, .slice none 0 0] 104)).alloc (.map #[] 0); have h7 := twoBox wo (.cells #[.int .i64 t.args.length, .int .i64 t.vars.length, .int .i64 0, .slice none 0 0] 104) (.map #[] 0); obtain ⟨w7, hw7⟩ : ∃ z, z = (wo.alloc (.cells #[.int .i64 t.args.length, .int .i64 t.vars.length, .int .i64 0, .slice none 0 0] 104)).alloc (.map #[] 0) := ⟨_, rfl⟩
      have HHM : Hid (IMap Try.prog 3 w7 (wo.heap.size + 1) 0 (fun _ => none)) := by
        have := IMap.made (wo.alloc (.cells #[.int .i64 t.args.length, .int .i64 t.vars.length, .int .i64 0, .slice none 0 0] 104)) Try.prog 3; rw [show (wo.alloc (.cells #[.int .i64 t.args.length, .int .i64 t.vars.length, .int .i64 0, .slice none 0 0] 104)).heap.size = wo.heap.size + 1 from by simp] at this; rw [hw7]; exact this
      rw [← hw7] at h7 TM; obtain ⟨m0, m1, m2, m3, _⟩ := cells4 (HB.out w7 (HT6.out.trans TM)); rw [hw7] at m0 m1 m2 m3; have HTM := hid TM; have H7 := hid h7; have HW7 := hid hw7; have hcl := clone128 (p := fun _ => True) (LT.In.sl (HX.out.turned0 (HT6.out.trans TM))) (by have h := HG.out; unfold goodB at h; simp only [Bool.and_eq_true, decide_eq_true_eq, List.all_eq_true] at h; have := h.1; rw [Tm.size_eq] at this; have := Tm.cb_le' (l := t.args) (Nat.zero_le _); rw [Tm.cb_zero] at this; omega); have HCL := hid hcl; clear h7 TM hw7 hcl
      go_wp2_with (go_at_call 128; rw [← HW7.out]; (with_reducible refine HCL.out.mono ?_); rintro e w8 ⟨a8, c8, rfl, hr8, ho8, T8⟩; have HR8 := hid hr8; have HO8 := hid ho8; have HT8 := hid T8; clear hr8 ho8 T8)
      clear m0 m1 m2 m3 b0 b1 b2 b3 hln
      have HI0 : Hid (HeadI t wo.heap.size mb (wo.heap.size + 1) 0 (.slice a8 t.args.length c8) w2 w8) := by
        have hz := H7.out.2.1; have hzo := HT6.out.size; have h78 := HT8.out.size; have TZ := (HT6.out.trans HTM.out).trans HT8.out; have hlm := HMS.out.lt; refine ⟨HMS.out.turned (HTM.out.trans HT8.out) (fun f => f), ?_, HR8.out, ?_, ⟨.slice none 0 0, (HT8.out.block _ (by omega) (fun f => f)).trans H7.out.2.2.1, Row.nil _ _ _, fun k hk => by simp [Value.ownBlock] at hk⟩, fun k hk => ?_, ⟨hzo, HMB.out, by omega, by omega, by omega, by omega⟩, TZ⟩
        · have := HHM.out.turned HT8.out (fun f => f)
          rw [← hadF_nil] at this; exact this
        · exact (HX.out.mono (fun k hk _ => hk)).turned0 TZ
        · have := HO8.out k hk
          omega
      obtain ⟨S, hS⟩ : ∃ S, S = Tm.sizes t.args := ⟨_, rfl⟩; have HS := hid hS
      have HSL2 : Hid (S ≤ 2000) := by
        have h := HG.out; unfold goodB at h; simp only [Bool.and_eq_true, decide_eq_true_eq, List.all_eq_true] at h; have := h.1; rw [Tm.size_eq] at this; show S ≤ 2000; omega
      have HRB := hid (fun W (T : Turned (fun _ => False) w2 W) => HR.out W T); clear hS HR8 HO8 HHM H7 HW7
      go_loopg [9, 10] S (fun q sv i wr => ∃ j : Nat, Hid (j + q = S) ∧ j ≤ S ∧ i = .int .i64 j ∧ ∃ sa sc, sv = .slice sa (cb t.args j) sc ∧ Hid (HeadI t wo.heap.size mb (wo.heap.size + 1) j sv w2 wr))
      case atStart => exact ⟨0, Nat.zero_add _, Nat.zero_le _, rfl, a8, c8, rfl, HI0⟩
      case round =>
        obtain ⟨j, HJ, hj, rfl, sa, sc, rfl, HI⟩ := hrel
        by_cases hjn : j < S
        · have hjs : j < Tm.sizes t.args := by have := HS.out; omega
          have hlt := Tm.reg_lt hjs; obtain ⟨x, hx⟩ : ∃ x : LT, (reg t.args j)[j]? = some x := ⟨_, List.getElem?_eq_getElem hlt⟩; obtain ⟨xin, xone, xreg, xnext, xcb, xvar, xfew, x8⟩ := reg_facts HI.out.ins HG.out hjs hx; have hcbj : j < cb t.args j := hlt; have dj : decide ((j : Int) < (cb t.args j : Int)) = true := decide_eq_true (by omega)
          have hneg : ¬ ((j : Int) < 0) := by omega
          obtain ⟨g, cap', hcv⟩ := HI.out.regs.shape_pos (by omega)
          injection hcv with e1 _ e2
          subst e1 e2; obtain ⟨lv, hcc, hlr, hlo⟩ := HI.out.code; obtain ⟨c0, c1, c2, c3⟩ := term_cells HI.out.regs hx; have HJN := hid hjn; have HXI := hid xin; have HXR := hid xreg; have HXN := hid xnext; have HXC := hid xcb; have HXF := hid (And.intro xfew x8); have HXV := hid xvar; have HCC := hid hcc; have HLR := hid hlr; have HLO := hid hlo; have HX1 := hid xone; have HST := hid (Tm.steps_succ (vs := t.vars) xreg); have HCBJ := hid hcbj; have hb2 := twoBox wr (.cells #[.int .i64 x.kind, .int .i64 x.n, .string x.name, .slice x.at_.1 x.args.length x.at_.2] 27) (.cells #[.string ⟨#[]⟩, .int .i64 j, .int .i64 0, .int .i64 0, .int .i64 0, .string ⟨#[]⟩] 139); obtain ⟨W2, hW2⟩ : ∃ z, z = (wr.alloc (.cells #[.int .i64 x.kind, .int .i64 x.n, .string x.name, .slice x.at_.1 x.args.length x.at_.2] 27)).alloc (.cells #[.string ⟨#[]⟩, .int .i64 j, .int .i64 0, .int .i64 0, .int .i64 0, .string ⟨#[]⟩] 139) := ⟨_, rfl⟩; rw [← hW2] at hb2; have HTW := hid hb2.1; have HBX := hid hb2.2.2.1; have HBS := hid hb2.2.2.2; have HZ2 := hid hb2.2.1; have HW2e := hid hW2; clear xin xreg xnext xcb xfew x8 xvar hcc hlr hlo xone hb2 hW2 hlt hjs hx hcbj; have hS2 : S ≤ 2000 := HSL2.out
          by_cases h0 : x.kind = 0
          · have k0 : (x.kind == 0) = true := by simp [h0]
            have HK0 := hid h0; clear h0; have HKX := hid (fun W (T : Turned (fun k => k = wr.heap.size + 1) W2 W) => (T.block _ (Array.getElem?_eq_some_iff.1 HBX.out).1 (by omega)).trans HBX.out); have HLKS := hid (fun W (T : Turned (fun k => k = wr.heap.size + 1) W2 W) => slotLook ((HI.out.slots.turned HTW.out (fun f => f)).turned T (fun e => by have := HI.out.slots.lt; omega)) (HXV.out HK0.out) HXI.out.n)
            have HPO : Hid (Tm.posOf t.vars x.n < 2001) := by
              have h1 := List.idxOf_lt_length_of_mem (HXV.out HK0.out); have h2 := vars_few HG.out; show t.vars.idxOf x.n < 2001; omega
            go_wp2_with fail
            rw [← HW2e.out]; refine wp_region_k [76, 77, 78, 79, 80, 81] [5, 7] [] (fun dd vv => (match dd with | 76 => vv = .map (some mb) | 77 => vv = .pointer (some ⟨wr.heap.size, 1, none⟩) | 78 => vv = .int .i64 x.n | 79 => vv = .int .i64 (Tm.posOf t.vars x.n) | 80 => vv = .pointer (some ⟨wr.heap.size + 1, 0, none⟩) | 81 => vv = .pointer (some ⟨wr.heap.size + 1, 2, none⟩) | _ => True : Prop)) (BoxR (wr.heap.size + 1) 139 [.string ⟨#[]⟩, .int .i64 j, .int .i64 0, .int .i64 0, .int .i64 0, .string ⟨#[]⟩] [.string sVar, .int .i64 j, .int .i64 (Tm.posOf t.vars x.n), .int .i64 0, .int .i64 0, .string ⟨#[]⟩] [(5, 0), (7, 2)] W2) (by kernel_rfl) rfl (by kernel_rfl) (by kernel_rfl) (fun w h => BoxR.start HBS.out h) (fun hs w w' h ht => h.turned0 ht) ?hs ?hQ
            case hs =>
              refine ⟨?s0, ?s1, ?s2, ?s3, ?s4, ?s5, ?s6, ?s7, trivial⟩
              case s0 =>
                refine fun hs hl => stepG_free [] [4] (by kernel_rfl) rfl ?_
                intro ac W hT hI hO; have h4 : ac.tmps.getD 4 undef = .map (some mb) := hO 4 (by simp); show Brings _ (fun v _ => _ ∧ v = _) _; simp only [execOp, Act.eval, h4]; go_simp
                try exact tq
              case s1 =>
                refine fun hs hl => stepG_free [] [11] (by kernel_rfl) rfl ?_
                intro ac W hT hI hO; have h11 : ac.tmps.getD 11 undef = .pointer (some ⟨wr.heap.size, 0, none⟩) := hO 11 (by simp); show Brings _ (fun v _ => _ ∧ v = _) _; simp only [execOp, Act.eval, h11]; go_simp
                try exact tq
              case s2 =>
                refine fun hs hl => stepG_free [77] [] (by kernel_rfl) rfl ?_
                intro ac W hT hI hO; have h77 : ac.tmps.getD 77 undef = _ := hI 77 (by simp); show Brings _ (fun v _ => _ ∧ v = _) _; obtain ⟨x0, x1, x2, x3, _⟩ := cells4 (HKX.out W hT.t); simp only [execOp, Act.eval, h77]; go_simp
                try exact tq
              case s3 =>
                refine fun hs hl => stepG_free [76, 78] [] (by kernel_rfl) rfl ?_
                intro ac W hT hI hO; have h76 : ac.tmps.getD 76 undef = _ := hI 76 (by simp); have h78 : ac.tmps.getD 78 undef = _ := hI 78 (by simp); show Brings _ (fun v _ => _ ∧ v = _) _; have hlk := HLKS.out W hT.t; simp only [execOp, Act.eval, h76, h78]; go_simp
                try exact tq
              case s4 =>
                refine fun hs hl => stepG_free [] [12] (by kernel_rfl) rfl ?_
                intro ac W hT hI hO; have h12 : ac.tmps.getD 12 undef = .pointer (some ⟨wr.heap.size + 1, 0, none⟩) := hO 12 (by simp); show Brings _ (fun v _ => _ ∧ v = _) _; simp only [execOp, Act.eval, h12]; go_simp
                try exact tq
              case s5 =>
                refine fun hs hno hl => stepG_free [80] [] (by kernel_rfl) rfl ?_
                intro ac W hT hI hO; have h80 : ac.tmps.getD 80 undef = _ := hI 80 (by simp); show Brings Try.prog (fun vv w' => BoxR (wr.heap.size + 1) 139 [.string ⟨#[]⟩, .int .i64 j, .int .i64 0, .int .i64 0, .int .i64 0, .string ⟨#[]⟩] [.string sVar, .int .i64 j, .int .i64 (Tm.posOf t.vars x.n), .int .i64 0, .int .i64 0, .string ⟨#[]⟩] [(5, 0), (7, 2)] W2 (hs ++ [(5, vv)]) w') _; obtain ⟨⟨z, hz⟩, hf⟩ := hT.at (c := 0) (by simp); simp only [execOp, Act.eval, h80]; go_simp; exact hT.store (by kernel_rfl) (by simp) (by simp) rfl
              case s6 =>
                refine fun hs hl => stepG_free [] [12] (by kernel_rfl) rfl ?_
                intro ac W hT hI hO; have h12 : ac.tmps.getD 12 undef = .pointer (some ⟨wr.heap.size + 1, 0, none⟩) := hO 12 (by simp); show Brings _ (fun v _ => _ ∧ v = _) _; simp only [execOp, Act.eval, h12]; go_simp
                try exact tq
              case s7 =>
                refine fun hs hno hl => stepG_free [81, 79] [] (by kernel_rfl) rfl ?_
                intro ac W hT hI hO; have h81 : ac.tmps.getD 81 undef = _ := hI 81 (by simp); have h79 : ac.tmps.getD 79 undef = _ := hI 79 (by simp); show Brings Try.prog (fun vv w' => BoxR (wr.heap.size + 1) 139 [.string ⟨#[]⟩, .int .i64 j, .int .i64 0, .int .i64 0, .int .i64 0, .string ⟨#[]⟩] [.string sVar, .int .i64 j, .int .i64 (Tm.posOf t.vars x.n), .int .i64 0, .int .i64 0, .string ⟨#[]⟩] [(5, 0), (7, 2)] W2 (hs ++ [(7, vv)]) w') _; obtain ⟨⟨z, hz⟩, hf⟩ := hT.at (c := 2) (by simp); simp only [execOp, Act.eval, h81, h79]; go_simp; exact hT.store (by kernel_rfl) (by simp) (by simp) rfl
            case hQ =>
              intro hs3 vs3 W3 hall huniq hR hV; simp only [List.foldl_cons, List.foldl_nil, List.setIfInBounds_toArray, List.set_cons_zero, List.set_cons_succ]; have HS3 := hid (hR.done rfl (by intro a ha; simp only [List.mem_cons, List.not_mem_nil, or_false] at ha; rcases ha with rfl | rfl <;> exact hall _ (by simp)) (by intro c hc hn; simp only [List.length_cons, List.length_nil] at hc; simp only [List.map_cons, List.map_nil, List.mem_cons, List.not_mem_nil, or_false, not_or] at hn; have hcs : c = 0 ∨ c = 1 ∨ c = 2 ∨ c = 3 ∨ c = 4 ∨ c = 5 := (by omega); rcases hcs with rfl | rfl | rfl | rfl | rfl | rfl <;> first | rfl | omega)); have HT3w := hid hR.t; have HTR : Hid (Turned (fun _ => False) wr W3) := HTW.out.step hR.t (fun i hi e => by omega); obtain ⟨s0, s1, s2, s3, s4, s5⟩ := cells6 HS3.out; have hfs := free6 HS3.out; obtain ⟨z0, z1, z2, z3, _⟩ := cells4 (HKX.out W3 hR.t); obtain ⟨q0, q1, q2, q3, g0, g1, g2, g3⟩ := cells4 ((HTR.out.block _ (Array.getElem?_eq_some_iff.1 HCC.out).1 (fun f => f)).trans HCC.out); clear hR hV hall huniq
              by_cases hm : x.n ∈ met t.args j
              · have HMT := hid hm
                clear hm
                have hlk : (Instr.lookup 145 (.map (some (wo.heap.size + 1))) (.int .i64 (Tm.posOf t.vars x.n)) false).run Try.prog W3 = .ok (.bool true) W3 := by
                  rw [hadLook (HI.out.had.turned HTR.out (fun f => f)) (by unfold I64; have := HPO.out; omega), decide_eq_true ((metS_mem (HXV.out HK0.out)).2 HMT.out)]
                have hkey := key3 (n := (Tm.posOf t.vars x.n : Int)) (by unfold I64; have := HPO.out; omega); have hn3 : (metS t j).length ≤ 2000 := metS_few HG.out (by have := HS.out; omega); have T4 : Turned (fun _ => False) wr (W3.setCell ⟨wr.heap.size + 1, 0, none⟩ (.string sVal)) := HTR.out.setCell (.inl (show wr.heap.size ≤ wr.heap.size + 1 by omega)) _
                have HS4 : Hid ((W3.setCell ⟨wr.heap.size + 1, 0, none⟩ (.string sVal)).heap[wr.heap.size + 1]? = some (.cells #[.string sVal, .int .i64 j, .int .i64 (Tm.posOf t.vars x.n), .int .i64 0, .int .i64 0, .string ⟨#[]⟩] 139 (0, 0))) := by show _ = _; simpa using heap_setCell_same W3 (wr.heap.size + 1) 0 _ 139 (.string sVal) HS3.out
                have HT4 := hid T4; have HHD4 := hid (HI.out.had.turned T4 (fun f => f)); clear T4
                have HA0 : Hid (x.args.length = 0) := by have h := HX1.out; rw [goodOneB_0 x HK0.out] at h; simp only [Bool.and_eq_true, decide_eq_true_eq] at h; exact h.2.2.2
                have HCBE : Hid (cb t.args (j + 1) = cb t.args j) := by show _ = _; rw [HXC.out, HA0.out]; rfl
                have HREG : Hid (reg t.args (j + 1) = reg t.args j) := by show _ = _; rw [HXN.out, List.eq_nil_of_length_eq_zero HA0.out, List.append_nil]
                have HST2 : Hid (steps t.vars t.args (j + 1) = steps t.vars t.args j ++ [⟨sVal, j, (Tm.posOf t.vars x.n : Int), 0, 0, ByteArray.empty⟩]) := by
                  show _ = _; rw [HST.out]; unfold stepX; rw [if_pos HK0.out, if_pos HMT.out]
                go_wp2_with (first
                  | (at_builtin; have HMID : Hid (HeadM t wo.heap.size mb (wo.heap.size + 1) j (.slice (some ⟨g, 0, none⟩) (cb t.args j) sc) lv w2 W5) := HI.out.mid HCC.out HLR.out HLO.out ((HT4.out.mono (fun _ _ f => f.elim)).trans (HT5.out.mono (fun k _ e => .inl e))) (by rw [metS_next HXR.out, if_neg (fun c => c.2 HMT.out)]; have q : IMap Try.prog 3 W5 (wo.heap.size + 1) (if (hadF (metS t j) (Tm.posOf t.vars x.n : Int)).isSome then (metS t j).length else (metS t j).length + 1) (upd (hadF (metS t j)) (Tm.posOf t.vars x.n : Int) (.bool true)) := HM5.out; rw [hadF_same ((metS_mem (HXV.out HK0.out)).2 HMT.out)] at q; have e : (hadF (metS t j) (Tm.posOf t.vars x.n : Int)).isSome = true := (by unfold hadF; rw [if_pos ((metS_mem (HXV.out HK0.out)).2 HMT.out)]; rfl); rw [e] at q; exact q) (by rw [HCBE.out, HREG.out]; exact HI.out.regs.turned ((HT4.out.mono (fun _ _ f => f.elim)).trans HT5.out) (fun k hk c => (HI.out.own k hk).2.2.2 c)) (.inl rfl); obtain ⟨i0, hi0, hz0, hz1, hz2⟩ := info_parts infoS; have HMA := hid (HMID.out.turned0 ((Turned.refl (fun _ => False) W5).alloc (.cells #[.string sVal, .int .i64 j, .int .i64 (Tm.posOf t.vars x.n), .int .i64 0, .int .i64 0, .string ⟨#[]⟩] 139))); have HNB := hid (World.news_of_block (heap_alloc_new W5 (.cells #[.string sVal, .int .i64 j, .int .i64 (Tm.posOf t.vars x.n), .int .i64 0, .int .i64 0, .string ⟨#[]⟩] 139))); refine append_some _ rfl _ _ 102 rfl 139 i0 _ 6 64 Try.underlying102 hi0 hz0 hz1 hz2 rfl (by decide) lv j ((steps t.vars t.args j).flatMap stC) rfl HMA.out.row ⟨W5.heap.size, 0, none⟩ 1 1 (stC ⟨sVal, j, (Tm.posOf t.vars x.n : Int), 0, 0, ByteArray.empty⟩) rfl rfl HNB.out (stC_one _) (by omega) (by unfold maxLen; omega) (by omega) ?_; intro g9 cap9 W9 hr9 T9 ho9; have hc9 := (T9.block _ (Array.getElem?_eq_some_iff.1 HMA.out.c).1 (fun c => (HMA.out.lvo _ c).2.1 rfl)).trans HMA.out.c; obtain ⟨y0, y1, y2, y3, f0, f1, f2, f3⟩ := cells4 hc9; have HR9 := hid hr9; have HT9 := hid T9; have HO9 := hid ho9; have HC9 := hid hc9; clear hr9 T9 ho9 hc9)
                  | (at_mapUpdate; refine wpList_put rfl _ _ _ 145 rfl law3 Try.underlying145 rfl HHD4.out (by unfold maxLen; omega) rfl rfl hkey trivial ?_; intro W5 hm5 T5; have HM5 := hid hm5; have HT5 := hid T5; have hs5 := (T5.block _ (Array.getElem?_eq_some_iff.1 HS4.out).1 (fun e => by have := HI.out.had.lt; omega)).trans HS4.out; obtain ⟨s0, s1, s2, s3, s4, s5⟩ := cells6 hs5; have hc4 := (HT4.out.block _ (Array.getElem?_eq_some_iff.1 HCC.out).1 (fun f => f)).trans HCC.out; have hc5 := (T5.block _ (Array.getElem?_eq_some_iff.1 hc4).1 (by omega)).trans hc4; obtain ⟨q0, q1, q2, q3, g0, g1, g2, g3⟩ := cells4 hc5; clear hm5 T5 hs5 hc5 hc4))
                have HNX : Hid (HeadI t wo.heap.size mb (wo.heap.size + 1) (j + 1) (.slice (some ⟨g, 0, none⟩) (cb t.args j) sc) w2 (W9.setCell ⟨wo.heap.size, 3, none⟩ (.slice (some ⟨g9, 0, none⟩) (j + 1) cap9))) := HMA.out.next HST2.out HT9.out HR9.out (HO9.out.imp (fun c => by simpa [Value.ownBlock] using c) (fun c k hk => by simp [Value.ownBlock] at hk; omega)) (turned_cell' _ _ _ _) (by simpa using heap_setCell_same W9 wo.heap.size 3 _ 104 (.slice (some ⟨g9, 0, none⟩) (j + 1) cap9) HC9.out); go_roundg (gk - 1)
                case measure => have := HJ.out; omega
                case rel => exact ⟨j + 1, show _ = _ by have := HJ.out; omega, by omega, by go_num, some ⟨g, 0, none⟩, sc, by rw [HCBE.out], HNX⟩
              · have HMT := hid hm
                clear hm
                have hlk : (Instr.lookup 145 (.map (some (wo.heap.size + 1))) (.int .i64 (Tm.posOf t.vars x.n)) false).run Try.prog W3 = .ok (.bool false) W3 := by
                  rw [hadLook (HI.out.had.turned HTR.out (fun f => f)) (by unfold I64; have := HPO.out; omega), decide_eq_false (fun c => HMT.out ((metS_mem (HXV.out HK0.out)).1 c))]
                have hkey := key3 (n := (Tm.posOf t.vars x.n : Int)) (by unfold I64; have := HPO.out; omega); have hn3 : (metS t j).length ≤ 2000 := metS_few HG.out (by have := HS.out; omega); have T4 : Turned (fun _ => False) wr W3 := HTR.out; have HS4 := HS3; have HT4 := hid T4; have HHD4 := hid (HI.out.had.turned T4 (fun f => f)); clear T4
                have HA0 : Hid (x.args.length = 0) := by have h := HX1.out; rw [goodOneB_0 x HK0.out] at h; simp only [Bool.and_eq_true, decide_eq_true_eq] at h; exact h.2.2.2
                have HCBE : Hid (cb t.args (j + 1) = cb t.args j) := by show _ = _; rw [HXC.out, HA0.out]; rfl
                have HREG : Hid (reg t.args (j + 1) = reg t.args j) := by show _ = _; rw [HXN.out, List.eq_nil_of_length_eq_zero HA0.out, List.append_nil]
                have HST2 : Hid (steps t.vars t.args (j + 1) = steps t.vars t.args j ++ [⟨sVar, j, (Tm.posOf t.vars x.n : Int), 0, 0, ByteArray.empty⟩]) := by
                  show _ = _; rw [HST.out]; unfold stepX; rw [if_pos HK0.out, if_neg HMT.out]
                go_wp2_with (first
                  | (at_builtin; have HMID : Hid (HeadM t wo.heap.size mb (wo.heap.size + 1) j (.slice (some ⟨g, 0, none⟩) (cb t.args j) sc) lv w2 W5) := HI.out.mid HCC.out HLR.out HLO.out ((HT4.out.mono (fun _ _ f => f.elim)).trans (HT5.out.mono (fun k _ e => .inl e))) (by rw [metS_next HXR.out, if_pos ⟨HK0.out, HMT.out⟩, List.length_append]; have q : IMap Try.prog 3 W5 (wo.heap.size + 1) (if (hadF (metS t j) (Tm.posOf t.vars x.n : Int)).isSome then (metS t j).length else (metS t j).length + 1) (upd (hadF (metS t j)) (Tm.posOf t.vars x.n : Int) (.bool true)) := HM5.out; rw [hadF_put] at q; have e : (hadF (metS t j) (Tm.posOf t.vars x.n : Int)).isSome = false := (by unfold hadF; rw [if_neg (fun c => HMT.out ((metS_mem (HXV.out HK0.out)).1 c))]; rfl); rw [e] at q; exact q) (by rw [HCBE.out, HREG.out]; exact HI.out.regs.turned ((HT4.out.mono (fun _ _ f => f.elim)).trans HT5.out) (fun k hk c => (HI.out.own k hk).2.2.2 c)) (.inl rfl); obtain ⟨i0, hi0, hz0, hz1, hz2⟩ := info_parts infoS; have HMA := hid (HMID.out.turned0 ((Turned.refl (fun _ => False) W5).alloc (.cells #[.string sVar, .int .i64 j, .int .i64 (Tm.posOf t.vars x.n), .int .i64 0, .int .i64 0, .string ⟨#[]⟩] 139))); have HNB := hid (World.news_of_block (heap_alloc_new W5 (.cells #[.string sVar, .int .i64 j, .int .i64 (Tm.posOf t.vars x.n), .int .i64 0, .int .i64 0, .string ⟨#[]⟩] 139))); refine append_some _ rfl _ _ 102 rfl 139 i0 _ 6 64 Try.underlying102 hi0 hz0 hz1 hz2 rfl (by decide) lv j ((steps t.vars t.args j).flatMap stC) rfl HMA.out.row ⟨W5.heap.size, 0, none⟩ 1 1 (stC ⟨sVar, j, (Tm.posOf t.vars x.n : Int), 0, 0, ByteArray.empty⟩) rfl rfl HNB.out (stC_one _) (by omega) (by unfold maxLen; omega) (by omega) ?_; intro g9 cap9 W9 hr9 T9 ho9; have hc9 := (T9.block _ (Array.getElem?_eq_some_iff.1 HMA.out.c).1 (fun c => (HMA.out.lvo _ c).2.1 rfl)).trans HMA.out.c; obtain ⟨y0, y1, y2, y3, f0, f1, f2, f3⟩ := cells4 hc9; have HR9 := hid hr9; have HT9 := hid T9; have HO9 := hid ho9; have HC9 := hid hc9; clear hr9 T9 ho9 hc9)
                  | (at_mapUpdate; refine wpList_put rfl _ _ _ 145 rfl law3 Try.underlying145 rfl HHD4.out (by unfold maxLen; omega) rfl rfl hkey trivial ?_; intro W5 hm5 T5; have HM5 := hid hm5; have HT5 := hid T5; have hs5 := (T5.block _ (Array.getElem?_eq_some_iff.1 HS4.out).1 (fun e => by have := HI.out.had.lt; omega)).trans HS4.out; obtain ⟨s0, s1, s2, s3, s4, s5⟩ := cells6 hs5; have hc4 := (HT4.out.block _ (Array.getElem?_eq_some_iff.1 HCC.out).1 (fun f => f)).trans HCC.out; have hc5 := (T5.block _ (Array.getElem?_eq_some_iff.1 hc4).1 (by omega)).trans hc4; obtain ⟨q0, q1, q2, q3, g0, g1, g2, g3⟩ := cells4 hc5; clear hm5 T5 hs5 hc5 hc4))
                have HNX : Hid (HeadI t wo.heap.size mb (wo.heap.size + 1) (j + 1) (.slice (some ⟨g, 0, none⟩) (cb t.args j) sc) w2 (W9.setCell ⟨wo.heap.size, 3, none⟩ (.slice (some ⟨g9, 0, none⟩) (j + 1) cap9))) := HMA.out.next HST2.out HT9.out HR9.out (HO9.out.imp (fun c => by simpa [Value.ownBlock] using c) (fun c k hk => by simp [Value.ownBlock] at hk; omega)) (turned_cell' _ _ _ _) (by simpa using heap_setCell_same W9 wo.heap.size 3 _ 104 (.slice (some ⟨g9, 0, none⟩) (j + 1) cap9) HC9.out); go_roundg (gk - 1)
                case measure => have := HJ.out; omega
                case rel => exact ⟨j + 1, show _ = _ by have := HJ.out; omega, by omega, by go_num, some ⟨g, 0, none⟩, sc, by rw [HCBE.out], HNX⟩
          · have k0 : (x.kind == 0) = false := by simp [h0]
            have HK0 := hid h0; clear h0; have HKX := hid (fun W (T : Turned (fun k => k = wr.heap.size + 1) W2 W) => (T.block _ (Array.getElem?_eq_some_iff.1 HBX.out).1 (by omega)).trans HBX.out)
            by_cases h1 : x.kind = 1
            · have k1 : (x.kind == 1) = true := by simp [h1]
              have HK1 := hid h1; clear h1
              go_wp2_with fail
              rw [← HW2e.out]; refine wp_region_k [94, 95, 96, 97] [3, 5] [] (fun dd vv => (match dd with | 94 => vv = .pointer (some ⟨wr.heap.size, 1, none⟩) | 95 => vv = .int .i64 x.n | 96 => vv = .pointer (some ⟨wr.heap.size + 1, 0, none⟩) | 97 => vv = .pointer (some ⟨wr.heap.size + 1, 4, none⟩) | _ => True : Prop)) (BoxR (wr.heap.size + 1) 139 [.string ⟨#[]⟩, .int .i64 j, .int .i64 0, .int .i64 0, .int .i64 0, .string ⟨#[]⟩] [.string sInt, .int .i64 j, .int .i64 0, .int .i64 0, .int .i64 x.n, .string ⟨#[]⟩] [(3, 0), (5, 4)] W2) (by kernel_rfl) rfl (by kernel_rfl) (by kernel_rfl) (fun w h => BoxR.start HBS.out h) (fun hs w w' h ht => h.turned0 ht) ?hs ?hQ
              case hs =>
                refine ⟨?s0, ?s1, ?s2, ?s3, ?s4, ?s5, trivial⟩
                case s0 =>
                  refine fun hs hl => stepG_free [] [11] (by kernel_rfl) rfl ?_
                  intro ac W hT hI hO; have h11 : ac.tmps.getD 11 undef = .pointer (some ⟨wr.heap.size, 0, none⟩) := hO 11 (by simp); show Brings _ (fun v _ => _ ∧ v = _) _; simp only [execOp, Act.eval, h11]; go_simp
                  try exact tq
                case s1 =>
                  refine fun hs hl => stepG_free [94] [] (by kernel_rfl) rfl ?_
                  intro ac W hT hI hO; have h94 : ac.tmps.getD 94 undef = _ := hI 94 (by simp); show Brings _ (fun v _ => _ ∧ v = _) _; obtain ⟨x0, x1, x2, x3, _⟩ := cells4 (HKX.out W hT.t); simp only [execOp, Act.eval, h94]; go_simp
                  try exact tq
                case s2 =>
                  refine fun hs hl => stepG_free [] [12] (by kernel_rfl) rfl ?_
                  intro ac W hT hI hO; have h12 : ac.tmps.getD 12 undef = .pointer (some ⟨wr.heap.size + 1, 0, none⟩) := hO 12 (by simp); show Brings _ (fun v _ => _ ∧ v = _) _; simp only [execOp, Act.eval, h12]; go_simp
                  try exact tq
                case s3 =>
                  refine fun hs hno hl => stepG_free [96] [] (by kernel_rfl) rfl ?_
                  intro ac W hT hI hO; have h96 : ac.tmps.getD 96 undef = _ := hI 96 (by simp); show Brings Try.prog (fun vv w' => BoxR (wr.heap.size + 1) 139 [.string ⟨#[]⟩, .int .i64 j, .int .i64 0, .int .i64 0, .int .i64 0, .string ⟨#[]⟩] [.string sInt, .int .i64 j, .int .i64 0, .int .i64 0, .int .i64 x.n, .string ⟨#[]⟩] [(3, 0), (5, 4)] W2 (hs ++ [(3, vv)]) w') _; obtain ⟨⟨z, hz⟩, hf⟩ := hT.at (c := 0) (by simp); simp only [execOp, Act.eval, h96]; go_simp; exact hT.store (by kernel_rfl) (by simp) (by simp) rfl
                case s4 =>
                  refine fun hs hl => stepG_free [] [12] (by kernel_rfl) rfl ?_
                  intro ac W hT hI hO; have h12 : ac.tmps.getD 12 undef = .pointer (some ⟨wr.heap.size + 1, 0, none⟩) := hO 12 (by simp); show Brings _ (fun v _ => _ ∧ v = _) _; simp only [execOp, Act.eval, h12]; go_simp
                  try exact tq
                case s5 =>
                  refine fun hs hno hl => stepG_free [97, 95] [] (by kernel_rfl) rfl ?_
                  intro ac W hT hI hO; have h97 : ac.tmps.getD 97 undef = _ := hI 97 (by simp); have h95 : ac.tmps.getD 95 undef = _ := hI 95 (by simp); show Brings Try.prog (fun vv w' => BoxR (wr.heap.size + 1) 139 [.string ⟨#[]⟩, .int .i64 j, .int .i64 0, .int .i64 0, .int .i64 0, .string ⟨#[]⟩] [.string sInt, .int .i64 j, .int .i64 0, .int .i64 0, .int .i64 x.n, .string ⟨#[]⟩] [(3, 0), (5, 4)] W2 (hs ++ [(5, vv)]) w') _; obtain ⟨⟨z, hz⟩, hf⟩ := hT.at (c := 4) (by simp); simp only [execOp, Act.eval, h97, h95]; go_simp; exact hT.store (by kernel_rfl) (by simp) (by simp) rfl
              case hQ =>
                intro hs3 vs3 W3 hall huniq hR hV; simp only [List.foldl_cons, List.foldl_nil, List.setIfInBounds_toArray, List.set_cons_zero, List.set_cons_succ]; have HS3 := hid (hR.done rfl (by intro a ha; simp only [List.mem_cons, List.not_mem_nil, or_false] at ha; rcases ha with rfl | rfl <;> exact hall _ (by simp)) (by intro c hc hn; simp only [List.length_cons, List.length_nil] at hc; simp only [List.map_cons, List.map_nil, List.mem_cons, List.not_mem_nil, or_false, not_or] at hn; have hcs : c = 0 ∨ c = 1 ∨ c = 2 ∨ c = 3 ∨ c = 4 ∨ c = 5 := (by omega); rcases hcs with rfl | rfl | rfl | rfl | rfl | rfl <;> first | rfl | omega)); have HT3w := hid hR.t; have HTR : Hid (Turned (fun _ => False) wr W3) := HTW.out.step hR.t (fun i hi e => by omega); obtain ⟨s0, s1, s2, s3, s4, s5⟩ := cells6 HS3.out; have hfs := free6 HS3.out; obtain ⟨z0, z1, z2, z3, _⟩ := cells4 (HKX.out W3 hR.t); obtain ⟨q0, q1, q2, q3, g0, g1, g2, g3⟩ := cells4 ((HTR.out.block _ (Array.getElem?_eq_some_iff.1 HCC.out).1 (fun f => f)).trans HCC.out); clear hR hV hall huniq
                have HA0 : Hid (x.args.length = 0) := by have h := HX1.out; rw [goodOneB_1 x HK1.out] at h; simp only [Bool.and_eq_true, decide_eq_true_eq] at h; exact h.2
                have HCBE : Hid (cb t.args (j + 1) = cb t.args j) := by show _ = _; rw [HXC.out, HA0.out]; rfl
                have HREG : Hid (reg t.args (j + 1) = reg t.args j) := by show _ = _; rw [HXN.out, List.eq_nil_of_length_eq_zero HA0.out, List.append_nil]
                have hn3 : (metS t j).length ≤ 2000 := metS_few HG.out (by have := HS.out; omega)
                have HST2 : Hid (steps t.vars t.args (j + 1) = steps t.vars t.args j ++ [⟨sInt, j, 0, 0, x.n, ByteArray.empty⟩]) := by
                  show _ = _; rw [HST.out]; unfold stepX; rw [if_neg HK0.out, if_pos HK1.out]
                go_wp2_with (at_builtin; have HMID : Hid (HeadM t wo.heap.size mb (wo.heap.size + 1) j (.slice (some ⟨g, 0, none⟩) (cb t.args j) sc) lv w2 W3) := HI.out.mid HCC.out HLR.out HLO.out (HTR.out.mono (fun _ _ f => f.elim)) (by rw [metS_next HXR.out, if_neg (fun c => HK0.out c.1)]; exact HI.out.had.turned HTR.out (fun f => f)) (by rw [HCBE.out, HREG.out]; exact HI.out.regs.turned0 HTR.out) (.inl rfl); obtain ⟨i0, hi0, hz0, hz1, hz2⟩ := info_parts infoS; have HMA := hid (HMID.out.turned0 ((Turned.refl (fun _ => False) W3).alloc (.cells #[.string sInt, .int .i64 j, .int .i64 0, .int .i64 0, .int .i64 x.n, .string ⟨#[]⟩] 139))); have HNB := hid (World.news_of_block (heap_alloc_new W3 (.cells #[.string sInt, .int .i64 j, .int .i64 0, .int .i64 0, .int .i64 x.n, .string ⟨#[]⟩] 139))); refine append_some _ rfl _ _ 102 rfl 139 i0 _ 6 64 Try.underlying102 hi0 hz0 hz1 hz2 rfl (by decide) lv j ((steps t.vars t.args j).flatMap stC) rfl HMA.out.row ⟨W3.heap.size, 0, none⟩ 1 1 (stC ⟨sInt, j, 0, 0, x.n, ByteArray.empty⟩) rfl rfl HNB.out (stC_one _) (by omega) (by unfold maxLen; omega) (by omega) ?_; intro g9 cap9 W9 hr9 T9 ho9; have hc9 := (T9.block _ (Array.getElem?_eq_some_iff.1 HMA.out.c).1 (fun c => (HMA.out.lvo _ c).2.1 rfl)).trans HMA.out.c; obtain ⟨y0, y1, y2, y3, f0, f1, f2, f3⟩ := cells4 hc9; have HR9 := hid hr9; have HT9 := hid T9; have HO9 := hid ho9; have HC9 := hid hc9; clear hr9 T9 ho9 hc9)
                have HNX : Hid (HeadI t wo.heap.size mb (wo.heap.size + 1) (j + 1) (.slice (some ⟨g, 0, none⟩) (cb t.args j) sc) w2 (W9.setCell ⟨wo.heap.size, 3, none⟩ (.slice (some ⟨g9, 0, none⟩) (j + 1) cap9))) := HMA.out.next HST2.out HT9.out HR9.out (HO9.out.imp (fun c => by simpa [Value.ownBlock] using c) (fun c k hk => by simp [Value.ownBlock] at hk; omega)) (turned_cell' _ _ _ _) (by simpa using heap_setCell_same W9 wo.heap.size 3 _ 104 (.slice (some ⟨g9, 0, none⟩) (j + 1) cap9) HC9.out); go_roundg (gk - 1)
                case measure => have := HJ.out; omega
                case rel => exact ⟨j + 1, show _ = _ by have := HJ.out; omega, by omega, by go_num, some ⟨g, 0, none⟩, sc, by rw [HCBE.out], HNX⟩
            · have k1 : (x.kind == 1) = false := by simp [h1]
              have HK1 := hid h1; clear h1
              by_cases h2 : x.args.length = 0
              · have k2 : ((x.args.length : Int) == 0) = true := by simp [h2]
                have HA2 := hid h2; clear h2
                go_wp2_with fail
                rw [← HW2e.out]; refine wp_region_k [103, 104, 105, 106] [3, 5] [] (fun dd vv => (match dd with | 103 => vv = .pointer (some ⟨wr.heap.size, 2, none⟩) | 104 => vv = .string x.name | 105 => vv = .pointer (some ⟨wr.heap.size + 1, 0, none⟩) | 106 => vv = .pointer (some ⟨wr.heap.size + 1, 5, none⟩) | _ => True : Prop)) (BoxR (wr.heap.size + 1) 139 [.string ⟨#[]⟩, .int .i64 j, .int .i64 0, .int .i64 0, .int .i64 0, .string ⟨#[]⟩] [.string sAtom, .int .i64 j, .int .i64 0, .int .i64 0, .int .i64 0, .string x.name] [(3, 0), (5, 5)] W2) (by kernel_rfl) rfl (by kernel_rfl) (by kernel_rfl) (fun w h => BoxR.start HBS.out h) (fun hs w w' h ht => h.turned0 ht) ?hs ?hQ
                case hs =>
                  refine ⟨?s0, ?s1, ?s2, ?s3, ?s4, ?s5, trivial⟩
                  case s0 =>
                    refine fun hs hl => stepG_free [] [11] (by kernel_rfl) rfl ?_
                    intro ac W hT hI hO; have h11 : ac.tmps.getD 11 undef = .pointer (some ⟨wr.heap.size, 0, none⟩) := hO 11 (by simp); show Brings _ (fun v _ => _ ∧ v = _) _; simp only [execOp, Act.eval, h11]; go_simp
                    try exact tq
                  case s1 =>
                    refine fun hs hl => stepG_free [103] [] (by kernel_rfl) rfl ?_
                    intro ac W hT hI hO; have h103 : ac.tmps.getD 103 undef = _ := hI 103 (by simp); show Brings _ (fun v _ => _ ∧ v = _) _; obtain ⟨x0, x1, x2, x3, _⟩ := cells4 (HKX.out W hT.t); simp only [execOp, Act.eval, h103]; go_simp
                    try exact tq
                  case s2 =>
                    refine fun hs hl => stepG_free [] [12] (by kernel_rfl) rfl ?_
                    intro ac W hT hI hO; have h12 : ac.tmps.getD 12 undef = .pointer (some ⟨wr.heap.size + 1, 0, none⟩) := hO 12 (by simp); show Brings _ (fun v _ => _ ∧ v = _) _; simp only [execOp, Act.eval, h12]; go_simp
                    try exact tq
                  case s3 =>
                    refine fun hs hno hl => stepG_free [105] [] (by kernel_rfl) rfl ?_
                    intro ac W hT hI hO; have h105 : ac.tmps.getD 105 undef = _ := hI 105 (by simp); show Brings Try.prog (fun vv w' => BoxR (wr.heap.size + 1) 139 [.string ⟨#[]⟩, .int .i64 j, .int .i64 0, .int .i64 0, .int .i64 0, .string ⟨#[]⟩] [.string sAtom, .int .i64 j, .int .i64 0, .int .i64 0, .int .i64 0, .string x.name] [(3, 0), (5, 5)] W2 (hs ++ [(3, vv)]) w') _; obtain ⟨⟨z, hz⟩, hf⟩ := hT.at (c := 0) (by simp); simp only [execOp, Act.eval, h105]; go_simp; exact hT.store (by kernel_rfl) (by simp) (by simp) rfl
                  case s4 =>
                    refine fun hs hl => stepG_free [] [12] (by kernel_rfl) rfl ?_
                    intro ac W hT hI hO; have h12 : ac.tmps.getD 12 undef = .pointer (some ⟨wr.heap.size + 1, 0, none⟩) := hO 12 (by simp); show Brings _ (fun v _ => _ ∧ v = _) _; simp only [execOp, Act.eval, h12]; go_simp
                    try exact tq
                  case s5 =>
                    refine fun hs hno hl => stepG_free [106, 104] [] (by kernel_rfl) rfl ?_
                    intro ac W hT hI hO; have h106 : ac.tmps.getD 106 undef = _ := hI 106 (by simp); have h104 : ac.tmps.getD 104 undef = _ := hI 104 (by simp); show Brings Try.prog (fun vv w' => BoxR (wr.heap.size + 1) 139 [.string ⟨#[]⟩, .int .i64 j, .int .i64 0, .int .i64 0, .int .i64 0, .string ⟨#[]⟩] [.string sAtom, .int .i64 j, .int .i64 0, .int .i64 0, .int .i64 0, .string x.name] [(3, 0), (5, 5)] W2 (hs ++ [(5, vv)]) w') _; obtain ⟨⟨z, hz⟩, hf⟩ := hT.at (c := 5) (by simp); simp only [execOp, Act.eval, h106, h104]; go_simp; exact hT.store (by kernel_rfl) (by simp) (by simp) rfl
                case hQ =>
                  intro hs3 vs3 W3 hall huniq hR hV; simp only [List.foldl_cons, List.foldl_nil, List.setIfInBounds_toArray, List.set_cons_zero, List.set_cons_succ]; have HS3 := hid (hR.done rfl (by intro a ha; simp only [List.mem_cons, List.not_mem_nil, or_false] at ha; rcases ha with rfl | rfl <;> exact hall _ (by simp)) (by intro c hc hn; simp only [List.length_cons, List.length_nil] at hc; simp only [List.map_cons, List.map_nil, List.mem_cons, List.not_mem_nil, or_false, not_or] at hn; have hcs : c = 0 ∨ c = 1 ∨ c = 2 ∨ c = 3 ∨ c = 4 ∨ c = 5 := (by omega); rcases hcs with rfl | rfl | rfl | rfl | rfl | rfl <;> first | rfl | omega)); have HT3w := hid hR.t; have HTR : Hid (Turned (fun _ => False) wr W3) := HTW.out.step hR.t (fun i hi e => by omega); obtain ⟨s0, s1, s2, s3, s4, s5⟩ := cells6 HS3.out; have hfs := free6 HS3.out; obtain ⟨z0, z1, z2, z3, _⟩ := cells4 (HKX.out W3 hR.t); obtain ⟨q0, q1, q2, q3, g0, g1, g2, g3⟩ := cells4 ((HTR.out.block _ (Array.getElem?_eq_some_iff.1 HCC.out).1 (fun f => f)).trans HCC.out); clear hR hV hall huniq; have HA0 : Hid (x.args.length = 0) := HA2.out
                  have HCBE : Hid (cb t.args (j + 1) = cb t.args j) := by show _ = _; rw [HXC.out, HA0.out]; rfl
                  have HREG : Hid (reg t.args (j + 1) = reg t.args j) := by show _ = _; rw [HXN.out, List.eq_nil_of_length_eq_zero HA0.out, List.append_nil]
                  have hn3 : (metS t j).length ≤ 2000 := metS_few HG.out (by have := HS.out; omega)
                  have HST2 : Hid (steps t.vars t.args (j + 1) = steps t.vars t.args j ++ [⟨sAtom, j, 0, 0, 0, x.name⟩]) := by
                    show _ = _; rw [HST.out]; unfold stepX; rw [if_neg HK0.out, if_neg HK1.out, if_pos HA2.out]
                  go_wp2_with (at_builtin; have HMID : Hid (HeadM t wo.heap.size mb (wo.heap.size + 1) j (.slice (some ⟨g, 0, none⟩) (cb t.args j) sc) lv w2 W3) := HI.out.mid HCC.out HLR.out HLO.out (HTR.out.mono (fun _ _ f => f.elim)) (by rw [metS_next HXR.out, if_neg (fun c => HK0.out c.1)]; exact HI.out.had.turned HTR.out (fun f => f)) (by rw [HCBE.out, HREG.out]; exact HI.out.regs.turned0 HTR.out) (.inl rfl); obtain ⟨i0, hi0, hz0, hz1, hz2⟩ := info_parts infoS; have HMA := hid (HMID.out.turned0 ((Turned.refl (fun _ => False) W3).alloc (.cells #[.string sAtom, .int .i64 j, .int .i64 0, .int .i64 0, .int .i64 0, .string x.name] 139))); have HNB := hid (World.news_of_block (heap_alloc_new W3 (.cells #[.string sAtom, .int .i64 j, .int .i64 0, .int .i64 0, .int .i64 0, .string x.name] 139))); refine append_some _ rfl _ _ 102 rfl 139 i0 _ 6 64 Try.underlying102 hi0 hz0 hz1 hz2 rfl (by decide) lv j ((steps t.vars t.args j).flatMap stC) rfl HMA.out.row ⟨W3.heap.size, 0, none⟩ 1 1 (stC ⟨sAtom, j, 0, 0, 0, x.name⟩) rfl rfl HNB.out (stC_one _) (by omega) (by unfold maxLen; omega) (by omega) ?_; intro g9 cap9 W9 hr9 T9 ho9; have hc9 := (T9.block _ (Array.getElem?_eq_some_iff.1 HMA.out.c).1 (fun c => (HMA.out.lvo _ c).2.1 rfl)).trans HMA.out.c; obtain ⟨y0, y1, y2, y3, f0, f1, f2, f3⟩ := cells4 hc9; have HR9 := hid hr9; have HT9 := hid T9; have HO9 := hid ho9; have HC9 := hid hc9; clear hr9 T9 ho9 hc9)
                  have HNX : Hid (HeadI t wo.heap.size mb (wo.heap.size + 1) (j + 1) (.slice (some ⟨g, 0, none⟩) (cb t.args j) sc) w2 (W9.setCell ⟨wo.heap.size, 3, none⟩ (.slice (some ⟨g9, 0, none⟩) (j + 1) cap9))) := HMA.out.next HST2.out HT9.out HR9.out (HO9.out.imp (fun c => by simpa [Value.ownBlock] using c) (fun c k hk => by simp [Value.ownBlock] at hk; omega)) (turned_cell' _ _ _ _) (by simpa using heap_setCell_same W9 wo.heap.size 3 _ 104 (.slice (some ⟨g9, 0, none⟩) (j + 1) cap9) HC9.out); go_roundg (gk - 1)
                  case measure => have := HJ.out; omega
                  case rel => exact ⟨j + 1, show _ = _ by have := HJ.out; omega, by omega, by go_num, some ⟨g, 0, none⟩, sc, by rw [HCBE.out], HNX⟩
              · have k2 : ((x.args.length : Int) == 0) = false := by simp [h2]
                have HA2 := hid h2; clear h2
                go_wp2_with fail
                rw [← HW2e.out]; refine wp_region_k [57, 58, 59, 60, 61, 62, 63, 64, 65, 66, 67] [8, 10, 12, 14] [] (fun dd vv => (match dd with | 57 => vv = .pointer (some ⟨wr.heap.size, 2, none⟩) | 58 => vv = .string x.name | 59 => vv = .pointer (some ⟨wr.heap.size, 3, none⟩) | 60 => vv = .slice x.at_.1 x.args.length x.at_.2 | 61 => vv = .int .i64 x.args.length | 62 => vv = .slice (some ⟨g, 0, none⟩) (cb t.args j) sc | 63 => vv = .int .i64 (cb t.args j) | 64 => vv = .pointer (some ⟨wr.heap.size + 1, 0, none⟩) | 65 => vv = .pointer (some ⟨wr.heap.size + 1, 5, none⟩) | 66 => vv = .pointer (some ⟨wr.heap.size + 1, 2, none⟩) | 67 => vv = .pointer (some ⟨wr.heap.size + 1, 3, none⟩) | _ => True : Prop)) (BoxR (wr.heap.size + 1) 139 [.string ⟨#[]⟩, .int .i64 j, .int .i64 0, .int .i64 0, .int .i64 0, .string ⟨#[]⟩] [.string sComp, .int .i64 j, .int .i64 x.args.length, .int .i64 (cb t.args j), .int .i64 0, .string x.name] [(8, 0), (10, 5), (12, 2), (14, 3)] W2) (by kernel_rfl) rfl (by kernel_rfl) (by kernel_rfl) (fun w h => BoxR.start HBS.out h) (fun hs w w' h ht => h.turned0 ht) ?hs ?hQ
                case hs =>
                  refine ⟨?s0, ?s1, ?s2, ?s3, ?s4, ?s5, ?s6, ?s7, ?s8, ?s9, ?s10, ?s11, ?s12, ?s13, ?s14, trivial⟩
                  case s0 =>
                    refine fun hs hl => stepG_free [] [11] (by kernel_rfl) rfl ?_
                    intro ac W hT hI hO; have h11 : ac.tmps.getD 11 undef = .pointer (some ⟨wr.heap.size, 0, none⟩) := hO 11 (by simp); show Brings _ (fun v _ => _ ∧ v = _) _; simp only [execOp, Act.eval, h11]; go_simp
                    try exact tq
                  case s1 =>
                    refine fun hs hl => stepG_free [57] [] (by kernel_rfl) rfl ?_
                    intro ac W hT hI hO; have h57 : ac.tmps.getD 57 undef = _ := hI 57 (by simp); show Brings _ (fun v _ => _ ∧ v = _) _; obtain ⟨x0, x1, x2, x3, _⟩ := cells4 (HKX.out W hT.t); simp only [execOp, Act.eval, h57]; go_simp
                    try exact tq
                  case s2 =>
                    refine fun hs hl => stepG_free [] [11] (by kernel_rfl) rfl ?_
                    intro ac W hT hI hO; have h11 : ac.tmps.getD 11 undef = .pointer (some ⟨wr.heap.size, 0, none⟩) := hO 11 (by simp); show Brings _ (fun v _ => _ ∧ v = _) _; simp only [execOp, Act.eval, h11]; go_simp
                    try exact tq
                  case s3 =>
                    refine fun hs hl => stepG_free [59] [] (by kernel_rfl) rfl ?_
                    intro ac W hT hI hO; have h59 : ac.tmps.getD 59 undef = _ := hI 59 (by simp); show Brings _ (fun v _ => _ ∧ v = _) _; obtain ⟨x0, x1, x2, x3, _⟩ := cells4 (HKX.out W hT.t); simp only [execOp, Act.eval, h59]; go_simp
                    try exact tq
                  case s4 =>
                    refine fun hs hl => stepG_free [60] [] (by kernel_rfl) rfl ?_
                    intro ac W hT hI hO; have h60 : ac.tmps.getD 60 undef = _ := hI 60 (by simp); show Brings _ (fun v _ => _ ∧ v = _) _; simp only [execOp, Act.eval, h60]; go_simp
                    try exact tq
                  case s5 =>
                    refine fun hs hl => stepG_free [] [9] (by kernel_rfl) rfl ?_
                    intro ac W hT hI hO; have h9 : ac.tmps.getD 9 undef = .slice (some ⟨g, 0, none⟩) (cb t.args j) sc := hO 9 (by simp); show Brings _ (fun v _ => _ ∧ v = _) _; simp only [execOp, Act.eval, h9]; go_simp
                    try exact tq
                  case s6 =>
                    refine fun hs hl => stepG_free [62] [] (by kernel_rfl) rfl ?_
                    intro ac W hT hI hO; have h62 : ac.tmps.getD 62 undef = _ := hI 62 (by simp); show Brings _ (fun v _ => _ ∧ v = _) _; simp only [execOp, Act.eval, h62]; go_simp
                    try exact tq
                  case s7 =>
                    refine fun hs hl => stepG_free [] [12] (by kernel_rfl) rfl ?_
                    intro ac W hT hI hO; have h12 : ac.tmps.getD 12 undef = .pointer (some ⟨wr.heap.size + 1, 0, none⟩) := hO 12 (by simp); show Brings _ (fun v _ => _ ∧ v = _) _; simp only [execOp, Act.eval, h12]; go_simp
                    try exact tq
                  case s8 =>
                    refine fun hs hno hl => stepG_free [64] [] (by kernel_rfl) rfl ?_
                    intro ac W hT hI hO; have h64 : ac.tmps.getD 64 undef = _ := hI 64 (by simp); show Brings Try.prog (fun vv w' => BoxR (wr.heap.size + 1) 139 [.string ⟨#[]⟩, .int .i64 j, .int .i64 0, .int .i64 0, .int .i64 0, .string ⟨#[]⟩] [.string sComp, .int .i64 j, .int .i64 x.args.length, .int .i64 (cb t.args j), .int .i64 0, .string x.name] [(8, 0), (10, 5), (12, 2), (14, 3)] W2 (hs ++ [(8, vv)]) w') _; obtain ⟨⟨z, hz⟩, hf⟩ := hT.at (c := 0) (by simp); simp only [execOp, Act.eval, h64]; go_simp; exact hT.store (by kernel_rfl) (by simp) (by simp) rfl
                  case s9 =>
                    refine fun hs hl => stepG_free [] [12] (by kernel_rfl) rfl ?_
                    intro ac W hT hI hO; have h12 : ac.tmps.getD 12 undef = .pointer (some ⟨wr.heap.size + 1, 0, none⟩) := hO 12 (by simp); show Brings _ (fun v _ => _ ∧ v = _) _; simp only [execOp, Act.eval, h12]; go_simp
                    try exact tq
                  case s10 =>
                    refine fun hs hno hl => stepG_free [65, 58] [] (by kernel_rfl) rfl ?_
                    intro ac W hT hI hO; have h65 : ac.tmps.getD 65 undef = _ := hI 65 (by simp); have h58 : ac.tmps.getD 58 undef = _ := hI 58 (by simp); show Brings Try.prog (fun vv w' => BoxR (wr.heap.size + 1) 139 [.string ⟨#[]⟩, .int .i64 j, .int .i64 0, .int .i64 0, .int .i64 0, .string ⟨#[]⟩] [.string sComp, .int .i64 j, .int .i64 x.args.length, .int .i64 (cb t.args j), .int .i64 0, .string x.name] [(8, 0), (10, 5), (12, 2), (14, 3)] W2 (hs ++ [(10, vv)]) w') _; obtain ⟨⟨z, hz⟩, hf⟩ := hT.at (c := 5) (by simp); simp only [execOp, Act.eval, h65, h58]; go_simp; exact hT.store (by kernel_rfl) (by simp) (by simp) rfl
                  case s11 =>
                    refine fun hs hl => stepG_free [] [12] (by kernel_rfl) rfl ?_
                    intro ac W hT hI hO; have h12 : ac.tmps.getD 12 undef = .pointer (some ⟨wr.heap.size + 1, 0, none⟩) := hO 12 (by simp); show Brings _ (fun v _ => _ ∧ v = _) _; simp only [execOp, Act.eval, h12]; go_simp
                    try exact tq
                  case s12 =>
                    refine fun hs hno hl => stepG_free [66, 61] [] (by kernel_rfl) rfl ?_
                    intro ac W hT hI hO; have h66 : ac.tmps.getD 66 undef = _ := hI 66 (by simp); have h61 : ac.tmps.getD 61 undef = _ := hI 61 (by simp); show Brings Try.prog (fun vv w' => BoxR (wr.heap.size + 1) 139 [.string ⟨#[]⟩, .int .i64 j, .int .i64 0, .int .i64 0, .int .i64 0, .string ⟨#[]⟩] [.string sComp, .int .i64 j, .int .i64 x.args.length, .int .i64 (cb t.args j), .int .i64 0, .string x.name] [(8, 0), (10, 5), (12, 2), (14, 3)] W2 (hs ++ [(12, vv)]) w') _; obtain ⟨⟨z, hz⟩, hf⟩ := hT.at (c := 2) (by simp); simp only [execOp, Act.eval, h66, h61]; go_simp; exact hT.store (by kernel_rfl) (by simp) (by simp) rfl
                  case s13 =>
                    refine fun hs hl => stepG_free [] [12] (by kernel_rfl) rfl ?_
                    intro ac W hT hI hO; have h12 : ac.tmps.getD 12 undef = .pointer (some ⟨wr.heap.size + 1, 0, none⟩) := hO 12 (by simp); show Brings _ (fun v _ => _ ∧ v = _) _; simp only [execOp, Act.eval, h12]; go_simp
                    try exact tq
                  case s14 =>
                    refine fun hs hno hl => stepG_free [67, 63] [] (by kernel_rfl) rfl ?_
                    intro ac W hT hI hO; have h67 : ac.tmps.getD 67 undef = _ := hI 67 (by simp); have h63 : ac.tmps.getD 63 undef = _ := hI 63 (by simp); show Brings Try.prog (fun vv w' => BoxR (wr.heap.size + 1) 139 [.string ⟨#[]⟩, .int .i64 j, .int .i64 0, .int .i64 0, .int .i64 0, .string ⟨#[]⟩] [.string sComp, .int .i64 j, .int .i64 x.args.length, .int .i64 (cb t.args j), .int .i64 0, .string x.name] [(8, 0), (10, 5), (12, 2), (14, 3)] W2 (hs ++ [(14, vv)]) w') _; obtain ⟨⟨z, hz⟩, hf⟩ := hT.at (c := 3) (by simp); simp only [execOp, Act.eval, h67, h63]; go_simp; exact hT.store (by kernel_rfl) (by simp) (by simp) rfl
                case hQ =>
                  intro hs3 vs3 W3 hall huniq hR hV; simp only [List.foldl_cons, List.foldl_nil, List.setIfInBounds_toArray, List.set_cons_zero, List.set_cons_succ]; have HS3 := hid (hR.done rfl (by intro a ha; simp only [List.mem_cons, List.not_mem_nil, or_false] at ha; rcases ha with rfl | rfl | rfl | rfl <;> exact hall _ (by simp)) (by intro c hc hn; simp only [List.length_cons, List.length_nil] at hc; simp only [List.map_cons, List.map_nil, List.mem_cons, List.not_mem_nil, or_false, not_or] at hn; have hcs : c = 0 ∨ c = 1 ∨ c = 2 ∨ c = 3 ∨ c = 4 ∨ c = 5 := (by omega); rcases hcs with rfl | rfl | rfl | rfl | rfl | rfl <;> first | rfl | omega)); have HT3w := hid hR.t; have HTR : Hid (Turned (fun _ => False) wr W3) := HTW.out.step hR.t (fun i hi e => by omega); obtain ⟨s0, s1, s2, s3, s4, s5⟩ := cells6 HS3.out; have hfs := free6 HS3.out; obtain ⟨z0, z1, z2, z3, _⟩ := cells4 (HKX.out W3 hR.t); obtain ⟨q0, q1, q2, q3, g0, g1, g2, g3⟩ := cells4 ((HTR.out.block _ (Array.getElem?_eq_some_iff.1 HCC.out).1 (fun f => f)).trans HCC.out); clear hR hV hall huniq; have hn3 : (metS t j).length ≤ 2000 := metS_few HG.out (by have := HS.out; omega)
                  have hpos : 0 < x.args.length := by have := HA2.out; omega
                  obtain ⟨bb, bo, hat, _, hnews⟩ := (LT.In.lies (HXI.out.turned0 HTR.out)) hpos; obtain ⟨i1, hi1, hy0, hy1, hy2⟩ := info_parts infoT; rw [hat] at z3; have hx8 := HXF.out; have HNW := hid hnews; have HRG := hid (HI.out.regs.turned0 HTR.out); clear hnews
                  have HST2 : Hid (steps t.vars t.args (j + 1) = steps t.vars t.args j ++ [⟨sComp, j, (x.args.length : Int), (cb t.args j : Int), 0, x.name⟩]) := by
                    show _ = _; rw [HST.out]; unfold stepX; rw [if_neg HK0.out, if_neg HK1.out, if_neg HA2.out]
                  go_wp2_with (first
                    | (at_builtin; have HMID : Hid (HeadM t wo.heap.size mb (wo.heap.size + 1) j (.slice (some ⟨g7, 0, none⟩) (cb t.args j + x.args.length) cap7) lv w2 W7) := HI.out.mid HCC.out HLR.out HLO.out ((HTR.out.mono (fun _ _ f => f.elim)).trans (HT7.out.mono (fun k _ e => .inr e))) (by rw [metS_next HXR.out, if_neg (fun c => HK0.out c.1)]; exact (HI.out.had.turned HTR.out (fun f => f)).turned HT7.out (fun c => (HI.out.own _ c).2.2.2 rfl)) (by rw [HXC.out, HXN.out, List.flatMap_append]; exact HR7.out) (HO7.out.imp (fun c => by simpa [Value.ownBlock] using c) (fun c k hk => by simp [Value.ownBlock] at hk; have := HTR.out.size; omega)); obtain ⟨i0, hi0, hz0, hz1, hz2⟩ := info_parts infoS; have HMA := hid (HMID.out.turned0 ((Turned.refl (fun _ => False) W7).alloc (.cells #[.string sComp, .int .i64 j, .int .i64 x.args.length, .int .i64 (cb t.args j), .int .i64 0, .string x.name] 139))); have HNB := hid (World.news_of_block (heap_alloc_new W7 (.cells #[.string sComp, .int .i64 j, .int .i64 x.args.length, .int .i64 (cb t.args j), .int .i64 0, .string x.name] 139))); refine append_some _ rfl _ _ 102 rfl 139 i0 _ 6 64 Try.underlying102 hi0 hz0 hz1 hz2 rfl (by decide) lv j ((steps t.vars t.args j).flatMap stC) rfl HMA.out.row ⟨W7.heap.size, 0, none⟩ 1 1 (stC ⟨sComp, j, (x.args.length : Int), (cb t.args j : Int), 0, x.name⟩) rfl rfl HNB.out (stC_one _) (by omega) (by unfold maxLen; omega) (by omega) ?_; intro g9 cap9 W9 hr9 T9 ho9; have hc9 := (T9.block _ (Array.getElem?_eq_some_iff.1 HMA.out.c).1 (fun c => (HMA.out.lvo _ c).2.1 rfl)).trans HMA.out.c; obtain ⟨y0, y1, y2, y3, f0, f1, f2, f3⟩ := cells4 hc9; have HR9 := hid hr9; have HT9 := hid T9; have HO9 := hid ho9; have HC9 := hid hc9; clear hr9 T9 ho9 hc9)
                    | (at_builtin; refine append_some _ rfl _ _ 22 rfl 27 i1 zeroT 4 56 Try.underlying22 hi1 hy0 hy1 hy2 rfl (by decide) (.slice (some ⟨g, 0, none⟩) (cb t.args j) sc) (cb t.args j) ((reg t.args j).flatMap LT.cells) rfl HRG.out ⟨bb, bo, none⟩ x.args.length x.at_.2 (x.args.flatMap LT.cells) rfl (LT.flat_length _) (fun j u hu => by rw [Addr.add_lit]; exact HNW.out j u hu) (LT.flat_one _) hpos (by unfold maxLen; omega) (by omega) ?_; intro g7 cap7 W7 hr7 T7 ho7; have HR7 := hid hr7; have HT7 := hid T7; have HO7 := hid ho7; have hs7 := (T7.block _ (Array.getElem?_eq_some_iff.1 HS3.out).1 (fun c => by have := HI.out.regs.lt _ c; omega)).trans HS3.out; obtain ⟨s0, s1, s2, s3, s4, s5⟩ := cells6 hs7; have hc7 := (T7.block _ (Nat.lt_of_lt_of_le (Array.getElem?_eq_some_iff.1 HCC.out).1 HTR.out.size) (fun c => (HI.out.own _ c).2.1 rfl)).trans ((HTR.out.block _ (Array.getElem?_eq_some_iff.1 HCC.out).1 (fun f => f)).trans HCC.out); obtain ⟨q0, q1, q2, q3, g0, g1, g2, g3⟩ := cells4 hc7; clear hr7 T7 ho7 hs7 hc7))
                  have HNX : Hid (HeadI t wo.heap.size mb (wo.heap.size + 1) (j + 1) (.slice (some ⟨g7, 0, none⟩) (cb t.args j + x.args.length) cap7) w2 (W9.setCell ⟨wo.heap.size, 3, none⟩ (.slice (some ⟨g9, 0, none⟩) (j + 1) cap9))) := HMA.out.next HST2.out HT9.out HR9.out (HO9.out.imp (fun c => by simpa [Value.ownBlock] using c) (fun c k hk => by simp [Value.ownBlock] at hk; omega)) (turned_cell' _ _ _ _) (by simpa using heap_setCell_same W9 wo.heap.size 3 _ 104 (.slice (some ⟨g9, 0, none⟩) (j + 1) cap9) HC9.out); go_roundg (gk - 1)
                  case measure => have := HJ.out; omega
                  case rel => exact ⟨j + 1, show _ = _ by have := HJ.out; omega, by omega, by go_num, some ⟨g7, 0, none⟩, cap7, by rw [HXC.out], HNX⟩
        · obtain rfl : S = j := by omega
          have hcb : cb t.args S = S := by rw [HS.out]; exact Tm.cb_end _
          have dj : decide ((S : Int) < (cb t.args S : Int)) = false := decide_eq_false (by omega); have dj2 : decide (S < cb t.args S) = false := decide_eq_false (by omega)
          have dj3 : ¬ S < cb t.args S := by omega
          obtain ⟨lv, hcc, hlr, hlo⟩ := HI.out.code; obtain ⟨la, lc, rfl⟩ := hlr.shape; have T1 : Turned (fun k => k = wo.heap.size) wr (wr.setCell ⟨wo.heap.size, 2, none⟩ (.int .i64 (cb t.args S))) := turned_cell' _ _ _ _
          have hc1 : (wr.setCell ⟨wo.heap.size, 2, none⟩ (.int .i64 (cb t.args S))).heap[wo.heap.size]? = some (.cells #[.int .i64 t.args.length, .int .i64 t.vars.length, .int .i64 (cb t.args S), .slice la S lc] 104 (0, 0)) := by simpa using heap_setCell_same wr wo.heap.size 2 _ 104 (.int .i64 (cb t.args S)) hcc
          have T2w : Turned (fun _ => False) w2 (wr.setCell ⟨wo.heap.size, 2, none⟩ (.int .i64 (cb t.args S))) := HI.out.t.step T1 (fun i hi e => by have := HI.out.ne.1; omega); have hrow := hlr.turned T1 (fun k hk e => (hlo k hk).2.1 e); obtain ⟨W1, hW1⟩ : ∃ z, z = wr.setCell ⟨wo.heap.size, 2, none⟩ (.int .i64 (cb t.args S)) := ⟨_, rfl⟩; rw [← hW1] at hc1 T2w hrow; obtain ⟨q0, q1, q2, q3, g0, g1, g2, g3⟩ := cells4 hcc; obtain ⟨r0, r1, r2, r3, f0, f1, f2, f3⟩ := cells4 (HRB.out W1 T2w); obtain ⟨p0, p1, p2, p3, _⟩ := cells4 hc1; rw [hW1] at p0 p1 p2 p3 r0 r1 r2 r3 f0 f1 f2 f3; have HRR := hid (HRB.out W1 T2w); have HROW := hid hrow; have HLO := hid hlo; have HT2w := hid T2w; have HCBE := hid hcb; have HW1 := hid hW1; clear hcc hlr hlo T1 hc1 T2w hrow hW1 hcb
          go_wp2_with fail
          rw [← HW1.out]; have hz := HZ.out; refine bodyPost_ret (results_cell_tmp1 Try.results93 _ _ (w.heap.size + 1) 104 _ (0, 0) _ rfl (set4 (a' := .int .i64 t.args.length) (b' := .int .i64 t.vars.length) (c' := .int .i64 (cb t.args S)) (d' := .slice la S lc) HRR.out) Try.underlying104 rfl (by kernel_rfl)) rfl ⟨.slice la S lc, by rw [HCBE.out, HS.out]; rfl, ?_, fun k hk => by have := (HLO.out k hk).1; omega, (HT2.out.trans HT2w.out).step (turned_store4 W1 (w.heap.size + 1) _ _ _ _) (fun i hi e => by omega)⟩; have hq := HROW.out.turned (turned_store4 W1 (w.heap.size + 1) (.int .i64 t.args.length) (.int .i64 t.vars.length) (.int .i64 (cb t.args S)) (.slice la S lc)) (fun k hk e => by have := (HLO.out k hk).1; omega); rw [← HS.out]; exact hq
end Go.Proofs.Ytoihjobdfjajfaa
namespace Go.Proofs.Ytoihjobdfjajfaa
open Lib (hid)
open Go.RowKit Go.Maps
open Tm (Stp sVar sVal sInt sAtom sComp cb met steps stepX stepAt goodC)
abbrev hdT (a : Option Addr) (c : Nat) (a' : Option Addr) (c' : Nat) : LT := .mk 2 0 ⟨#[112]⟩ (a, c) [leaf 0 9 ByteArray.empty, .mk 2 0 ⟨#[102]⟩ (a', c') [leaf 0 9 ByteArray.empty]]
abbrev st0 : Stp := ⟨⟨#[118, 97, 114]⟩, 0, 0, 0, 0, ⟨#[]⟩⟩
abbrev st1 : Stp := ⟨⟨#[99, 111, 109, 112]⟩, 1, 1, 2, 0, ⟨#[102]⟩⟩
abbrev st2 : Stp := ⟨⟨#[118, 97, 108]⟩, 2, 0, 0, 0, ⟨#[]⟩⟩
section
variable {a a' : Option Addr} {c c' : Nat} {w : World}
theorem hd_good : goodB (hdT a c a' c') = true := by kernel_rfl
theorem hd_vars : (hdT a c a' c').vars.length = 1 := by kernel_rfl
theorem hd_sizes : Tm.sizes (hdT a c a' c').args = 3 := by kernel_rfl
theorem hd_steps : steps (hdT a c a' c').vars (hdT a c a' c').args 3 = [st0, st1, st2] := by kernel_rfl
theorem hdHead (h : (hdT a c a' c').In (fun _ => True) w) : Calls Try.prog 93 #[.agg #[.int .i64 2, .int .i64 0, .string ⟨#[112]⟩, .slice a 2 c]] w fun e w' => ∃ lv : Value, e = .returned (.tuple #[.agg #[.int .i64 2, .int .i64 1, .int .i64 3, lv], .int .i64 0]) ∧ Row w' 139 6 lv 3 ([st0, st1, st2].flatMap stC) ∧ (∀ k, lv.ownBlock = some k → w.heap.size ≤ k) ∧ Turned (fun _ => False) w w' := by
  have := head93 h hd_good rfl; rw [hd_vars, hd_sizes, hd_steps] at this; exact this
theorem hdGood {lv : Value} {w' : World} (h : (hdT a c a' c').In (fun _ => True) w') (hr : Row w' 139 6 lv 3 ([st0, st1, st2].flatMap stC)) : Calls Try.prog 95 #[.agg #[.int .i64 2, .int .i64 1, .int .i64 3, lv]] w' fun e w2 => e = .returned (.bool true) ∧ Turned (fun _ => False) w' w2 := by
  have := goodHead95 (lv := lv) h hd_good rfl (by rw [hd_sizes, hd_steps]; exact hr); rw [hd_vars, hd_sizes] at this; exact this
end
theorem lit_ops : ((⟨#[118, 97, 114]⟩ : ByteArray).toList == [118, 97, 114]) = true ∧ ((⟨#[118, 97, 108]⟩ : ByteArray).toList == [118, 97, 108]) = true ∧ ((⟨#[99, 111, 109, 112]⟩ : ByteArray).toList == [99, 111, 109, 112]) = true ∧ ((⟨#[102]⟩ : ByteArray).toList == [102]) = true ∧ ((⟨#[]⟩ : ByteArray).toList == []) = true := by
  refine ⟨?_, ?_, ?_, ?_, ?_⟩ <;> (rw [ByteArray.toList_eq]; rfl)
set_option maxRecDepth 100000 in
set_option maxHeartbeats 6400000 in
theorem awake91 (w : World) : Calls Try.prog 91 #[] w fun e w' => e = .returned (.bool true) ∧ Turned (fun _ => False) w w' := by
  obtain ⟨l0, l1, l2, l3, l4⟩ := lit_ops; go_enter Try.func91, Try.ntmps91
  go_wp2_with (first
    | (go_at_call 95; have HC6 := HC6; (refine (hdGood HI6.out HR6.out).mono ?_); rintro e w7 ⟨rfl, T7⟩; have HT7 := hid T7; clear T7)
    | (go_at_call 93; refine (hdHead i4).mono ?_; rintro e w5 ⟨lv, rfl, hr5, ho5, T5⟩; obtain ⟨g5, cap5, rfl⟩ := hr5.shape_pos (by omega); have TA := (Turned.refl (fun _ => False) w5).alloc (.cells #[.int .i64 2, .int .i64 1, .int .i64 3, .slice (some ⟨g5, 0, none⟩) 3 cap5] 104); have HR6 := hid (hr5.turned0 TA); have HI6 := hid ((i4.turned0 T5).turned0 TA); obtain ⟨a0, a1, a2, a3, a4, a5⟩ := step_cells (L := [st0, st1, st2]) (i := 0) (s := st0) HR6.out rfl; obtain ⟨b0, b1, b2, b3, b4, b5⟩ := step_cells (L := [st0, st1, st2]) (i := 1) (s := st1) HR6.out rfl; obtain ⟨d0, d1, d2, d3, d4, d5⟩ := step_cells (L := [st0, st1, st2]) (i := 2) (s := st2) HR6.out rfl; simp only [Nat.zero_mul, Nat.one_mul, Nat.zero_add, Nat.reduceMul, Nat.reduceAdd] at a0 a1 a2 a3 a4 a5 b0 b1 b2 b3 b4 b5 d0 d1 d2 d3 d4 d5; have HT6 := hid ((((T1.trans T2).trans T3).trans T4).trans (T5.trans TA)); have HC6 := HT6; clear T1 T2 T3 T4 T5 TA hr5 ho5 i1 i2 i3 i4)
    | (go_at_call 37; have := T3; refine (compV ⟨#[112]⟩ (by unfold maxLen; decide) 2 (by decide) rfl (sl_made (l := [leaf 0 9 ByteArray.empty, .mk 2 0 ⟨#[102]⟩ (a3, c3) [leaf 0 9 ByteArray.empty]]) ⟨i1.turned0 (T2.trans T3), i3, trivial⟩ 2 (by decide) rfl _ rfl)).mono ?_; rintro e w4 ⟨a4, c4, rfl, i4, T4'⟩; have T4 := ((Turned.refl (fun _ => False) w3).alloc _).trans T4'; clear T4')
    | (go_at_call 37; have := T2; refine (compV ⟨#[102]⟩ (by unfold maxLen; decide) 1 (by decide) rfl (sl_made (l := [leaf 0 9 ByteArray.empty]) ⟨i2, trivial⟩ 1 (by decide) rfl _ rfl)).mono ?_; rintro e w3 ⟨a3, c3, rfl, i3, T3'⟩; have T3 := ((Turned.refl (fun _ => False) w2).alloc _).trans T3'; clear T3')
    | (go_at_call 62; have := T1; refine (varV 9 (i64_lit _ (by omega)) _).mono ?_; rintro e w2 ⟨rfl, i2, T2⟩)
    | (go_at_call 62; refine (varV 9 (i64_lit _ (by omega)) _).mono ?_; rintro e w1 ⟨rfl, i1, T1⟩))
  go_ret; exact ⟨rfl, HT6.out.trans HT7.out⟩
end Go.Proofs.Ytoihjobdfjajfaa
namespace Go.Proofs.Ytoihjobdfjajfaa
open Lib (hid)
open Go.RowKit Go.Maps
theorem deepVal92 (k : Nat) (t : LT) (W : World) (n : Int) (hn : n = (k : Int)) (hk : k ≤ 1000) {p : Nat → Prop} (h : t.In p W) : Calls Try.prog 92 #[.agg #[.int .i64 t.kind, .int .i64 t.n, .string t.name, .slice t.at_.1 t.args.length t.at_.2], .int .i64 n] W fun e w' => e = .returned (.bool (deepB k t)) ∧ Turned (fun _ => False) W w' := by
  subst hn; have := deep92 p k t W hk h; rw [LT.val_eq] at this; exact this
theorem BM.fresh {N bb m : Nat} {bx : List (Nat × Obj)} {ts : List LT} {w1 W : World} {tr : Tm.Trail} (hN : N = w1.heap.size) (h : BM N bb bx ts w1 m tr W) (hm : m < 65536) :
    Calls Try.prog 87 #[.pointer (some ⟨bb, 0, none⟩)] W fun e w' => e = .returned (.tuple #[.agg #[.int .i64 0, .int .i64 (m : Int), .string ByteArray.empty, .slice none 0 0], .bool true]) ∧ BM N bb bx ts w1 (m + 1) tr w' := by
  obtain ⟨q, O, l, h3, rfl, _, _, hk⟩ := h.call hN; refine (freshO87 h3 hm).mono ?_
  rintro e w' ⟨rfl, ha⟩
  exact ⟨rfl, hk _ _ w' ha⟩
theorem vars_le (t : LT) : t.vars.length ≤ t.size := by
  have h1 := addVar_le t.flat []; rw [Tm.flat_length] at h1; simp at h1; unfold Tm.vars; omega
theorem row_slice {w : World} {ty : TypeId} {size n : Nat} {v : Value} {xs : List Value} (h : Row w ty size v n xs) : ∃ a c, v = .slice a n c := by
  rcases h.2 with ⟨rfl, rfl⟩ | ⟨g, cap, cur, rfl, _⟩
  · exact ⟨_, _, rfl⟩
  · exact ⟨_, _, rfl⟩
theorem sizeV35 {p : Nat → Prop} {t : LT} {w : World} {d : Int} (ht : t.In p w) (hs : slim t) (hd : ((min t.size 2001 : Nat) : Int) = d) : Calls Try.prog 35 #[.agg #[.int .i64 t.kind, .int .i64 t.n, .string t.name, .slice t.at_.1 t.args.length t.at_.2]] w fun e w' => e = .returned (.int .i64 d) ∧ Turned (fun _ => False) w w' := by
  have h := size35 ht hs; rw [LT.val_eq, hd] at h; exact h
theorem vars_nonneg {t : LT} (hg : goodB t = true) {v : Int} (hv : v ∈ t.vars) : 0 ≤ v := by
  rw [← goodB_bare] at hg; rw [← Tm.vars_bare] at hv; obtain ⟨x, hx, hk, rfl⟩ := (Tm.vars_mem v).1 hv; have h := Tm.good_ones' hg x hx; rw [goodOneB_0 x hk] at h; simp only [Bool.and_eq_true, decide_eq_true_eq] at h; exact h.1
theorem wholeV {m : Nat} (hm : m ≤ 65536) {v : Int} (h0 : 0 ≤ v) (h1 : v < (m : Int)) : wholeE m [] (Tm.V v) = 0 ∧ wholeT m [] (Tm.V v) = Tm.V v := by
  have hi : Tm.img [] (Tm.V v) = Tm.V v := by rw [Tm.img_V]; rfl
  have h : wholeE m [] (Tm.V v) = 0 := by
    unfold wholeE; rw [if_pos (Tm.ownB_V h0 h1 hm), if_pos (by unfold Tm.wholeB; rw [hi]; rfl)]
  refine ⟨h, ?_⟩; unfold wholeT; rw [h, hi]; rfl
theorem BM.wholeV {N bb m : Nat} {bx : List (Nat × Obj)} {ts : List LT} {w1 w0 : World} {x : LT} {v : Int} (hN : N = w1.heap.size) (h : BM N bb bx ts w1 m [] w0) (hx : x ∈ ts ∨ ∀ (p : Nat → Prop) (w : World), x.In p w) (hb : x.bare = Tm.V v) (h0 : 0 ≤ v) (h1 : v < (m : Int)) (W : World) (T : Turned (fun _ => False) w0 W) :
    Calls Try.prog 89 #[.pointer (some ⟨bb, 0, none⟩), .agg #[.int .i64 x.kind, .int .i64 x.n, .string x.name, .slice x.at_.1 x.args.length x.at_.2]] W fun e w' => ∃ u : LT, e = .returned (.tuple #[.agg #[.int .i64 u.kind, .int .i64 u.n, .string u.name, .slice u.at_.1 u.args.length u.at_.2], .int .i64 0]) ∧ u.bare = Tm.V v ∧ u.In (fun _ => True) w' ∧ Turned (fun _ => False) W w' := by
  have hm := h.most; obtain ⟨q, O, l, g1, g2, g3, g4, _⟩ := (h.turned0 T).call hN
  have hg : goodB x.bare = true := by rw [hb]; exact Tm.goodB_V h0 (by omega)
  have hw := Go.Proofs.Ytoihjobdfjajfaa.wholeV hm h0 h1; refine (wholeVal g1 (hx.elim (g4 x) (fun k => k q W)) (good_slimB hg) (E := 0) (by rw [g2, hb]; exact hw.1)).mono ?_
  rintro e w' ⟨u, rfl, hu, hi, T'⟩
  exact ⟨u, rfl, by rw [hu, g2, hb]; exact hw.2, hi.mono (fun _ _ _ => trivial), T'⟩
theorem varV62 (n : Int) (hn : I64 n) (w : World) : Calls Try.prog 62 #[.int .i64 n] w fun e w' => e = .returned (.agg #[.int .i64 0, .int .i64 n, .string ByteArray.empty, .slice none 0 0]) ∧ Turned (fun _ => False) w w' :=
  (var62 n hn w).mono fun e w' h => ⟨h.1, h.2.2⟩
set_option maxRecDepth 100000 in
set_option maxHeartbeats 6400000 in
theorem codeSelfA {t : LT} {w : World} (ht : t.In (fun _ => True) w) : Calls Try.prog 30 #[.agg #[.int .i64 t.kind, .int .i64 t.n, .string t.name, .slice t.at_.1 t.args.length t.at_.2]] w fun e w' => e = .returned (.bool true) ∧ Turned (fun _ => False) w w' := by
  have T1 := (Turned.refl (fun _ => False) w).alloc (.cells #[.int .i64 t.kind, .int .i64 t.n, .string t.name, .slice t.at_.1 t.args.length t.at_.2] 27); obtain ⟨w2, hw2⟩ : ∃ z, z = w.alloc (.cells #[.int .i64 t.kind, .int .i64 t.n, .string t.name, .slice t.at_.1 t.args.length t.at_.2] 27) := ⟨_, rfl⟩; have hnew := heap_alloc_new w (.cells #[.int .i64 t.kind, .int .i64 t.n, .string t.name, .slice t.at_.1 t.args.length t.at_.2] 27); rw [← hw2] at T1 hnew
  have hcx : ∀ W, Turned (fun _ => False) w2 W → W.cell? ⟨w.heap.size, 0, none⟩ = some (.int .i64 t.kind) ∧ W.cell? ⟨w.heap.size, 1, none⟩ = some (.int .i64 t.n) ∧ W.cell? ⟨w.heap.size, 2, none⟩ = some (.string t.name) ∧ W.cell? ⟨w.heap.size, 3, none⟩ = some (.slice t.at_.1 t.args.length t.at_.2) := fun W T => by
    have c := cells4 ((T.block _ (Array.getElem?_eq_some_iff.1 hnew).1 (fun f => f)).trans hnew); exact ⟨c.1, c.2.1, c.2.2.1, c.2.2.2.1⟩
  have HCX := hid hcx; have HW2 := hid hw2; have HT1 := hid T1; have HTI := hid (ht.turned0 T1); clear hcx hw2 T1 ht hnew; obtain ⟨d, hd⟩ : ∃ z, z = deepB 20 t := ⟨_, rfl⟩; have HD := hid hd.symm
  cases d with
  | true =>
    clear hd; go_enter Try.func30, Try.ntmps30
    go_wp2_with (first
    | (go_at_call 92; have HT3 := HT3; (with_reducible refine (deepVal92 20 t _ 20 rfl (by omega) (HTI.out.turned0 HT3.out)).mono ?_); rintro e w4 ⟨rfl, T4⟩; rw [HD.out]; have HT4 := hid (HT3.out.trans T4); clear T4; obtain ⟨k0, k1, k2, k3⟩ := HCX.out w4 HT4.out)
    | (go_at_call 91; rw [← HW2.out]; (with_reducible refine (awake91 w2).mono ?_); rintro e w3 ⟨rfl, T3⟩; have HT3 := hid T3; clear T3; obtain ⟨k0, k1, k2, k3⟩ := HCX.out w3 HT3.out))
    go_ret; exact ⟨rfl, HT1.out.trans HT4.out⟩
  | false =>
  have HSL := hid (deep_slim 20 t hd.symm); clear hd; obtain ⟨g, hg⟩ : ∃ z, z = goodB t := ⟨_, rfl⟩; have HG := hid hg.symm; clear hg
  cases g with
  | false =>
    go_enter Try.func30, Try.ntmps30
    go_wp2_with (first
    | (go_at_call 38; have HT4 := HT4; (with_reducible refine (goodVal' (HTI.out.turned0 HT4.out) HSL.out HG.out).mono ?_); rintro e w5 ⟨rfl, T5⟩; have HT5 := hid (HT4.out.trans T5); clear T5; obtain ⟨k0, k1, k2, k3⟩ := HCX.out w5 HT5.out)
    | (go_at_call 92; have HT3 := HT3; (with_reducible refine (deepVal92 20 t _ 20 rfl (by omega) (HTI.out.turned0 HT3.out)).mono ?_); rintro e w4 ⟨rfl, T4⟩; rw [HD.out]; have HT4 := hid (HT3.out.trans T4); clear T4; obtain ⟨k0, k1, k2, k3⟩ := HCX.out w4 HT4.out)
    | (go_at_call 91; rw [← HW2.out]; (with_reducible refine (awake91 w2).mono ?_); rintro e w3 ⟨rfl, T3⟩; have HT3 := hid T3; clear T3; obtain ⟨k0, k1, k2, k3⟩ := HCX.out w3 HT3.out))
    go_ret; exact ⟨rfl, HT1.out.trans HT5.out⟩
  | true =>
  by_cases hk : t.kind = 2
  case neg =>
    have bk : (t.kind != 2) = true := by simp [hk]
    go_enter Try.func30, Try.ntmps30
    go_wp2_with (first
    | (go_at_call 38; have HT4 := HT4; (with_reducible refine (goodVal' (HTI.out.turned0 HT4.out) HSL.out HG.out).mono ?_); rintro e w5 ⟨rfl, T5⟩; have HT5 := hid (HT4.out.trans T5); clear T5; obtain ⟨k0, k1, k2, k3⟩ := HCX.out w5 HT5.out)
    | (go_at_call 92; have HT3 := HT3; (with_reducible refine (deepVal92 20 t _ 20 rfl (by omega) (HTI.out.turned0 HT3.out)).mono ?_); rintro e w4 ⟨rfl, T4⟩; rw [HD.out]; have HT4 := hid (HT3.out.trans T4); clear T4; obtain ⟨k0, k1, k2, k3⟩ := HCX.out w4 HT4.out)
    | (go_at_call 91; rw [← HW2.out]; (with_reducible refine (awake91 w2).mono ?_); rintro e w3 ⟨rfl, T3⟩; have HT3 := hid T3; clear T3; obtain ⟨k0, k1, k2, k3⟩ := HCX.out w3 HT3.out))
    go_ret; exact ⟨rfl, HT1.out.trans HT5.out⟩
  have bk : (t.kind != 2) = false := by simp [hk]
  obtain ⟨sz, hsz⟩ : ∃ z : Int, z = ((min t.size 2001 : Nat) : Int) := ⟨_, rfl⟩; have HSZ := hid hsz; have HK := hid hk
  by_cases h100 : 100 < sz
  · have b100 : decide (100 < sz) = true := decide_eq_true h100
    clear hsz hk; go_enter Try.func30, Try.ntmps30
    go_wp2_with (first
    | (go_at_call 35; have HT5 := HT5; (with_reducible refine (sizeV35 (HTI.out.turned0 HT5.out) HSL.out HSZ.out.symm).mono ?_); rintro e w6 ⟨rfl, T6⟩; have HT6 := hid (HT5.out.trans T6); clear T6; obtain ⟨k0, k1, k2, k3⟩ := HCX.out w6 HT6.out)
    | (go_at_call 38; have HT4 := HT4; (with_reducible refine (goodVal' (HTI.out.turned0 HT4.out) HSL.out HG.out).mono ?_); rintro e w5 ⟨rfl, T5⟩; have HT5 := hid (HT4.out.trans T5); clear T5; obtain ⟨k0, k1, k2, k3⟩ := HCX.out w5 HT5.out)
    | (go_at_call 92; have HT3 := HT3; (with_reducible refine (deepVal92 20 t _ 20 rfl (by omega) (HTI.out.turned0 HT3.out)).mono ?_); rintro e w4 ⟨rfl, T4⟩; rw [HD.out]; have HT4 := hid (HT3.out.trans T4); clear T4; obtain ⟨k0, k1, k2, k3⟩ := HCX.out w4 HT4.out)
    | (go_at_call 91; rw [← HW2.out]; (with_reducible refine (awake91 w2).mono ?_); rintro e w3 ⟨rfl, T3⟩; have HT3 := hid T3; clear T3; obtain ⟨k0, k1, k2, k3⟩ := HCX.out w3 HT3.out))
    go_ret; exact ⟨rfl, HT1.out.trans HT6.out⟩
  have b100 : decide (100 < sz) = false := decide_eq_false h100
  have hts : t.size ≤ 100 := by omega
  have HTS := hid hts; clear hsz hk hts h100; go_enter Try.func30, Try.ntmps30
  go_wp2_with (first
    | (go_at_call 86; have HR7 := HR7; (with_reducible refine (newO86 (p := fun k => k < w7.heap.size) w7 (fun _ h => h)).mono ?_); rintro e w8 ⟨bb, rfl, B8, hbb, T8⟩; have HB8 : Hid (BM w7.heap.size bb [] [t] w7 0 [] w8) := ⟨_, [], _, fun _ h => h, rfl, B8, fun k hk => hk.1, T8, (fun b hb => by cases hb), fun x hx => by obtain rfl := List.mem_singleton.1 hx; exact ((HTI.out.turned0 HT7.out).mono (fun k hk _ => hk)).turned0 T8⟩; clear B8 hbb T8)
    | (go_at_call 34; have HT6 := HT6; (with_reducible refine (varsVal (HTI.out.turned0 HT6.out) (by rw [goodB_bare]; exact HG.out)).mono ?_); rintro e w7 ⟨va, vc, rfl, hrow, T7⟩; have HR7 := hid hrow; have HT7 := hid (HT6.out.trans T7); clear hrow T7)
    | (go_at_call 35; have HT5 := HT5; (with_reducible refine (sizeV35 (HTI.out.turned0 HT5.out) HSL.out HSZ.out.symm).mono ?_); rintro e w6 ⟨rfl, T6⟩; have HT6 := hid (HT5.out.trans T6); clear T6; obtain ⟨k0, k1, k2, k3⟩ := HCX.out w6 HT6.out)
    | (go_at_call 38; have HT4 := HT4; (with_reducible refine (goodVal' (HTI.out.turned0 HT4.out) HSL.out HG.out).mono ?_); rintro e w5 ⟨rfl, T5⟩; have HT5 := hid (HT4.out.trans T5); clear T5; obtain ⟨k0, k1, k2, k3⟩ := HCX.out w5 HT5.out)
    | (go_at_call 92; have HT3 := HT3; (with_reducible refine (deepVal92 20 t _ 20 rfl (by omega) (HTI.out.turned0 HT3.out)).mono ?_); rintro e w4 ⟨rfl, T4⟩; rw [HD.out]; have HT4 := hid (HT3.out.trans T4); clear T4; obtain ⟨k0, k1, k2, k3⟩ := HCX.out w4 HT4.out)
    | (go_at_call 91; rw [← HW2.out]; (with_reducible refine (awake91 w2).mono ?_); rintro e w3 ⟨rfl, T3⟩; have HT3 := hid T3; clear T3; obtain ⟨k0, k1, k2, k3⟩ := HCX.out w3 HT3.out))
  obtain ⟨vs, hvs⟩ : ∃ z, z = t.vars := ⟨_, rfl⟩; have HVS := hid hvs; rw [← hvs] at HR7 ⊢; have hvm := HR7.out.max
  have hvl : vs.length ≤ 100 := by
    have h1 := vars_le t; rw [← hvs] at h1; have := HTS.out; omega
  clear hvs
  go_loopg [5] vs.length (fun k i wr => ∃ j : Nat, Hid (j + k = vs.length) ∧ j ≤ vs.length ∧ i = .int .i64 (j : Int) ∧ Hid (∀ v ∈ vs.take j, v ≤ 1000) ∧ Hid (Turned (fun _ => False) w8 wr))
  case atStart => exact ⟨0, Nat.zero_add _, Nat.zero_le _, rfl, (fun v hv => by cases hv), Turned.refl _ _⟩
  case round =>
    obtain ⟨j, HJ, hj, rfl, HV, HTr⟩ := hrel
    by_cases hjl : j < vs.length
    · have dj : decide ((j : Int) < (vs.length : Int)) = true := decide_eq_true (by omega)
      have hrw := (HR7.out.turned0 (HB8.out.old)).turned0 HTr.out; obtain ⟨gv, cv, hgv⟩ := hrw.shape_pos (by omega)
      have hva : va = some ⟨gv, 0, none⟩ := by injection hgv
      subst hva; obtain ⟨v, hv⟩ : ∃ v, vs[j]? = some v := ⟨_, List.getElem?_eq_getElem hjl⟩; have c0 := hrw.cells rfl j (.int .i64 v) (by rw [List.getElem?_map, hv]; rfl); have HVJ := hid hv; clear hrw hgv hv
      by_cases hb : 1000 < v
      · have db : decide (1000 < v) = true := decide_eq_true hb
        go_wp2_with fail
        go_ret; exact ⟨rfl, ((HT1.out.trans HT7.out).trans HB8.out.old).trans HTr.out⟩
      · have db : decide (1000 < v) = false := decide_eq_false hb
        have HBV := hid hb; clear hb
        go_wp2_with fail
        go_roundg (gk - 1)
        case measure => have := HJ.out; omega
        case rel =>
          refine ⟨j + 1, show _ = _ by have := HJ.out; omega, by omega, by go_num, fun u hu => ?_, HTr.out⟩; rw [List.take_add_one, HVJ.out] at hu
          rcases List.mem_append.1 hu with hu | hu
          · exact HV.out u hu
          · obtain rfl : u = v := by simpa using hu
            have := HBV.out; omega
    · obtain rfl : j = vs.length := by omega
      have dj : decide ((vs.length : Int) < (vs.length : Int)) = false := decide_eq_false (by omega)
      have HVA : Hid (∀ v ∈ vs, v ≤ 1000) := by have := HV.out; rwa [List.take_length] at this
      have HB9 := hid (HB8.out.turned0 HTr.out); clear HJ HV
      go_wp2_with fail
      go_loopg [6] 1001 (fun k i wr => ∃ j : Nat, Hid (j + k = 1001) ∧ j ≤ 1001 ∧ i = .int .i64 (j : Int) ∧ Hid (BM w7.heap.size bb [] [t] w7 j [] wr))
      case atStart => exact ⟨0, Nat.zero_add _, Nat.zero_le _, rfl, HB9.out⟩
      case round =>
        obtain ⟨j, HJ, hj, rfl, HBJ⟩ := hrel
        by_cases hjl : j < 1001
        · have dj : decide ((j : Int) ≤ 1000) = true := decide_eq_true (by omega)
          go_wp2_with (go_at_call 87; (with_reducible refine (HBJ.out.fresh rfl (by omega)).mono ?_); rintro e w10 ⟨rfl, h10⟩; have HB10 := hid h10; clear h10)
          go_roundg (gk - 1)
          case measure => have := HJ.out; omega
          case rel => exact ⟨j + 1, show _ = _ by have := HJ.out; omega, by omega, by go_num, HB10.out⟩
        · obtain rfl : j = 1001 := by omega
          have dj : decide (((1001 : Nat) : Int) ≤ 1000) = false := by decide
          have dj' : decide ((1001 : Int) ≤ 1000) = false := by decide
          obtain ⟨k0, k1, k2, k3⟩ := HCX.out wr (HT7.out.trans HBJ.out.old)
          go_wp2_with (go_at_call 93; (with_reducible refine (head93 (HTI.out.turned0 (HT7.out.trans HBJ.out.old)) HG.out HK.out).mono ?_); rintro e w11 ⟨lv, rfl, hrow, hnew, T11⟩; obtain ⟨aL, cL, rfl⟩ := row_slice hrow; have HROW := hid hrow; have HNEW := hid hnew; have HT11 := hid T11; clear hrow hnew T11; obtain ⟨k0, k1, k2, k3⟩ := HCX.out w11 ((HT7.out.trans HBJ.out.old).trans HT11.out); obtain ⟨z0, z1, z2, z3⟩ := HCX.out (w11.alloc (.cells #[.int .i64 (t.args.length : Int), .int .i64 (t.vars.length : Int), .int .i64 (Tm.sizes t.args : Int), .slice aL (Tm.sizes t.args) cL] 104)) (((HT7.out.trans HBJ.out.old).trans HT11.out).trans ((Turned.refl _ _).alloc _)))
          obtain ⟨bx, hbm, hbr⟩ := HBJ.out.row HT11.out HROW.out HNEW.out; have hbm2 := hbm.box (.cells #[.int .i64 (t.args.length : Int), .int .i64 (t.vars.length : Int), .int .i64 (Tm.sizes t.args : Int), .slice aL (Tm.sizes t.args) cL] 104); have hsm := selfMatch121 rfl hbm2 (List.mem_singleton.2 rfl) HG.out HK.out HTS.out (by rw [← HVS.out]; exact hvl) (by rw [← HVS.out]; exact HVA.out) (fun W' hW => hbr W' (fun b hb => hW b (List.mem_cons_of_mem _ hb))); rw [← HVS.out] at hsm ⊢; have HSM := hid hsm; clear hbm hbr hbm2 hsm; refine HSM.out.mono ?_
          rintro e w12 ⟨gs, ss, cur, rfl, hss, hrs, hb12⟩
          have HSS := hid hss; have HRS := hid hrs; have HB12 := hid hb12
          have bl : ((vs.length : Int) != (vs.length : Int)) = false := by simp
          clear hss hrs hb12
          go_wp2_with fail
          go_loopg [12] vs.length (fun k i wr => ∃ j : Nat, Hid (j + k = vs.length) ∧ j ≤ vs.length ∧ i = .int .i64 (j : Int) ∧ Hid (Turned (fun _ => False) w12 wr))
          case atStart => exact ⟨0, Nat.zero_add _, Nat.zero_le _, rfl, Turned.refl _ _⟩
          case round =>
            obtain ⟨j, HJ, hj, rfl, HTr⟩ := hrel
            by_cases hjl : j < vs.length
            · have dj : decide ((j : Int) < (vs.length : Int)) = true := decide_eq_true (by omega)
              obtain ⟨v, hv⟩ : ∃ v, vs[j]? = some v := ⟨_, List.getElem?_eq_getElem hjl⟩; have hvr : 0 ≤ v ∧ v ≤ 1000 := ⟨vars_nonneg HG.out (by rw [← HVS.out]; exact List.mem_of_getElem? hv), HVA.out v (List.mem_of_getElem? hv)⟩
              have hxs : (ss.map Tm.bare)[j]? = some (Tm.V v) := by rw [HSS.out, List.getElem?_map, hv]; rfl
              rw [List.getElem?_map] at hxs; obtain ⟨x, hx, hxb⟩ := Option.map_eq_some_iff.1 hxs; obtain ⟨g, hgg, x0, x1, x2, x3⟩ := row_at (HRS.out.turned0 HTr.out) hx
              injection hgg with hgg
              injection hgg with hgg
              subst hgg; have hrw := HR7.out.turned0 (HB12.out.old.trans HTr.out); obtain ⟨gv, cv, hgv⟩ := hrw.shape_pos (by omega)
              have hva : va = some ⟨gv, 0, none⟩ := by injection hgv
              subst hva; have HVC := hid (fun W (T : Turned (fun _ => False) wr W) => (hrw.turned0 T).cells rfl j (.int .i64 v) (by rw [List.getElem?_map, hv]; rfl)); have v0 := HVC.out wr (Turned.refl _ _); have HW1 := hid (HB12.out.wholeV (x := x) rfl (.inl (List.mem_append_left _ (List.mem_of_getElem? hx))) hxb hvr.1 (by omega)); have HW2 : Hid (∀ W, Turned (fun _ => False) w12 W → Calls Try.prog 89 #[.pointer (some ⟨bb, 0, none⟩), .agg #[.int .i64 0, .int .i64 v, .string ByteArray.empty, .slice none 0 0]] W fun e w' => ∃ u : LT, e = .returned (.tuple #[.agg #[.int .i64 u.kind, .int .i64 u.n, .string u.name, .slice u.at_.1 u.args.length u.at_.2], .int .i64 0]) ∧ u.bare = Tm.V v ∧ u.In (fun _ => True) w' ∧ Turned (fun _ => False) W w') := (HB12.out.wholeV (x := leaf 0 v ByteArray.empty) rfl (.inr (fun p w => var_in (by unfold I64; omega))) rfl hvr.1 (by omega)); have HVR := hid hvr; clear hv hvr hxs hx hxb hrw hgv
              go_wp2_with (first
                | (go_at_call 52; have HYU := HYU; (with_reducible refine (sameVal' (p := fun _ => True) (r := true) ((HUI.out.turned0 HT14.out).turned0 HT15.out) HYU.out (good_slimB (by rw [HUB.out]; exact Tm.goodB_V HVR.out.1 (by have := HVR.out.2; omega))) (good_slimB (by rw [HYB.out]; exact Tm.goodB_V HVR.out.1 (by have := HVR.out.2; omega))) (sameB_eq (HUB.out.trans HYB.out.symm) (by rw [HUB.out]; exact Tm.goodB_V HVR.out.1 (by have := HVR.out.2; omega)))).mono ?_); rintro e w16 ⟨rfl, T16⟩; obtain ⟨u0, u1, u2, u3, _⟩ := HC13.out _ ((HT14.out.trans HT15.out).trans T16); have HT16 := hid T16; have uk := HUK.out; clear T16)
                | (go_at_call 89; have HT14 := HT14; (with_reducible refine (HW2.out _ ((HTr.out.trans HT13.out).trans HT14.out)).mono ?_); rintro e w15 ⟨y, rfl, hyb, hyi, T15⟩; have hb15 := heap_alloc_new w15 (.cells #[.int .i64 y.kind, .int .i64 y.n, .string y.name, .slice y.at_.1 y.args.length y.at_.2] 27); obtain ⟨y0, y1, y2, y3, _⟩ := cells4 hb15; have T15' := T15.alloc (.cells #[.int .i64 y.kind, .int .i64 y.n, .string y.name, .slice y.at_.1 y.args.length y.at_.2] 27); obtain ⟨u0, u1, u2, u3, _⟩ := HC13.out _ (HT14.out.trans T15'); have HYB := hid hyb; have HYU := hid (hyi.turned0 ((Turned.refl _ w15).alloc (.cells #[.int .i64 y.kind, .int .i64 y.n, .string y.name, .slice y.at_.1 y.args.length y.at_.2] 27))); have HT15 := hid T15'; clear hb15 hyb hyi T15 T15')
                | (go_at_call 62; have HT13 := HT13; (with_reducible refine (varV62 v (by have := HVR.out; unfold I64; omega) _).mono ?_); rintro e w14 ⟨rfl, T14⟩; have HT14 := hid T14; clear T14)
                | (go_at_call 89; (with_reducible refine (HW1.out _ HTr.out).mono ?_); rintro e w13 ⟨u, rfl, hub, hui, T13⟩; have hb13 := heap_alloc_new w13 (.cells #[.int .i64 u.kind, .int .i64 u.n, .string u.name, .slice u.at_.1 u.args.length u.at_.2] 27); obtain ⟨u0, u1, u2, u3, _⟩ := cells4 hb13; have HC13 := hid (fun W (T : Turned (fun _ => False) (w13.alloc (.cells #[.int .i64 u.kind, .int .i64 u.n, .string u.name, .slice u.at_.1 u.args.length u.at_.2] 27)) W) => cells4 ((T.block _ (Array.getElem?_eq_some_iff.1 hb13).1 (fun f => f)).trans hb13)); have T13' := T13.alloc (.cells #[.int .i64 u.kind, .int .i64 u.n, .string u.name, .slice u.at_.1 u.args.length u.at_.2] 27); have v0 := HVC.out _ T13'; have HUB := hid hub; have HUK : Hid (u.kind = 0) := by { show _ = _; have := congrArg Tm.kind hub; rw [Tm.bare_kind] at this; exact this }; have HUI := hid (hui.turned0 ((Turned.refl _ w13).alloc (.cells #[.int .i64 u.kind, .int .i64 u.n, .string u.name, .slice u.at_.1 u.args.length u.at_.2] 27))); have HT13 := hid T13'; clear hb13 hub hui T13 T13'))
              go_roundg (gk - 1)
              case measure => have := HJ.out; omega
              case rel => exact ⟨j + 1, show _ = _ by have := HJ.out; omega, by omega, by go_num, (((HTr.out.trans HT13.out).trans HT14.out).trans HT15.out).trans HT16.out⟩
            · obtain rfl : j = vs.length := by omega
              have dj : decide ((vs.length : Int) < (vs.length : Int)) = false := decide_eq_false (by omega)
              go_wp2_with fail
              go_ret; exact ⟨rfl, ((HT1.out.trans HT7.out).trans HB12.out.old).trans HTr.out⟩
theorem codeSelf {t : LT} {w : World} (ht : t.In (fun _ => True) w) : Calls Try.prog 30 #[t.val] w fun e w' => e = .returned (.bool true) ∧ Turned (fun _ => False) w w' := by
  rw [LT.val_eq]; exact codeSelfA ht
end Go.Proofs.Ytoihjobdfjajfaa
namespace Go.Proofs.Ytoihjobdfjajfaa
open Go.Joins Go.Deep Go.ChangeShapes Go.WideShapes Go.ChangeAt Go.RowKit
theorem cellsOf27 : Try.prog.cellsOf 27 = 4 := by kernel_rfl
theorem cellsOf22 : Try.prog.cellsOf 22 = 1 := by kernel_rfl
theorem cellsOf3 : Try.prog.cellsOf 3 = 1 := by kernel_rfl
theorem cellsOf2 : Try.prog.cellsOf 2 = 1 := by kernel_rfl
theorem cellsOf9 : Try.prog.cellsOf 9 = 1 := by kernel_rfl
theorem I64_of {n : Int} (h : (Lit.int .i64 n).wf = true) : I64 n := by
  unfold I64; simp [Lit.wf] at h
  have e1 : IntKind.i64.min = -9223372036854775808 := by decide
  have e2 : IntKind.i64.max = 9223372036854775807 := by decide
  omega
section
variable {H : Type} {enc : TypeId × Value → H} {W : World} {base : Nat} {sp : Nat → Bool} {held : Bool}
theorem list4 {α : Type} {l : List α} (h : l.length = 4) : ∃ a b c d, l = [a, b, c, d] := by
  match l, h with
  | [a, b, c, d], _ => exact ⟨a, b, c, d, rfl⟩
set_option maxRecDepth 100000 in
theorem terms_of (fuel : Nat) : (∀ cs (x : DataW H × List MemPlace), DataW.trod enc Try.prog W base sp held fuel 27 cs = some x → ∃ t : LT, cs = t.cells ∧ t.In (fun _ => True) W) ∧
    (∀ cs (x : DataW H × List MemPlace), DataW.trod enc Try.prog W base sp held fuel 22 cs = some x → ∃ a cap, ∃ l : List LT, cs = [.slice a l.length cap] ∧ LT.Sl (fun _ => True) W a cap l) := by
  induction fuel with
  | zero => exact ⟨fun cs x h => by simp [DataW.trod] at h, fun cs x h => by simp [DataW.trod] at h⟩
  | succ fuel ih =>
    refine ⟨fun cs x h => ?_, fun cs x h => ?_⟩
    · obtain ⟨xs, n, hn, hx, hcs, hlen, hf⟩ := DataW.trod_struct Try.underlying27 h
      have hn : fuel = n := by omega
      subst hn; rw [cellsOf27] at hcs; obtain ⟨u0, u1, u2, u3, rfl⟩ := list4 hcs; obtain ⟨y0, y1, y2, y3, rfl⟩ := list4 hlen
      · · have f0 : DataW.trod enc Try.prog W base sp held fuel 3 (([u0, u1, u2, u3].drop 0).take (Try.prog.cellsOf 3)) = some y0 := hf 0 _ rfl
          have f1 : DataW.trod enc Try.prog W base sp held fuel 2 (([u0, u1, u2, u3].drop 1).take (Try.prog.cellsOf 2)) = some y1 := hf 1 _ rfl; have f2 : DataW.trod enc Try.prog W base sp held fuel 9 (([u0, u1, u2, u3].drop 2).take (Try.prog.cellsOf 9)) = some y2 := hf 2 _ rfl; have f3 : DataW.trod enc Try.prog W base sp held fuel 22 (([u0, u1, u2, u3].drop 3).take (Try.prog.cellsOf 22)) = some y3 := hf 3 _ rfl; simp only [cellsOf3, cellsOf2, cellsOf9, cellsOf22] at f0 f1 f2 f3; simp at f0 f1 f2 f3; obtain ⟨k, e0, _, wk⟩ := DataW.trod_int Try.underlying3 f0; obtain ⟨m, e1, _, wm⟩ := DataW.trod_int Try.underlying2 f1; obtain ⟨s, e2, _, ws⟩ := DataW.trod_string Try.underlying9 f2; obtain ⟨a, cap, l, e3, hl⟩ := ih.2 _ _ f3; simp at e0 e1 e2 e3; subst e0 e1 e2 e3; exact ⟨.mk k m s (a, cap) l, rfl, hl.in_ (I64_of wk) (I64_of wm) ws⟩
    · rcases DataW.trod_slice Try.underlying22 h with ⟨hcs, _⟩ | ⟨ad, len, cap, elems, rest, n, hn, hcs, _, _, hl, hm, hlen, hel, _⟩
      · exact ⟨none, 0, [], hcs, ⟨fun _ => ⟨rfl, rfl⟩, fun h => by simp at h, trivial, Nat.le_refl _, by unfold maxLen; omega⟩⟩
      · have hn : fuel = n := by omega
        subst hn; rw [cellsOf27] at hel
        have hp : ∀ i, ∃ t : LT, i < len → t.In (fun _ => True) W ∧ ∀ j, j < 4 → W.cell? (ad.add (i * 4 + j)) = t.cells[j]? := by
          intro i
          by_cases hi : i < len
          · have he := hel i hi
            rw [List.getElem?_eq_getElem (by omega)] at he; obtain ⟨cs', hc, ht⟩ := Option.bind_eq_some_iff.1 he; obtain ⟨t, rfl, hin⟩ := ih.1 _ _ ht; obtain ⟨_, _, hat⟩ := World.cells?_some hc; refine ⟨t, fun _ => ⟨hin, fun j hj => ?_⟩⟩; rw [← hat j hj]; congr 1; exact (add_add ..).symm
          · exact ⟨.mk 0 0 ByteArray.empty (none, 0) [], fun h => absurd h hi⟩
        obtain ⟨f, hff⟩ := Classical.axiomOfChoice hp; refine ⟨some ad, cap, (List.range len).map f, by simpa using hcs, ⟨(fun e => by cases e), fun hpos => ?_, (LT.ins_iff _).2 fun x hx => ?_, by simpa using hl, hm⟩⟩
        · simp at hpos
          obtain ⟨b, o, spot⟩ := ad; have hc := (hff 0 (by omega)).2 0 (by omega)
          have hspot : spot = none := by
            rw [LT.cells_eq] at hc; simpa [Addr.add] using World.cell?_spot hc
          subst hspot; refine ⟨b, o, rfl, trivial, fun j u hu => ?_⟩; have hlt := (List.getElem?_eq_some_iff.1 hu).1; rw [LT.flat_length, List.length_map, List.length_range] at hlt
          have hi : j / 4 < len := by omega
          have hx : ((List.range len).map f)[j / 4]? = some (f (j / 4)) := by rw [List.getElem?_map, List.getElem?_range hi]; rfl
          have h4 := LT.flat_at hx (j % 4) (by omega); rw [show j / 4 * 4 + j % 4 = j by omega, hu] at h4; have hc := (hff (j / 4) hi).2 (j % 4) (by omega); rw [show j / 4 * 4 + j % 4 = j by omega, Addr.add_lit] at hc; rw [hc, h4]
        · obtain ⟨i, hi, rfl⟩ := List.mem_map.1 hx
          exact (hff i (by simpa using hi)).1
set_option maxRecDepth 100000 in
theorem tmT_of {fuel : Nat} {r : Reach} {b0 : Nat} {v : Value} {x : DataW H × List MemPlace} (hv : Value.okWide Try.prog W r b0 27 v) (hf : DataW.trod enc Try.prog W base sp held fuel 27 v.cells.toList = some x) : ∃ t : LT, v = t.val ∧ t.In (fun _ => True) W := by
  obtain ⟨cs, rfl, hsz⟩ := okWide_struct Try.underlying27 hv; obtain ⟨t, hcs, hin⟩ := (terms_of fuel).1 _ _ hf; refine ⟨t, ?_, hin⟩
  cases t with | mk k n s e bs =>
  simp only [Value.cells] at hcs; show Value.agg cs = Value.agg _; congr 1; exact Array.toList_inj.1 hcs
end
end Go.Proofs.Ytoihjobdfjajfaa

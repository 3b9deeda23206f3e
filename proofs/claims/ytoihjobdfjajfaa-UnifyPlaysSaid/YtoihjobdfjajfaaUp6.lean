/- Merged texts: BR2, BR3, DP5, DW4, DW5, UB1, Own114, DA1, Pick, Idx, IdxAll, Opens, IP1, Opens4, BV1, CompN, UM2. -/
import Derived.Test.YtoihjobdfjajfaaUp5
import Derived.Deep.RegionHeld3
import Derived.Deep.DrawnRows
import Derived.Deep.RegionLaw
import Derived.Deep.OwnRows
import Derived.Laws.OwnMore
import Derived.ProofKit
import Derived.Deep.Strs
import Derived.Lib.SmallJoins
namespace Go.Proofs.Ytoihjobdfjajfaa
open Go.RowKit Go.Maps
set_option linter.unusedVariables false
set_option linter.unusedSimpArgs false
theorem freshVal {p O : Nat → Prop} {bb m j : Nat} {l : TL} {w : World} (h : BO p bb O (m + j) l w) (hm : m + j < 65536) :
    Calls Try.prog 87 #[.pointer (some ⟨bb, 0, none⟩)] w fun e w' => e = .returned (.tuple #[.agg #[.int .i64 0, .int .i64 ((m : Int) + (j : Int)), .string ByteArray.empty, .slice none 0 0], .bool true]) ∧ After p bb O (m + (j + 1)) l w w' := by
  have := freshO87 h hm
  rw [show (((m + j : Nat)) : Int) = (m : Int) + (j : Int) from by omega] at this
  exact this
structure RnI (p : Nat → Prop) (bb : Nat) (O0 : Nat → Prop) (m : Nat) (l : TL) (w : World) (S mb : Nat) (t : LT) (vs : List Int) (v : Value) (j : Nat) (O : Nat → Prop) (W : World) : Prop where
  bo : BO p bb O (m + j) l W
  old : ∀ k, O k → k < S → O0 k
  b0 : W.heap[w.heap.size]? = some (.cells #[.int .i64 t.kind, .int .i64 t.n, .string t.name, .slice t.at_.1 t.args.length t.at_.2] 27 (0, 0))
  b1 : W.heap[w.heap.size + 1]? = some (.cells #[.int .i64 0, .int .i64 0, .string ⟨#[]⟩, .slice none 0 0] 27 (0, 0))
  map : IMap Try.prog 2 W mb j (valsM (gmap vs m j))
  row : Row W 2 1 v vs.length (vs.map (Value.int .i64))
  turned : Turned O0 w W
  ne : v.ownBlock ≠ some mb
  lt : w.heap.size + 1 < mb
  own : ∀ k, v.ownBlock = some k → w.heap.size + 1 < k ∧ k < S
  mlt : mb < S
  szS : S ≤ W.heap.size
  plt : ∀ k, p k → k < w.heap.size
section
variable {p O0 O : Nat → Prop} {bb m S mb j : Nat} {l : TL} {w W W' : World} {t : LT} {vs : List Int} {v : Value}
theorem RnI.step {O' : Nat → Prop} {n : Int} (h : RnI p bb O0 m l w S mb t vs v j O W) (h0 : ∀ k, O0 k → k < w.heap.size) {W2 : World} (A1 : BO p bb O' (m + (j + 1)) l W') (A2 : ∀ k, O' k → k < W.heap.size → O k) (A3 : Turned O W W') (hnd : vs.Nodup) (hn : vs[j]? = some n) (T : Turned (· = mb) W' W2)
    (hm : IMap Try.prog 2 W2 mb (if (valsM (gmap vs m j) n).isSome then j else j + 1) (upd (valsM (gmap vs m j)) n (.agg #[.int .i64 0, .int .i64 ((m : Int) + (j : Int)), .string ByteArray.empty, .slice none 0 0]))) : RnI p bb O0 m l w S mb t vs v (j + 1) O' W2 := by
  have h1 : valsM (gmap vs m j) n = none := by unfold valsM; rw [gmap_none hnd hn]; rfl
  rw [h1, gmap_succ hnd hn] at hm
  have hno : ∀ k, w.heap.size ≤ k → k < S → ¬ O k := fun k hk hl e => by have := h0 k (h.old k e hl); omega
  have hlt := h.lt
  have hml := h.mlt
  have hsz := h.szS
  have hno' : ∀ k, w.heap.size ≤ k → k < S → ¬ O' k := fun k hk hl e => hno k hk hl (A2 k e (by omega))
  refine ⟨A1.turned T (fun k hk e => ?_), fun k hk hl => h.old k (A2 k hk (by omega)) hl, ?_, ?_, hm, ?_, (h.turned.step A3 (fun i hi e => h.old i e (by omega))).step T (fun i hi e => by omega), h.ne, h.lt, h.own, h.mlt, by have := A3.size; have := T.size; omega, h.plt⟩
  · rw [show k = mb from e]
    refine ⟨hno' mb (by omega) hml, fun c => ?_⟩
    have := h.plt mb c
    omega
  · exact (T.block _ (by have := (Array.getElem?_eq_some_iff.1 h.b0).1; have := A3.size; omega) (by omega)).trans ((A3.block _ (Array.getElem?_eq_some_iff.1 h.b0).1 (hno _ (by omega) (by omega))).trans h.b0)
  · exact (T.block _ (by have := (Array.getElem?_eq_some_iff.1 h.b1).1; have := A3.size; omega) (by omega)).trans ((A3.block _ (Array.getElem?_eq_some_iff.1 h.b1).1 (hno _ (by omega) (by omega))).trans h.b1)
  · exact (h.row.turned A3 (fun k hk e => hno k (by have := h.own k hk; omega) (h.own k hk).2 e)).turned T (fun k hk e => h.ne (by rw [hk, e]))
set_option maxRecDepth 100000 in
set_option maxHeartbeats 6400000 in
theorem renamed155 (h : BO p bb O m l w) (ht : t.In p w) (hg : goodB t = true) (hm : m + t.vars.length ≤ 65536) :
    Calls Try.prog 155 #[.pointer (some ⟨bb, 0, none⟩), t.val] w fun e w' => ∃ (u : LT) (O' : Nat → Prop), e = .returned u.val ∧ u.bare = Tm.fromT t.bare m ∧ BO p bb O' (m + t.vars.length) l w' ∧ (∀ k, O' k → k < w.heap.size → O k) ∧ Turned O w w' ∧ u.In (fun k => p k ∨ (w.heap.size ≤ k ∧ ¬ O' k)) w' := by
  have hmm := @run_makeMap Try.prog
  have h2 := twoBox w (.cells #[.int .i64 t.kind, .int .i64 t.n, .string t.name, .slice t.at_.1 t.args.length t.at_.2] 27) (.cells #[.int .i64 0, .int .i64 0, .string ⟨#[]⟩, .slice none 0 0] 27)
  obtain ⟨w2, hw2⟩ : ∃ z, z = (w.alloc (.cells #[.int .i64 t.kind, .int .i64 t.n, .string t.name, .slice t.at_.1 t.args.length t.at_.2] 27)).alloc (.cells #[.int .i64 0, .int .i64 0, .string ⟨#[]⟩, .slice none 0 0] 27) := ⟨_, rfl⟩
  rw [← hw2] at h2
  have hgb : goodB t.bare = true := by rw [goodB_bare]; exact hg
  have hvs : ∀ W, Turned (fun _ => False) w2 W → Calls Try.prog 34 #[.agg #[.int .i64 t.kind, .int .i64 t.n, .string t.name, .slice t.at_.1 t.args.length t.at_.2]] W fun e w' => ∃ (va : Option Addr) (vc : Nat), e = .returned (.slice va t.vars.length vc) ∧ Row w' 2 1 (.slice va t.vars.length vc) t.vars.length (t.vars.map (Value.int .i64)) ∧ (∀ k, (Value.slice va t.vars.length vc).ownBlock = some k → W.heap.size ≤ k) ∧ Turned (fun _ => False) W w' := fun W hW => by
    have := vars34 (ht.turned0 (h2.1.trans hW)) (good_slim hg)
    rw [LT.val_eq] at this
    refine this.mono ?_
    rintro e w' ⟨v, rfl, hr, ho, T⟩
    rw [show varsB t = t.vars from by unfold varsB; rw [if_pos hg]] at hr
    obtain ⟨va, vc, rfl⟩ := hr.shape
    exact ⟨va, vc, rfl, hr, ho, T⟩
  have hbx : ∀ W, Turned (fun _ => False) w2 W → W.heap[w.heap.size]? = some (.cells #[.int .i64 t.kind, .int .i64 t.n, .string t.name, .slice t.at_.1 t.args.length t.at_.2] 27 (0, 0)) ∧ W.heap[w.heap.size + 1]? = some (.cells #[.int .i64 0, .int .i64 0, .string ⟨#[]⟩, .slice none 0 0] 27 (0, 0)) := fun W hW => ⟨(hW.block _ (by have := h2.2.1; omega) (fun f => f)).trans h2.2.2.1, (hW.block _ (by have := h2.2.1; omega) (fun f => f)).trans h2.2.2.2⟩
  have hnn := good_nums hg
  have hnd := Tm.vars_nodup t
  have hsub := gmap_sub (first := (m : Int)) hg
  have hvv : ∀ x ∈ t.flat, x.kind = 0 → x.n ∈ t.vars := fun x hx hk => by
    rw [← Tm.vars_bare]
    exact (Tm.vars_mem x.n).2 ⟨x.bare, by rw [Tm.flat_bare]; exact List.mem_map_of_mem hx, by rw [Tm.bare_kind]; exact hk, Tm.bare_n x⟩
  obtain ⟨vs, hvs0⟩ : ∃ z, z = t.vars := ⟨_, rfl⟩
  rw [← hvs0] at hvs hnn hnd hsub hm hvv ⊢
  have HVS := Lib.hid hvs
  have HBX := Lib.hid hbx
  have HT2 := Lib.hid h2.1
  have HS2 := Lib.hid h2.2.1
  have HW2 := Lib.hid hw2
  have HH := Lib.hid h
  have HT := Lib.hid ht
  have HNN := Lib.hid hnn
  have HND := Lib.hid hnd
  have HSUB := Lib.hid hsub
  have HVV := Lib.hid hvv
  have HSL := Lib.hid (good_slim hg)
  rw [LT.val_eq]
  clear hvs hbx h2 hw2 h ht hnn hnd hsub hvv hgb hg hvs0
  go_enter Try.func155, Try.ntmps155
  obtain ⟨x0, x1, x2, x3, _⟩ := cells4 (HBX.out (w2.alloc (.map #[] 0)) ((Turned.refl _ w2).alloc _)).1
  go_wp2_with (first
    | (go_at_call 34; rw [← HW2.out]; (with_reducible refine (HVS.out _ ((Turned.refl (fun _ => False) w2).alloc (.map #[] 0))).mono ?_); rintro e w3 ⟨va, vc, rfl, hrow, hown, T3⟩; have HR3 := Lib.hid hrow; have HO3 := Lib.hid hown; have HT3 := Lib.hid T3; have hmv := hrow.max; clear hrow hown T3))
  obtain ⟨mb, hmb⟩ : ∃ z, z = w.heap.size + 1 + 1 := ⟨_, rfl⟩
  rw [← hmb]
  have HMB := Lib.hid hmb
  have h2s := HS2.out
  have hs3 := HT3.out.size
  have hms : w2.heap.size = mb := by omega
  have hmap0 := IMap.made w2 Try.prog 2
  rw [hms] at hmap0
  have hwz : (w2.alloc (.map #[] 0)).heap.size = w2.heap.size + 1 := by simp
  have TA : Turned (fun _ => False) w w3 := (HT2.out.alloc (.map #[] 0)).trans HT3.out
  have TB : Turned (fun _ => False) w2 w3 := ((Turned.refl _ w2).alloc (.map #[] 0)).trans HT3.out
  have hinit : Hid (RnI p bb O m l w w3.heap.size mb t vs (.slice va vs.length vc) 0 O w3) :=
    ⟨HH.out.turned0 TA, fun k hk _ => hk, (HBX.out _ TB).1, (HBX.out _ TB).2, by rw [gmap_zero]; exact hmap0.turned HT3.out (fun f => f), HR3.out, TA.mono (fun _ _ f => f.elim), fun e => by have := HO3.out _ e; omega, by omega, fun k hk => ⟨by have := HO3.out k hk; omega, HR3.out.lt k hk⟩, by omega, Nat.le_refl _, HH.out.plt⟩
  have HTA := Lib.hid TA
  obtain ⟨S, hS⟩ : ∃ z, z = w3.heap.size := ⟨_, rfl⟩
  rw [← hS] at hinit
  clear hmb h2s hs3 hms hmap0 hwz TA TB hmm x0 x1 x2 x3 hS
  go_loopg [12] vs.length (fun k i wr => ∃ j : Nat, Hid (j + k = vs.length) ∧ j ≤ vs.length ∧ i = .int .i64 j ∧ ∃ O', Hid (RnI p bb O m l w S mb t vs (.slice va vs.length vc) j O' wr))
  case atStart => exact ⟨0, Nat.zero_add _, Nat.zero_le _, rfl, _, hinit⟩
  case round =>
    obtain ⟨j, HG, hj, rfl, O', HI⟩ := hrel
    by_cases hjl : j < vs.length
    · obtain ⟨n, hn⟩ : ∃ n, vs[j]? = some n := ⟨_, List.getElem?_eq_getElem hjl⟩
      obtain ⟨gv, cap, he⟩ := HI.out.row.shape_pos (by omega)
      injection he with e1 _ e3
      subst e1 e3
      have hcv := HI.out.row.cells rfl j (.int .i64 n) (by rw [List.getElem?_map, hn]; rfl)
      have hkey := key2 (n := n) (by have := HNN.out n (List.mem_of_getElem? hn); unfold I64; omega)
      have HN := Lib.hid hn
      clear hn
      go_wp2_with (first
        | (go_at_call 87; (with_reducible refine (freshVal HI.out.bo (by omega)).mono ?_); rintro e w5 ⟨rfl, O5, A1, A2, A3⟩; have HA1 := Lib.hid A1; have HA2 := Lib.hid A2; have HA3 := Lib.hid A3; have hm5 := HI.out.map.turned A3 (fun e => by have := HI.out.old mb e HI.out.mlt; have := HH.out.lt mb this; have := HI.out.lt; omega); have HM5 := Lib.hid hm5; clear A1 A2 A3 hm5)
        | (at_mapUpdate; refine wpList_put rfl _ _ _ 151 rfl law2 Try.underlying151 rfl HM5.out (by unfold maxLen; omega) rfl rfl hkey trivial ?_; intro w6 hm6 T6; have HST := Lib.hid (HI.out.step HH.out.lt HA1.out HA2.out HA3.out HND.out HN.out T6 hm6); clear hm6 T6))
      go_roundg (gk - 1)
      case measure => have := HG.out; omega
      case rel => exact ⟨j + 1, show _ = _ by have := HG.out; omega, by omega, by go_num, O5, HST⟩
    · obtain rfl : j = vs.length := by omega
      obtain ⟨c0, c1, c2, c3, _⟩ := cells4 HI.out.b0
      have hti : t.In p wr := LT.In.turned HI.out.turned (fun k _ hk e => HH.out.sep k hk e) (fun _ _ hk => hk) _ HT.out
      have hrep := replace174 (mb := mb) (mn := vs.length) (g := gmap vs m vs.length) t.depth p t wr (Nat.le_refl _) hti HSL.out HI.out.map (fun i x hx => by
        unfold gmap at hx
        split at hx
        · injection hx with hx
          subst hx
          rename_i hmem
          rw [List.take_length] at hmem
          have := List.idxOf_lt_length_of_mem hmem
          exact leafIn' (i64_lit _ (by omega)) (by unfold Tm.fromS Tm.posOf I64; omega) (by unfold maxLen; decide)
        · cases hx) (fun x hx hk => ⟨_, by unfold gmap; rw [if_pos (by rw [List.take_length]; exact HVV.out x hx hk)]⟩)
      rw [LT.val_eq] at hrep
      have HREP := Lib.hid hrep
      clear hrep hti
      go_wp2_with (go_at_call 174; (with_reducible refine HREP.out.mono ?_); rintro e w7 ⟨u, rfl, hub, hui, T7⟩; rw [LT.val_eq u]; have hb7 := (T7.block _ (Array.getElem?_eq_some_iff.1 HI.out.b1).1 (fun f => f)).trans HI.out.b1; obtain ⟨_, _, _, _, f0, f1, f2, f3⟩ := cells4 hb7; have HB7 := Lib.hid hb7; have HUB := Lib.hid hub; have HUI := Lib.hid hui; have HT7 := Lib.hid T7; clear hub hui T7 hb7)
      have hset := set4 (a' := .int .i64 u.kind) (b' := .int .i64 u.n) (c' := .string u.name) (d' := .slice u.at_.1 u.args.length u.at_.2) HB7.out
      have Tq := turned_store4 w7 (w.heap.size + 1) (.int .i64 u.kind) (.int .i64 u.n) (.string u.name) (.slice u.at_.1 u.args.length u.at_.2)
      have hsz := HI.out.szS
      have hlt := HI.out.lt
      have hml := HI.out.mlt
      have hno : ∀ k, w.heap.size ≤ k → k < S → ¬ O' k := fun k hk hl e => by have := HH.out.lt k (HI.out.old k e hl); omega
      refine bodyPost_ret (v := .agg #[.int .i64 u.kind, .int .i64 u.n, .string u.name, .slice u.at_.1 u.args.length u.at_.2]) (results_cell_row Try.results155 _ _ (w.heap.size + 1) 27 _ (0, 0) _ rfl hset Try.underlying27 rfl (by kernel_rfl)) rfl ⟨u, O', by rw [LT.val_eq u], by rw [HUB.out]; exact HSUB.out, ?_, fun k hk hl => HI.out.old k hk (by omega), ?_, ?_⟩
      · refine (HI.out.bo.turned0 HT7.out).turned Tq (fun k hk e => ⟨?_, fun c => ?_⟩)
        · rw [e]; exact hno _ (by omega) (by omega)
        · have := HI.out.plt k c; omega
      · exact (HI.out.turned.trans (HT7.out.mono (fun _ _ f => f.elim))).step Tq (fun i hi e => by omega)
      · exact LT.In.turned Tq (fun k _ hk e => by
          rcases hk with hk | hk
          · have := HI.out.plt k hk; omega
          · omega) (fun k _ hk => hk.elim .inl (fun hk => .inr ⟨by omega, fun c => by have := HI.out.bo.lt k c; omega⟩)) _ HUI.out
end
end Go.Proofs.Ytoihjobdfjajfaa
namespace Go.Proofs.Ytoihjobdfjajfaa
open Go.RowKit Go.Maps
set_option linter.unusedVariables false
set_option linter.unusedSimpArgs false
noncomputable def couldR (x y : Tm Unit) : Bool × Int × Int × Tm.Trail := bothR (0 + x.vars.length + y.vars.length) [] (Tm.fromT x ((0 : Nat) : Int)) (Tm.fromT y ((0 + x.vars.length : Nat) : Int))
noncomputable def couldB (x y : Tm Unit) : Bool := goodB x && (goodB y && ((couldR x y).1 && decide ((couldR x y).2.2.1 = 0)))
def CdS (p : Nat → Prop) (bb : Nat) (O0 : Nat → Prop) (x y : LT) (w1 : World) : List Value → World → Prop
  | [], W => Turned (fun _ => False) w1 W
  | [a], W => ∃ (u : LT) (O' : Nat → Prop), a = .agg #[.int .i64 u.kind, .int .i64 u.n, .string u.name, .slice u.at_.1 u.args.length u.at_.2] ∧ u.bare = Tm.fromT x.bare ((0 : Nat) : Int) ∧ BO p bb O' (0 + x.vars.length) [] W ∧ (∀ k, O' k → k < w1.heap.size → O0 k) ∧ Turned O0 w1 W ∧ u.In (fun k => p k ∨ (w1.heap.size ≤ k ∧ ¬ O' k)) W
  | [a, b], W => ∃ (u v : LT) (q O' : Nat → Prop), a = .agg #[.int .i64 u.kind, .int .i64 u.n, .string u.name, .slice u.at_.1 u.args.length u.at_.2] ∧ b = .agg #[.int .i64 v.kind, .int .i64 v.n, .string v.name, .slice v.at_.1 v.args.length v.at_.2] ∧ u.bare = Tm.fromT x.bare ((0 : Nat) : Int) ∧ v.bare = Tm.fromT y.bare ((0 + x.vars.length : Nat) : Int) ∧ BO q bb O' (0 + x.vars.length + y.vars.length) [] W ∧ (∀ k, O' k → k < w1.heap.size → O0 k) ∧ Turned O0 w1 W ∧ u.In q W ∧ v.In q W
  | [_, _, c], W => c = .tuple #[.bool (couldR x.bare y.bare).1, .int .i64 (couldR x.bare y.bare).2.1, .int .i64 (couldR x.bare y.bare).2.2.1] ∧ Turned O0 w1 W
  | _, _ => False
section
variable {p O0 : Nat → Prop} {bb : Nat} {x y : LT} {w1 : World}
theorem CdS.turned0 : ∀ (hs : List Value) (w w' : World), CdS p bb O0 x y w1 hs w → Turned (fun _ => False) w w' → CdS p bb O0 x y w1 hs w'
  | [], _, _, h, T => Turned.trans h T
  | [_], _, _, ⟨u, O', h1, h2, h3, h4, h5, h6⟩, T => ⟨u, O', h1, h2, h3.turned0 T, h4, h5.trans (T.mono (fun _ _ f => f.elim)), h6.turned0 T⟩
  | [_, _], _, _, ⟨u, v, q, O', h1, h2, h3, h4, h5, h6, h7, h8, h9⟩, T => ⟨u, v, q, O', h1, h2, h3, h4, h5.turned0 T, h6, h7.trans (T.mono (fun _ _ f => f.elim)), h8.turned0 T, h9.turned0 T⟩
  | [_, _, _], _, _, ⟨h1, h2⟩, T => ⟨h1, h2.trans (T.mono (fun _ _ f => f.elim))⟩
  | _ :: _ :: _ :: _ :: _, _, _, h, _ => h.elim
theorem CdS.turned : ∀ (hs : List Value) (W : World), CdS p bb O0 x y w1 hs W → Turned O0 w1 W
  | [], _, h => Turned.mono h (fun _ _ f => f.elim)
  | [_], _, ⟨u, O', h1, h2, h3, h4, h5, h6⟩ => h5
  | [_, _], _, ⟨u, v, q, O', h1, h2, h3, h4, h5, h6, h7, h8, h9⟩ => h7
  | [_, _, _], _, ⟨h1, h2⟩ => h2
  | _ :: _ :: _ :: _ :: _, _, h => h.elim
theorem CdS.val : ∀ (hs : List Value) (W : World) {c : Value}, CdS p bb O0 x y w1 hs W → hs[2]? = some c → c = .tuple #[.bool (couldR x.bare y.bare).1, .int .i64 (couldR x.bare y.bare).2.1, .int .i64 (couldR x.bare y.bare).2.2.1]
  | [], _, _, _, e => by simp at e
  | [_], _, _, _, e => by simp at e
  | [_, _], _, _, _, e => by simp at e
  | [_, _, _], _, _, h, e => by simp at e; rw [← e]; exact h.1
  | _ :: _ :: _ :: _ :: _, _, _, h, _ => h.elim
theorem cd_two {W W' : World} {u v : LT} {O' O2 : Nat → Prop} (h2 : u.bare = Tm.fromT x.bare ((0 : Nat) : Int)) (h3 : BO p bb O' (0 + x.vars.length) [] W) (h4 : ∀ k, O' k → k < w1.heap.size → O0 k) (h5 : Turned O0 w1 W) (h6 : u.In (fun k => p k ∨ (w1.heap.size ≤ k ∧ ¬ O' k)) W)
    (hv : v.bare = Tm.fromT y.bare ((0 + x.vars.length : Nat) : Int)) (b1 : BO p bb O2 (0 + x.vars.length + y.vars.length) [] W') (b2 : ∀ k, O2 k → k < W.heap.size → O' k) (b3 : Turned O' W W') (hi : v.In (fun k => p k ∨ (W.heap.size ≤ k ∧ ¬ O2 k)) W') : CdS p bb O0 x y w1 [.agg #[.int .i64 u.kind, .int .i64 u.n, .string u.name, .slice u.at_.1 u.args.length u.at_.2], .agg #[.int .i64 v.kind, .int .i64 v.n, .string v.name, .slice v.at_.1 v.args.length v.at_.2]] W' := by
  have hs := h5.size
  refine ⟨u, v, fun k => k < W'.heap.size ∧ ¬ O2 k, O2, rfl, rfl, h2, hv, b1.wide (fun k hk => ⟨b1.plt k hk, b1.sep k hk⟩) (fun k hk => hk), fun k hk hl => h4 k (b2 k hk (by omega)) hl, h5.step b3 (fun i hi e => h4 i e hi), ?_, ?_⟩
  · exact LT.In.turned b3 (fun k hl hk e => by
      rcases hk with hk | hk
      · exact h3.sep k hk e
      · exact hk.2 e) (fun k hl hk => ⟨Nat.lt_of_lt_of_le hl b3.size, fun c => by
      rcases hk with hk | hk
      · exact b1.sep k hk c
      · exact hk.2 (b2 k c hl)⟩) _ h6
  · refine hi.mono (fun k hl hk => ⟨hl, fun c => ?_⟩)
    rcases hk with hk | hk
    · exact b1.sep k hk c
    · exact hk.2 c
end
set_option maxRecDepth 100000 in
set_option maxHeartbeats 12800000 in
theorem could112 {x y : LT} {w : World} (hx : x.In (fun _ => True) w) (sx : slim x) (hy : y.In (fun _ => True) w) (sy : slim y) :
    Calls Try.prog 112 #[x.val, y.val] w fun e w' => e = .returned (.bool (couldB x.bare y.bare)) ∧ Turned (fun _ => False) w w' := by
  have h2 := twoBox w (.cells #[.int .i64 x.kind, .int .i64 x.n, .string x.name, .slice x.at_.1 x.args.length x.at_.2] 27) (.cells #[.int .i64 y.kind, .int .i64 y.n, .string y.name, .slice y.at_.1 y.args.length y.at_.2] 27)
  obtain ⟨w2, hw2⟩ : ∃ z, z = (w.alloc (.cells #[.int .i64 x.kind, .int .i64 x.n, .string x.name, .slice x.at_.1 x.args.length x.at_.2] 27)).alloc (.cells #[.int .i64 y.kind, .int .i64 y.n, .string y.name, .slice y.at_.1 y.args.length y.at_.2] 27) := ⟨_, rfl⟩
  rw [← hw2] at h2
  have hkp : ∀ W, Turned (fun _ => False) w2 W → (W.cell? ⟨w.heap.size, 0, none⟩ = some (.int .i64 x.kind) ∧ W.cell? ⟨w.heap.size, 1, none⟩ = some (.int .i64 x.n) ∧ W.cell? ⟨w.heap.size, 2, none⟩ = some (.string x.name) ∧ W.cell? ⟨w.heap.size, 3, none⟩ = some (.slice x.at_.1 x.args.length x.at_.2)) ∧ (W.cell? ⟨w.heap.size + 1, 0, none⟩ = some (.int .i64 y.kind) ∧ W.cell? ⟨w.heap.size + 1, 1, none⟩ = some (.int .i64 y.n) ∧ W.cell? ⟨w.heap.size + 1, 2, none⟩ = some (.string y.name) ∧ W.cell? ⟨w.heap.size + 1, 3, none⟩ = some (.slice y.at_.1 y.args.length y.at_.2)) := fun W h =>
    ⟨four_of ((h.block _ (by have := h2.2.1; omega) (fun f => f)).trans h2.2.2.1), four_of ((h.block _ (by have := h2.2.1; omega) (fun f => f)).trans h2.2.2.2)⟩
  have HKP := Lib.hid hkp
  have HW2 := Lib.hid hw2
  have HT2 := Lib.hid h2.1
  have HX := Lib.hid (hx.turned0 h2.1)
  have HY := Lib.hid (hy.turned0 h2.1)
  have HSX := Lib.hid sx
  have HSY := Lib.hid sy
  rw [LT.val_eq, LT.val_eq y]
  clear hkp hw2 h2 hx hy sx sy
  cases gx : goodB x with
  | false =>
    have hR : couldB x.bare y.bare = false := by unfold couldB; rw [goodB_bare, gx]; rfl
    have HG := Lib.hid gx
    rw [hR]
    clear gx hR
    go_enter Try.func112, Try.ntmps112
    go_wp2_with (go_at_call 38; rw [← HW2.out]; (with_reducible refine (goodVal' (b := false) HX.out HSX.out HG.out).mono ?_); rintro e w3 ⟨rfl, T3⟩)
    go_ret
    exact ⟨rfl, HT2.out.trans T3⟩
  | true =>
  have HG := Lib.hid gx
  cases gy : goodB y with
  | false =>
    have hR : couldB x.bare y.bare = false := by unfold couldB; rw [goodB_bare, gx, goodB_bare, gy]; rfl
    have HGY := Lib.hid gy
    rw [hR]
    clear gx gy hR
    go_enter Try.func112, Try.ntmps112
    go_wp2_with (first
      | (go_at_call 38; (with_reducible refine (goodVal' (b := false) (HY.out.turned0 T3) HSY.out HGY.out).mono ?_); rintro e w4 ⟨rfl, T4⟩)
      | (go_at_call 38; rw [← HW2.out]; (with_reducible refine (goodVal' (b := true) HX.out HSX.out HG.out).mono ?_); rintro e w3 ⟨rfl, T3⟩; obtain ⟨_, d0, d1, d2, d3⟩ := HKP.out _ T3))
    go_ret
    exact ⟨rfl, (HT2.out.trans T3).trans T4⟩
  | true =>
  have HGY := Lib.hid gy
  have hR : couldB x.bare y.bare = ((couldR x.bare y.bare).1 && decide ((couldR x.bare y.bare).2.2.1 = 0)) := by unfold couldB; rw [goodB_bare, gx, goodB_bare, gy]; rfl
  obtain ⟨R, hRR⟩ : ∃ z, z = couldR x.bare y.bare := ⟨_, rfl⟩
  have hlx : x.vars.length ≤ 2000 := by have := varsB_le x; unfold varsB at this; rw [if_pos gx] at this; exact this
  have hly : y.vars.length ≤ 2000 := by have := varsB_le y; unfold varsB at this; rw [if_pos gy] at this; exact this
  obtain ⟨RB, hRB⟩ : ∃ z, z = couldB x.bare y.bare := ⟨_, rfl⟩
  obtain ⟨ok, hok⟩ : ∃ z, z = (couldR x.bare y.bare).1 := ⟨_, rfl⟩
  obtain ⟨er, her⟩ : ∃ z, z = (couldR x.bare y.bare).2.2.1 := ⟨_, rfl⟩
  rw [← hRB] at hR ⊢
  rw [← hok, ← her] at hR
  have HOKE := Lib.hid hok.symm
  have HERE := Lib.hid her.symm
  have HRB := Lib.hid hR
  clear hR gx gy hRB hok her
  go_enter Try.func112, Try.ntmps112
  go_wp2_with (first
    | (go_at_call 38; (with_reducible refine (goodVal' (b := true) (HY.out.turned0 T3) HSY.out HGY.out).mono ?_); rintro e w4 ⟨rfl, T4⟩; have HT4 := Lib.hid (T3.trans T4); clear T3 T4)
    | (go_at_call 38; rw [← HW2.out]; (with_reducible refine (goodVal' (b := true) HX.out HSX.out HG.out).mono ?_); rintro e w3 ⟨rfl, T3⟩; obtain ⟨_, d0, d1, d2, d3⟩ := HKP.out _ T3)
    | (go_at_call 86; (with_reducible refine (newO86 (p := fun k => k < w4.heap.size) _ (fun k h => h)).mono ?_); rintro e w5 ⟨bb, rfl, B5, _, T5⟩; have HB5 := Lib.hid B5; have HT5 := Lib.hid (HT4.out.trans T5); have HT45 := Lib.hid T5; clear B5 T5))
  obtain ⟨O0, hO0⟩ : ∃ z : Nat → Prop, z = fun k => w4.heap.size ≤ k ∧ k < w5.heap.size := ⟨_, rfl⟩
  rw [← hO0] at HB5
  have HO0 : Hid (∀ k, O0 k → w4.heap.size ≤ k) := by intro k hk; rw [hO0] at hk; exact hk.1
  have HXI : Hid (x.In (fun k => k < w4.heap.size) w5) := ((HX.out.turned0 HT4.out).mono (fun k hk _ => hk)).turned0 HT45.out
  have HYI : Hid (y.In (fun k => k < w4.heap.size) w5) := ((HY.out.turned0 HT4.out).mono (fun k hk _ => hk)).turned0 HT45.out
  have HPO : Hid (∀ k, k < w4.heap.size → ¬ O0 k) := fun k hk e => by have := HO0.out k e; omega
  have HKW : Hid (∀ W, Turned O0 w5 W → (W.cell? ⟨w.heap.size, 0, none⟩ = some (.int .i64 x.kind) ∧ W.cell? ⟨w.heap.size, 1, none⟩ = some (.int .i64 x.n) ∧ W.cell? ⟨w.heap.size, 2, none⟩ = some (.string x.name) ∧ W.cell? ⟨w.heap.size, 3, none⟩ = some (.slice x.at_.1 x.args.length x.at_.2)) ∧ (W.cell? ⟨w.heap.size + 1, 0, none⟩ = some (.int .i64 y.kind) ∧ W.cell? ⟨w.heap.size + 1, 1, none⟩ = some (.int .i64 y.n) ∧ W.cell? ⟨w.heap.size + 1, 2, none⟩ = some (.string y.name) ∧ W.cell? ⟨w.heap.size + 1, 3, none⟩ = some (.slice y.at_.1 y.args.length y.at_.2))) := fun W T => by
    refine HKP.out W (HT4.out.trans ?_)
    exact HT45.out.step T (fun i hi e => by have := HO0.out i e; omega)
  clear hO0 hRR d0 d1 d2 d3 hlx hly
  have hlx : x.vars.length ≤ 2000 := by have := varsB_le x; unfold varsB at this; rw [if_pos HG.out] at this; exact this
  have hly : y.vars.length ≤ 2000 := by have := varsB_le y; unfold varsB at this; rw [if_pos HGY.out] at this; exact this
  refine wp_region_hsW [19, 20, 21, 22, 23, 24, 25, 26, 18, 27, 28, 29, 6, 7, 8] [3, 6, 7] [2, 0, 0, 1, 1, 1, 2, 3, 3, 3, 3, 3, 3, 3, 3] [22, 25, 26] (fun dd vv => (match dd with | 19 => vv = .pointer (some ⟨bb, 0, none⟩) | 20 => vv = .pointer (some ⟨bb, 0, none⟩) | 21 => vv = .agg #[.int .i64 x.kind, .int .i64 x.n, .string x.name, .slice x.at_.1 x.args.length x.at_.2] | 23 => vv = .pointer (some ⟨bb, 0, none⟩) | 24 => vv = .agg #[.int .i64 y.kind, .int .i64 y.n, .string y.name, .slice y.at_.1 y.args.length y.at_.2] | 18 => vv = .tuple #[.bool (couldR x.bare y.bare).1, .int .i64 (couldR x.bare y.bare).2.1, .int .i64 (couldR x.bare y.bare).2.2.1] | 27 => vv = .bool (couldR x.bare y.bare).1 | 28 => vv = .int .i64 (couldR x.bare y.bare).2.1 | 29 => vv = .int .i64 (couldR x.bare y.bare).2.2.1 | 6 => vv = .bool (couldR x.bare y.bare).1 | 7 => vv = .int .i64 (couldR x.bare y.bare).2.1 | 8 => vv = .int .i64 (couldR x.bare y.bare).2.2.1 | _ => True : Prop)) (CdS (fun k => k < w4.heap.size) bb O0 x y w5) (by kernel_rfl) rfl (by kernel_rfl) (by kernel_rfl) (by kernel_rfl) (by kernel_rfl) (fun w h => h) (fun hs w w' h T => CdS.turned0 hs w w' h T) ?hs ?hQ
  case hs =>
    refine ⟨?s0, ?s1, ?s2, ?s3, ?s4, ?s5, ?s6, ?s7, ?s8, ?s9, ?s10, ?s11, ?s12, ?s13, ?s14, trivial⟩
    case s0 =>
      refine fun hs hle => stepG_free [] [5] (by kernel_rfl) rfl ?_
      intro ac W hT hI hO
      have hle : hs.length ≤ 2 := hle
      have h5 : ac.tmps.getD 5 undef = .pointer (some ⟨bb, 0, none⟩) := hO 5 (by simp)
      show Brings Try.prog (fun vv w' => Turned (fun _ => False) W w' ∧ vv = .pointer (some ⟨bb, 0, none⟩)) _
      simp only [execOp, Act.eval, h5]
      go_simp
      try exact ⟨Turned.refl _ _, rfl⟩
    case s1 =>
      refine fun hs hle => stepG_free [] [5] (by kernel_rfl) rfl ?_
      intro ac W hT hI hO
      have hle : hs.length ≤ 0 := hle
      have h5 : ac.tmps.getD 5 undef = .pointer (some ⟨bb, 0, none⟩) := hO 5 (by simp)
      show Brings Try.prog (fun vv w' => Turned (fun _ => False) W w' ∧ vv = .pointer (some ⟨bb, 0, none⟩)) _
      simp only [execOp, Act.eval, h5]
      go_simp
      try exact ⟨Turned.refl _ _, rfl⟩
    case s2 =>
      refine fun hs hle => stepG_free [] [2] (by kernel_rfl) rfl ?_
      intro ac W hT hI hO
      have hle : hs.length ≤ 0 := hle
      have h2 : ac.tmps.getD 2 undef = .pointer (some ⟨w.heap.size, 0, none⟩) := hO 2 (by simp)
      show Brings Try.prog (fun vv w' => Turned (fun _ => False) W w' ∧ vv = .agg #[.int .i64 x.kind, .int .i64 x.n, .string x.name, .slice x.at_.1 x.args.length x.at_.2]) _
      obtain ⟨⟨c0, c1, c2, c3⟩, d0, d1, d2, d3⟩ := HKW.out W (CdS.turned hs W hT)
      simp only [execOp, Act.eval, h2]
      go_simp
      try exact ⟨Turned.refl _ _, rfl⟩
    case s3 =>
      refine fun hs hlen => stepG_free [20, 21] [] (by kernel_rfl) rfl ?_
      intro ac W hT hI hO
      have h20 : ac.tmps.getD 20 undef = .pointer (some ⟨bb, 0, none⟩) := hI 20 (by simp)
      have h21 : ac.tmps.getD 21 undef = .agg #[.int .i64 x.kind, .int .i64 x.n, .string x.name, .slice x.at_.1 x.args.length x.at_.2] := hI 21 (by simp)
      obtain rfl : hs = [] := List.eq_nil_of_length_eq_zero hlen
      replace hT : Turned (fun _ => False) w5 W := hT
      show Brings Try.prog (fun vv w' => CdS (fun k => k < w4.heap.size) bb O0 x y w5 [vv] w') _
      have hrn := renamed155 (HB5.out.turned0 hT) (HXI.out.turned0 hT) HG.out (by omega)
      rw [LT.val_eq] at hrn
      have HRN := Lib.hid hrn
      clear hrn
      simp only [execOp, Act.eval, h20, h21]
      go_simp
      show Calls Try.prog 155 _ W _
      (with_reducible refine HRN.out.mono ?_)
      rintro e w' ⟨u, O', rfl, g1, g2, g3, g4, g5⟩
      exact ⟨_, rfl, u, O', by rw [LT.val_eq], g1, g2, fun k hk hl => g3 k hk (Nat.lt_of_lt_of_le hl hT.size), (hT.mono (fun _ _ f => f.elim)).trans g4, g5.mono (fun k _ hk => hk.elim .inl (fun hk => .inr ⟨Nat.le_trans hT.size hk.1, hk.2⟩))⟩
    case s4 =>
      refine fun hs hle => stepG_free [] [5] (by kernel_rfl) rfl ?_
      intro ac W hT hI hO
      have hle : hs.length ≤ 1 := hle
      have h5 : ac.tmps.getD 5 undef = .pointer (some ⟨bb, 0, none⟩) := hO 5 (by simp)
      show Brings Try.prog (fun vv w' => Turned (fun _ => False) W w' ∧ vv = .pointer (some ⟨bb, 0, none⟩)) _
      simp only [execOp, Act.eval, h5]
      go_simp
      try exact ⟨Turned.refl _ _, rfl⟩
    case s5 =>
      refine fun hs hle => stepG_free [] [3] (by kernel_rfl) rfl ?_
      intro ac W hT hI hO
      have hle : hs.length ≤ 1 := hle
      have h3 : ac.tmps.getD 3 undef = .pointer (some ⟨w.heap.size + 1, 0, none⟩) := hO 3 (by simp)
      show Brings Try.prog (fun vv w' => Turned (fun _ => False) W w' ∧ vv = .agg #[.int .i64 y.kind, .int .i64 y.n, .string y.name, .slice y.at_.1 y.args.length y.at_.2]) _
      obtain ⟨⟨c0, c1, c2, c3⟩, d0, d1, d2, d3⟩ := HKW.out W (CdS.turned hs W hT)
      simp only [execOp, Act.eval, h3]
      go_simp
      try exact ⟨Turned.refl _ _, rfl⟩
    case s6 =>
      refine fun hs hlen => stepG_free [23, 24] [] (by kernel_rfl) rfl ?_
      intro ac W hT hI hO
      have h23 : ac.tmps.getD 23 undef = .pointer (some ⟨bb, 0, none⟩) := hI 23 (by simp)
      have h24 : ac.tmps.getD 24 undef = .agg #[.int .i64 y.kind, .int .i64 y.n, .string y.name, .slice y.at_.1 y.args.length y.at_.2] := hI 24 (by simp)
      obtain ⟨a, rfl⟩ := List.length_eq_one_iff.1 hlen
      obtain ⟨u, O', a1, a2, a3, a4, a5, a6⟩ := hT
      show Brings Try.prog (fun vv w' => CdS (fun k => k < w4.heap.size) bb O0 x y w5 [a, vv] w') _
      subst a1
      have hyw : y.In (fun k => k < w4.heap.size) W := LT.In.turned a5 (fun k _ hk e => HPO.out k hk e) (fun _ _ hk => hk) _ HYI.out
      have hrn := renamed155 a3 hyw HGY.out (by omega)
      rw [LT.val_eq] at hrn
      have HRN := Lib.hid hrn
      have HTC := Lib.hid (And.intro a2 (And.intro a3 (And.intro a4 (And.intro a5 a6))))
      clear hrn hyw a2 a3 a4 a5 a6
      simp only [execOp, Act.eval, h23, h24]
      go_simp
      show Calls Try.prog 155 _ W _
      (with_reducible refine HRN.out.mono ?_)
      rintro e w' ⟨v, O2, rfl, g1, g2, g3, g4, g5⟩
      refine ⟨_, rfl, ?_⟩
      rw [LT.val_eq]
      exact cd_two HTC.out.1 HTC.out.2.1 HTC.out.2.2.1 HTC.out.2.2.2.1 HTC.out.2.2.2.2 g1 g2 g3 g4 g5
    case s7 =>
      refine fun hs hlen => stepG_free [19, 22, 25] [] (by kernel_rfl) rfl ?_
      intro ac W hT hI hO
      have h19 : ac.tmps.getD 19 undef = .pointer (some ⟨bb, 0, none⟩) := hI 19 (by simp)
      have h22 : hs[0]? = some (ac.tmps.getD 22 undef) := hI 22 (by simp)
      have h25 : hs[1]? = some (ac.tmps.getD 25 undef) := hI 25 (by simp)
      obtain ⟨a, b, rfl⟩ := list2' hlen
      obtain ⟨u, v, q, O', a1, a2, a3, a4, a5, a6, a7, a8, a9⟩ := hT
      have e22 : a = ac.tmps.getD 22 undef := by simpa using h22
      have e25 : b = ac.tmps.getD 25 undef := by simpa using h25
      rw [e22] at a1
      rw [e25] at a2
      show Brings Try.prog (fun vv w' => CdS (fun k => k < w4.heap.size) bb O0 x y w5 [a, b, vv] w') _
      have hgx : goodB x.bare = true := by rw [goodB_bare]; exact HG.out
      have hgy : goodB y.bare = true := by rw [goodB_bare]; exact HGY.out
      have su : slim u := good_slim (by rw [← goodB_bare, a3]; exact goodB_fromT hgx (by omega) (by rw [Tm.vars_bare]; omega))
      have sv : slim v := good_slim (by rw [← goodB_bare, a4]; exact goodB_fromT hgy (by omega) (by rw [Tm.vars_bare]; omega))
      have hbo := bothO110 a5 a8 su a9 sv
      rw [a3, a4, LT.val_eq, LT.val_eq] at hbo
      have hcr : bothR (0 + x.vars.length + y.vars.length) (bt []) (Tm.fromT x.bare ((0 : Nat) : Int)) (Tm.fromT y.bare ((0 + x.vars.length : Nat) : Int)) = couldR x.bare y.bare := by unfold couldR; rw [Tm.vars_bare, Tm.vars_bare]; rfl
      rw [hcr] at hbo
      have HBO := Lib.hid hbo
      have HA7 := Lib.hid a7
      have HA6 := Lib.hid a6
      clear hbo hcr su sv hgx hgy a3 a4 a5 a6 a7 a8 a9 e22 e25
      simp only [execOp, Act.eval, h19, a1, a2]
      go_simp
      show Calls Try.prog 110 _ W _
      (with_reducible refine HBO.out.mono ?_)
      rintro e w' ⟨rfl, l2, _, O2, b1, b2, b3⟩
      exact ⟨_, rfl, rfl, HA7.out.step b3 (fun i hi e => HA6.out i e hi)⟩
    case s8 =>
      refine fun hs hle => stepG_free [26] [] (by kernel_rfl) rfl ?_
      intro ac W hT hI hO
      have hle : hs.length ≤ 3 := hle
      have h26 : hs[2]? = some (ac.tmps.getD 26 undef) := hI 26 (by simp)
      show Brings Try.prog (fun vv w' => Turned (fun _ => False) W w' ∧ vv = .tuple #[.bool (couldR x.bare y.bare).1, .int .i64 (couldR x.bare y.bare).2.1, .int .i64 (couldR x.bare y.bare).2.2.1]) _
      have e26 := CdS.val hs W hT h26
      simp only [execOp, Act.eval, e26]
      go_simp
      try exact ⟨Turned.refl _ _, rfl⟩
    case s9 =>
      refine fun hs hle => stepG_free [18] [] (by kernel_rfl) rfl ?_
      intro ac W hT hI hO
      have hle : hs.length ≤ 3 := hle
      have h18 : ac.tmps.getD 18 undef = .tuple #[.bool (couldR x.bare y.bare).1, .int .i64 (couldR x.bare y.bare).2.1, .int .i64 (couldR x.bare y.bare).2.2.1] := hI 18 (by simp)
      show Brings Try.prog (fun vv w' => Turned (fun _ => False) W w' ∧ vv = .bool (couldR x.bare y.bare).1) _
      simp only [execOp, Act.eval, h18]
      go_simp
      try exact ⟨Turned.refl _ _, rfl⟩
    case s10 =>
      refine fun hs hle => stepG_free [18] [] (by kernel_rfl) rfl ?_
      intro ac W hT hI hO
      have hle : hs.length ≤ 3 := hle
      have h18 : ac.tmps.getD 18 undef = .tuple #[.bool (couldR x.bare y.bare).1, .int .i64 (couldR x.bare y.bare).2.1, .int .i64 (couldR x.bare y.bare).2.2.1] := hI 18 (by simp)
      show Brings Try.prog (fun vv w' => Turned (fun _ => False) W w' ∧ vv = .int .i64 (couldR x.bare y.bare).2.1) _
      simp only [execOp, Act.eval, h18]
      go_simp
      try exact ⟨Turned.refl _ _, rfl⟩
    case s11 =>
      refine fun hs hle => stepG_free [18] [] (by kernel_rfl) rfl ?_
      intro ac W hT hI hO
      have hle : hs.length ≤ 3 := hle
      have h18 : ac.tmps.getD 18 undef = .tuple #[.bool (couldR x.bare y.bare).1, .int .i64 (couldR x.bare y.bare).2.1, .int .i64 (couldR x.bare y.bare).2.2.1] := hI 18 (by simp)
      show Brings Try.prog (fun vv w' => Turned (fun _ => False) W w' ∧ vv = .int .i64 (couldR x.bare y.bare).2.2.1) _
      simp only [execOp, Act.eval, h18]
      go_simp
      try exact ⟨Turned.refl _ _, rfl⟩
    case s12 =>
      refine fun hs hle => stepG_free [27] [] (by kernel_rfl) rfl ?_
      intro ac W hT hI hO
      have hle : hs.length ≤ 3 := hle
      have h27 : ac.tmps.getD 27 undef = .bool (couldR x.bare y.bare).1 := hI 27 (by simp)
      show Brings Try.prog (fun vv w' => Turned (fun _ => False) W w' ∧ vv = .bool (couldR x.bare y.bare).1) _
      simp only [execOp, Act.eval, h27]
      go_simp
      try exact ⟨Turned.refl _ _, rfl⟩
    case s13 =>
      refine fun hs hle => stepG_free [28] [] (by kernel_rfl) rfl ?_
      intro ac W hT hI hO
      have hle : hs.length ≤ 3 := hle
      have h28 : ac.tmps.getD 28 undef = .int .i64 (couldR x.bare y.bare).2.1 := hI 28 (by simp)
      show Brings Try.prog (fun vv w' => Turned (fun _ => False) W w' ∧ vv = .int .i64 (couldR x.bare y.bare).2.1) _
      simp only [execOp, Act.eval, h28]
      go_simp
      try exact ⟨Turned.refl _ _, rfl⟩
    case s14 =>
      refine fun hs hle => stepG_free [29] [] (by kernel_rfl) rfl ?_
      intro ac W hT hI hO
      have hle : hs.length ≤ 3 := hle
      have h29 : ac.tmps.getD 29 undef = .int .i64 (couldR x.bare y.bare).2.2.1 := hI 29 (by simp)
      show Brings Try.prog (fun vv w' => Turned (fun _ => False) W w' ∧ vv = .int .i64 (couldR x.bare y.bare).2.2.1) _
      simp only [execOp, Act.eval, h29]
      go_simp
      try exact ⟨Turned.refl _ _, rfl⟩
  case hQ =>
    intro hs vs w6 hlen hRS hV
    have T6 := CdS.turned hs w6 hRS
    have q6 : vs 6 = .bool ok := by rw [← HOKE.out]; exact hV 6 (by simp)
    have q8 : vs 8 = .int .i64 er := by rw [← HERE.out]; exact hV 8 (by simp)
    simp only [List.foldl_cons, List.foldl_nil, List.setIfInBounds_toArray, List.set_cons_zero, List.set_cons_succ, q6, q8]
    clear hV q6 q8 hRS
    have hfin : Turned (fun _ => False) w w6 := (HT2.out.trans (HT4.out.trans HT45.out)).step T6 (fun i hi e => by have := HO0.out i e; have := (HT2.out.trans HT4.out).size; omega)
    have HF := Lib.hid hfin
    clear hfin T6
    cases ok with
    | false =>
      go_wp2_with fail
      go_ret
      exact ⟨by rw [HRB.out]; rfl, HF.out⟩
    | true =>
      by_cases he : er = 0
      · subst he
        go_wp2_with fail
        go_ret
        exact ⟨by rw [HRB.out]; rfl, HF.out⟩
      · have de : (er == 0) = false := by simp [he]
        have hrb : RB = false := by rw [HRB.out, decide_eq_false he]; rfl
        have HE := Lib.hid hrb
        clear he hrb
        go_wp2_with fail
        go_ret
        exact ⟨by rw [HE.out]; rfl, HF.out⟩
end Go.Proofs.Ytoihjobdfjajfaa
namespace Go.Proofs.Ytoihjobdfjajfaa
open Go.RowKit Go.Maps
set_option linter.unusedVariables false
set_option linter.unusedSimpArgs false
def tupD (q : Int × Int) (u : LT) : Value := .tuple #[.agg #[.int .i64 u.kind, .int .i64 u.n, .string u.name, .slice u.at_.1 u.args.length u.at_.2], .int .i64 q.1, .int .i64 q.2]
def aggD (u : LT) : Value := .agg #[.int .i64 u.kind, .int .i64 u.n, .string u.name, .slice u.at_.1 u.args.length u.at_.2]
structure FrD (w0 : World) (n : Int × Int) (Q : Tm Unit) (hs : Hist) (W : World) : Prop where
  t : Turned (fun _ => False) w0 W
  tup : ∀ v, (4, v) ∈ hs → ∃ u : LT, v = tupD n u ∧ u.bare = Q ∧ u.In (fun k => (9, ptr k) ∉ hs) W
  mv : ∀ v, (5, v) ∈ hs → (4, v) ∈ hs
  agg : ∀ v, (6, v) ∈ hs → ∃ u : LT, v = aggD u ∧ (4, tupD n u) ∈ hs
  box : ∀ v, (9, v) ∈ hs → ∃ B c0 c1 c2 c3, v = ptr B ∧ w0.heap.size ≤ B ∧ W.heap[B]? = some (.cells #[c0, c1, c2, c3] 41 (0, 0)) ∧ ∀ q, (10, q) ∈ hs → (6, .agg #[c0, c1, c2, c3]) ∈ hs
  uq : ∀ v v', (9, v) ∈ hs → (9, v') ∈ hs → v = v'
section
variable {w0 W W' : World} {n : Int × Int} {Q : Tm Unit} {hs : Hist}
theorem FrD.start (h : Turned (fun _ => False) w0 W) : FrD w0 n Q [] W := ⟨h, fun v h => (List.not_mem_nil h).elim, fun v h => (List.not_mem_nil h).elim, fun v h => (List.not_mem_nil h).elim, fun v h => (List.not_mem_nil h).elim, fun v v' h => (List.not_mem_nil h).elim⟩
theorem FrD.turned0 (h : FrD w0 n Q hs W) (T : Turned (fun _ => False) W W') : FrD w0 n Q hs W' := by
  refine ⟨h.t.trans T, fun v hv => ?_, h.mv, h.agg, fun v hv => ?_, h.uq⟩
  · obtain ⟨u, h1, h2, h3⟩ := h.tup v hv
    exact ⟨u, h1, h2, h3.turned0 T⟩
  · obtain ⟨B, c0, c1, c2, c3, h1, h2, h3, h4⟩ := h.box v hv
    exact ⟨B, c0, c1, c2, c3, h1, h2, (T.block B (Array.getElem?_eq_some_iff.1 h3).1 (fun f => f)).trans h3, h4⟩
theorem FrD.keep {i : Nat} {x : Value} (h : FrD w0 n Q hs W) (h4 : i = 4 → ∃ u : LT, x = tupD n u ∧ u.bare = Q ∧ u.In (fun k => (9, ptr k) ∉ hs) W) (h5 : i = 5 → (4, x) ∈ hs) (h6 : i = 6 → ∃ u : LT, x = aggD u ∧ (4, tupD n u) ∈ hs) (h9 : i ≠ 9) (h10 : i ≠ 10) : FrD w0 n Q (hs ++ [(i, x)]) W := by
  have ne : ∀ {j : Nat} {v : Value}, j ≠ i → (j, v) ∈ hs ++ [(i, x)] → (j, v) ∈ hs := fun hj hm => by
    rcases mem_snoc hm with hm | ⟨e, _⟩
    · exact hm
    · exact absurd e hj
  have hin : ∀ {u : LT}, u.In (fun k => (9, ptr k) ∉ hs) W → u.In (fun k => (9, ptr k) ∉ hs ++ [(i, x)]) W := fun hu => hu.mono (fun k _ hk c => hk (ne (fun e => h9 e.symm) c))
  refine ⟨h.t, fun v hv => ?_, fun v hv => ?_, fun v hv => ?_, fun v hv => ?_, fun v v' hv hv' => h.uq v v' (ne (fun e => h9 e.symm) hv) (ne (fun e => h9 e.symm) hv')⟩
  · rcases mem_snoc hv with hm | ⟨e, e2⟩
    · obtain ⟨u, g1, g2, g3⟩ := h.tup v hm
      exact ⟨u, g1, g2, hin g3⟩
    · obtain ⟨u, g1, g2, g3⟩ := h4 e.symm
      exact ⟨u, e2.trans g1, g2, hin g3⟩
  · rcases mem_snoc hv with hm | ⟨e, e2⟩
    · exact List.mem_append_left _ (h.mv v hm)
    · rw [e2]; exact List.mem_append_left _ (h5 e.symm)
  · rcases mem_snoc hv with hm | ⟨e, e2⟩
    · obtain ⟨u, g1, g2⟩ := h.agg v hm
      exact ⟨u, g1, List.mem_append_left _ g2⟩
    · obtain ⟨u, g1, g2⟩ := h6 e.symm
      exact ⟨u, e2.trans g1, List.mem_append_left _ g2⟩
  · obtain ⟨B, c0, c1, c2, c3, g1, g2, g3, g4⟩ := h.box v (ne (fun e => h9 e.symm) hv)
    exact ⟨B, c0, c1, c2, c3, g1, g2, g3, fun q hq => List.mem_append_left _ (g4 q (ne (fun e => h10 e.symm) hq))⟩
theorem FrD.laid {c0 c1 c2 c3 : Value} (h : FrD w0 n Q hs W) (hno : ∀ v, (9, v) ∉ hs) (hst : ∀ q, (10, q) ∉ hs) : FrD w0 n Q (hs ++ [(9, ptr W.heap.size)]) (W.alloc (.cells #[c0, c1, c2, c3] 41)) := by
  have T : Turned (fun _ => False) W (W.alloc (.cells #[c0, c1, c2, c3] 41)) := (Turned.refl _ W).alloc _
  have ne : ∀ {j : Nat} {v : Value}, j ≠ 9 → (j, v) ∈ hs ++ [(9, ptr W.heap.size)] → (j, v) ∈ hs := fun hj hm => by
    rcases mem_snoc hm with hm | ⟨e, _⟩
    · exact hm
    · exact absurd e hj
  have last : ∀ {v : Value}, (9, v) ∈ hs ++ [(9, ptr W.heap.size)] → v = ptr W.heap.size := fun hm => by
    rcases mem_snoc hm with hm | ⟨_, e⟩
    · exact absurd hm (hno _)
    · exact e
  refine ⟨h.t.trans T, fun v hv => ?_, fun v hv => List.mem_append_left _ (h.mv v (ne (by decide) hv)), fun v hv => ?_, fun v hv => ?_, fun v v' hv hv' => by rw [last hv, last hv']⟩
  · obtain ⟨u, h1, h2, h3⟩ := h.tup v (ne (by decide) hv)
    refine ⟨u, h1, h2, ((h3.mono (q := fun k => (9, ptr k) ∉ hs ++ [(9, ptr W.heap.size)]) (fun k hk _ c => ?_))).turned0 T⟩
    have := ptr_inj (last c)
    omega
  · obtain ⟨u, h1, h2⟩ := h.agg v (ne (by decide) hv)
    exact ⟨u, h1, List.mem_append_left _ h2⟩
  · exact ⟨W.heap.size, c0, c1, c2, c3, last hv, h.t.size, heap_alloc_new W _, fun q hq => absurd (ne (by decide) hq) (hst q)⟩
theorem FrD.cell {v : Value} (h : FrD w0 n Q hs W) (h9 : (9, v) ∈ hs) : ∃ B c0 c1 c2 c3, v = .pointer (some ⟨B, 0, none⟩) ∧ W.heap[B]? = some (.cells #[c0, c1, c2, c3] 41 (0, 0)) := by
  obtain ⟨B, c0, c1, c2, c3, h1, h2, h3, _⟩ := h.box v h9
  exact ⟨B, c0, c1, c2, c3, h1, h3⟩
theorem FrD.stored {B : Nat} {u : LT} {q : Value} (h : FrD w0 n Q hs W) (h9 : (9, ptr B) ∈ hs) (h6 : (6, aggD u) ∈ hs) :
    FrD w0 n Q (hs ++ [(10, q)]) ((((W.setCell ⟨B, 0, none⟩ (.int .i64 u.kind)).setCell ⟨B, 1, none⟩ (.int .i64 u.n)).setCell ⟨B, 2, none⟩ (.string u.name)).setCell ⟨B, 3, none⟩ (.slice u.at_.1 u.args.length u.at_.2)) := by
  obtain ⟨B', c0, c1, c2, c3, h1, h2, h3, h4⟩ := h.box _ h9
  obtain rfl := ptr_inj h1
  have hset := set4 (a' := .int .i64 u.kind) (b' := .int .i64 u.n) (c' := .string u.name) (d' := .slice u.at_.1 u.args.length u.at_.2) h3
  have T := turned_store4 W B (.int .i64 u.kind) (.int .i64 u.n) (.string u.name) (.slice u.at_.1 u.args.length u.at_.2)
  have ne : ∀ {j : Nat} {v : Value}, j ≠ 10 → (j, v) ∈ hs ++ [(10, q)] → (j, v) ∈ hs := fun hj hm => by
    rcases mem_snoc hm with hm | ⟨e, _⟩
    · exact hm
    · exact absurd e hj
  refine ⟨h.t.step T (fun i hi e => by omega), fun v hv => ?_, fun v hv => List.mem_append_left _ (h.mv v (ne (by decide) hv)), fun v hv => ?_, fun v hv => ?_, fun v v' hv hv' => h.uq v v' (ne (by decide) hv) (ne (by decide) hv')⟩
  · obtain ⟨x, g1, g2, g3⟩ := h.tup v (ne (by decide) hv)
    exact ⟨x, g1, g2, LT.In.turned T (fun k hl hk e => hk (e ▸ h9)) (fun k hl hk c => hk (ne (by decide) c)) _ g3⟩
  · obtain ⟨x, g1, g2⟩ := h.agg v (ne (by decide) hv)
    exact ⟨x, g1, List.mem_append_left _ g2⟩
  · rw [h.uq _ _ (ne (by decide) hv) h9]
    exact ⟨B, _, _, _, _, rfl, h2, hset, fun q hq => List.mem_append_left _ h6⟩
theorem FrD.done {v : Value} (h : FrD w0 n Q hs W) (hall : ∀ i ∈ [4, 5, 6, 9, 10], ∃ v, (i, v) ∈ hs) (h9 : (9, v) ∈ hs) :
    ∃ B, ∃ u : LT, v = .pointer (some ⟨B, 0, none⟩) ∧ w0.heap.size ≤ B ∧ W.heap[B]? = some (.cells #[.int .i64 u.kind, .int .i64 u.n, .string u.name, .slice u.at_.1 u.args.length u.at_.2] 41 (0, 0)) ∧ u.bare = Q ∧ u.In (fun k => k ≠ B) W ∧ Turned (fun _ => False) w0 W := by
  obtain ⟨B, c0, c1, c2, c3, h1, h2, h3, h4⟩ := h.box _ h9
  obtain ⟨q, hq⟩ := hall 10 (by simp)
  obtain ⟨u, u1, u2⟩ := h.agg _ (h4 q hq)
  obtain ⟨u', v1, v2, v3⟩ := h.tup _ u2
  have e1 : c0 = .int .i64 u.kind ∧ c1 = .int .i64 u.n ∧ c2 = .string u.name ∧ c3 = .slice u.at_.1 u.args.length u.at_.2 := by
    unfold aggD at u1; simpa using u1
  have e2 : aggD u = aggD u' := by unfold tupD at v1; unfold aggD; simpa using v1
  obtain ⟨rfl, rfl, rfl, rfl⟩ := e1
  have e3 : (Obj.cells #[.int .i64 u.kind, .int .i64 u.n, .string u.name, .slice u.at_.1 u.args.length u.at_.2] 41 (0, 0)) = Obj.cells #[.int .i64 u'.kind, .int .i64 u'.n, .string u'.name, .slice u'.at_.1 u'.args.length u'.at_.2] 41 (0, 0) := by unfold aggD at e2; injection e2 with e2; rw [e2]
  refine ⟨B, u', h1, h2, h3.trans (congrArg some e3), v2, v3.mono (fun k _ hk e => hk (by rw [e, ← h1]; exact h9)), h.t⟩
end
def VLen (n : Nat) (v : Value) (W : World) : Prop := ∃ q : Option Addr × Nat, v = .slice q.1 n q.2 ∧ LT.Ins (fun _ => True) W [] ∧ True
theorem LT.ins_nil' {W : World} : LT.Ins (fun _ => True) W [] := trivial
def frM (t : Tm Unit) (f : Nat) : Int := if goodB t = true then ((f + t.vars.length : Nat) : Int) else 0
def frE (t : Tm Unit) : Int := if goodB t = true then 0 else 1
def frQ (t : Tm Unit) (f : Nat) : Tm Unit := if goodB t = true then Tm.fromT t (f : Int) else Tm.V 0
theorem fromD {p : Nat → Prop} {t : LT} {w : World} {f : Nat} (ht : t.In p w) (hf : f ≤ 2000) :
    Calls Try.prog 80 #[.agg #[.int .i64 t.kind, .int .i64 t.n, .string t.name, .slice t.at_.1 t.args.length t.at_.2], .int .i64 (f : Int)] w fun e w' => ∃ u : LT, e = .returned (.tuple #[.agg #[.int .i64 u.kind, .int .i64 u.n, .string u.name, .slice u.at_.1 u.args.length u.at_.2], .int .i64 (frM t.bare f), .int .i64 (frE t.bare)]) ∧ u.bare = frQ t.bare f ∧ u.In (fun k => p k ∨ w.heap.size ≤ k) w' ∧ Turned (fun _ => False) w w' := by
  have h := rFrom80 ht (first := (f : Int)) ⟨by omega, by omega⟩
  rw [LT.val_eq] at h
  refine h.mono ?_
  rintro e w' ⟨u, m, er, rfl, hR, hi, hT⟩
  unfold FromR at hR
  unfold frM frE frQ
  by_cases g : goodB t.bare = true
  · have hv : t.bare.vars.length ≤ 2000 := by have := varsB_le t.bare; unfold varsB at this; rw [if_pos g] at this; exact this
    rw [if_pos ⟨g, by omega, by omega⟩, if_pos (by omega)] at hR
    obtain ⟨rfl, rfl, h3⟩ := hR
    exact ⟨u, by rw [LT.val_eq, if_pos g, if_pos g]; simp, by rw [if_pos g]; exact h3, hi, hT⟩
  · rw [if_neg (fun c => g c.1)] at hR
    obtain ⟨rfl, rfl, h3⟩ := hR
    exact ⟨u, by rw [LT.val_eq, if_neg g, if_neg g], by rw [if_neg g]; exact h3, hi, hT⟩
theorem couldB_no {x y : Tm Unit} (h : ¬ (goodB x = true ∧ goodB y = true)) : couldB x y = false := by
  unfold couldB
  cases hx : goodB x with
  | false => rfl
  | true =>
    cases hy : goodB y with
    | false => rfl
    | true => exact absurd ⟨hx, hy⟩ h
theorem couldB_yes {x y : Tm Unit} (hx : goodB x = true) (hy : goodB y = true) : couldB x y = ((couldR x y).1 && decide ((couldR x y).2.2.1 = 0)) := by
  unfold couldB; rw [hx, hy]; rfl
set_option maxRecDepth 100000 in
set_option maxHeartbeats 12800000 in
theorem could119 {x y : LT} {w : World} (hx : x.In (fun _ => True) w) (hy : y.In (fun _ => True) w) :
    Calls Try.prog 119 #[.agg #[.int .i64 x.kind, .int .i64 x.n, .string x.name, .slice x.at_.1 x.args.length x.at_.2], .agg #[.int .i64 y.kind, .int .i64 y.n, .string y.name, .slice y.at_.1 y.args.length y.at_.2]] w fun e w' => e = .returned (.bool (couldB x.bare y.bare)) ∧ Turned (fun _ => False) w w' := by
  have h2 := twoBox w (.cells #[.int .i64 x.kind, .int .i64 x.n, .string x.name, .slice x.at_.1 x.args.length x.at_.2] 41) (.cells #[.int .i64 y.kind, .int .i64 y.n, .string y.name, .slice y.at_.1 y.args.length y.at_.2] 41)
  obtain ⟨w2, hw2⟩ : ∃ z, z = (w.alloc (.cells #[.int .i64 x.kind, .int .i64 x.n, .string x.name, .slice x.at_.1 x.args.length x.at_.2] 41)).alloc (.cells #[.int .i64 y.kind, .int .i64 y.n, .string y.name, .slice y.at_.1 y.args.length y.at_.2] 41) := ⟨_, rfl⟩
  rw [← hw2] at h2
  have hbx : ∀ W, Turned (fun _ => False) w2 W → W.heap[w.heap.size]? = some (.cells #[.int .i64 x.kind, .int .i64 x.n, .string x.name, .slice x.at_.1 x.args.length x.at_.2] 41 (0, 0)) ∧ W.heap[w.heap.size + 1]? = some (.cells #[.int .i64 y.kind, .int .i64 y.n, .string y.name, .slice y.at_.1 y.args.length y.at_.2] 41 (0, 0)) := fun W hW => ⟨(hW.block _ (by have := h2.2.1; omega) (fun f => f)).trans h2.2.2.1, (hW.block _ (by have := h2.2.1; omega) (fun f => f)).trans h2.2.2.2⟩
  have hcx := fun W (T : Turned (fun _ => False) w2 W) => And.intro (cells4 (hbx W T).1) (cells4 (hbx W T).2)
  have hvx : ∀ W, Turned (fun _ => False) w2 W → Calls Try.prog 51 #[.agg #[.int .i64 x.kind, .int .i64 x.n, .string x.name, .slice x.at_.1 x.args.length x.at_.2]] W fun e w' => ∃ va vc, e = .returned (.slice va (varsB x).length vc) ∧ Turned (fun _ => False) W w' := fun W hW => by
    have := varsV51 (hx.turned0 (h2.1.trans hW))
    rw [LT.val_eq] at this
    refine this.mono ?_
    rintro e w' ⟨v, rfl, hr, T⟩
    obtain ⟨a, c, rfl⟩ := hr.shape
    exact ⟨a, c, rfl, T⟩
  have hvy : ∀ W, Turned (fun _ => False) w2 W → Calls Try.prog 51 #[.agg #[.int .i64 y.kind, .int .i64 y.n, .string y.name, .slice y.at_.1 y.args.length y.at_.2]] W fun e w' => ∃ va vc, e = .returned (.slice va (varsB y).length vc) ∧ Turned (fun _ => False) W w' := fun W hW => by
    have := varsV51 (hy.turned0 (h2.1.trans hW))
    rw [LT.val_eq] at this
    refine this.mono ?_
    rintro e w' ⟨v, rfl, hr, T⟩
    obtain ⟨a, c, rfl⟩ := hr.shape
    exact ⟨a, c, rfl, T⟩
  have hLx := varsB_le x
  have hLy := varsB_le y
  have hfx := fromD (f := 0) (hx.turned0 h2.1) (by omega)
  obtain ⟨L, hL⟩ : ∃ z, z = (varsB x).length := ⟨_, rfl⟩
  obtain ⟨M, hM⟩ : ∃ z, z = (varsB y).length := ⟨_, rfl⟩
  rw [← hL] at hvx hLx
  rw [← hM] at hvy hLy
  have hfy := fun W (T : Turned (fun _ => False) w2 W) => fromD (p := fun k => k < w2.heap.size) (f := L) (t := y) (((hy.turned0 h2.1).mono (q := fun k => k < w2.heap.size) (fun k hk _ => hk)).turned0 T) hLx
  have hLb : varsB x = if goodB x.bare = true then x.bare.vars else [] := by unfold varsB; rw [goodB_bare, Tm.vars_bare]
  have hMb : varsB y = if goodB y.bare = true then y.bare.vars else [] := by unfold varsB; rw [goodB_bare, Tm.vars_bare]
  rw [hLb] at hL
  rw [hMb] at hM
  obtain ⟨xb, hxb⟩ : ∃ z, z = x.bare := ⟨_, rfl⟩
  obtain ⟨yb, hyb⟩ : ∃ z, z = y.bare := ⟨_, rfl⟩
  rw [← hxb] at hfx hL ⊢
  rw [← hyb] at hfy hM ⊢
  have HL := Lib.hid hL
  have HM := Lib.hid hM
  have HT2 := Lib.hid h2.1
  have HW2 := Lib.hid hw2
  have HCX := Lib.hid hcx
  have HVX := Lib.hid hvx
  have HVY := Lib.hid hvy
  have HFX := Lib.hid hfx
  have HFY := Lib.hid hfy
  have HSZ2 := Lib.hid h2.2.1
  clear hx hy h2 hw2 hbx hcx hvx hvy hfx hfy hL hM hxb hyb hLb hMb
  go_enter Try.func119, Try.ntmps119
  go_wp2_with (go_at_call 80; rw [← HW2.out]; refine HFX.out.mono ?_; rintro e w3 ⟨u, rfl, hub, hui, T3⟩; have HU := Lib.hid (And.intro hub (And.intro (hui.mono (q := fun k => k < w3.heap.size) (fun k hk _ => hk)) T3)); clear hub hui T3)
  have T4 : Turned (fun _ => False) w2 (w3.alloc (.cells #[.int .i64 u.kind, .int .i64 u.n, .string u.name, .slice u.at_.1 u.args.length u.at_.2] 41)) := HU.out.2.2.alloc _
  have hbu := heap_alloc_new w3 (.cells #[.int .i64 u.kind, .int .i64 u.n, .string u.name, .slice u.at_.1 u.args.length u.at_.2] 41)
  have HW4 := Lib.hid (And.intro T4 (And.intro hbu (HU.out.2.1.turned0 ((Turned.refl (fun _ => False) w3).alloc (.cells #[.int .i64 u.kind, .int .i64 u.n, .string u.name, .slice u.at_.1 u.args.length u.at_.2] 41)))))
  clear T4 hbu
  obtain ⟨w4, hw4⟩ : ∃ z, z = w3.alloc (.cells #[.int .i64 u.kind, .int .i64 u.n, .string u.name, .slice u.at_.1 u.args.length u.at_.2] 41) := ⟨_, rfl⟩
  have hs4 : w3.heap.size < w4.heap.size := by rw [hw4]; show _ < (w3.heap.push _).size; rw [Array.size_push]; omega
  rw [← hw4] at HW4 ⊢
  have HS4 := Lib.hid hs4
  clear hw4 hs4
  refine wp_region_k [24, 25, 26, 27, 28, 23, 29, 30, 31, 8, 9, 10] [4, 5, 6, 9, 10] [(28, 4), (23, 5), (29, 6), (8, 9)] (fun dd vv => (match dd with | 24 => vv = .agg #[.int .i64 y.kind, .int .i64 y.n, .string y.name, .slice y.at_.1 y.args.length y.at_.2] | 25 => vv = .agg #[.int .i64 x.kind, .int .i64 x.n, .string x.name, .slice x.at_.1 x.args.length x.at_.2] | 27 => vv = .int .i64 (L : Int) | 30 => vv = .int .i64 (frM yb L) | 31 => vv = .int .i64 (frE yb) | 9 => vv = .int .i64 (frM yb L) | 10 => vv = .int .i64 (frE yb) | 26 => ∃ va vc, vv = .slice va L vc | _ => True : Prop)) (FrD w4 (frM yb L, frE yb) (frQ yb L)) (by kernel_rfl) rfl (by kernel_rfl) (by kernel_rfl) (fun w h => FrD.start h) (fun hs w w' h ht => h.turned0 ht) ?hs ?hQ
  case hs =>
    refine ⟨?s0, ?s1, ?s2, ?s3, ?s4, ?s5, ?s6, ?s7, ?s8, ?s9, ?s10, ?s11, ?s12, trivial⟩
    case s0 =>
      refine fun hs hl => stepG_free [] [3] (by kernel_rfl) rfl ?_
      intro ac W hT hI hO
      have h3 : ac.tmps.getD 3 undef = .pointer (some ⟨w.heap.size + 1, 0, none⟩) := hO 3 (by simp)
      show Brings Try.prog (fun vv w' => Turned (fun _ => False) W w' ∧ vv = .agg #[.int .i64 y.kind, .int .i64 y.n, .string y.name, .slice y.at_.1 y.args.length y.at_.2]) _
      obtain ⟨⟨c0, c1, c2, c3, _⟩, d0, d1, d2, d3, _⟩ := HCX.out W (HW4.out.1.trans hT.t)
      simp only [execOp, Act.eval, h3]
      go_simp
      try exact ⟨Turned.refl _ _, rfl⟩
    case s1 =>
      refine fun hs hl => stepG_free [] [2] (by kernel_rfl) rfl ?_
      intro ac W hT hI hO
      have h2 : ac.tmps.getD 2 undef = .pointer (some ⟨w.heap.size, 0, none⟩) := hO 2 (by simp)
      show Brings Try.prog (fun vv w' => Turned (fun _ => False) W w' ∧ vv = .agg #[.int .i64 x.kind, .int .i64 x.n, .string x.name, .slice x.at_.1 x.args.length x.at_.2]) _
      obtain ⟨⟨c0, c1, c2, c3, _⟩, d0, d1, d2, d3, _⟩ := HCX.out W (HW4.out.1.trans hT.t)
      simp only [execOp, Act.eval, h2]
      go_simp
      try exact ⟨Turned.refl _ _, rfl⟩
    case s2 =>
      refine fun hs hl => stepG_free [25] [] (by kernel_rfl) rfl ?_
      intro ac W hT hI hO
      have h25 : ac.tmps.getD 25 undef = .agg #[.int .i64 x.kind, .int .i64 x.n, .string x.name, .slice x.at_.1 x.args.length x.at_.2] := hI 25 (by simp)
      show Brings Try.prog (fun vv w' => Turned (fun _ => False) W w' ∧ ∃ va vc, vv = .slice va L vc) _
      simp only [execOp, Act.eval, h25]
      go_simp
      show Calls Try.prog 51 _ W _
      (with_reducible refine (HVX.out W (HW4.out.1.trans hT.t)).mono ?_)
      rintro e w' ⟨va, vc, rfl, T'⟩
      exact ⟨_, rfl, T', va, vc, rfl⟩
    case s3 =>
      refine fun hs hl => stepG_free [26] [] (by kernel_rfl) rfl ?_
      intro ac W hT hI hO
      obtain ⟨va, vc, h26⟩ : ∃ va vc, ac.tmps.getD 26 undef = .slice va L vc := hI 26 (by simp)
      show Brings Try.prog (fun vv w' => Turned (fun _ => False) W w' ∧ vv = .int .i64 (L : Int)) _
      simp only [execOp, Act.eval, h26]
      go_simp
      try exact ⟨Turned.refl _ _, rfl⟩
    case s4 =>
      refine fun hs hno hl => stepG_free [24, 27] [] (by kernel_rfl) rfl ?_
      intro ac W hT hI hO
      have h24 : ac.tmps.getD 24 undef = .agg #[.int .i64 y.kind, .int .i64 y.n, .string y.name, .slice y.at_.1 y.args.length y.at_.2] := hI 24 (by simp)
      have h27 : ac.tmps.getD 27 undef = .int .i64 (L : Int) := hI 27 (by simp)
      show Brings Try.prog (fun vv w' => FrD w4 (frM yb L, frE yb) (frQ yb L) (hs ++ [(4, vv)]) w') _
      simp only [execOp, Act.eval, h24, h27]
      go_simp
      show Calls Try.prog 80 _ W _
      (with_reducible refine (HFY.out W (HW4.out.1.trans hT.t)).mono ?_)
      rintro e w' ⟨u, rfl, g1, g2, T'⟩
      exact ⟨_, rfl, (hT.turned0 T').keep (fun _ => ⟨u, rfl, g1, g2.mono (fun k hk h c => by obtain ⟨B, _, _, _, _, e, l1, l2, _⟩ := hT.box _ c; have e := ptr_inj e; have := (Array.getElem?_eq_some_iff.1 l2).1; have := HW4.out.1.size; omega)⟩) (fun e => by cases e) (fun e => by cases e) (by decide) (by decide)⟩
    case s5 =>
      refine fun hs hno hl => stepG_free [28] [] (by kernel_rfl) rfl ?_
      intro ac W hT hI hO
      have h28 : (4, ac.tmps.getD 28 undef) ∈ hs := hI 28 (by simp)
      show Brings Try.prog (fun vv w' => FrD w4 (frM yb L, frE yb) (frQ yb L) (hs ++ [(5, vv)]) w') _
      obtain ⟨u, e28, _⟩ := hT.tup _ h28
      have h28' := h28
      rw [e28] at h28'
      unfold tupD at e28 h28'
      simp only [execOp, Act.eval, e28]
      go_simp
      exact hT.keep (fun e => by cases e) (fun _ => h28') (fun e => by cases e) (by decide) (by decide)
    case s6 =>
      refine fun hs hno hl => stepG_free [23] [] (by kernel_rfl) rfl ?_
      intro ac W hT hI hO
      have h23 : (5, ac.tmps.getD 23 undef) ∈ hs := hI 23 (by simp)
      obtain ⟨u, e23, _⟩ := hT.tup _ (hT.mv _ h23)
      unfold tupD at e23
      have h4 := hT.mv _ h23
      rw [e23] at h4
      show Brings Try.prog (fun vv w' => FrD w4 (frM yb L, frE yb) (frQ yb L) (hs ++ [(6, vv)]) w') _
      simp only [execOp, Act.eval, e23]
      go_simp
      exact hT.keep (fun e => by cases e) (fun e => by cases e) (fun _ => ⟨u, rfl, h4⟩) (by decide) (by decide)
    case s7 =>
      refine fun hs hl => stepG_free [23] [] (by kernel_rfl) rfl ?_
      intro ac W hT hI hO
      have h23 : (5, ac.tmps.getD 23 undef) ∈ hs := hI 23 (by simp)
      obtain ⟨u, e23, _⟩ := hT.tup _ (hT.mv _ h23)
      unfold tupD at e23
      show Brings Try.prog (fun vv w' => Turned (fun _ => False) W w' ∧ vv = .int .i64 (frM yb L)) _
      simp only [execOp, Act.eval, e23]
      go_simp
      try exact ⟨Turned.refl _ _, rfl⟩
    case s8 =>
      refine fun hs hl => stepG_free [23] [] (by kernel_rfl) rfl ?_
      intro ac W hT hI hO
      have h23 : (5, ac.tmps.getD 23 undef) ∈ hs := hI 23 (by simp)
      obtain ⟨u, e23, _⟩ := hT.tup _ (hT.mv _ h23)
      unfold tupD at e23
      show Brings Try.prog (fun vv w' => Turned (fun _ => False) W w' ∧ vv = .int .i64 (frE yb)) _
      simp only [execOp, Act.eval, e23]
      go_simp
      try exact ⟨Turned.refl _ _, rfl⟩
    case s9 =>
      refine fun hs hno hl => stepG_free [] [] (by kernel_rfl) rfl ?_
      intro ac W hT hI hO
      show Brings Try.prog (fun vv w' => FrD w4 (frM yb L, frE yb) (frQ yb L) (hs ++ [(9, vv)]) w') _
      simp only [execOp, Act.eval]
      go_simp
      exact hT.laid hno (fun q => hl 10 11 q (by kernel_rfl))
    case s10 =>
      refine fun hs hno hl => stepG_free [8, 29] [] (by kernel_rfl) rfl ?_
      intro ac W hT hI hO
      have h8 : (9, ac.tmps.getD 8 undef) ∈ hs := hI 8 (by simp)
      have h29 : (6, ac.tmps.getD 29 undef) ∈ hs := hI 29 (by simp)
      obtain ⟨B, a0, a1, a2, a3, eB, hB⟩ := hT.cell h8
      obtain ⟨u, eA, _⟩ := hT.agg _ h29
      have h29' := h29
      rw [eA] at h29'
      unfold aggD at eA
      obtain ⟨d0, d1, d2, d3, f0, f1, f2, f3⟩ := cells4 hB
      show Brings Try.prog (fun vv w' => FrD w4 (frM yb L, frE yb) (frQ yb L) (hs ++ [(10, vv)]) w') _
      simp only [execOp, Act.eval, eB, eA]
      go_simp
      rw [eB] at h8
      exact hT.stored h8 h29'
    case s11 =>
      refine fun hs hl => stepG_free [30] [] (by kernel_rfl) rfl ?_
      intro ac W hT hI hO
      have h30 : ac.tmps.getD 30 undef = .int .i64 (frM yb L) := hI 30 (by simp)
      show Brings Try.prog (fun vv w' => Turned (fun _ => False) W w' ∧ vv = .int .i64 (frM yb L)) _
      simp only [execOp, Act.eval, h30]
      go_simp
      try exact ⟨Turned.refl _ _, rfl⟩
    case s12 =>
      refine fun hs hl => stepG_free [31] [] (by kernel_rfl) rfl ?_
      intro ac W hT hI hO
      have h31 : ac.tmps.getD 31 undef = .int .i64 (frE yb) := hI 31 (by simp)
      show Brings Try.prog (fun vv w' => Turned (fun _ => False) W w' ∧ vv = .int .i64 (frE yb)) _
      simp only [execOp, Act.eval, h31]
      go_simp
      try exact ⟨Turned.refl _ _, rfl⟩
  case hQ =>
    intro hs vs w5 hall huniq hR hV
    have q8 : (9, vs 8) ∈ hs := hV 8 (by simp)
    have q9 : vs 9 = .int .i64 (frM yb L) := hV 9 (by simp)
    have q10 : vs 10 = .int .i64 (frE yb) := hV 10 (by simp)
    obtain ⟨B, v, hB, hBn, hbv, hvb, hvi, T5⟩ := hR.done hall q8
    simp only [List.foldl_cons, List.foldl_nil, List.setIfInBounds_toArray, List.set_cons_zero, List.set_cons_succ, q9, q10, hB]
    have HV5 := Lib.hid (And.intro hbv (And.intro hvb (hvi.mono (q := fun k => k < w5.heap.size) (fun k hk _ => hk))))
    have HT5 := Lib.hid T5
    have HBN := Lib.hid hBn
    clear hall huniq hR hV q8 q9 q10 hB hbv hvb hvi T5 hBn
    have T25 := HW4.out.1.trans HT5.out
    have HT25 := Lib.hid T25
    clear T25
    by_cases hg : goodB xb = true ∧ goodB yb = true
    · obtain ⟨gx, gy⟩ := hg
      have ex : frE xb = 0 := if_pos gx
      have ey : frE yb = 0 := if_pos gy
      have hLv : L = xb.vars.length := by have := HL.out; rw [if_pos gx] at this; exact this
      have hMv : M = yb.vars.length := by have := HM.out; rw [if_pos gy] at this; exact this
      have hQx : frQ xb 0 = Tm.fromT xb ((0 : Nat) : Int) := if_pos gx
      have hQy : frQ yb L = Tm.fromT yb ((L : Nat) : Int) := if_pos gy
      have HQ := Lib.hid (And.intro hQx (And.intro hQy (And.intro hLv hMv)))
      have HCB := Lib.hid (couldB_yes gx gy)
      rw [ex, ey]
      clear ex ey hQx hQy hLv hMv gx gy
      go_wp2_with fail
      have hD := newD (p := fun k => k < w5.heap.size) w5 (fun k hk => hk)
      have TD : Turned (fun _ => False) w5 (w5.alloc (.cells #[.slice none 0 0, .slice none 0 0, .slice none 0 0] 113)) := (Turned.refl _ w5).alloc _
      have HD6 := Lib.hid (And.intro hD TD)
      clear hD TD
      revert HD6
      generalize w5.alloc (.cells #[.slice none 0 0, .slice none 0 0, .slice none 0 0] 113) = w6
      intro HD6
      have HT26 := Lib.hid (HT25.out.trans HD6.out.2)
      refine wp_region_ssa' (G := (fun dd vv W => (match dd with | 40 => vv = .agg #[.int .i64 x.kind, .int .i64 x.n, .string x.name, .slice x.at_.1 x.args.length x.at_.2] | 42 => vv = .int .i64 (L : Int) | 43 => vv = .agg #[.int .i64 y.kind, .int .i64 y.n, .string y.name, .slice y.at_.1 y.args.length y.at_.2] | 45 => vv = .int .i64 (M : Int) | 46 => vv = .int .i64 ((L : Int) + (M : Int)) | 12 => vv = .int .i64 ((L : Int) + (M : Int)) | 41 => VLen L (vv) W | 44 => VLen M (vv) W | _ => True : Prop))) [40, 41, 42, 43, 44, 45, 46, 12] (by kernel_rfl) rfl (by kernel_rfl) ?hG ?hs ?hQ
      case hG =>
        intro d vv W W2 T h
        split at h <;> first
          | exact h
          | (obtain ⟨x, x1, x2, x3⟩ := h; exact ⟨x, x1, x2.turned0 T, x3⟩)
      case hs =>
        refine ⟨?s0, ?s1, ?s2, ?s3, ?s4, ?s5, ?s6, ?s7, trivial⟩
        case s0 =>
          refine stepOk_free [] [2] (by kernel_rfl) rfl ?_
          intro ac W hT hI hO
          have h2 : ac.tmps.getD 2 undef = .pointer (some ⟨w.heap.size, 0, none⟩) := hO 2 (by simp)
          show Brings Try.prog (fun vv w' => Turned (fun _ => False) W w' ∧ vv = .agg #[.int .i64 x.kind, .int .i64 x.n, .string x.name, .slice x.at_.1 x.args.length x.at_.2]) _
          obtain ⟨⟨c0, c1, c2, c3, _⟩, d0, d1, d2, d3, _⟩ := HCX.out W (HT26.out.trans hT)
          simp only [execOp, Act.eval, h2]
          go_simp
          try exact ⟨Turned.refl _ _, rfl⟩
        case s1 =>
          refine stepOk_free [40] [] (by kernel_rfl) rfl ?_
          intro ac W hT hI hO
          have h40 : ac.tmps.getD 40 undef = .agg #[.int .i64 x.kind, .int .i64 x.n, .string x.name, .slice x.at_.1 x.args.length x.at_.2] := hI 40 (by simp)
          show Brings Try.prog (fun vv w' => Turned (fun _ => False) W w' ∧ VLen L (vv) w') _
          simp only [execOp, Act.eval, h40]
          go_simp
          show Calls Try.prog 51 _ W _
          refine (HVX.out W (HT26.out.trans hT)).mono ?_
          rintro e w' ⟨va, vc, rfl, T'⟩
          exact ⟨_, rfl, T', (va, vc), rfl, LT.ins_nil', trivial⟩
        case s2 =>
          refine stepOk_free [41] [] (by kernel_rfl) rfl ?_
          intro ac W hT hI hO
          have h41 := hI 41 (by simp)
          obtain ⟨⟨va, vc⟩, h41, _⟩ : VLen L (ac.tmps.getD 41 undef) W := h41
          show Brings Try.prog (fun vv w' => Turned (fun _ => False) W w' ∧ vv = .int .i64 (L : Int)) _
          simp only [execOp, Act.eval, h41]
          go_simp
          try exact ⟨Turned.refl _ _, rfl⟩
        case s3 =>
          refine stepOk_free [] [3] (by kernel_rfl) rfl ?_
          intro ac W hT hI hO
          have h3 : ac.tmps.getD 3 undef = .pointer (some ⟨w.heap.size + 1, 0, none⟩) := hO 3 (by simp)
          show Brings Try.prog (fun vv w' => Turned (fun _ => False) W w' ∧ vv = .agg #[.int .i64 y.kind, .int .i64 y.n, .string y.name, .slice y.at_.1 y.args.length y.at_.2]) _
          obtain ⟨⟨c0, c1, c2, c3, _⟩, d0, d1, d2, d3, _⟩ := HCX.out W (HT26.out.trans hT)
          simp only [execOp, Act.eval, h3]
          go_simp
          try exact ⟨Turned.refl _ _, rfl⟩
        case s4 =>
          refine stepOk_free [43] [] (by kernel_rfl) rfl ?_
          intro ac W hT hI hO
          have h43 : ac.tmps.getD 43 undef = .agg #[.int .i64 y.kind, .int .i64 y.n, .string y.name, .slice y.at_.1 y.args.length y.at_.2] := hI 43 (by simp)
          show Brings Try.prog (fun vv w' => Turned (fun _ => False) W w' ∧ VLen M (vv) w') _
          simp only [execOp, Act.eval, h43]
          go_simp
          show Calls Try.prog 51 _ W _
          refine (HVY.out W (HT26.out.trans hT)).mono ?_
          rintro e w' ⟨va, vc, rfl, T'⟩
          exact ⟨_, rfl, T', (va, vc), rfl, LT.ins_nil', trivial⟩
        case s5 =>
          refine stepOk_free [44] [] (by kernel_rfl) rfl ?_
          intro ac W hT hI hO
          have h44 := hI 44 (by simp)
          obtain ⟨⟨va, vc⟩, h44, _⟩ : VLen M (ac.tmps.getD 44 undef) W := h44
          show Brings Try.prog (fun vv w' => Turned (fun _ => False) W w' ∧ vv = .int .i64 (M : Int)) _
          simp only [execOp, Act.eval, h44]
          go_simp
          try exact ⟨Turned.refl _ _, rfl⟩
        case s6 =>
          refine stepOk_free [42, 45] [] (by kernel_rfl) rfl ?_
          intro ac W hT hI hO
          have h42 : ac.tmps.getD 42 undef = .int .i64 (L : Int) := hI 42 (by simp)
          have h45 : ac.tmps.getD 45 undef = .int .i64 (M : Int) := hI 45 (by simp)
          show Brings Try.prog (fun vv w' => Turned (fun _ => False) W w' ∧ vv = .int .i64 ((L : Int) + (M : Int))) _
          simp only [execOp, Act.eval, h42, h45]
          go_simp
          exact ⟨Turned.refl _ _, by rw [wrapI (by omega) (by omega)]⟩
        case s7 =>
          refine stepOk_free [46] [] (by kernel_rfl) rfl ?_
          intro ac W hT hI hO
          have h46 : ac.tmps.getD 46 undef = .int .i64 ((L : Int) + (M : Int)) := hI 46 (by simp)
          show Brings Try.prog (fun vv w' => Turned (fun _ => False) W w' ∧ vv = .int .i64 ((L : Int) + (M : Int))) _
          simp only [execOp, Act.eval, h46]
          go_simp
          try exact ⟨Turned.refl _ _, rfl⟩
      case hQ =>
        intro vs w7 T7 hV
        have q12 : vs 12 = .int .i64 ((L : Int) + (M : Int)) := hV 12 (by simp)
        simp only [List.foldl_cons, List.foldl_nil, List.setIfInBounds_toArray, List.set_cons_zero, List.set_cons_succ, q12]
        have HD7 := Lib.hid (And.intro (HD6.out.1.turned0 T7) (HD6.out.2.trans T7))
        clear hV q12 T7
        go_wp2_with fail
        go_loopg [13] (L + M) (fun k i wr => ∃ j : Nat, Hid (j + k = L + M) ∧ j ≤ L + M ∧ i = .int .i64 (j : Int) ∧ Hid (∃ O, DO (fun k => k < w5.heap.size) w5.heap.size O j [] wr ∧ (∀ k, O k → w5.heap.size ≤ k) ∧ Turned (fun _ => False) w5 wr))
        case atStart => exact ⟨0, Nat.zero_add _, Nat.zero_le _, rfl, ⟨_, HD7.out.1, fun k hk => hk.1, HD7.out.2⟩⟩
        case round =>
          obtain ⟨j, HG, hj, rfl, HO⟩ := hrel
          by_cases hjn : j < L + M
          · have dj : decide ((j : Int) < (L : Int) + (M : Int)) = true := decide_eq_true (by omega)
            go_wp2_with (go_at_call 103; (obtain ⟨O, d1, d2, d3⟩ := HO.out; (with_reducible refine (freshD d1 (by omega)).mono ?_); rintro e w8 ⟨rfl, O', a1, a2, a3⟩; have HO8 : Hid (∃ O, DO (fun k => k < w5.heap.size) w5.heap.size O (j + 1) [] w8 ∧ (∀ k, O k → w5.heap.size ≤ k) ∧ Turned (fun _ => False) w5 w8) := Lib.hid ⟨O', a1, fun k hk => (Nat.lt_or_ge k wr.heap.size).elim (fun h => d2 k (a2 k hk h)) (fun h => Nat.le_trans d3.size h), d3.step a3 (fun i hi e => by have := d2 i e; omega)⟩; clear d1 d2 d3 a1 a2 a3))
            go_roundg (gk - 1)
            case measure => have := HG.out; omega
            case rel => exact ⟨j + 1, show _ = _ by have := HG.out; omega, by omega, by go_num, HO8⟩
          · obtain rfl : j = L + M := by omega
            have dj : decide (((L + M : Nat) : Int) < (L : Int) + (M : Int)) = false := decide_eq_false (by omega)
            have dj2 : decide ((L : Int) + (M : Int) < (L : Int) + (M : Int)) = false := decide_eq_false (by omega)
            obtain ⟨O, d1, d2, d3⟩ := HO.out
            have hu : u.In (fun k => k < w5.heap.size) wr := (HW4.out.2.2.mono (q := fun k => k < w5.heap.size) (fun k _ h => by have := HS4.out; have := HT5.out.size; omega)).turned0 (HT5.out.trans d3)
            have hbo := both117 d1 hu (HV5.out.2.2.turned0 d3)
            have hbu := ((HT5.out.trans d3).block _ (Array.getElem?_eq_some_iff.1 HW4.out.2.1).1 (fun f => f)).trans HW4.out.2.1
            have hbv := (d3.block _ (Array.getElem?_eq_some_iff.1 HV5.out.1).1 (fun f => f)).trans HV5.out.1
            obtain ⟨c0, c1, c2, c3, _⟩ := cells4 hbu
            obtain ⟨e0, e1, e2, e3, _⟩ := cells4 hbv
            have hRR : bothR (L + M) [] u.bare v.bare = couldR xb yb := by
              rw [HU.out.1, HV5.out.2.1, HQ.out.1, HQ.out.2.1]
              unfold couldR
              rw [← HQ.out.2.2.1, ← HQ.out.2.2.2, Nat.zero_add]
            rw [hRR, LT.val_eq, LT.val_eq] at hbo
            have hcb := HCB.out
            obtain ⟨R, hR⟩ : ∃ z, z = couldR xb yb := ⟨_, rfl⟩
            rw [← hR] at hbo hcb
            obtain ⟨rb, rc, re, rt⟩ := R
            have HBO := Lib.hid hbo
            have HCB2 : Hid (couldB xb yb = (rb && decide (re = 0))) := hcb
            have HD2 := Lib.hid d2
            have HD3 := Lib.hid d3
            clear hbo hcb hR hRR hu hbu hbv d1 d2 d3
            cases rb with
            | false =>
              go_wp2_with (go_at_call 117; (with_reducible refine HBO.out.mono ?_); rintro e w9 ⟨rfl, O', a1, a2, a3⟩; have HA := Lib.hid a3; clear a1 a2 a3)
              go_ret
              refine ⟨by rw [HCB2.out]; simp [], (HT2.out.trans HT25.out).trans (HD3.out.step HA.out (fun i hi e => by have := HD2.out i e; omega))⟩
            | true =>
              by_cases he : re = 0
              · have b1 : (re == 0) = true := by simp [he]
                have HE := Lib.hid he
                clear he
                go_wp2_with (go_at_call 117; (with_reducible refine HBO.out.mono ?_); rintro e w9 ⟨rfl, O', a1, a2, a3⟩; have HA := Lib.hid a3; clear a1 a2 a3)
                go_ret
                refine ⟨by rw [HCB2.out]; simp [HE.out], (HT2.out.trans HT25.out).trans (HD3.out.step HA.out (fun i hi e => by have := HD2.out i e; omega))⟩
              · have b1 : (re == 0) = false := by simp [he]
                have HE := Lib.hid he
                clear he
                go_wp2_with (go_at_call 117; (with_reducible refine HBO.out.mono ?_); rintro e w9 ⟨rfl, O', a1, a2, a3⟩; have HA := Lib.hid a3; clear a1 a2 a3)
                go_ret
                refine ⟨by rw [HCB2.out]; simp [HE.out], (HT2.out.trans HT25.out).trans (HD3.out.step HA.out (fun i hi e => by have := HD2.out i e; omega))⟩
    · have hcb := couldB_no hg
      have HCB := Lib.hid hcb
      by_cases gx : goodB xb = true
      · have gy : ¬ goodB yb = true := fun c => hg ⟨gx, c⟩
        have ex : frE xb = 0 := if_pos gx
        have ey : frE yb = 1 := if_neg gy
        rw [ex, ey]
        clear gx gy ex ey hg hcb
        go_wp2_with fail
        go_ret
        exact ⟨by rw [HCB.out]; rfl, HT2.out.trans HT25.out⟩
      · have ex : frE xb = 1 := if_neg gx
        rw [ex]
        clear gx ex hg hcb
        go_wp2_with fail
        go_ret
        exact ⟨by rw [HCB.out]; rfl, HT2.out.trans HT25.out⟩
end Go.Proofs.Ytoihjobdfjajfaa
namespace Go.Proofs.Ytoihjobdfjajfaa
open Go.RowKit Go.Maps
set_option linter.unusedVariables false
set_option linter.unusedSimpArgs false
structure MakD (p : Nat → Prop) (σ : Tm Unit → Tm Unit) (G K : Nat) (t : LT) (w3 : World) (j : Nat) (us : List LT) (W : World) : Prop where
  len : us.length = t.args.length
  bares : (us.take j).map Tm.bare = (t.args.take j).map fun x => σ x.bare
  row : Row W 41 4 (.slice (some ⟨G, 0, none⟩) t.args.length t.args.length) t.args.length (us.flatMap LT.cells)
  ins : LT.Ins (fun k => p k ∨ G + 1 ≤ k) W us
  turned : Turned (fun k => k = G ∨ k = K) w3 W
theorem MakD.put {p : Nat → Prop} {σ : Tm Unit → Tm Unit} {G K : Nat} {t x u : LT} {w3 W W7 : World} {j : Nat} {us : List LT} (h : MakD p σ G K t w3 j us W) (hp : ∀ k, p k → k < G ∧ k ≠ K) (hKG : K < G) (hG : G < W.heap.size) (hx : t.args[j]? = some x) (hb : u.bare = σ x.bare) (hu : u.In (fun k => p k ∨ W.heap.size ≤ k) W7) (hT : Turned (fun k => k = K) W W7) :
    MakD p σ G K t w3 (j + 1) (us.set j u) ((((W7.setCell ⟨G, j * 4, none⟩ (.int .i64 u.kind)).setCell ⟨G, j * 4 + 1, none⟩ (.int .i64 u.n)).setCell ⟨G, j * 4 + 2, none⟩ (.string u.name)).setCell ⟨G, j * 4 + 3, none⟩ (.slice u.at_.1 u.args.length u.at_.2)) := by
  have hjl : j < t.args.length := (List.getElem?_eq_some_iff.1 hx).1
  have hju : j < us.length := by rw [h.len]; exact hjl
  have Tq : Turned (fun k => k = G) W7 ((((W7.setCell ⟨G, j * 4, none⟩ (.int .i64 u.kind)).setCell ⟨G, j * 4 + 1, none⟩ (.int .i64 u.n)).setCell ⟨G, j * 4 + 2, none⟩ (.string u.name)).setCell ⟨G, j * 4 + 3, none⟩ (.slice u.at_.1 u.args.length u.at_.2)) :=
    ((((Turned.refl (fun k => k = G) W7).setCell (p := ⟨G, j * 4, none⟩) (.inr rfl) _).setCell (p := ⟨G, j * 4 + 1, none⟩) (.inr rfl) _).setCell (p := ⟨G, j * 4 + 2, none⟩) (.inr rfl) _).setCell (p := ⟨G, j * 4 + 3, none⟩) (.inr rfl) _
  refine ⟨by rw [List.length_set]; exact h.len, ?_, ?_, ?_, (h.turned.trans (hT.mono (fun _ _ e => .inr e))).trans (Tq.mono (fun _ _ e => .inl e))⟩
  · have e1 : (us.set j u).take (j + 1) = us.take j ++ [u] := by
      rw [List.take_add_one, List.take_set, List.getElem?_set_self hju]
      rw [List.set_eq_of_length_le (by rw [List.length_take]; omega)]
      rfl
    have e2 : t.args.take (j + 1) = t.args.take j ++ [x] := by rw [List.take_add_one, hx]; rfl
    rw [e1, e2, List.map_append, List.map_append, h.bares]
    simp [hb]
  · have hr := h.row.turned hT (fun k hk e => by simp [Value.ownBlock] at hk; omega)
    have r1 := hr.setAt (off := j * 4) (by omega) (.int .i64 u.kind)
    have r2 := r1.setAt (off := j * 4 + 1) (by omega) (.int .i64 u.n)
    have r3 := r2.setAt (off := j * 4 + 2) (by omega) (.string u.name)
    have r4 := r3.setAt (off := j * 4 + 3) (by omega) (.slice u.at_.1 u.args.length u.at_.2)
    rw [flat_set hju] at r4
    exact r4
  · rw [LT.ins_iff]
    intro y hy
    have keep : ∀ z : LT, z.In (fun k => p k ∨ G + 1 ≤ k) W7 → z.In (fun k => p k ∨ G + 1 ≤ k) _ := fun z hz => LT.In.turned Tq (fun k _ hk e => by
      rcases hk with hk | hk
      · have := hp k hk; omega
      · omega) (fun _ _ hk => hk) z hz
    refine keep y ?_
    rcases List.mem_or_eq_of_mem_set hy with hy | rfl
    · exact LT.In.turned hT (fun k _ hk e => by
        rcases hk with hk | hk
        · exact (hp k hk).2 e
        · omega) (fun _ _ hk => hk) y ((LT.ins_iff _).1 h.ins y hy)
    · exact hu.mono (fun k _ hk => hk.elim .inl (fun hk => .inr (by omega)))
def WhQ (p : Nat → Prop) (l : Tm.Trail) (C : Nat) (t : LT) (s d : Nat) (w : World) (e : Ending) (w' : World) : Prop :=
  ∃ (u : LT) (L' : Int), e = .returned (.tuple #[.agg #[.int .i64 u.kind, .int .i64 u.n, .string u.name, .slice u.at_.1 u.args.length u.at_.2], .bool (Tm.makeOk s d (Tm.img l t.bare))]) ∧ (Tm.makeOk s d (Tm.img l t.bare) = true → u.bare = Tm.img l t.bare ∧ L' + ((s + (Tm.img l t.bare).size : Nat) : Int) = 2000) ∧
    w'.heap[C]? = some (.cells #[.int .i64 L'] 3 (0, 0)) ∧ u.In (fun k => p k ∨ w.heap.size ≤ k) w' ∧ Turned (fun k => k = C) w w'
theorem WhQ.no {p : Nat → Prop} {l : Tm.Trail} {C : Nat} {t x : LT} {s d : Nat} {w w' : World} {L' : Int} (hno : Tm.makeOk s d (Tm.img l t.bare) = false) (hC : w'.heap[C]? = some (.cells #[.int .i64 L'] 3 (0, 0))) (hx : x.In p w') (T : Turned (fun k => k = C) w w') :
    WhQ p l C t s d w (.returned (.tuple #[.agg #[.int .i64 x.kind, .int .i64 x.n, .string x.name, .slice x.at_.1 x.args.length x.at_.2], .bool false])) w' :=
  ⟨x, L', by rw [hno], (fun e => by rw [hno] at e; cases e), hC, hx.mono (fun _ _ h => .inl h), T⟩
theorem WhQ.yes {p : Nat → Prop} {l : Tm.Trail} {C : Nat} {t u : LT} {s d : Nat} {w w' : World} {L' : Int} (hok : Tm.makeOk s d (Tm.img l t.bare) = true) (hb : u.bare = Tm.img l t.bare) (hC : w'.heap[C]? = some (.cells #[.int .i64 L'] 3 (0, 0))) (hL : L' + ((s + (Tm.img l t.bare).size : Nat) : Int) = 2000) (hu : u.In (fun k => p k ∨ w.heap.size ≤ k) w') (T : Turned (fun k => k = C) w w') :
    WhQ p l C t s d w (.returned (.tuple #[.agg #[.int .i64 u.kind, .int .i64 u.n, .string u.name, .slice u.at_.1 u.args.length u.at_.2], .bool true])) w' :=
  ⟨u, L', by rw [hok], fun _ => ⟨hb, hL⟩, hC, hu, T⟩
theorem wh_no {s d : Nat} {u : Tm Unit} (h : ¬ s + 1 ≤ 2000 ∨ ¬ d ≤ 64) : Tm.makeOk s d u = false := by
  rw [Bool.eq_false_iff, ne_eq, Tm.makeOk_iff]
  intro c
  have h1 := Tm.size_pos u
  have h2 := Tm.depth_pos u
  omega
theorem wh_back {w w2 w3 W W' : World} {C : Nat} (T2 : Turned (fun _ => False) w w2) (T3 : Turned (fun _ => False) w2 w3) (A : Turned (fun k => k = w.heap.size ∨ k = C) w3 W) (Tq : Turned (fun k => k = w.heap.size + 1) W W') : Turned (fun k => k = C) w W' :=
  (((T2.trans T3).mono (fun _ _ f => f.elim) : Turned (fun k => k = C) w w3).step A (fun i hi e => e.elim (fun e => by omega) id)).step Tq (fun i hi e => by omega)
theorem wh_in {p q : Nat → Prop} {w3 w W W' : World} {C : Nat} {x : LT} (hp : ∀ k, p k → k < w.heap.size ∧ k ≠ C) (A : Turned (fun k => k = w.heap.size ∨ k = C) w3 W) (Tq : Turned (fun k => k = w.heap.size + 1) W W') (h : x.In p w3) (hq : ∀ k, p k → q k) : x.In q W' :=
  LT.In.turned Tq (fun k _ hk e => by have := (hp k hk).1; omega) (fun k _ hk => hq k hk) x (LT.In.turned A (fun k _ hk e => by have := hp k hk; omega) (fun _ _ hk => hk) x h)
theorem turned_store4g (W : World) (G j : Nat) (a b c d : Value) : Turned (fun k => k = G) W ((((W.setCell ⟨G, j * 4, none⟩ a).setCell ⟨G, j * 4 + 1, none⟩ b).setCell ⟨G, j * 4 + 2, none⟩ c).setCell ⟨G, j * 4 + 3, none⟩ d) :=
  ((((Turned.refl (fun k => k = G) W).setCell (p := ⟨G, j * 4, none⟩) (.inr rfl) _).setCell (p := ⟨G, j * 4 + 1, none⟩) (.inr rfl) _).setCell (p := ⟨G, j * 4 + 2, none⟩) (.inr rfl) _).setCell (p := ⟨G, j * 4 + 3, none⟩) (.inr rfl) _
theorem whk_back {w W5 wr W7 W8 : World} {C G N : Nat} (T5 : Turned (fun k => k = C) w W5) (TM : Turned (fun k => k = G ∨ k = C) W5 wr) (T7 : Turned (fun k => k = C) wr W7) (Tq : Turned (fun k => k = N) W7 W8) (h : w.heap.size ≤ G ∧ w.heap.size ≤ N) : Turned (fun k => k = C) w W8 :=
  ((T5.step TM (fun i hi e => e.elim (fun e => by omega) id)).trans T7).step Tq (fun i hi e => by omega)
def WhL (p : Nat → Prop) (C : Nat) (l : Tm.Trail) (x : LT) (s d G : Nat) (Y : List (Tm Unit)) (W5 : World) (k : Nat) (i : Value) (wr : World) : Prop :=
  ∃ (j : Nat) (us : List LT) (Lj : Int), Hid (j + k = x.args.length) ∧ j ≤ x.args.length ∧ i = .int .i64 j ∧ Hid (MakD p (Tm.img l) G C x W5 j us wr) ∧ Hid (wr.heap[C]? = some (.cells #[.int .i64 Lj] 3 (0, 0))) ∧ Hid (Lj + ((s + 1 + Tm.sizes (Y.take j) : Nat) : Int) = 2000 ∧ s + 1 + Tm.sizes (Y.take j) ≤ 2000) ∧ Hid (∀ y ∈ Y.take j, d + 1 + y.depth ≤ 65)
set_option maxRecDepth 100000 in
set_option maxHeartbeats 12800000 in
theorem whole152 {p O : Nat → Prop} {wb m : Nat} {l : Tm.Trail} (n : Nat) : ∀ (t : LT) (s d C : Nat) (L D : Int) (w : World), d + n = 66 → d ≤ 65 → L + (s : Int) = 2000 → D + (d : Int) = 65 → s ≤ 2000 → DO p wb O m l w → t.In p w → (∀ z ∈ t.bare.flat, goodOneB z = true) → w.heap[C]? = some (.cells #[.int .i64 L] 3 (0, 0)) → ¬ O C → ¬ p C →
    Calls Try.prog 152 #[.pointer (some ⟨wb, 0, none⟩), t.val, .pointer (some ⟨C, 0, none⟩), .int .i64 D] w (WhQ p l C t s d w) := by
  induction n with
  | zero => intro t s d C L D w h1 h2; omega
  | succ n ih =>
    intro t s d C L D w hdn hd hLs hDd hs h ht hg hC hOC hpC
    have hCl := (Array.getElem?_eq_some_iff.1 hC).1
    have h2 := twoBox w (.cells #[.int .i64 t.kind, .int .i64 t.n, .string t.name, .slice t.at_.1 t.args.length t.at_.2] 41) (.cells #[.int .i64 0, .int .i64 0, .string ⟨#[]⟩, .slice none 0 0] 41)
    obtain ⟨w2, hw2⟩ : ∃ z, z = (w.alloc (.cells #[.int .i64 t.kind, .int .i64 t.n, .string t.name, .slice t.at_.1 t.args.length t.at_.2] 41)).alloc (.cells #[.int .i64 0, .int .i64 0, .string ⟨#[]⟩, .slice none 0 0] 41) := ⟨_, rfl⟩
    rw [← hw2] at h2
    have T2 := h2.1
    have hwk : Calls Try.prog 170 #[.pointer (some ⟨wb, 0, none⟩), t.val] w2 fun e w' => ∃ x : LT, e = .returned x.val ∧ x.In p w' ∧ x.bare = Tm.walkT l t.bare ∧ Turned (fun _ => False) w2 w' := walk170 (h.turned0 T2) (ht.turned0 T2) hg
    have hwd := Tm.walked h.ok _ t.bare (Nat.le_refl _) hg
    obtain ⟨X, hX⟩ : ∃ z, z = Tm.walkT l t.bare := ⟨_, rfl⟩
    rw [← hX] at hwk hwd
    have hNC : C ≠ w.heap.size := by omega
    have hCN : w.heap.size ≠ C := by omega
    have hNC1 : C ≠ w.heap.size + 1 := by omega
    have hCN1 : w.heap.size + 1 ≠ C := by omega
    rw [LT.val_eq] at hwk ⊢
    have hC2 : w2.heap[C]? = some (.cells #[.int .i64 L] 3 (0, 0)) := (T2.block C hCl (fun f => f)).trans hC
    have HPP2 : Hid (∀ k, p k → k < w.heap.size ∧ k ≠ C) := fun k hk => ⟨h.plt k hk, fun e => hpC (e ▸ hk)⟩
    have HPP : Hid (∀ k, p k → k < w.heap.size ∧ k ≠ C) := fun k hk => ⟨h.plt k hk, fun e => hpC (e ▸ hk)⟩
    have HWK := Lib.hid hwk
    have HB2 := Lib.hid h2.2.2
    have HC2 := Lib.hid hC2
    have HW2 := Lib.hid hw2
    have HT2 := Lib.hid T2
    have HH := Lib.hid h
    have HOC := Lib.hid hOC
    have HPC := Lib.hid hpC
    have HIH := Lib.hid ih
    have HCL := Lib.hid hCl
    have HWD := Lib.hid hwd
    have HLS := Lib.hid (And.intro hLs (And.intro hDd (And.intro hdn (And.intro hd hs))))
    have hL0 : 0 ≤ L ∧ L ≤ 2000 := by omega
    have hD0 : 0 ≤ D ∧ D ≤ 65 := by omega
    clear hwk h2 hC2 hw2 T2 h ht hg hC hOC hpC ih hX hwd hLs hDd hdn hd hs
    by_cases hA : 1 ≤ L
    · have d1 : decide (L - 1 < 0) = false := decide_eq_false (by omega)
      by_cases hD : 1 ≤ D
      · have d2 : decide (D < 1) = false := decide_eq_false (by omega)
        obtain ⟨q, hq⟩ : ∃ z, z = X.args.length := ⟨_, rfl⟩
        by_cases hL : q = 0
        · have HLM := Lib.hid (leaf_make (s := s) (d := d) HH.out.ok HWD.out (by rw [← hq]; exact hL) (by have := HLS.out; omega) (by have := HLS.out; omega))
          have HQ := Lib.hid (show X.args.length = 0 by rw [← hq]; exact hL)
          clear hq hL
          go_enter Try.func152, Try.ntmps152
          go_wp2_with (go_at_call 170; rw [← HW2.out]; (with_reducible refine HWK.out.mono ?_); rintro e w3 ⟨x, rfl, hxi, hxb, T3⟩; rw [LT.val_eq x]; have hq := (T3.block _ (Array.getElem?_eq_some_iff.1 HC2.out).1 (fun f => f)).trans HC2.out; have hbx := (T3.block _ (Array.getElem?_eq_some_iff.1 HB2.out.1).1 (fun f => f)).trans HB2.out.1; have hbz := (T3.block _ (Array.getElem?_eq_some_iff.1 HB2.out.2).1 (fun f => f)).trans HB2.out.2; obtain ⟨k0, k1⟩ := int1 hq; obtain ⟨c0, c1, c2, c3, f0, f1, f2, f3⟩ := cells4 hbx; obtain ⟨z0, z1, z2, z3, g0, g1, g2, g3⟩ := cells4 hbz; have HAW := Lib.hid (after_has hbx hq hNC (.int .i64 x.kind) (.int .i64 x.n) (.string x.name) (.slice x.at_.1 x.args.length x.at_.2) (.int .i64 (L - 1))); have HBZ := Lib.hid hbz; have HT3 := Lib.hid T3; have HXI := Lib.hid hxi; have HXB := Lib.hid hxb; have hlx : x.args.length = X.args.length := (Tm.bare_arity x).symm.trans (congrArg (fun z => (Tm.args z).length) hxb); have hl0 : (x.args.length == 0) = true := (by rw [hlx, HQ.out]; rfl); have hl1 : ((x.args.length : Int) == 0) = true := (by rw [hlx, HQ.out]; rfl); clear hlx; clear hq hbx hbz T3 hxi hxb)
          obtain ⟨A1, A2, A3⟩ := HAW.out
          have hbz := (A3.block (w.heap.size + 1) (Array.getElem?_eq_some_iff.1 HBZ.out).1 (fun e => by have := HCL.out; omega)).trans HBZ.out
          have hset := set4 (a' := .int .i64 x.kind) (b' := .int .i64 x.n) (c' := .string x.name) (d' := .slice x.at_.1 x.args.length x.at_.2) hbz
          have Tq := fun W => turned_store4 W (w.heap.size + 1) (.int .i64 x.kind) (.int .i64 x.n) (.string x.name) (.slice x.at_.1 x.args.length x.at_.2)
          refine bodyPost_ret (results_cell_tmp1 Try.results152 _ _ (w.heap.size + 1) 41 _ (0, 0) _ rfl hset Try.underlying41 rfl (by kernel_rfl)) rfl (WhQ.yes HLM.out.2.1 (HXB.out.trans HLM.out.1.symm) (((Tq _).block C (Array.getElem?_eq_some_iff.1 A2).1 (by have := HCL.out; omega)).trans A2) (by rw [HLM.out.2.2]; have := HLS.out; omega) (wh_in HPP.out A3 (Tq _) HXI.out (fun _ h => .inl h)) (wh_back HT2.out HT3.out A3 (Tq _)))
        · have hxa : ¬ X.args = [] := fun e => hL (by rw [hq, e]; rfl)
          have HKN := Lib.hid (Tm.one_args (HWD.out.ones X (by rw [Tm.flat_eq]; exact List.mem_cons_self ..)) hxa)
          have HAR := Lib.hid (HWD.out.args hxa)
          have HQ := Lib.hid (show 0 < X.args.length by omega)
          clear hq hL hxa
          go_enter Try.func152, Try.ntmps152
          go_wp2_with (go_at_call 170; rw [← HW2.out]; (with_reducible refine HWK.out.mono ?_); rintro e w3 ⟨x, rfl, hxi, hxb, T3⟩; rw [LT.val_eq x]; have hq := (T3.block _ (Array.getElem?_eq_some_iff.1 HC2.out).1 (fun f => f)).trans HC2.out; have hbx := (T3.block _ (Array.getElem?_eq_some_iff.1 HB2.out.1).1 (fun f => f)).trans HB2.out.1; have hbz := (T3.block _ (Array.getElem?_eq_some_iff.1 HB2.out.2).1 (fun f => f)).trans HB2.out.2; obtain ⟨k0, k1⟩ := int1 hq; obtain ⟨c0, c1, c2, c3, f0, f1, f2, f3⟩ := cells4 hbx; obtain ⟨z0, z1, z2, z3, g0, g1, g2, g3⟩ := cells4 hbz; have HAW := Lib.hid (after_has hbx hq hNC (.int .i64 x.kind) (.int .i64 x.n) (.string x.name) (.slice x.at_.1 x.args.length x.at_.2) (.int .i64 (L - 1))); have HBZ := Lib.hid hbz; have HT3 := Lib.hid T3; have HXI := Lib.hid hxi; have HXB := Lib.hid hxb; have hlx : x.args.length = X.args.length := (Tm.bare_arity x).symm.trans (congrArg (fun z => (Tm.args z).length) hxb); have hal8 : x.args.length ≤ 8 := (by have := HKN.out.2.2; omega); have hl0 : (x.args.length == 0) = false := (by have := HQ.out; exact beq_false_of_ne (by omega)); have hl1 : ((x.args.length : Int) == 0) = false := (by have := HQ.out; exact beq_false_of_ne (by omega)); obtain ⟨ZZ, hZZ⟩ : ∃ z, z = madeCells zeroR.cells (x.args.length * 4) := ⟨_, rfl⟩; have hm := make_blanks x.args.length (by omega); rw [← hZZ] at hm; have hmk := (fun W => (hm W).1); have HMK := Lib.hid (fun W => (hm W).2); clear hlx hm hZZ; clear hq hbx hbz T3 hxi hxb)
          obtain ⟨A1, A2, A3⟩ := HAW.out
          have hsz : (((((w3.setCell ⟨w.heap.size, 0, none⟩ (.int .i64 x.kind)).setCell ⟨w.heap.size, 1, none⟩ (.int .i64 x.n)).setCell ⟨w.heap.size, 2, none⟩ (.string x.name)).setCell ⟨w.heap.size, 3, none⟩ (.slice x.at_.1 x.args.length x.at_.2)).setCell ⟨C, 0, none⟩ (.int .i64 (L - 1))).heap.size = w3.heap.size := by simp [World.setCell]
          have hbz := (A3.block (w.heap.size + 1) (Array.getElem?_eq_some_iff.1 HBZ.out).1 (fun e => by have := HCL.out; omega)).trans HBZ.out
          revert A1 A2 A3 hsz hbz
          generalize (((((w3.setCell ⟨w.heap.size, 0, none⟩ (.int .i64 x.kind)).setCell ⟨w.heap.size, 1, none⟩ (.int .i64 x.n)).setCell ⟨w.heap.size, 2, none⟩ (.string x.name)).setCell ⟨w.heap.size, 3, none⟩ (.slice x.at_.1 x.args.length x.at_.2)).setCell ⟨C, 0, none⟩ (.int .i64 (L - 1))) = W4
          intro A1 A2 A3 hsz hbz
          have HR0 := HMK.out W4
          rw [hsz] at HR0
          have TA := (Turned.refl (fun _ => False) W4).alloc (.cells ZZ 41)
          have hds : DO p wb O m l W4 := (HH.out.turned0 (HT2.out.trans HT3.out)).turned A3 (fun k hk e => by
            rcases e with e | e
            · exact ⟨fun o => by have := HH.out.lt k o; omega, fun o => by have := HH.out.plt k o; omega⟩
            · exact ⟨fun o => HOC.out (e ▸ o), fun o => HPC.out (e ▸ o)⟩)
          have hxs : x.In p W4 := LT.In.turned A3 (fun k _ hk e => by have := HPP.out k hk; omega) (fun _ _ q => q) _ HXI.out
          have hTw : Turned (fun k => k = C) w W4 := ((HT2.out.trans HT3.out).mono (fun _ _ f => f.elim) : Turned (fun k => k = C) w w3).step A3 (fun i hi e => e.elim (fun e => by omega) id)
          have HH5 := And.intro (Lib.hid HR0) (And.intro (Lib.hid ((TA.block _ (Array.getElem?_eq_some_iff.1 A1).1 (fun f => f)).trans A1)) (And.intro (Lib.hid ((TA.block _ (Array.getElem?_eq_some_iff.1 A2).1 (fun f => f)).trans A2)) (And.intro (Lib.hid ((TA.block _ (Array.getElem?_eq_some_iff.1 hbz).1 (fun f => f)).trans hbz)) (And.intro (Lib.hid (hds.turned0 TA)) (And.intro (Lib.hid (hxs.turned0 TA)) (And.intro (Lib.hid (hTw.trans (TA.mono (fun _ _ f => f.elim)))) (Lib.hid (show (W4.alloc (.cells ZZ 41)).heap.size = w3.heap.size + 1 by simp; omega))))))))
          have hG2 : w.heap.size + 2 ≤ w3.heap.size := by have := (Array.getElem?_eq_some_iff.1 HBZ.out).1; omega
          clear HR0 TA hds hxs hTw A1 A2 A3 hsz hbz HAW HBZ HXI HT3 HMK hmk c0 c1 c2 c3 f0 f1 f2 f3 z0 z1 z2 z3 g0 g1 g2 g3 k0 k1
          revert HH5
          generalize W4.alloc (.cells ZZ 41) = W5
          obtain ⟨G, hG⟩ : ∃ z, z = w3.heap.size := ⟨_, rfl⟩
          rw [← hG] at hG2 ⊢
          intro HH5
          obtain ⟨HR0, HB5, HC5, HZ5, HD5, HX5, HT5, HS5⟩ := HH5
          have HGG := Lib.hid hG2
          have HGG2 : Hid (C < G ∧ w.heap.size ≤ G) := Lib.hid (by have := HCL.out; omega)
          clear hG hG2
          have hY : Tm.args (Tm.img l t.bare) = x.args.map (fun y => Tm.img l y.bare) := by
            rw [HAR.out]
            show X.args.map (Tm.img l) = _
            rw [← HXB.out, Tm.bare_args, Tm.bares_eq, List.map_map]
            rfl
          obtain ⟨Y, hYe⟩ : ∃ z, z = x.args.map (fun y => Tm.img l y.bare) := ⟨_, rfl⟩
          rw [← hYe] at hY
          have HY := Lib.hid hY
          have HYE := Lib.hid hYe
          clear hY hYe
          have hinit : Hid (MakD p (Tm.img l) G C x W5 0 (blanks x.args.length) W5) := ⟨blanks_length _, rfl, HR0.out, blanks_in _ _ _, Turned.refl _ _⟩
          go_loopg [11] x.args.length (fun q i wr => WhL p C l x s d G Y W5 q i wr)
          case atStart => exact ⟨0, _, L - 1, Nat.zero_add _, Nat.zero_le _, rfl, hinit, HC5.out, show _ ∧ _ from ⟨by rw [List.take_zero]; show L - 1 + ((s + 1 + 0 : Nat) : Int) = 2000; have := HLS.out; omega, by rw [List.take_zero]; show s + 1 + 0 ≤ 2000; have := HLS.out; omega⟩, fun y hy => by rw [List.take_zero] at hy; cases hy⟩
          case round =>
            obtain ⟨j, us, Lj, HG, hj, rfl, HM, HCJ, HLJ, HDJ⟩ := hrel
            have hb0 := (HM.out.turned.block _ (Array.getElem?_eq_some_iff.1 HB5.out).1 (fun e => by have := HGG.out; omega)).trans HB5.out
            obtain ⟨c0, c1, c2, c3, _⟩ := cells4 hb0
            have hbz := (HM.out.turned.block _ (Array.getElem?_eq_some_iff.1 HZ5.out).1 (fun e => by have := HGG.out; omega)).trans HZ5.out
            have HBZ := Lib.hid hbz
            have HB0 := Lib.hid hb0
            clear hb0 hbz
            by_cases hjl : j < x.args.length
            · obtain ⟨y, hy⟩ : ∃ y : LT, x.args[j]? = some y := ⟨_, List.getElem?_eq_getElem hjl⟩
              have hDO : DO p wb O m l wr := HD5.out.turned HM.out.turned (fun k hk e => by
                have := HGG.out
                rcases e with e | e
                · exact ⟨fun o => by have := HH.out.lt k o; omega, fun o => by have := HH.out.plt k o; omega⟩
                · exact ⟨fun o => HOC.out (e ▸ o), fun o => HPC.out (e ▸ o)⟩)
              have hxw : x.In p wr := LT.In.turned HM.out.turned (fun k _ hk e => by have := HGG.out; have := HPP.out k hk; omega) (fun _ _ q => q) _ HX5.out
              obtain ⟨b, o, hbo, _, x0, x1, x2, x3⟩ := hxw.lies.cell hy
              have hyY : Y[j]? = some (Tm.img l y.bare) := by rw [HYE.out, List.getElem?_map, hy]; rfl
              have hyg : ∀ z ∈ y.bare.flat, goodOneB z = true := fun z hz => HWD.out.ones z (by
                rw [← HXB.out, Tm.flat_eq]
                exact List.mem_cons_of_mem _ (mem_flats_arg (by rw [Tm.bare_args, Tm.bares_eq]; exact List.mem_map_of_mem (List.mem_of_getElem? hy)) hz))
              have hcy := HIH.out y (s + 1 + Tm.sizes (Y.take j)) (d + 1) C Lj (D - 1) wr (by have := HLS.out; omega) (by have := HLS.out; omega) HLJ.out.1 (by have := HLS.out; omega) HLJ.out.2 hDO ((LT.ins_iff _).1 hxw.args y (List.mem_of_getElem? hy)) hyg HCJ.out HOC.out HPC.out
              rw [LT.val_eq y] at hcy
              have HCY := Lib.hid hcy
              have HYY := Lib.hid hyY
              have HXY := Lib.hid hy
              rw [hbo] at c3
              clear hy hDO hxw hyY hyg hcy hbo
              cases hok : Tm.makeOk (s + 1 + Tm.sizes (Y.take j)) (d + 1) (Tm.img l y.bare) with
              | true =>
                have hmk := Tm.makeOk_iff.1 hok
                have HMK := Lib.hid hmk
                have HCY2 : Hid (Calls Try.prog 152 _ wr fun e w' => ∃ (u : LT) (L' : Int), e = .returned (.tuple #[.agg #[.int .i64 u.kind, .int .i64 u.n, .string u.name, .slice u.at_.1 u.args.length u.at_.2], .bool true]) ∧ (u.bare = Tm.img l y.bare ∧ L' + ((s + 1 + Tm.sizes (Y.take j) + (Tm.img l y.bare).size : Nat) : Int) = 2000) ∧ w'.heap[C]? = some (.cells #[.int .i64 L'] 3 (0, 0)) ∧ u.In (fun k => p k ∨ wr.heap.size ≤ k) w' ∧ Turned (fun k => k = C) wr w') := Lib.hid (HCY.out.mono (fun e w' h => by
                  obtain ⟨u, L', h1, h2, h3⟩ := h
                  rw [hok] at h1
                  exact ⟨u, L', h1, h2 hok, h3⟩))
                clear hok hmk HCY
                go_wp2_with (go_at_call 152; (with_reducible refine HCY2.out.mono ?_); rintro e w7 ⟨u, L7, rfl, ⟨hub, hL7⟩, hq7, hui, T7⟩; have T8 := T7.alloc (.cells #[.int .i64 u.kind, .int .i64 u.n, .string u.name, .slice u.at_.1 u.args.length u.at_.2] 41); have hI := HM.out.put (fun k hk => ⟨by have := (HPP2.out k hk).1; have := HGG2.out.2; omega, (HPP2.out k hk).2⟩) HGG2.out.1 (by have := HM.out.turned.size; have := HS5.out; omega) HXY.out hub (hui.turned0 ((Turned.refl _ _).alloc (.cells #[.int .i64 u.kind, .int .i64 u.n, .string u.name, .slice u.at_.1 u.args.length u.at_.2] 41))) T8; have hrw := HM.out.row.turned T8 (fun k hk e => by simp [Value.ownBlock] at hk; have := HGG2.out.1; omega); have f0 := hrw.free rfl (j * 4); have f1 := hrw.free rfl (j * 4 + 1); have f2 := hrw.free rfl (j * 4 + 2); have f3 := hrw.free rfl (j * 4 + 3); have g0 := row_some hrw (j * 4) (by omega); have g1 := row_some hrw (j * 4 + 1) (by omega); have g2 := row_some hrw (j * 4 + 2) (by omega); have g3 := row_some hrw (j * 4 + 3) (by omega); obtain ⟨z0, g0⟩ := g0; obtain ⟨z1, g1⟩ := g1; obtain ⟨z2, g2⟩ := g2; obtain ⟨z3, g3⟩ := g3; have hcl := (((Turned.refl (fun _ => False) w7).alloc (.cells #[.int .i64 u.kind, .int .i64 u.n, .string u.name, .slice u.at_.1 u.args.length u.at_.2] 41)).block C (Array.getElem?_eq_some_iff.1 hq7).1 (fun f => f)).trans hq7; have hnb := heap_alloc_new w7 (.cells #[.int .i64 u.kind, .int .i64 u.n, .string u.name, .slice u.at_.1 u.args.length u.at_.2] 41); obtain ⟨y0, y1, y2, y3, _⟩ := cells4 hnb; have HI := Lib.hid hI; have HQ7 := Lib.hid hcl; have HL7 := Lib.hid hL7; clear hI hrw hub hui hq7 hcl hL7 hnb)
                go_roundg (gk - 1)
                case measure => have := HG.out; omega
                case rel => exact ⟨j + 1, _, L7, show _ = _ by have := HG.out; omega, by omega, by go_num, HI, show _ = _ by (have Tq := turned_store4g (w7.alloc (.cells #[.int .i64 u.kind, .int .i64 u.n, .string u.name, .slice u.at_.1 u.args.length u.at_.2] 41)) G j (.int .i64 u.kind) (.int .i64 u.n) (.string u.name) (.slice u.at_.1 u.args.length u.at_.2); exact (Tq.block C (Array.getElem?_eq_some_iff.1 HQ7.out).1 (by have := HGG2.out.1; omega)).trans HQ7.out), show _ ∧ _ by (rw [Tm.sizes_take HYY.out]; have := HL7.out; have := HMK.out; omega), fun z hz => by
                    rw [List.take_add_one, HYY.out] at hz
                    rcases List.mem_append.1 hz with hz | hz
                    · exact HDJ.out z hz
                    · simp only [Option.toList, List.mem_singleton] at hz
                      rw [hz]
                      exact HMK.out.2⟩
              | false =>
                have hno : Tm.makeOk s d (Tm.img l t.bare) = false := Tm.makeOk_no (i := j) (x := Tm.img l y.bare) (by rw [HY.out]; exact HYY.out) (by rw [HY.out]; exact hok)
                have HNO := Lib.hid hno
                have HCY2 : Hid (Calls Try.prog 152 _ wr fun e w' => ∃ (u : LT) (L' : Int), e = .returned (.tuple #[.agg #[.int .i64 u.kind, .int .i64 u.n, .string u.name, .slice u.at_.1 u.args.length u.at_.2], .bool false]) ∧ w'.heap[C]? = some (.cells #[.int .i64 L'] 3 (0, 0)) ∧ Turned (fun k => k = C) wr w') := Lib.hid (HCY.out.mono (fun e w' h => by
                  obtain ⟨u, L', h1, h2, h3, _, h5⟩ := h
                  rw [hok] at h1
                  exact ⟨u, L', h1, h3, h5⟩))
                clear hok hno HCY
                go_wp2_with (go_at_call 152; (with_reducible refine HCY2.out.mono ?_); rintro e w7 ⟨u, L7, rfl, hq7, T7⟩; have T8 := T7.alloc (.cells #[.int .i64 u.kind, .int .i64 u.n, .string u.name, .slice u.at_.1 u.args.length u.at_.2] 41); have hcl := (((Turned.refl (fun _ => False) w7).alloc (.cells #[.int .i64 u.kind, .int .i64 u.n, .string u.name, .slice u.at_.1 u.args.length u.at_.2] 41)).block C (Array.getElem?_eq_some_iff.1 hq7).1 (fun f => f)).trans hq7; have hb8 := (T8.block _ (Array.getElem?_eq_some_iff.1 HB0.out).1 hCN).trans HB0.out; have hz8 := (T8.block _ (Array.getElem?_eq_some_iff.1 HBZ.out).1 hCN1).trans HBZ.out; obtain ⟨y0, y1, y2, y3, _⟩ := cells4 hb8; obtain ⟨d0, d1, d2, d3, f0, f1, f2, f3⟩ := cells4 hz8; have HZ8 := Lib.hid hz8; have HQ7 := Lib.hid hcl; have HT8 := Lib.hid T8; clear hcl hq7 hb8 hz8 T7 T8)
                have hset := set4 (a' := .int .i64 x.kind) (b' := .int .i64 x.n) (c' := .string x.name) (d' := .slice x.at_.1 x.args.length x.at_.2) HZ8.out
                have Tq := fun W => turned_store4 W (w.heap.size + 1) (.int .i64 x.kind) (.int .i64 x.n) (.string x.name) (.slice x.at_.1 x.args.length x.at_.2)
                have TT := whk_back HT5.out HM.out.turned HT8.out (Tq _) (by have := HGG.out; omega)
                have hxi : x.In p _ := LT.In.turned (Tq _) (fun k _ hk e => by have := HPP.out k hk; omega) (fun _ _ q => q) _ (LT.In.turned HT8.out (fun k _ hk e => (HPP.out k hk).2 e) (fun _ _ q => q) _ (LT.In.turned HM.out.turned (fun k _ hk e => by have := HGG.out; have := HPP.out k hk; omega) (fun _ _ q => q) _ HX5.out))
                refine bodyPost_ret (results_cell_tmp1 Try.results152 _ _ (w.heap.size + 1) 41 _ (0, 0) _ rfl hset Try.underlying41 rfl (by kernel_rfl)) rfl (WhQ.no HNO.out (((Tq _).block C (Array.getElem?_eq_some_iff.1 HQ7.out).1 hNC1).trans HQ7.out) hxi TT)
            · obtain rfl : j = x.args.length := by omega
              go_wp2_with (go_at_call 160; (with_reducible refine (rComp160 _ _ _ _ _).mono ?_); rintro e w7 ⟨rfl, T7⟩; have hb1 := (T7.block _ (Array.getElem?_eq_some_iff.1 HBZ.out).1 (fun f => f)).trans HBZ.out; obtain ⟨d0, d1, d2, d3, f0, f1, f2, f3⟩ := cells4 hb1; have HB7 := Lib.hid hb1; have HT7 := Lib.hid T7; clear hb1 T7)
              have hset := set4 (a' := .int .i64 2) (b' := .int .i64 0) (c' := .string x.name) (d' := .slice (some ⟨G, 0, none⟩) x.args.length x.args.length) HB7.out
              have Tq := turned_store4 w7 (w.heap.size + 1) (.int .i64 2) (.int .i64 0) (.string x.name) (.slice (some ⟨G, 0, none⟩) x.args.length x.args.length)
              have hne : ∀ q, (Value.slice (some ⟨G, 0, none⟩) x.args.length x.args.length).ownBlock ≠ some (Addr.block ⟨w.heap.size + 1, q, none⟩) := fun q e => by simp [Value.ownBlock] at e; have := HGG.out; omega
              have hrow := (((((HM.out.row.turned0 HT7.out).setCell (hne 0) (.int .i64 2)).setCell (hne 1) (.int .i64 0)).setCell (hne 2) (.string x.name)).setCell (hne 3) (.slice (some ⟨G, 0, none⟩) x.args.length x.args.length))
              have hins := (HM.out.ins.turned0 HT7.out).turned (q := fun k => p k ∨ w.heap.size ≤ k) Tq (fun k _ hk e => by
                have := HGG.out
                rcases hk with h | h
                · have := (HPP.out k h).1; omega
                · omega) (fun k _ hk => by
                have := HGG.out
                rcases hk with h | h
                · exact .inl h
                · exact .inr (by omega))
              obtain ⟨e1, e2⟩ := LT.Sl.of_row (p := fun k => p k ∨ w.heap.size ≤ k) hrow (fun k hk => .inr (by simp [Value.ownBlock] at hk; have := HGG.out; omega)) hins
              have hUL : us.length = x.args.length := HM.out.len
              have hbr := HM.out.bares
              rw [List.take_length, ← hUL, List.take_length] at hbr
              have hYL : Y.length = x.args.length := by rw [HYE.out, List.length_map]
              have hl2 := HLJ.out
              have hd2 := HDJ.out
              rw [← hYL, List.take_length] at hl2 hd2
              have hok : Tm.makeOk s d (Tm.img l t.bare) = true := Tm.makeOk_yes (by have := HLS.out; omega) (by have := HLS.out; omega) (by rw [HY.out]; exact hl2.2) (by rw [HY.out]; exact hd2)
              have hsz : (Tm.img l t.bare).size = 1 + Tm.sizes Y := by rw [Tm.size_eq, HY.out]
              have hC7 := (Tq.block C (Array.getElem?_eq_some_iff.1 ((HT7.out.block C (Array.getElem?_eq_some_iff.1 HCJ.out).1 (fun f => f)).trans HCJ.out)).1 hNC1).trans ((HT7.out.block C (Array.getElem?_eq_some_iff.1 HCJ.out).1 (fun f => f)).trans HCJ.out)
              have TT := whk_back HT5.out HM.out.turned (HT7.out.mono (fun _ _ f => f.elim)) Tq (by have := HGG.out; omega)
              have hub : (Tm.mk 2 0 x.name (some ⟨G, 0, none⟩, x.args.length) us : LT).bare = Tm.img l t.bare := by
                rw [HAR.out, Tm.bare, Tm.bares_eq, hbr, ← HXB.out, Tm.bare_args, Tm.bares_eq, List.map_map, Tm.bare_name, Tm.bare_kind]
                rw [show x.kind = 2 by have := HKN.out.1; rw [← HXB.out, Tm.bare_kind] at this; exact this]
                rfl
              have hfin := WhQ.yes (p := p) (l := l) (C := C) (t := t) (s := s) (d := d) (w := w) (u := Tm.mk 2 0 x.name (some ⟨G, 0, none⟩, x.args.length) us) hok hub hC7 (by rw [hsz]; have := hl2.1; omega) (e2.in_ (i64_lit _ (by omega)) (i64_lit _ (by omega)) HX5.out.name) TT
              refine bodyPost_ret (results_cell_tmp1 Try.results152 _ _ (w.heap.size + 1) 41 _ (0, 0) _ rfl hset Try.underlying41 rfl (by kernel_rfl)) rfl ?_
              rw [show (Tm.args (Tm.mk 2 0 x.name (some ⟨G, 0, none⟩, x.args.length) us : LT)).length = x.args.length from hUL] at hfin
              exact hfin
      · have d2 : decide (D < 1) = true := decide_eq_true (by omega)
        have HNO := Lib.hid (wh_no (s := s) (d := d) (u := Tm.img l t.bare) (.inr (by have := HLS.out; omega)))
        go_enter Try.func152, Try.ntmps152
        go_wp2_with (go_at_call 170; rw [← HW2.out]; (with_reducible refine HWK.out.mono ?_); rintro e w3 ⟨x, rfl, hxi, hxb, T3⟩; rw [LT.val_eq x]; have hq := (T3.block _ (Array.getElem?_eq_some_iff.1 HC2.out).1 (fun f => f)).trans HC2.out; have hbx := (T3.block _ (Array.getElem?_eq_some_iff.1 HB2.out.1).1 (fun f => f)).trans HB2.out.1; have hbz := (T3.block _ (Array.getElem?_eq_some_iff.1 HB2.out.2).1 (fun f => f)).trans HB2.out.2; obtain ⟨k0, k1⟩ := int1 hq; obtain ⟨c0, c1, c2, c3, f0, f1, f2, f3⟩ := cells4 hbx; obtain ⟨z0, z1, z2, z3, g0, g1, g2, g3⟩ := cells4 hbz; have HAW := Lib.hid (after_has hbx hq hNC (.int .i64 x.kind) (.int .i64 x.n) (.string x.name) (.slice x.at_.1 x.args.length x.at_.2) (.int .i64 (L - 1))); have HBZ := Lib.hid hbz; have HT3 := Lib.hid T3; have HXI := Lib.hid hxi; have HXB := Lib.hid hxb; clear hq hbx hbz T3 hxi hxb)
        obtain ⟨A1, A2, A3⟩ := HAW.out
        have hbz := (A3.block (w.heap.size + 1) (Array.getElem?_eq_some_iff.1 HBZ.out).1 (fun e => by have := HCL.out; omega)).trans HBZ.out
        have hset := set4 (a' := .int .i64 x.kind) (b' := .int .i64 x.n) (c' := .string x.name) (d' := .slice x.at_.1 x.args.length x.at_.2) hbz
        have Tq := fun W => turned_store4 W (w.heap.size + 1) (.int .i64 x.kind) (.int .i64 x.n) (.string x.name) (.slice x.at_.1 x.args.length x.at_.2)
        refine bodyPost_ret (results_cell_tmp1 Try.results152 _ _ (w.heap.size + 1) 41 _ (0, 0) _ rfl hset Try.underlying41 rfl (by kernel_rfl)) rfl (WhQ.no HNO.out (((Tq _).block C (Array.getElem?_eq_some_iff.1 A2).1 (by have := HCL.out; omega)).trans A2) (wh_in HPP.out A3 (Tq _) HXI.out (fun _ h => h)) (wh_back HT2.out HT3.out A3 (Tq _)))
    · have d1 : decide (L - 1 < 0) = true := decide_eq_true (by omega)
      have HNO := Lib.hid (wh_no (s := s) (d := d) (u := Tm.img l t.bare) (.inl (by have := HLS.out; omega)))
      go_enter Try.func152, Try.ntmps152
      go_wp2_with (go_at_call 170; rw [← HW2.out]; (with_reducible refine HWK.out.mono ?_); rintro e w3 ⟨x, rfl, hxi, hxb, T3⟩; rw [LT.val_eq x]; have hq := (T3.block _ (Array.getElem?_eq_some_iff.1 HC2.out).1 (fun f => f)).trans HC2.out; have hbx := (T3.block _ (Array.getElem?_eq_some_iff.1 HB2.out.1).1 (fun f => f)).trans HB2.out.1; have hbz := (T3.block _ (Array.getElem?_eq_some_iff.1 HB2.out.2).1 (fun f => f)).trans HB2.out.2; obtain ⟨k0, k1⟩ := int1 hq; obtain ⟨c0, c1, c2, c3, f0, f1, f2, f3⟩ := cells4 hbx; obtain ⟨z0, z1, z2, z3, g0, g1, g2, g3⟩ := cells4 hbz; have HAW := Lib.hid (after_has hbx hq hNC (.int .i64 x.kind) (.int .i64 x.n) (.string x.name) (.slice x.at_.1 x.args.length x.at_.2) (.int .i64 (L - 1))); have HBZ := Lib.hid hbz; have HT3 := Lib.hid T3; have HXI := Lib.hid hxi; have HXB := Lib.hid hxb; clear hq hbx hbz T3 hxi hxb)
      obtain ⟨A1, A2, A3⟩ := HAW.out
      have hbz := (A3.block (w.heap.size + 1) (Array.getElem?_eq_some_iff.1 HBZ.out).1 (fun e => by have := HCL.out; omega)).trans HBZ.out
      have hset := set4 (a' := .int .i64 x.kind) (b' := .int .i64 x.n) (c' := .string x.name) (d' := .slice x.at_.1 x.args.length x.at_.2) hbz
      have Tq := fun W => turned_store4 W (w.heap.size + 1) (.int .i64 x.kind) (.int .i64 x.n) (.string x.name) (.slice x.at_.1 x.args.length x.at_.2)
      refine bodyPost_ret (results_cell_tmp1 Try.results152 _ _ (w.heap.size + 1) 41 _ (0, 0) _ rfl hset Try.underlying41 rfl (by kernel_rfl)) rfl (WhQ.no HNO.out (((Tq _).block C (Array.getElem?_eq_some_iff.1 A2).1 (by have := HCL.out; omega)).trans A2) (wh_in HPP.out A3 (Tq _) HXI.out (fun _ h => h)) (wh_back HT2.out HT3.out A3 (Tq _)))
end Go.Proofs.Ytoihjobdfjajfaa
namespace Go.Proofs.Ytoihjobdfjajfaa
open Go.RowKit Go.Maps
set_option linter.unusedVariables false
set_option linter.unusedSimpArgs false
def W105 (p : Nat → Prop) (m : Nat) (l : Tm.Trail) (t : LT) (w : World) (e : Ending) (w' : World) : Prop :=
  ∃ u : LT, e = .returned (.tuple #[.agg #[.int .i64 u.kind, .int .i64 u.n, .string u.name, .slice u.at_.1 u.args.length u.at_.2], .int .i64 (wholeE m l t.bare)]) ∧ u.bare = wholeT m l t.bare ∧ u.In (fun k => p k ∨ w.heap.size ≤ k) w' ∧ Turned (fun _ => False) w w'
theorem W105.no {p : Nat → Prop} {m : Nat} {l : Tm.Trail} {t : LT} {w w' : World} {E : Int} (hE : wholeE m l t.bare = E) (h0 : ¬ E = 0) (T : Turned (fun _ => False) w w') :
    W105 p m l t w (.returned (.tuple #[.agg #[.int .i64 0, .int .i64 0, .string ⟨#[]⟩, .slice none 0 0], .int .i64 E])) w' :=
  ⟨leaf 0 0 ByteArray.empty, by rw [hE]; rfl, by unfold wholeT; rw [hE, if_neg h0], leafIn' (i64_lit _ (by omega)) (i64_lit _ (by omega)) (by unfold maxLen; decide), T⟩
set_option maxRecDepth 100000 in
set_option maxHeartbeats 3200000 in
theorem whole105 {p O : Nat → Prop} {wb m : Nat} {l : Tm.Trail} {w : World} {t : LT} (h : DO p wb O m l w) (ht : t.In p w) :
    Calls Try.prog 105 #[.pointer (some ⟨wb, 0, none⟩), t.val] w (W105 p m l t w) := by
  have h2 := twoBox w (.cells #[.int .i64 t.kind, .int .i64 t.n, .string t.name, .slice t.at_.1 t.args.length t.at_.2] 41) (.cells #[.int .i64 0, .int .i64 0, .string ⟨#[]⟩, .slice none 0 0] 41)
  obtain ⟨w2, hw2⟩ : ∃ z, z = (w.alloc (.cells #[.int .i64 t.kind, .int .i64 t.n, .string t.name, .slice t.at_.1 t.args.length t.at_.2] 41)).alloc (.cells #[.int .i64 0, .int .i64 0, .string ⟨#[]⟩, .slice none 0 0] 41) := ⟨_, rfl⟩
  rw [← hw2] at h2
  have T2 := h2.1
  have hkn := known99 (h.turned0 T2) (ht.turned0 T2)
  rw [← ownB_bare] at hkn
  have HH := Lib.hid h
  have HT := Lib.hid ht
  have HW2 := Lib.hid hw2
  have HT2 := Lib.hid T2
  have HB2 := Lib.hid h2.2.2
  rw [LT.val_eq] at hkn ⊢
  cases hob : Tm.ownB m t.bare with
  | false =>
    rw [hob] at hkn
    have hE : wholeE m l t.bare = 1 := by unfold wholeE; rw [hob]; rfl
    have HE := Lib.hid hE
    have HKN := Lib.hid hkn
    clear hkn hob h ht hw2 T2 h2 hE
    go_enter Try.func105, Try.ntmps105
    go_wp2_with (go_at_call 99; rw [← HW2.out]; (with_reducible refine HKN.out.mono ?_); rintro e w3 ⟨rfl, T3⟩; have hbz := (T3.block _ (Array.getElem?_eq_some_iff.1 HB2.out.2).1 (fun f => f)).trans HB2.out.2; obtain ⟨z0, z1, z2, z3, g0, g1, g2, g3⟩ := cells4 hbz; have HBZ := Lib.hid hbz; have HT3 := Lib.hid T3; clear T3 hbz)
    have hset := set4 (a' := .int .i64 0) (b' := .int .i64 0) (c' := .string ⟨#[]⟩) (d' := .slice none 0 0) HBZ.out
    have T4 := turned4 (a := .int .i64 0) (b := .int .i64 0) (c := .string ⟨#[]⟩) (d := .slice none 0 0) (HT2.out.trans HT3.out) (g := w.heap.size + 1) (by omega)
    refine bodyPost_ret (results_cell_tmp1 Try.results105 _ _ (w.heap.size + 1) 41 _ (0, 0) _ rfl hset Try.underlying41 rfl (by kernel_rfl)) rfl (W105.no HE.out (by decide) T4)
  | true =>
    rw [hob] at hkn
    have hgd := Tm.good_ones' (Tm.ownB_iff.1 hob).1
    have hcl : ∀ W, Turned (fun _ => False) w2 W → Calls Try.prog 152 #[.pointer (some ⟨wb, 0, none⟩), t.val, .pointer (some ⟨W.heap.size, 0, none⟩), .int .i64 64] (W.alloc (.cells #[.int .i64 2000] 3)) (WhQ p l W.heap.size t 0 1 (W.alloc (.cells #[.int .i64 2000] 3))) := fun W hW =>
      whole152 65 t 0 1 W.heap.size 2000 64 _ (by omega) (by omega) (by omega) (by omega) (by omega) (h.turned0 ((T2.trans hW).alloc _)) (ht.turned0 ((T2.trans hW).alloc _)) hgd (heap_alloc_new W _) (h.alloc (T2.trans hW)).1 (h.alloc (T2.trans hW)).2
    have hmw := Tm.makeOk_whole l t.bare
    have hEE : wholeE m l t.bare = if Tm.makeOk 0 1 (Tm.img l t.bare) = true then 0 else 12 := by unfold wholeE; rw [if_pos hob, hmw]
    have hTT : wholeT m l t.bare = if Tm.makeOk 0 1 (Tm.img l t.bare) = true then Tm.img l t.bare else (leaf 0 0 ByteArray.empty).bare := by
      unfold wholeT; rw [hEE]
      by_cases hk : Tm.makeOk 0 1 (Tm.img l t.bare) = true
      · rw [if_pos hk, if_pos hk, if_pos rfl]
      · rw [if_neg hk, if_neg hk, if_neg (by decide)]
    rw [LT.val_eq] at hcl
    cases hok : Tm.makeOk 0 1 (Tm.img l t.bare) with
    | false =>
      rw [hok, if_neg (by decide)] at hEE hTT
      have hcl2 : ∀ W, Turned (fun _ => False) w2 W → Calls Try.prog 152 #[.pointer (some ⟨wb, 0, none⟩), .agg #[.int .i64 t.kind, .int .i64 t.n, .string t.name, .slice t.at_.1 t.args.length t.at_.2], .pointer (some ⟨W.heap.size, 0, none⟩), .int .i64 64] (W.alloc (.cells #[.int .i64 2000] 3)) fun e w' => ∃ u : LT, e = .returned (.tuple #[.agg #[.int .i64 u.kind, .int .i64 u.n, .string u.name, .slice u.at_.1 u.args.length u.at_.2], .bool false]) ∧ Turned (fun _ => False) w2 w' := fun W hW => (hcl W hW).mono (fun e w' h => by
        obtain ⟨u, L', h1, h2, h3, h4, h5⟩ := h
        rw [hok] at h1
        exact ⟨u, h1, has_own hW rfl h5⟩)
      have HE := Lib.hid hEE
      have HKN := Lib.hid hkn
      have HCL := Lib.hid hcl2
      clear hkn hob h ht hw2 T2 h2 hEE hTT hcl hcl2 hok hmw hgd
      go_enter Try.func105, Try.ntmps105
      go_wp2_with (first
        | (go_at_call 152; have HT3 := HT3; (with_reducible refine (HCL.out _ HT3.out).mono ?_); rintro e w4 ⟨u, rfl, T4⟩; have T5 := T4.alloc (.cells #[.int .i64 u.kind, .int .i64 u.n, .string u.name, .slice u.at_.1 u.args.length u.at_.2] 41); have hbz := (T5.block _ (Array.getElem?_eq_some_iff.1 HB2.out.2).1 (fun f => f)).trans HB2.out.2; obtain ⟨d0, d1, d2, d3, g0, g1, g2, g3⟩ := cells4 hbz; have hnb := heap_alloc_new w4 (.cells #[.int .i64 u.kind, .int .i64 u.n, .string u.name, .slice u.at_.1 u.args.length u.at_.2] 41); obtain ⟨y0, y1, y2, y3, _⟩ := cells4 hnb; have HBZ5 := Lib.hid hbz; have HT5 := Lib.hid T5; have HT4 := Lib.hid T4; clear T4 T5 hbz hnb)
        | (go_at_call 99; rw [← HW2.out]; (with_reducible refine HKN.out.mono ?_); rintro e w3 ⟨rfl, T3⟩; have T3A := T3.alloc (.cells #[.int .i64 2000] 3); have hb := (T3A.block _ (Array.getElem?_eq_some_iff.1 HB2.out.1).1 (fun f => f)).trans HB2.out.1; obtain ⟨c0, c1, c2, c3, _⟩ := cells4 hb; have HT3 := Lib.hid T3; clear T3 T3A hb))
      have hset := set4 (a' := .int .i64 0) (b' := .int .i64 0) (c' := .string ⟨#[]⟩) (d' := .slice none 0 0) HBZ5.out
      have T4 := turned4 (a := .int .i64 0) (b := .int .i64 0) (c := .string ⟨#[]⟩) (d := .slice none 0 0) (HT2.out.trans HT5.out) (g := w.heap.size + 1) (by omega)
      refine bodyPost_ret (results_cell_tmp1 Try.results105 _ _ (w.heap.size + 1) 41 _ (0, 0) _ rfl hset Try.underlying41 rfl (by kernel_rfl)) rfl (W105.no HE.out (by decide) T4)
    | true =>
      rw [hok, if_pos rfl] at hEE hTT
      have hcl2 : ∀ W, Turned (fun _ => False) w2 W → Calls Try.prog 152 #[.pointer (some ⟨wb, 0, none⟩), .agg #[.int .i64 t.kind, .int .i64 t.n, .string t.name, .slice t.at_.1 t.args.length t.at_.2], .pointer (some ⟨W.heap.size, 0, none⟩), .int .i64 64] (W.alloc (.cells #[.int .i64 2000] 3)) fun e w' => ∃ u : LT, e = .returned (.tuple #[.agg #[.int .i64 u.kind, .int .i64 u.n, .string u.name, .slice u.at_.1 u.args.length u.at_.2], .bool true]) ∧ u.bare = Tm.img l t.bare ∧ u.In (fun k => p k ∨ W.heap.size ≤ k) w' ∧ Turned (fun _ => False) w2 w' := fun W hW => (hcl W hW).mono (fun e w' h => by
        obtain ⟨u, L', h1, h2, h3, h4, h5⟩ := h
        rw [hok] at h1
        exact ⟨u, h1, (h2 hok).1, h4.mono (fun k _ hk => hk.imp id (fun hk => Nat.le_trans ((Turned.refl (fun _ => False) W).alloc _).size hk)), has_own hW rfl h5⟩)
      have HE := Lib.hid hEE
      have HTE := Lib.hid hTT
      have HKN := Lib.hid hkn
      have HCL := Lib.hid hcl2
      have HPL := Lib.hid h.plt
      clear hkn hob h ht hw2 T2 h2 hEE hTT hcl hcl2 hok hmw hgd
      go_enter Try.func105, Try.ntmps105
      go_wp2_with (first
        | (go_at_call 152; have HT3 := HT3; (with_reducible refine (HCL.out _ HT3.out).mono ?_); rintro e w4 ⟨u, rfl, hub, hui, T4⟩; have T5 := T4.alloc (.cells #[.int .i64 u.kind, .int .i64 u.n, .string u.name, .slice u.at_.1 u.args.length u.at_.2] 41); have hbz := (T5.block _ (Array.getElem?_eq_some_iff.1 HB2.out.2).1 (fun f => f)).trans HB2.out.2; obtain ⟨d0, d1, d2, d3, g0, g1, g2, g3⟩ := cells4 hbz; have hnb := heap_alloc_new w4 (.cells #[.int .i64 u.kind, .int .i64 u.n, .string u.name, .slice u.at_.1 u.args.length u.at_.2] 41); obtain ⟨y0, y1, y2, y3, _⟩ := cells4 hnb; have HBZ5 := Lib.hid hbz; have HT5 := Lib.hid T5; have HT4 := Lib.hid T4; have HUB := Lib.hid hub; have HUI := Lib.hid hui; clear hub hui; clear T4 T5 hbz hnb)
        | (go_at_call 99; rw [← HW2.out]; (with_reducible refine HKN.out.mono ?_); rintro e w3 ⟨rfl, T3⟩; have T3A := T3.alloc (.cells #[.int .i64 2000] 3); have hb := (T3A.block _ (Array.getElem?_eq_some_iff.1 HB2.out.1).1 (fun f => f)).trans HB2.out.1; obtain ⟨c0, c1, c2, c3, _⟩ := cells4 hb; have HT3 := Lib.hid T3; clear T3 T3A hb))
      have hset := set4 (a' := .int .i64 u.kind) (b' := .int .i64 u.n) (c' := .string u.name) (d' := .slice u.at_.1 u.args.length u.at_.2) HBZ5.out
      have T4 := turned4 (a := .int .i64 u.kind) (b := .int .i64 u.n) (c := .string u.name) (d := .slice u.at_.1 u.args.length u.at_.2) (HT2.out.trans HT5.out) (g := w.heap.size + 1) (by omega)
      have Tq := turned_store4 (w4.alloc (.cells #[.int .i64 u.kind, .int .i64 u.n, .string u.name, .slice u.at_.1 u.args.length u.at_.2] 41)) (w.heap.size + 1) (.int .i64 u.kind) (.int .i64 u.n) (.string u.name) (.slice u.at_.1 u.args.length u.at_.2)
      have hs3 : w.heap.size + 2 ≤ w3.heap.size := by have := HT3.out.size; have := (Array.getElem?_eq_some_iff.1 HB2.out.2).1; omega
      have hui := LT.In.turned (q := fun k => p k ∨ w.heap.size ≤ k) Tq (fun k _ hk e => by
        rcases hk with h | h
        · have := HPL.out k h; omega
        · omega) (fun k _ hk => hk.imp id (fun h => by omega)) _ (HUI.out.turned0 ((Turned.refl (fun _ => False) w4).alloc (.cells #[.int .i64 u.kind, .int .i64 u.n, .string u.name, .slice u.at_.1 u.args.length u.at_.2] 41)))
      refine bodyPost_ret (results_cell_tmp1 Try.results105 _ _ (w.heap.size + 1) 41 _ (0, 0) _ rfl hset Try.underlying41 rfl (by kernel_rfl)) rfl ⟨u, by rw [HE.out]; rfl, by rw [HUB.out, HTE.out], hui, T4⟩
end Go.Proofs.Ytoihjobdfjajfaa
namespace Go.Proofs.Ytoihjobdfjajfaa
open Go.RowKit Go.Maps
set_option linter.unusedVariables false
set_option linter.unusedSimpArgs false
structure BD2 (q : Nat → Prop) (bb wb : Nat) (O D : Nat → Prop) (m mw : Nat) (l : TL) (lw : Tm.Trail) (w : World) : Prop where
  b : BO q bb O m l w
  d : DO q wb D mw lw w
  dis : ∀ k, O k → ¬ D k
section
variable {q q' O D : Nat → Prop} {bb wb m mw m' : Nat} {l l' : TL} {lw lw' : Tm.Trail} {w w' : World} {N : Nat} {w1 wr : World}
theorem BD2.turned0 (h : BD2 q bb wb O D m mw l lw w) (T : Turned (fun _ => False) w w') : BD2 q bb wb O D m mw l lw w' :=
  ⟨h.b.turned0 T, h.d.turned0 T, h.dis⟩
theorem BD2.stepB (h : BD2 q bb wb O D m mw l lw w) (ha : After q bb O m' l' w w') : ∃ O', BD2 q bb wb O' D m' mw l' lw w' ∧ (∀ k, O' k → k < w.heap.size → O k) ∧ Turned O w w' := by
  obtain ⟨O', a1, a2, a3⟩ := ha
  refine ⟨O', ⟨a1, h.d.turned a3 (fun k hk e => ⟨h.dis k e, fun c => h.b.sep k c e⟩), fun k hk c => h.dis k (a2 k hk (h.d.lt k c)) c⟩, a2, a3⟩
theorem BD2.stepD (h : BD2 q bb wb O D m mw l lw w) (ha : AfterD q wb D m' lw' w w') : ∃ D', BD2 q bb wb O D' m m' l lw' w' ∧ (∀ k, D' k → k < w.heap.size → D k) ∧ Turned D w w' := by
  obtain ⟨D', a1, a2, a3⟩ := ha
  refine ⟨D', ⟨h.b.turned a3 (fun k hk e => ⟨fun c => h.dis k c e, fun c => h.d.sep k c e⟩), a1, fun k hk c => h.dis k hk (a2 k c (h.b.lt k hk))⟩, a2, a3⟩
theorem BD2.wide (h : BD2 q bb wb O D m mw l lw w) (hp : ∀ k, q k → q' k) (hq : ∀ k, q' k → k < w.heap.size ∧ ¬ O k ∧ ¬ D k) : BD2 q' bb wb O D m mw l lw w :=
  ⟨h.b.wide hp (fun k hk => ⟨(hq k hk).1, (hq k hk).2.1⟩), h.d.wide hp (fun k hk => ⟨(hq k hk).1, (hq k hk).2.2⟩), h.dis⟩
theorem BD2.grown (h : BD2 q bb wb O D m mw l lw w) (T : Turned (fun _ => False) w w') : BD2 (fun k => q k ∨ (w.heap.size ≤ k ∧ k < w'.heap.size)) bb wb O D m mw l lw w' := by
  refine (h.turned0 T).wide (fun k hk => .inl hk) (fun k hk => ?_)
  rcases hk with hk | hk
  · exact ⟨Nat.lt_of_lt_of_le (h.b.plt k hk) T.size, h.b.sep k hk, h.d.sep k hk⟩
  · exact ⟨hk.2, fun c => by have := h.b.lt k c; omega, fun c => by have := h.d.lt k c; omega⟩
def BDq (q : Nat → Prop) (N bb wb m mw : Nat) (l : TL) (lw : Tm.Trail) (w1 wr : World) : Prop :=
  ∃ O D, BD2 q bb wb O D m mw l lw wr ∧ (∀ k, O k → N ≤ k) ∧ (∀ k, D k → N ≤ k) ∧ Turned (fun _ => False) w1 wr
theorem BDq.stepB (hN : N ≤ w1.heap.size) (h : BD2 q bb wb O D m mw l lw wr) (hO : ∀ k, O k → N ≤ k) (hD : ∀ k, D k → N ≤ k) (hO1 : ∀ k, O k → w1.heap.size ≤ k) (T : Turned (fun _ => False) w1 wr) (ha : After q bb O m' l' wr w') : BDq q N bb wb m' mw l' lw w1 w' := by
  obtain ⟨O', a1, a2, a3⟩ := h.stepB ha
  refine ⟨O', D, a1, fun k hk => ?_, hD, T.step a3 (fun i hi e => by have := hO1 i e; omega)⟩
  rcases Nat.lt_or_ge k wr.heap.size with h1 | h1
  · exact hO k (a2 k hk h1)
  · have := T.size; omega
theorem BDq.stepD (hN : N ≤ w1.heap.size) (h : BD2 q bb wb O D m mw l lw wr) (hO : ∀ k, O k → N ≤ k) (hD : ∀ k, D k → N ≤ k) (hD1 : ∀ k, D k → w1.heap.size ≤ k) (T : Turned (fun _ => False) w1 wr) (ha : AfterD q wb D m' lw' wr w') : BDq q N bb wb m m' l lw' w1 w' := by
  obtain ⟨D', a1, a2, a3⟩ := h.stepD ha
  refine ⟨O, D', a1, hO, fun k hk => ?_, T.step a3 (fun i hi e => by have := hD1 i e; omega)⟩
  rcases Nat.lt_or_ge k wr.heap.size with h1 | h1
  · exact hD k (a2 k hk h1)
  · have := T.size; omega
theorem BDq.turned0 (h : BDq q N bb wb m mw l lw w1 wr) (T : Turned (fun _ => False) wr w') : BDq q N bb wb m mw l lw w1 w' := by
  obtain ⟨O, D, h1, h3, h4, h5⟩ := h
  exact ⟨O, D, h1.turned0 T, h3, h4, h5.trans T⟩
theorem BDq.old (h : BDq q N bb wb m mw l lw w1 wr) : Turned (fun _ => False) w1 wr := by
  obtain ⟨O, D, h1, h3, h4, h5⟩ := h
  exact h5
theorem BDq.binds (h : BDq (fun k => k < N) N bb wb m mw l lw w1 wr) : BLoop N bb m l w1 wr := by
  obtain ⟨O, D, h1, h3, h4, h5⟩ := h
  exact ⟨O, h1.b, h3, h5⟩
end
set_option maxRecDepth 100000 in
set_option maxHeartbeats 3200000 in
theorem both109 (n : Nat) (hn : n ≤ 65536) (w : World) :
    Calls Try.prog 109 #[.int .i64 n] w fun e w' => ∃ bb wb, e = .returned (.tuple #[.pointer (some ⟨bb, 0, none⟩), .pointer (some ⟨wb, 0, none⟩)]) ∧ BDq (fun k => k < w.heap.size) w.heap.size bb wb n n [] [] w w' := by
  go_enter Try.func109, Try.ntmps109
  go_wp2_with (go_at_call 86; (with_reducible refine (newO86 (p := fun k => k < w.heap.size) _ (fun k h => h)).mono ?_); rintro e w2 ⟨bb, rfl, B2, _, T2⟩; have HB2 : Hid (BLoop w.heap.size bb 0 [] w w2) := ⟨_, B2, fun k hk => hk.1, T2⟩; have HT2 := Lib.hid T2; clear B2 T2)
  have hb2 : BDq (fun k => k < w.heap.size) w.heap.size bb w2.heap.size 0 0 [] [] w (w2.alloc (.cells #[.slice none 0 0, .slice none 0 0, .slice none 0 0] 113)) := by
    obtain ⟨O, B, hO, T⟩ := HB2.out
    have T3 := (Turned.refl (fun _ => False) w2).alloc (.cells #[.slice none 0 0, .slice none 0 0, .slice none 0 0] 113)
    refine ⟨O, _, ⟨B.turned0 T3, newD w2 (fun k hk => Nat.lt_of_lt_of_le hk T.size), fun k hk c => by have := B.lt k hk; omega⟩, hO, fun k hk => by have := T.size; omega, T.trans T3⟩
  have HB3 := Lib.hid hb2
  clear hb2
  go_loopg [6] n (fun k i wr => ∃ j : Nat, Hid (j + k = n) ∧ j ≤ n ∧ i = .int .i64 j ∧ Hid (BDq (fun k => k < w.heap.size) w.heap.size bb w2.heap.size j j [] [] w wr))
  case atStart => exact ⟨0, Nat.zero_add _, Nat.zero_le _, rfl, HB3⟩
  case round =>
    obtain ⟨j, HG, hj, rfl, HB⟩ := hrel
    by_cases hjn : j < n
    · have dj : decide ((j : Int) < (n : Int)) = true := decide_eq_true (by omega)
      go_wp2_with (first
        | (go_at_call 87; obtain ⟨O, D, B, hO, hD, T⟩ := HB.out; (with_reducible refine (freshO87 B.b (by omega)).mono ?_); rintro e w3 ⟨rfl, A3⟩; have HB4 : Hid (BDq (fun k => k < w.heap.size) w.heap.size bb w2.heap.size (j + 1) j [] [] w w3) := BDq.stepB (Nat.le_refl _) B hO hD hO T A3; clear B hO hD T A3)
        | (go_at_call 103; obtain ⟨O, D, B, hO, hD, T⟩ := HB4.out; (with_reducible refine (freshD B.d (by omega)).mono ?_); rintro e w4 ⟨rfl, A4⟩; have HB5 : Hid (BDq (fun k => k < w.heap.size) w.heap.size bb w2.heap.size (j + 1) (j + 1) [] [] w w4) := BDq.stepD (Nat.le_refl _) B hO hD hD T A4; clear B hO hD T A4))
      go_roundg (gk - 1)
      case measure => have := HG.out; omega
      case rel => exact ⟨j + 1, show _ = _ by have := HG.out; omega, by omega, by go_num, HB5⟩
    · obtain rfl : j = n := by omega
      have dj : decide ((j : Int) < (j : Int)) = false := decide_eq_false (by omega)
      go_wp2_with fail
      go_ret2
      exact ⟨bb, _, rfl, HB.out⟩
end Go.Proofs.Ytoihjobdfjajfaa
namespace Go.Proofs.Ytoihjobdfjajfaa
set_option linter.unusedVariables false
set_option linter.unusedSimpArgs false
open Go.RowKit
set_option maxRecDepth 100000 in
set_option maxHeartbeats 3200000 in
theorem own114 {p : Nat → Prop} (n : Nat) : ∀ (t : LT) (w : World), t.depth ≤ n → t.In p w → slim t →
    Calls Try.prog 114 #[t.val] w fun e w' => ∃ u : LT, e = .returned u.val ∧ u.bare = t.bare ∧ u.In (fun k => w.heap.size ≤ k) w' ∧ Turned (fun _ => False) w w' := by
  induction n with
  | zero => intro t w h; have := Tm.depth_pos t; omega
  | succ n ih =>
    intro t w hd ht hsl
    obtain ⟨i0, hi0, hz0, hz1, hz2⟩ := info_parts infoR
    have hl12 : t.args.length ≤ 12 := hsl t (by rw [Tm.flat_eq]; exact List.mem_cons_self ..)
    have hcall : ∀ x : LT, x ∈ t.args → ∀ W, x.In p W → Calls Try.prog 114 #[x.val] W fun e w' => ∃ u : LT, e = .returned u.val ∧ u.bare = x.bare ∧ u.In (fun k => W.heap.size ≤ k) w' ∧ Turned (fun _ => False) W w' := fun x hx W hW => ih x W (by have := arg_depth hx; omega) hW (fun y hy => hsl y (by rw [Tm.flat_eq]; exact List.mem_cons_of_mem _ (mem_flats_arg hx hy)))
    have HC := Lib.hid hcall
    have HIN := Lib.hid ht
    have hL := fun W h => (LT.In.lies (p := p) (w := W) (t := t) h)
    rw [LT.val_eq]
    obtain ⟨ad, had⟩ : ∃ z, z = t.at_.1 := ⟨_, rfl⟩
    obtain ⟨cd, hcd⟩ : ∃ z, z = t.at_.2 := ⟨_, rfl⟩
    rw [← had] at hL
    rw [← had, ← hcd]
    have HL := Lib.hid hL
    have H3 := Lib.hid (three w (.cells #[.int .i64 t.kind, .int .i64 t.n, .string t.name, .slice ad t.args.length cd] 27) (.cells #[.int .i64 0, .int .i64 0, .string ⟨#[]⟩, .slice none 0 0] 41) (.cells #[.int .i64 t.kind, .int .i64 t.n, .string t.name, .slice none 0 0] 41))
    clear ih hd hsl hcall ht hL had hcd
    go_enter Try.func114, Try.ntmps114
    go_wp2_with fail
    revert H3
    generalize (((w.alloc (.cells #[.int .i64 t.kind, .int .i64 t.n, .string t.name, .slice ad t.args.length cd] 27)).alloc (.cells #[.int .i64 0, .int .i64 0, .string ⟨#[]⟩, .slice none 0 0] 41)).alloc (.cells #[.int .i64 t.kind, .int .i64 t.n, .string t.name, .slice none 0 0] 41)) = w1
    intro H3
    obtain ⟨B0, hB0⟩ : ∃ z, z = w.heap.size := ⟨_, rfl⟩
    obtain ⟨B1, hB1⟩ : ∃ z, z = w.heap.size + 1 := ⟨_, rfl⟩
    obtain ⟨B2, hB2⟩ : ∃ z, z = w.heap.size + 2 := ⟨_, rfl⟩
    obtain ⟨N, hN⟩ : ∃ z, z = w.heap.size + 3 := ⟨_, rfl⟩
    rw [← hB1, ← hB2, ← hN, ← hB0] at H3
    have HE := Lib.hid (And.intro hB0 (And.intro hB1 (And.intro hB2 hN)))
    try rw [← hB2]
    try rw [← hB1]
    try rw [← hB0]
    clear hB0 hB1 hB2 hN
    have hinit : Hid (OwnI N B2 t w1 0 [] none 0 w1) := ⟨rfl, H3.out.2.2.2.1, Row.nil _ _ _, trivial, fun b h => by simp [Value.ownBlock] at h, Turned.refl _ _⟩
    go_loopg [4] t.args.length (fun g i wr => ∃ j : Nat, Hid (j + g = t.args.length) ∧ j ≤ t.args.length ∧ i = .int .i64 j ∧ ∃ us a c, Hid (OwnI N B2 t w1 j us a c wr))
    case atStart => exact ⟨0, Nat.zero_add _, Nat.zero_le _, rfl, [], none, 0, hinit⟩
    case round =>
      obtain ⟨j, HG, hj, rfl, us, a, c, HOI⟩ := hrel
      have HTw : Hid (Turned (fun _ => False) w wr) := H3.out.1.step HOI.out.turned (fun i hi e => by have := HE.out; omega)
      have hb0 := (HOI.out.turned.block B0 (Array.getElem?_eq_some_iff.1 H3.out.2.2.1).1 (fun e => by have := HE.out; omega)).trans H3.out.2.2.1
      obtain ⟨_, _, _, k3, _⟩ := cells4 hb0
      have hlen' : us.length = j := by have := congrArg List.length HOI.out.bares; rw [Tm.bares_length, Tm.bares_length, List.length_take] at this; omega
      have HUL := Lib.hid hlen'
      clear hb0 hlen'
      by_cases hjl : j < t.args.length
      · have hx : t.args[j]? = some t.args[j] := List.getElem?_eq_getElem hjl
        obtain ⟨x, hxe⟩ : ∃ x : LT, x = t.args[j] := ⟨_, rfl⟩
        rw [← hxe] at hx
        clear hxe
        have tin := HIN.out.turned0 HTw.out
        have xin := (LT.ins_iff _).1 tin.args x (List.mem_of_getElem? hx)
        obtain ⟨b, o, rfl, _, c0, c1, c2, c3⟩ := (HL.out _ tin).cell hx
        have hcx := fun W (h : Turned (fun _ => False) wr W) => HC.out x (List.mem_of_getElem? hx) W (xin.turned0 h)
        rw [LT.val_eq x] at hcx
        have HCX := Lib.hid hcx
        have HX := Lib.hid hx
        have HBN : Hid (B2 < N ∧ N ≤ wr.heap.size ∧ w1.heap.size ≤ N) := ⟨by have := HE.out; omega, by have := HOI.out.turned.size; have := H3.out.2.1; omega, by have := H3.out.2.1; omega⟩
        clear hx hcx xin tin
        go_wp2_with fail
        · skip
          refine wp_region_hs [19, 20, 21, 22, 23, 24, 25, 26, 27, 28, 29] [7, 8, 9, 11] [4, 2, 0, 0, 0, 0, 0, 4, 4, 4, 4, 4] [26, 27, 28, 100011] (fun d v => (match d with | 19 => v = .pointer (some ⟨B2, 3, none⟩) | 20 => v = .slice a j c | 21 => v = .pointer (some ⟨B0, 3, none⟩) | 22 => v = .slice (some ⟨b, o, none⟩) t.args.length cd | 23 => v = .int .i64 (j : Int) | 24 => v = .pointer (some ⟨b, o + j * 4, none⟩) | 25 => v = .agg #[.int .i64 x.kind, .int .i64 x.n, .string x.name, .slice x.at_.1 x.args.length x.at_.2] | 29 => v = .pointer (some ⟨B2, 3, none⟩) | _ => True : Prop)) (OwnS N B2 t x w1 j us a c wr) (by kernel_rfl) rfl (by kernel_rfl) (by kernel_rfl) (by kernel_rfl) (by kernel_rfl) (fun _ h => h) (fun hs w w' h ht => OwnS.turned0 hs w w' h ht) ?hs ?hQ
          case hs =>
            refine ⟨?s0, ?s1, ?s2, ?s3, ?s4, ?s5, ?s6, ?s7, ?s8, ?s9, ?s10, ?s11, trivial⟩
            case s0 =>
              refine fun hs hle => stepG_free [] [3] (by kernel_rfl) rfl ?_
              · intro ac W hT hI hO
                have h3 : ac.tmps.getD 3 undef = .pointer (some ⟨B2, 0, none⟩) := hO 3 (by simp)
                show Brings Try.prog (fun v w' => Turned (fun _ => False) W w' ∧ v = .pointer (some ⟨B2, 3, none⟩)) _
                simp only [execOp, Act.eval, h3]
                go_simp
                try exact ⟨Turned.refl _ _, rfl⟩
            case s1 =>
              refine fun hs hle => stepG_free [19] [] (by kernel_rfl) rfl ?_
              · intro ac W hT hI hO
                have hle : hs.length ≤ 2 := hle
                have h19 : ac.tmps.getD 19 undef = .pointer (some ⟨B2, 3, none⟩) := hI 19 (by simp)
                show Brings Try.prog (fun v w' => Turned (fun _ => False) W w' ∧ v = .slice a j c) _
                obtain ⟨_, _, _, d3⟩ := OwnS.blk HOI.out hs W hle hT
                simp only [execOp, Act.eval, h19]
                go_simp
                exact ⟨Turned.refl _ _, rfl⟩
            case s2 =>
              refine fun hs hle => stepG_free [] [1] (by kernel_rfl) rfl ?_
              · intro ac W hT hI hO
                have hle : hs.length ≤ 0 := hle
                have h1 : ac.tmps.getD 1 undef = .pointer (some ⟨B0, 0, none⟩) := hO 1 (by simp)
                show Brings Try.prog (fun v w' => Turned (fun _ => False) W w' ∧ v = .pointer (some ⟨B0, 3, none⟩)) _
                simp only [execOp, Act.eval, h1]
                go_simp
                try exact ⟨Turned.refl _ _, rfl⟩
            case s3 =>
              refine fun hs hle => stepG_free [21] [] (by kernel_rfl) rfl ?_
              · intro ac W hT hI hO
                have hle : hs.length ≤ 0 := hle
                have h21 : ac.tmps.getD 21 undef = .pointer (some ⟨B0, 3, none⟩) := hI 21 (by simp)
                show Brings Try.prog (fun v w' => Turned (fun _ => False) W w' ∧ v = .slice (some ⟨b, o, none⟩) t.args.length cd) _
                have hT0 : Turned (fun _ => False) wr W := own_nil (by omega) hT; have e3 := hT0.cell0 k3; have g0 := hT0.cell0 c0; have g1 := hT0.cell0 c1; have g2 := hT0.cell0 c2; have g3 := hT0.cell0 c3
                simp only [execOp, Act.eval, h21]
                go_simp
                exact ⟨Turned.refl _ _, rfl⟩
            case s4 =>
              refine fun hs hle => stepG_free [] [4] (by kernel_rfl) rfl ?_
              · intro ac W hT hI hO
                have hle : hs.length ≤ 0 := hle
                have h4 : ac.tmps.getD 4 undef = .int .i64 (j : Int) := hO 4 (by simp)
                show Brings Try.prog (fun v w' => Turned (fun _ => False) W w' ∧ v = .int .i64 (j : Int)) _
                simp only [execOp, Act.eval, h4]
                go_simp
                try exact ⟨Turned.refl _ _, rfl⟩
            case s5 =>
              refine fun hs hle => stepG_free [22, 23] [] (by kernel_rfl) rfl ?_
              · intro ac W hT hI hO
                have hle : hs.length ≤ 0 := hle
                have h22 : ac.tmps.getD 22 undef = .slice (some ⟨b, o, none⟩) t.args.length cd := hI 22 (by simp)
                have h23 : ac.tmps.getD 23 undef = .int .i64 (j : Int) := hI 23 (by simp)
                show Brings Try.prog (fun v w' => Turned (fun _ => False) W w' ∧ v = .pointer (some ⟨b, o + j * 4, none⟩)) _
                simp only [execOp, Act.eval, h22, h23]
                go_simp
                try rw [if_pos (by omega)]
                try exact ⟨Turned.refl _ _, rfl⟩
            case s6 =>
              refine fun hs hle => stepG_free [24] [] (by kernel_rfl) rfl ?_
              · intro ac W hT hI hO
                have hle : hs.length ≤ 0 := hle
                have h24 : ac.tmps.getD 24 undef = .pointer (some ⟨b, o + j * 4, none⟩) := hI 24 (by simp)
                show Brings Try.prog (fun v w' => Turned (fun _ => False) W w' ∧ v = .agg #[.int .i64 x.kind, .int .i64 x.n, .string x.name, .slice x.at_.1 x.args.length x.at_.2]) _
                have hT0 : Turned (fun _ => False) wr W := own_nil (by omega) hT; have e3 := hT0.cell0 k3; have g0 := hT0.cell0 c0; have g1 := hT0.cell0 c1; have g2 := hT0.cell0 c2; have g3 := hT0.cell0 c3
                simp only [execOp, Act.eval, h24]
                go_simp
                exact ⟨Turned.refl _ _, rfl⟩
            case s7 =>
              refine fun hs hlen => stepG_free [25] [] (by kernel_rfl) rfl ?_
              · intro ac W hT hI hO
                have h25 : ac.tmps.getD 25 undef = .agg #[.int .i64 x.kind, .int .i64 x.n, .string x.name, .slice x.at_.1 x.args.length x.at_.2] := hI 25 (by simp)
                show Brings Try.prog (fun v w' => OwnS N B2 t x w1 j us a c wr (hs ++ [v]) w') _
                obtain rfl : hs = [] := List.eq_nil_of_length_eq_zero hlen
                replace hT : Turned (fun _ => False) wr W := hT
                simp only [execOp, Act.eval, h25]
                go_simp
                show Calls Try.prog 114 _ W _
                (with_reducible refine (HCX.out W hT).mono ?_)
                rintro e w' ⟨u, rfl, hb, hu, T'⟩
                exact ⟨_, rfl, hT.trans T', u, rfl, hb, hu.mono (fun k hk h => Nat.le_trans hT.size h)⟩
            case s8 =>
              refine fun hs hlen => stepG_free [26] [] (by kernel_rfl) rfl ?_
              · intro ac W hT hI hO
                have h26 : hs[0]? = some (ac.tmps.getD 26 undef) := hI 26 (by simp)
                show Brings Try.prog (fun v w' => OwnS N B2 t x w1 j us a c wr (hs ++ [v]) w') _
                obtain ⟨uv, rfl⟩ := List.length_eq_one_iff.1 hlen
                obtain ⟨hT1, u, rfl, hb, hu⟩ := hT
                replace h26 : ac.tmps.getD 26 undef = u.val := by simpa using h26.symm
                rw [LT.val_eq] at h26
                have h26' : ac.tmps[26]?.getD undef = .agg #[.int .i64 u.kind, .int .i64 u.n, .string u.name, .slice u.at_.1 u.args.length u.at_.2] := by rw [← Array.getD_eq_getD_getElem?]; exact h26
                simp only [execOp, Act.eval, h26]
                go_simp
                have hnew := heap_alloc_new W (.cells #[.int .i64 u.kind, .int .i64 u.n, .string u.name, .slice u.at_.1 u.args.length u.at_.2] 41)
                refine ⟨hT1.alloc _, u, W.heap.size, rfl, hb, hu.turned0 ((Turned.refl _ W).alloc _), ?_⟩
                rw [LT.cells_eq]
                exact hnew
            case s9 =>
              refine fun hs hlen => stepG_free [20, 27] [] (by kernel_rfl) rfl ?_
              · intro ac W hT hI hO
                have h20 : ac.tmps.getD 20 undef = .slice a j c := hI 20 (by simp)
                have h27 : hs[1]? = some (ac.tmps.getD 27 undef) := hI 27 (by simp)
                show Brings Try.prog (fun v w' => OwnS N B2 t x w1 j us a c wr (hs ++ [v]) w') _
                obtain ⟨uv, sv, rfl⟩ := list2' hlen
                obtain ⟨hT1, u, g, rfl, hb, hu, hg⟩ := hT
                replace h27 : ac.tmps.getD 27 undef = .slice (some ⟨g, 0, none⟩) 1 1 := by simpa using h27.symm
                refine brings_append (.tmp 20) (.tmp 27) 39 rfl 41 i0 zeroR 4 56 Try.underlying39 hi0 hz0 hz1 hz2 rfl (by decide) _ _ _ h20 (HOI.out.row.turned0 hT1) ⟨g, 0, none⟩ 1 1 u.cells h27 (LT.cells_length u) (news_block hg) (LT.cells_one u) (by omega) (by unfold maxLen; omega) (by omega) ?_
                intro g2 cap2 w2 hrow2 T2 hl2
                have hgw : some g2 = (Value.slice a j c).ownBlock ∨ wr.heap.size ≤ g2 := by
                  rcases hl2 with e | e
                  · exact .inl e
                  · have := hT1.size; exact .inr (by omega)
                refine ⟨u, g2, cap2, rfl, hb, hrow2, ?_, (hT1.mono (fun _ _ f => f.elim)).trans T2, hgw⟩
                refine hu.turned T2 (fun k hk h e => ?_) (fun k hk h => ⟨h, fun e => ?_⟩)
                · have := HOI.out.row.lt k e; omega
                · subst e
                  rcases hl2 with e | e
                  · have := HOI.out.row.lt k e.symm; omega
                  · omega
            case s10 =>
              refine fun hs hle => stepG_free [] [3] (by kernel_rfl) rfl ?_
              · intro ac W hT hI hO
                have h3 : ac.tmps.getD 3 undef = .pointer (some ⟨B2, 0, none⟩) := hO 3 (by simp)
                show Brings Try.prog (fun v w' => Turned (fun _ => False) W w' ∧ v = .pointer (some ⟨B2, 3, none⟩)) _
                simp only [execOp, Act.eval, h3]
                go_simp
                try exact ⟨Turned.refl _ _, rfl⟩
            case s11 =>
              refine fun hs hlen => stepG_free [29, 28] [] (by kernel_rfl) rfl ?_
              · intro ac W hT hI hO
                have h29 : ac.tmps.getD 29 undef = .pointer (some ⟨B2, 3, none⟩) := hI 29 (by simp)
                have h28 : hs[2]? = some (ac.tmps.getD 28 undef) := hI 28 (by simp)
                show Brings Try.prog (fun v w' => OwnS N B2 t x w1 j us a c wr (hs ++ [v]) w') _
                obtain ⟨uv, sv, av, rfl⟩ := list3' hlen
                obtain ⟨u, g, cap, rfl, hb, hrow, hu, hT2, hg⟩ := hT
                replace h28 : ac.tmps.getD 28 undef = .slice (some ⟨g, 0, none⟩) (j + 1) cap := by simpa using h28.symm
                have hbl := (hT2.block B2 (Array.getElem?_eq_some_iff.1 HOI.out.blk).1 (fun e => by have := HOI.out.own B2 e; have := HBN.out.1; omega)).trans HOI.out.blk
                obtain ⟨_, _, _, d3, _, _, _, f3⟩ := cells4 hbl
                simp only [execOp, Act.eval, h29, h28]
                go_simp
                exact ⟨_, _, _, own_close HBN.out.1 HBN.out.2.1 HOI.out HX.out hb hrow hu hT2 hg HBN.out.2.2⟩
          case hQ =>
            intro hs vs w2 hlen hR hV
            obtain ⟨e1, e2, e3, e4, rfl⟩ : ∃ a b c d, hs = [a, b, c, d] := list4' hlen
            obtain ⟨us', a', c', hI⟩ := hR
            have HI' := Lib.hid hI
            simp only [List.foldl_cons, List.foldl_nil, List.setIfInBounds_toArray, List.set_cons_zero, List.set_cons_succ]
            clear hV hlen hI
            go_wp2_with fail
            go_roundg (gk - 1)
            case measure => have := HG.out; omega
            case rel => exact ⟨j + 1, show _ = _ by have := HG.out; omega, by omega, by go_num, us', a', c', HI'⟩
      · obtain rfl : j = t.args.length := by omega
        have hb1 := (HOI.out.turned.block B1 (Array.getElem?_eq_some_iff.1 H3.out.2.2.2.2).1 (fun e => by have := HE.out; omega)).trans H3.out.2.2.2.2
        obtain ⟨d0, d1, d2, d3, f0, f1, f2, f3⟩ := cells4 hb1
        obtain ⟨g0, g1, g2, g3, _⟩ := cells4 HOI.out.blk
        have HB1 := Lib.hid hb1
        clear hb1
        go_wp2_with fail
        have hset := set4 (a' := .int .i64 t.kind) (b' := .int .i64 t.n) (c' := .string t.name) (d' := .slice a t.args.length c) HB1.out
        have hge : w.heap.size ≤ B1 := by have := HE.out; omega
        have T4 := turned4 (a := .int .i64 t.kind) (b := .int .i64 t.n) (c := .string t.name) (d := .slice a t.args.length c) HTw.out hge
        refine bodyPost_ret (v := .agg #[.int .i64 t.kind, .int .i64 t.n, .string t.name, .slice a t.args.length c]) (results_cell_row Try.results114 _ _ B1 41 _ (0, 0) _ rfl hset Try.underlying41 rfl (by kernel_rfl)) rfl ?_
        have hne : ∀ q, (Value.slice a t.args.length c).ownBlock ≠ some (Addr.block ⟨B1, q, none⟩) := fun q e => by have h1 : N ≤ B1 := HOI.out.own _ e; have := HE.out; omega
        have hrow := ((((HOI.out.row.setCell (hne 0) (.int .i64 t.kind)).setCell (hne 1) (.int .i64 t.n)).setCell (hne 2) (.string t.name)).setCell (hne 3) (.slice a t.args.length c))
        have Tq : Turned (fun k => k = B1) wr _ := ((((Turned.refl (fun k => k = B1) wr).setCell (p := ⟨B1, 0, none⟩) (.inr rfl) (.int .i64 t.kind)).setCell (p := ⟨B1, 1, none⟩) (.inr rfl) (.int .i64 t.n)).setCell (p := ⟨B1, 2, none⟩) (.inr rfl) (.string t.name)).setCell (p := ⟨B1, 3, none⟩) (.inr rfl) (.slice a t.args.length c)
        have hins := HOI.out.ins.turned (q := fun k => w.heap.size ≤ k) Tq (fun k _ hk e => by have := HE.out; omega) (fun k _ hk => by have := HE.out; omega)
        obtain ⟨e1, e2⟩ := LT.Sl.of_row (p := fun k => w.heap.size ≤ k) hrow (fun k hk => by have := HOI.out.own k hk; have := HE.out; omega) hins
        refine ⟨.mk t.kind t.n t.name (a, c) us, ?_, ?_, e2.in_ HIN.out.kind HIN.out.n HIN.out.name, T4⟩
        · show _ = Ending.returned (LT.val (.mk t.kind t.n t.name (a, c) us))
          rw [LT.val_eq]
          show _ = Ending.returned (.agg #[.int .i64 t.kind, .int .i64 t.n, .string t.name, .slice a us.length c])
          rw [HUL.out]
        · rw [mk_bare t, Tm.bare, HOI.out.bares, List.take_length]
end Go.Proofs.Ytoihjobdfjajfaa
namespace Go.Proofs.Ytoihjobdfjajfaa
open Go.RowKit Go.Maps
set_option linter.unusedVariables false
set_option linter.unusedSimpArgs false
def AlkO (b : Tm Unit) (v : Value) (W : World) : Prop := ∃ o : LT, v = .agg #[.int .i64 o.kind, .int .i64 o.n, .string o.name, .slice o.at_.1 o.args.length o.at_.2] ∧ o.In (fun _ => True) W ∧ o.bare = b
theorem alkSame {a b : LT} {w : World} (ha : a.In (fun _ => True) w) (hb : b.In (fun _ => True) w) (h : a.bare = b.bare) : Calls Try.prog 48 #[.agg #[.int .i64 a.kind, .int .i64 a.n, .string a.name, .slice a.at_.1 a.args.length a.at_.2], .agg #[.int .i64 b.kind, .int .i64 b.n, .string b.name, .slice b.at_.1 b.args.length b.at_.2]] w fun e w' => e = .returned (.bool true) ∧ Turned (fun _ => False) w w' := by
  have := rSame48 (p := fun _ => True) a.depth a b w (Nat.le_refl _) ha hb
  rw [LT.val_eq, LT.val_eq, same_of_bare h] at this
  exact this
theorem wholeSlim {m : Nat} {l : Tm.Trail} {t : Tm Unit} {u : LT} (hl : Tm.okT m l) (h : u.bare = wholeT m l t) : slim u := by
  by_cases hE : wholeE m l t = 0
  · obtain ⟨h1, h2⟩ := wholeE_ok hE
    have e : u.bare = Tm.img l t := by rw [h]; unfold wholeT; rw [if_pos hE]
    exact good_slimB (by rw [e]; exact (Tm.ownB_iff.1 (Tm.whole_good hl h1 h2)).1)
  · have e : u.bare = (leaf 0 0 ByteArray.empty).bare := by rw [h]; unfold wholeT; rw [if_neg hE]
    exact slim_eq' e.symm (leaf_slim _ _ _)
theorem alkOwn118 {u : LT} {w : World} (hu : u.In (fun _ => True) w) (hs : slim u) : Calls Try.prog 114 #[.agg #[.int .i64 u.kind, .int .i64 u.n, .string u.name, .slice u.at_.1 u.args.length u.at_.2]] w fun e w' => ∃ o : LT, e = .returned (.agg #[.int .i64 o.kind, .int .i64 o.n, .string o.name, .slice o.at_.1 o.args.length o.at_.2]) ∧ o.bare = u.bare ∧ o.In (fun _ => True) w' ∧ Turned (fun _ => False) w w' := by
  have := own114 u.depth u w (Nat.le_refl _) hu hs
  rw [LT.val_eq] at this
  refine this.mono ?_
  rintro e w' ⟨o, rfl, h1, h2, h3⟩
  exact ⟨o, by rw [LT.val_eq], h1, h2.mono (fun _ _ _ => trivial), h3⟩
set_option maxRecDepth 100000 in
set_option maxHeartbeats 12800000 in
theorem alike118 {q O D : Nat → Prop} {bb wb m : Nat} {l : TL} {w : World} (h : BD2 q bb wb O D m m l (bt l) w) (n : Nat) (hn : n ≤ 65536) :
    Calls Try.prog 118 #[.pointer (some ⟨bb, 0, none⟩), .pointer (some ⟨wb, 0, none⟩), .int .i64 n] w fun e w' => e = .returned (.bool true) ∧ Turned (fun _ => False) w w' := by
  have HB0 := Lib.hid h.b
  have HD0 := Lib.hid h.d
  have hok := h.b.ok
  have HOK := Lib.hid hok
  clear h hok
  go_enter Try.func118, Try.ntmps118
  go_wp2_with fail
  go_loopg [7] n (fun k i wr => ∃ j : Nat, Hid (j + k = n) ∧ j ≤ n ∧ i = .int .i64 (j : Int) ∧ Turned (fun _ => False) w wr)
  case atStart => exact ⟨0, Nat.zero_add _, Nat.zero_le _, rfl, Turned.refl _ _⟩
  case round =>
    obtain ⟨j, HG, hj, rfl, hT⟩ := hrel
    have HT := Lib.hid hT
    clear hT
    by_cases hjn : j < n
    · have dj : decide ((j : Int) < (n : Int)) = true := decide_eq_true (by omega)
      have hI : I64 (j : Int) := by unfold I64; omega
      have hlf : ∀ W, (leaf 0 (j : Int) ByteArray.empty : LT).In q W := fun W => leafIn' (i64_lit _ (by omega)) hI (by unfold maxLen; decide)
      obtain ⟨E, hE⟩ : ∃ z, z = wholeE m (bt l) (leaf 0 (j : Int) ByteArray.empty : LT).bare := ⟨_, rfl⟩
      have HLF := Lib.hid hlf
      have HE := Lib.hid hE
      clear hlf hE
      go_wp2_with (first
        | (go_at_call 105; have HT4 := HT4; refine (whole105 (t := leaf 0 (j : Int) ByteArray.empty) (HD0.out.turned0 HT4.out) (HLF.out _)).mono ?_; rintro e w6 ⟨v, rfl, hvb, hvi, T6⟩; rw [← HE.out]; have HUV := Lib.hid (HUB.out.trans hvb.symm); have HIv := Lib.hid (fun W (T : Turned (fun _ => False) (w6.alloc (.cells #[.int .i64 v.kind, .int .i64 v.n, .string v.name, .slice v.at_.1 v.args.length v.at_.2] 41)) W) => ((hvi.mono (q := fun _ => True) (fun _ _ _ => trivial)).turned0 (((Turned.refl (fun _ => False) w6).alloc (.cells #[.int .i64 v.kind, .int .i64 v.n, .string v.name, .slice v.at_.1 v.args.length v.at_.2] 41)).trans T))); have HIu := Lib.hid (fun W (T : Turned (fun _ => False) (w6.alloc (.cells #[.int .i64 v.kind, .int .i64 v.n, .string v.name, .slice v.at_.1 v.args.length v.at_.2] 41)) W) => HUI.out.turned0 ((T6.alloc (.cells #[.int .i64 v.kind, .int .i64 v.n, .string v.name, .slice v.at_.1 v.args.length v.at_.2] 41)).trans T)); have HCu := Lib.hid (fun W (T : Turned (fun _ => False) (w6.alloc (.cells #[.int .i64 v.kind, .int .i64 v.n, .string v.name, .slice v.at_.1 v.args.length v.at_.2] 41)) W) => (((T6.alloc (.cells #[.int .i64 v.kind, .int .i64 v.n, .string v.name, .slice v.at_.1 v.args.length v.at_.2] 41)).trans T).block _ (Array.getElem?_eq_some_iff.1 HBU.out).1 (fun f => f)).trans HBU.out); have HCv := Lib.hid (fun W (T : Turned (fun _ => False) (w6.alloc (.cells #[.int .i64 v.kind, .int .i64 v.n, .string v.name, .slice v.at_.1 v.args.length v.at_.2] 41)) W) => (T.block _ (Array.getElem?_eq_some_iff.1 (heap_alloc_new w6 (.cells #[.int .i64 v.kind, .int .i64 v.n, .string v.name, .slice v.at_.1 v.args.length v.at_.2] 41))).1 (fun f => f)).trans (heap_alloc_new w6 (.cells #[.int .i64 v.kind, .int .i64 v.n, .string v.name, .slice v.at_.1 v.args.length v.at_.2] 41))); have HT6 := Lib.hid (HT4.out.trans (T6.alloc (.cells #[.int .i64 v.kind, .int .i64 v.n, .string v.name, .slice v.at_.1 v.args.length v.at_.2] 41))); clear hvb hvi T6)
        | (go_at_call 89; have T3 := T3; refine (wholeVal (t := leaf 0 (j : Int) ByteArray.empty) (HB0.out.turned0 (HT.out.trans T3)) (HLF.out _) (leaf_slim _ _ _) HE.out.symm).mono ?_; rintro e w4 ⟨u, rfl, hub, hui, T4⟩; have T4A := T4.alloc (.cells #[.int .i64 u.kind, .int .i64 u.n, .string u.name, .slice u.at_.1 u.args.length u.at_.2] 27); have HUB := Lib.hid hub; have HSu := Lib.hid (wholeSlim HOK.out hub); have HUI := Lib.hid ((hui.mono (q := fun _ => True) (fun _ _ _ => trivial)).turned0 ((Turned.refl (fun _ => False) w4).alloc (.cells #[.int .i64 u.kind, .int .i64 u.n, .string u.name, .slice u.at_.1 u.args.length u.at_.2] 27))); have HBU := Lib.hid (heap_alloc_new w4 (.cells #[.int .i64 u.kind, .int .i64 u.n, .string u.name, .slice u.at_.1 u.args.length u.at_.2] 27)); have HT4 := Lib.hid ((HT.out.trans T3).trans T4A); clear hub hui T4 T4A)
        | (go_at_call 62; refine (varV (j : Int) hI _).mono ?_; rintro e w3 ⟨rfl, _, T3⟩))
      refine wp_region_ssa' (G := (fun dd vv W => (match dd with | 31 => vv = .int .i64 E | 32 => vv = .int .i64 E | 33 => vv = .bool false | 34 => vv = .bool false | 35 => vv = .agg #[.int .i64 u.kind, .int .i64 u.n, .string u.name, .slice u.at_.1 u.args.length u.at_.2] | 37 => vv = .agg #[.int .i64 v.kind, .int .i64 v.n, .string v.name, .slice v.at_.1 v.args.length v.at_.2] | 38 => vv = .bool true | 39 => vv = .bool false | 40 => vv = .bool false | 36 => AlkO u.bare (vv) W | _ => True : Prop))) [31, 32, 33, 34, 35, 36, 37, 38, 39, 40] (by kernel_rfl) rfl (by kernel_rfl) ?hG ?hs ?hQ
      case hG =>
        intro d vv W W2 T h
        split at h <;> first
          | exact h
          | (obtain ⟨x, x1, x2, x3⟩ := h; exact ⟨x, x1, x2.turned0 T, x3⟩)
      case hs =>
        refine ⟨?s0, ?s1, ?s2, ?s3, ?s4, ?s5, ?s6, ?s7, ?s8, ?s9, trivial⟩
        case s0 =>
          refine stepOk_free [] [9] (by kernel_rfl) rfl ?_
          intro ac W hT hI hO
          have h9 : ac.tmps.getD 9 undef = .int .i64 E := hO 9 (by simp)
          show Brings Try.prog (fun vv w' => Turned (fun _ => False) W w' ∧ vv = .int .i64 E) _
          simp only [execOp, Act.eval, h9]
          go_simp
          try exact ⟨Turned.refl _ _, rfl⟩
        case s1 =>
          refine stepOk_free [] [11] (by kernel_rfl) rfl ?_
          intro ac W hT hI hO
          have h11 : ac.tmps.getD 11 undef = .int .i64 E := hO 11 (by simp)
          show Brings Try.prog (fun vv w' => Turned (fun _ => False) W w' ∧ vv = .int .i64 E) _
          simp only [execOp, Act.eval, h11]
          go_simp
          try exact ⟨Turned.refl _ _, rfl⟩
        case s2 =>
          refine stepOk_free [31, 32] [] (by kernel_rfl) rfl ?_
          intro ac W hT hI hO
          have h31 : ac.tmps.getD 31 undef = .int .i64 E := hI 31 (by simp)
          have h32 : ac.tmps.getD 32 undef = .int .i64 E := hI 32 (by simp)
          show Brings Try.prog (fun vv w' => Turned (fun _ => False) W w' ∧ vv = .bool false) _
          simp only [execOp, Act.eval, h31, h32]
          go_simp
          try exact ⟨Turned.refl _ _, rfl⟩
        case s3 =>
          refine stepOk_free [33] [] (by kernel_rfl) rfl ?_
          intro ac W hT hI hO
          have h33 : ac.tmps.getD 33 undef = .bool false := hI 33 (by simp)
          show Brings Try.prog (fun vv w' => Turned (fun _ => False) W w' ∧ vv = .bool false) _
          simp only [execOp, Act.eval, h33]
          go_simp
          try exact ⟨Turned.refl _ _, rfl⟩
        case s4 =>
          refine stepOk_guard [34] [8] (by kernel_rfl) 3 false 34 rfl rfl (by simp) true false (fun _ _ h => h) (fun hc => ?_) (fun hc => by cases hc)
          intro ac W hT hI hO
          have h8 : ac.tmps.getD 8 undef = .pointer (some ⟨w4.heap.size, 0, none⟩) := hO 8 (by simp)
          show Brings Try.prog (fun vv w' => Turned (fun _ => False) W w' ∧ vv = .agg #[.int .i64 u.kind, .int .i64 u.n, .string u.name, .slice u.at_.1 u.args.length u.at_.2]) _
          obtain ⟨c0, c1, c2, c3, _⟩ := cells4 (HCu.out W hT)
          simp only [execOp, Act.eval, h8]
          go_simp
          try exact ⟨Turned.refl _ _, rfl⟩
        case s5 =>
          refine stepOk_guard [35, 34] [] (by kernel_rfl) 3 false 34 rfl rfl (by simp) true false (fun _ _ h => h) (fun hc => ?_) (fun hc => by cases hc)
          intro ac W hT hI hO
          have h35 : ac.tmps.getD 35 undef = .agg #[.int .i64 u.kind, .int .i64 u.n, .string u.name, .slice u.at_.1 u.args.length u.at_.2] := hI 35 (by simp)
          show Brings Try.prog (fun vv w' => Turned (fun _ => False) W w' ∧ AlkO u.bare (vv) w') _
          simp only [execOp, Act.eval, h35]
          go_simp
          show Calls Try.prog 114 _ W _
          refine (alkOwn118 (HIu.out W hT) HSu.out).mono ?_
          rintro e w' ⟨o, rfl, h1, h2, h3⟩
          exact ⟨_, rfl, h3, o, rfl, h2, h1⟩
        case s6 =>
          refine stepOk_guard [34] [10] (by kernel_rfl) 3 false 34 rfl rfl (by simp) true false (fun _ _ h => h) (fun hc => ?_) (fun hc => by cases hc)
          intro ac W hT hI hO
          have h10 : ac.tmps.getD 10 undef = .pointer (some ⟨w6.heap.size, 0, none⟩) := hO 10 (by simp)
          show Brings Try.prog (fun vv w' => Turned (fun _ => False) W w' ∧ vv = .agg #[.int .i64 v.kind, .int .i64 v.n, .string v.name, .slice v.at_.1 v.args.length v.at_.2]) _
          obtain ⟨c0, c1, c2, c3, _⟩ := cells4 (HCv.out W hT)
          simp only [execOp, Act.eval, h10]
          go_simp
          try exact ⟨Turned.refl _ _, rfl⟩
        case s7 =>
          refine stepOk_guard [36, 37, 34] [] (by kernel_rfl) 3 false 34 rfl rfl (by simp) true false (fun _ _ h => h) (fun hc => ?_) (fun hc => by cases hc)
          intro ac W hT hI hO
          have h36 := hI 36 (by simp)
          obtain ⟨o36, h36, x36, y36⟩ : AlkO u.bare (ac.tmps.getD 36 undef) W := h36
          have h37 : ac.tmps.getD 37 undef = .agg #[.int .i64 v.kind, .int .i64 v.n, .string v.name, .slice v.at_.1 v.args.length v.at_.2] := hI 37 (by simp)
          show Brings Try.prog (fun vv w' => Turned (fun _ => False) W w' ∧ vv = .bool true) _
          simp only [execOp, Act.eval, h36, h37]
          go_simp
          show Calls Try.prog 48 _ W _
          (with_reducible refine (alkSame x36 (HIv.out W hT) (y36.trans HUV.out)).mono ?_)
          rintro e w' ⟨rfl, T'⟩
          exact ⟨_, rfl, T', rfl⟩
        case s8 =>
          refine stepOk_guard [38, 34] [] (by kernel_rfl) 3 false 34 rfl rfl (by simp) true false (fun _ _ h => h) (fun hc => ?_) (fun hc => by cases hc)
          intro ac W hT hI hO
          have h38 : ac.tmps.getD 38 undef = .bool true := hI 38 (by simp)
          show Brings Try.prog (fun vv w' => Turned (fun _ => False) W w' ∧ vv = .bool false) _
          simp only [execOp, Act.eval, h38]
          go_simp
          try exact ⟨Turned.refl _ _, rfl⟩
        case s9 =>
          refine stepOk_free [34, 39] [] (by kernel_rfl) rfl ?_
          intro ac W hT hI hO
          have h34 : ac.tmps.getD 34 undef = .bool false := hI 34 (by simp)
          have h39 : ac.tmps.getD 39 undef = .bool false := hI 39 (by simp)
          show Brings Try.prog (fun vv w' => Turned (fun _ => False) W w' ∧ vv = .bool false) _
          simp only [execOp, Act.eval, h34, h39]
          go_simp
          try exact ⟨Turned.refl _ _, rfl⟩
      case hQ =>
        intro vs w10 T10 hV
        have q40 : vs 40 = .bool false := hV 40 (by simp)
        simp only [List.foldl_cons, List.foldl_nil, List.setIfInBounds_toArray, List.set_cons_zero, List.set_cons_succ, q40]
        have HT10 := Lib.hid (HT6.out.trans T10)
        clear hV q40 T10
        go_wp2_with fail
        go_roundg (gk - 1)
        case measure => have := HG.out; omega
        case rel => exact ⟨j + 1, show _ = _ by have := HG.out; omega, by omega, by go_num, HT10.out⟩
    · have dj : decide ((j : Int) < (n : Int)) = false := decide_eq_false (by omega)
      have HTT := HT
      obtain ⟨ta, ia, ra, tc, ic, rc, us, is, D0, R, hlu, hli, hO⟩ := (HD0.out.turned0 HT.out).parts
      rw [bt_length] at D0
      have HDB := Lib.hid (fun W (T : Turned (fun _ => False) wr W) => (D0.turned0 T).b)
      have HB := Lib.hid (HB0.out.turned0 HT.out)
      clear D0 R hO
      go_wp2_with fail
      refine wp_region_ssa' (G := (fun dd vv W => (match dd with | 41 => vv = .pointer (some ⟨bb, 0, none⟩) | 42 => vv = .int .i64 (l.length : Int) | 43 => vv = .pointer (some ⟨wb, 0, none⟩) | 44 => vv = .pointer (some ⟨wb, 0, none⟩) | 45 => vv = .pointer (some ⟨wb, 2, none⟩) | 46 => vv = .slice ra l.length rc | 47 => vv = .int .i64 (l.length : Int) | 48 => vv = .bool true | 49 => vv = .bool true | 50 => vv = .pointer (some ⟨bb, 0, none⟩) | 51 => vv = .int .i64 (m : Int) | 52 => vv = .pointer (some ⟨wb, 0, none⟩) | 53 => vv = .pointer (some ⟨wb, 0, none⟩) | 54 => vv = .pointer (some ⟨wb, 0, none⟩) | 55 => vv = .slice ta m tc | 56 => vv = .int .i64 (m : Int) | 57 => vv = .bool true | 58 => vv = .bool true | 6 => vv = .bool true  | _ => True : Prop))) [41, 42, 43, 44, 45, 46, 47, 48, 49, 50, 51, 52, 53, 54, 55, 56, 57, 58, 6] (by kernel_rfl) rfl (by kernel_rfl) ?hG ?hs ?hQ
      case hG => exact fun d v _ _ _ h => h
      case hs =>
        refine ⟨?s0, ?s1, ?s2, ?s3, ?s4, ?s5, ?s6, ?s7, ?s8, ?s9, ?s10, ?s11, ?s12, ?s13, ?s14, ?s15, ?s16, ?s17, ?s18, trivial⟩
        case s0 =>
          refine stepOk_free [] [0] (by kernel_rfl) rfl ?_
          intro ac W hT hI hO
          have h0 : ac.tmps.getD 0 undef = .pointer (some ⟨bb, 0, none⟩) := hO 0 (by simp)
          show Brings Try.prog (fun vv w' => Turned (fun _ => False) W w' ∧ vv = .pointer (some ⟨bb, 0, none⟩)) _
          simp only [execOp, Act.eval, h0]
          go_simp
          try exact ⟨Turned.refl _ _, rfl⟩
        case s1 =>
          refine stepOk_free [41] [] (by kernel_rfl) rfl ?_
          intro ac W hT hI hO
          have h41 : ac.tmps.getD 41 undef = .pointer (some ⟨bb, 0, none⟩) := hI 41 (by simp)
          show Brings Try.prog (fun vv w' => Turned (fun _ => False) W w' ∧ vv = .int .i64 (l.length : Int)) _
          simp only [execOp, Act.eval, h41]
          go_simp
          show Calls Try.prog 111 _ W _
          (with_reducible refine (markO111 (HB.out.turned0 hT)).mono ?_)
          rintro e w' ⟨rfl, T'⟩
          exact ⟨_, rfl, T', rfl⟩
        case s2 =>
          refine stepOk_free [] [1] (by kernel_rfl) rfl ?_
          intro ac W hT hI hO
          have h1 : ac.tmps.getD 1 undef = .pointer (some ⟨wb, 0, none⟩) := hO 1 (by simp)
          show Brings Try.prog (fun vv w' => Turned (fun _ => False) W w' ∧ vv = .pointer (some ⟨wb, 0, none⟩)) _
          simp only [execOp, Act.eval, h1]
          go_simp
          try exact ⟨Turned.refl _ _, rfl⟩
        case s3 =>
          refine stepOk_free [43] [] (by kernel_rfl) rfl ?_
          intro ac W hT hI hO
          have h43 : ac.tmps.getD 43 undef = .pointer (some ⟨wb, 0, none⟩) := hI 43 (by simp)
          show Brings Try.prog (fun vv w' => Turned (fun _ => False) W w' ∧ vv = .pointer (some ⟨wb, 0, none⟩)) _
          simp only [execOp, Act.eval, h43]
          go_simp
          try exact ⟨Turned.refl _ _, rfl⟩
        case s4 =>
          refine stepOk_free [44] [] (by kernel_rfl) rfl ?_
          intro ac W hT hI hO
          have h44 : ac.tmps.getD 44 undef = .pointer (some ⟨wb, 0, none⟩) := hI 44 (by simp)
          show Brings Try.prog (fun vv w' => Turned (fun _ => False) W w' ∧ vv = .pointer (some ⟨wb, 2, none⟩)) _
          simp only [execOp, Act.eval, h44]
          go_simp
          try exact ⟨Turned.refl _ _, rfl⟩
        case s5 =>
          refine stepOk_free [45] [] (by kernel_rfl) rfl ?_
          intro ac W hT hI hO
          have h45 : ac.tmps.getD 45 undef = .pointer (some ⟨wb, 2, none⟩) := hI 45 (by simp)
          show Brings Try.prog (fun vv w' => Turned (fun _ => False) W w' ∧ vv = .slice ra l.length rc) _
          obtain ⟨b0, b1, b2, _⟩ := rec3b (HDB.out W hT)
          simp only [execOp, Act.eval, h45]
          go_simp
          try exact ⟨Turned.refl _ _, rfl⟩
        case s6 =>
          refine stepOk_free [46] [] (by kernel_rfl) rfl ?_
          intro ac W hT hI hO
          have h46 : ac.tmps.getD 46 undef = .slice ra l.length rc := hI 46 (by simp)
          show Brings Try.prog (fun vv w' => Turned (fun _ => False) W w' ∧ vv = .int .i64 (l.length : Int)) _
          simp only [execOp, Act.eval, h46]
          go_simp
          try exact ⟨Turned.refl _ _, rfl⟩
        case s7 =>
          refine stepOk_free [42, 47] [] (by kernel_rfl) rfl ?_
          intro ac W hT hI hO
          have h42 : ac.tmps.getD 42 undef = .int .i64 (l.length : Int) := hI 42 (by simp)
          have h47 : ac.tmps.getD 47 undef = .int .i64 (l.length : Int) := hI 47 (by simp)
          show Brings Try.prog (fun vv w' => Turned (fun _ => False) W w' ∧ vv = .bool true) _
          simp only [execOp, Act.eval, h42, h47]
          go_simp
          try exact ⟨Turned.refl _ _, rfl⟩
        case s8 =>
          refine stepOk_free [48] [] (by kernel_rfl) rfl ?_
          intro ac W hT hI hO
          have h48 : ac.tmps.getD 48 undef = .bool true := hI 48 (by simp)
          show Brings Try.prog (fun vv w' => Turned (fun _ => False) W w' ∧ vv = .bool true) _
          simp only [execOp, Act.eval, h48]
          go_simp
          try exact ⟨Turned.refl _ _, rfl⟩
        case s9 =>
          refine stepOk_guard [49] [0] (by kernel_rfl) 8 true 49 rfl rfl (by simp) true true (fun _ _ h => h) (fun hc => ?_) (fun hc => by cases hc)
          intro ac W hT hI hO
          have h0 : ac.tmps.getD 0 undef = .pointer (some ⟨bb, 0, none⟩) := hO 0 (by simp)
          show Brings Try.prog (fun vv w' => Turned (fun _ => False) W w' ∧ vv = .pointer (some ⟨bb, 0, none⟩)) _
          simp only [execOp, Act.eval, h0]
          go_simp
          try exact ⟨Turned.refl _ _, rfl⟩
        case s10 =>
          refine stepOk_guard [50, 49] [] (by kernel_rfl) 8 true 49 rfl rfl (by simp) true true (fun _ _ h => h) (fun hc => ?_) (fun hc => by cases hc)
          intro ac W hT hI hO
          have h50 : ac.tmps.getD 50 undef = .pointer (some ⟨bb, 0, none⟩) := hI 50 (by simp)
          show Brings Try.prog (fun vv w' => Turned (fun _ => False) W w' ∧ vv = .int .i64 (m : Int)) _
          simp only [execOp, Act.eval, h50]
          go_simp
          show Calls Try.prog 107 _ W _
          (with_reducible refine (lenO107 (HB.out.turned0 hT)).mono ?_)
          rintro e w' ⟨rfl, T'⟩
          exact ⟨_, rfl, T', rfl⟩
        case s11 =>
          refine stepOk_guard [49] [1] (by kernel_rfl) 8 true 49 rfl rfl (by simp) true true (fun _ _ h => h) (fun hc => ?_) (fun hc => by cases hc)
          intro ac W hT hI hO
          have h1 : ac.tmps.getD 1 undef = .pointer (some ⟨wb, 0, none⟩) := hO 1 (by simp)
          show Brings Try.prog (fun vv w' => Turned (fun _ => False) W w' ∧ vv = .pointer (some ⟨wb, 0, none⟩)) _
          simp only [execOp, Act.eval, h1]
          go_simp
          try exact ⟨Turned.refl _ _, rfl⟩
        case s12 =>
          refine stepOk_guard [52, 49] [] (by kernel_rfl) 8 true 49 rfl rfl (by simp) true true (fun _ _ h => h) (fun hc => ?_) (fun hc => by cases hc)
          intro ac W hT hI hO
          have h52 : ac.tmps.getD 52 undef = .pointer (some ⟨wb, 0, none⟩) := hI 52 (by simp)
          show Brings Try.prog (fun vv w' => Turned (fun _ => False) W w' ∧ vv = .pointer (some ⟨wb, 0, none⟩)) _
          simp only [execOp, Act.eval, h52]
          go_simp
          try exact ⟨Turned.refl _ _, rfl⟩
        case s13 =>
          refine stepOk_guard [53, 49] [] (by kernel_rfl) 8 true 49 rfl rfl (by simp) true true (fun _ _ h => h) (fun hc => ?_) (fun hc => by cases hc)
          intro ac W hT hI hO
          have h53 : ac.tmps.getD 53 undef = .pointer (some ⟨wb, 0, none⟩) := hI 53 (by simp)
          show Brings Try.prog (fun vv w' => Turned (fun _ => False) W w' ∧ vv = .pointer (some ⟨wb, 0, none⟩)) _
          simp only [execOp, Act.eval, h53]
          go_simp
          try exact ⟨Turned.refl _ _, rfl⟩
        case s14 =>
          refine stepOk_guard [54, 49] [] (by kernel_rfl) 8 true 49 rfl rfl (by simp) true true (fun _ _ h => h) (fun hc => ?_) (fun hc => by cases hc)
          intro ac W hT hI hO
          have h54 : ac.tmps.getD 54 undef = .pointer (some ⟨wb, 0, none⟩) := hI 54 (by simp)
          show Brings Try.prog (fun vv w' => Turned (fun _ => False) W w' ∧ vv = .slice ta m tc) _
          obtain ⟨b0, b1, b2, _⟩ := rec3b (HDB.out W hT)
          simp only [execOp, Act.eval, h54]
          go_simp
          try exact ⟨Turned.refl _ _, rfl⟩
        case s15 =>
          refine stepOk_guard [55, 49] [] (by kernel_rfl) 8 true 49 rfl rfl (by simp) true true (fun _ _ h => h) (fun hc => ?_) (fun hc => by cases hc)
          intro ac W hT hI hO
          have h55 : ac.tmps.getD 55 undef = .slice ta m tc := hI 55 (by simp)
          show Brings Try.prog (fun vv w' => Turned (fun _ => False) W w' ∧ vv = .int .i64 (m : Int)) _
          simp only [execOp, Act.eval, h55]
          go_simp
          try exact ⟨Turned.refl _ _, rfl⟩
        case s16 =>
          refine stepOk_guard [51, 56, 49] [] (by kernel_rfl) 8 true 49 rfl rfl (by simp) true true (fun _ _ h => h) (fun hc => ?_) (fun hc => by cases hc)
          intro ac W hT hI hO
          have h51 : ac.tmps.getD 51 undef = .int .i64 (m : Int) := hI 51 (by simp)
          have h56 : ac.tmps.getD 56 undef = .int .i64 (m : Int) := hI 56 (by simp)
          show Brings Try.prog (fun vv w' => Turned (fun _ => False) W w' ∧ vv = .bool true) _
          simp only [execOp, Act.eval, h51, h56]
          go_simp
          try exact ⟨Turned.refl _ _, rfl⟩
        case s17 =>
          refine stepOk_free [49, 57] [] (by kernel_rfl) rfl ?_
          intro ac W hT hI hO
          have h49 : ac.tmps.getD 49 undef = .bool true := hI 49 (by simp)
          have h57 : ac.tmps.getD 57 undef = .bool true := hI 57 (by simp)
          show Brings Try.prog (fun vv w' => Turned (fun _ => False) W w' ∧ vv = .bool true) _
          simp only [execOp, Act.eval, h49, h57]
          go_simp
          try exact ⟨Turned.refl _ _, rfl⟩
        case s18 =>
          refine stepOk_free [58] [] (by kernel_rfl) rfl ?_
          intro ac W hT hI hO
          have h58 : ac.tmps.getD 58 undef = .bool true := hI 58 (by simp)
          show Brings Try.prog (fun vv w' => Turned (fun _ => False) W w' ∧ vv = .bool true) _
          simp only [execOp, Act.eval, h58]
          go_simp
          try exact ⟨Turned.refl _ _, rfl⟩
      case hQ =>
        intro vs w10 T10 hV
        have q6 : vs 6 = .bool true := hV 6 (by simp)
        simp only [List.foldl_cons, List.foldl_nil, List.setIfInBounds_toArray, List.set_cons_zero, List.set_cons_succ, q6]
        have HT10 := Lib.hid (HTT.out.trans T10)
        clear hV q6 T10
        go_wp2_with fail
        go_ret
        exact ⟨rfl, HT10.out⟩
end Go.Proofs.Ytoihjobdfjajfaa
namespace Go.Proofs.Ytoihjobdfjajfaa
set_option linter.unusedVariables false
set_option linter.unusedSimpArgs false
open Go.RowKit
theorem flat4_at {α : Type} (f : α → List Value) (hf : ∀ x, (f x).length = 4) {l : List α} {i : Nat} {x : α} (h : l[i]? = some x) (j : Nat) (hj : j < 4) : (l.flatMap f)[i * 4 + j]? = (f x)[j]? := by
  induction l generalizing i with
  | nil => simp at h
  | cons y l ih =>
    rw [List.flatMap_cons]
    cases i with
    | zero =>
      simp at h; subst h
      rw [List.getElem?_append_left (by rw [hf]; omega), Nat.zero_mul, Nat.zero_add]
    | succ i =>
      simp at h
      rw [List.getElem?_append_right (by rw [hf]; omega), hf]
      have : (i + 1) * 4 + j - 4 = i * 4 + j := by omega
      rw [this]
      exact ih h
def Key.cells (k : Key) : List Value := [.int .i64 k.kind, .int .i64 k.n, .string k.name, .int .i64 k.arity]
structure KSl (w : World) (a : Option Addr) (c : Nat) (ks : List Key) : Prop where
  none_ : a = none → ks.length = 0 ∧ c = 0
  lies : 0 < ks.length → ∃ b o, a = some ⟨b, o, none⟩ ∧ ∀ j u, (ks.flatMap Key.cells)[j]? = some u → w.cell? ⟨b, o + j, none⟩ = some u
  cap : ks.length ≤ c
  max : c ≤ 9223372036854775807
theorem KSl.turned {S : Nat → Prop} {w w' : World} {a : Option Addr} {c : Nat} {ks : List Key} (h : KSl w a c ks) (ht : Turned S w w') (hS : ∀ b o, a = some ⟨b, o, none⟩ → ¬ S b) : KSl w' a c ks := by
  refine ⟨h.none_, fun hp => ?_, h.cap, h.max⟩
  obtain ⟨b, o, he, hc⟩ := h.lies hp
  exact ⟨b, o, he, fun j u hu => ht.cell (hc j u hu) (hS b o he)⟩
theorem KSl.turned0 {w w' : World} {a : Option Addr} {c : Nat} {ks : List Key} (h : KSl w a c ks) (ht : Turned (fun _ => False) w w') : KSl w' a c ks := h.turned ht (fun _ _ _ f => f)
theorem KSl.at {w : World} {b o c : Nat} {ks : List Key} (h : KSl w (some ⟨b, o, none⟩) c ks) {i : Nat} {x : Key} (hi : ks[i]? = some x) :
    w.cell? ⟨b, o + i * 4, none⟩ = some (.int .i64 x.kind) ∧ w.cell? ⟨b, o + i * 4 + 1, none⟩ = some (.int .i64 x.n) ∧ w.cell? ⟨b, o + i * 4 + 2, none⟩ = some (.string x.name) ∧ w.cell? ⟨b, o + i * 4 + 3, none⟩ = some (.int .i64 x.arity) := by
  obtain ⟨b', o', e, hc⟩ := h.lies (by have := (List.getElem?_eq_some_iff.1 hi).1; omega)
  injection e with e
  injection e with e1 e2
  subst e1 e2
  have hf : ∀ x : Key, x.cells.length = 4 := fun _ => rfl
  refine ⟨hc _ _ ?_, ?_, ?_, ?_⟩
  rotate_left
  all_goals try (rw [Nat.add_assoc]; refine hc _ _ ?_)
  rotate_right
  · have := flat4_at Key.cells hf hi 0 (by omega); rw [Nat.add_zero] at this; rw [this]; rfl
  · rw [flat4_at Key.cells hf hi 1 (by omega)]; rfl
  · rw [flat4_at Key.cells hf hi 2 (by omega)]; rfl
  · rw [flat4_at Key.cells hf hi 3 (by omega)]; rfl
end Go.Proofs.Ytoihjobdfjajfaa
namespace Go.Proofs.Ytoihjobdfjajfaa
set_option linter.unusedVariables false
set_option linter.unusedSimpArgs false
open Go.RowKit Go.Maps
attribute [local go_sem ↓] Go.wp_at_zero Go.wp_at_succ
structure IdxIn (xb mb : Nat) (v : Value) (ks : List Key) (gone : List Int) (w : World) : Prop where
  blk : w.heap[xb]? = some (.cells #[v, .map (some mb)] 147 (0, 0))
  row : Row w 35 4 v ks.length (ks.flatMap Key.cells)
  map : IMap Try.prog 3 w mb gone.length (inSet gone)
  apart : v.ownBlock ≠ some xb
def MineX (xb mb : Nat) (v : Value) (k : Nat) : Prop := k = xb ∨ k = mb ∨ v.ownBlock = some k
section
variable {xb mb : Nat} {v : Value} {ks : List Key} {gone : List Int} {w w' : World}
theorem IdxIn.ne (h : IdxIn xb mb v ks gone w) : mb ≠ xb ∧ v.ownBlock ≠ some mb := by
  obtain ⟨D, ⟨es, clock, hb, _⟩, _⟩ := h.map
  refine ⟨fun e => ?_, fun e => ?_⟩
  · subst e; rw [h.blk] at hb; cases hb
  · rcases h.row.2 with ⟨rfl, _⟩ | ⟨g, cap, cur, rfl, hg, _⟩
    · simp [Value.ownBlock] at e
    · simp [Value.ownBlock] at e; subst e; rw [hg] at hb; cases hb
theorem IdxIn.lt (h : IdxIn xb mb v ks gone w) : ∀ k, MineX xb mb v k → k < w.heap.size := by
  rintro k (rfl | rfl | hk)
  · exact (Array.getElem?_eq_some_iff.1 h.blk).1
  · exact h.map.lt
  · exact h.row.lt k hk
theorem IdxIn.turned {S : Nat → Prop} (h : IdxIn xb mb v ks gone w) (ht : Turned S w w') (hS : ∀ k, k < w.heap.size → S k → ¬ MineX xb mb v k) : IdxIn xb mb v ks gone w' :=
  ⟨(ht.block xb (h.lt xb (.inl rfl)) (fun s => hS _ (h.lt xb (.inl rfl)) s (.inl rfl))).trans h.blk, h.row.turned ht (fun k e s => hS k (h.lt k (.inr (.inr e))) s (.inr (.inr e))),
    h.map.turned ht (fun s => hS _ (h.lt mb (.inr (.inl rfl))) s (.inr (.inl rfl))), h.apart⟩
theorem IdxIn.turned0 (h : IdxIn xb mb v ks gone w) (ht : Turned (fun _ => False) w w') : IdxIn xb mb v ks gone w' := h.turned ht (fun _ _ f => False.elim f)
end
theorem Key.cells_one (k : Key) : ∀ u ∈ k.cells, u.oneCell' = true := by
  intro u hu
  simp only [Key.cells, List.mem_cons, List.not_mem_nil, or_false] at hu
  rcases hu with rfl | rfl | rfl | rfl <;> rfl
end Go.Proofs.Ytoihjobdfjajfaa
namespace Go.Proofs.Ytoihjobdfjajfaa
set_option linter.unusedVariables false
set_option linter.unusedSimpArgs false
open Go.RowKit Go.Maps
attribute [local go_sem ↓] Go.wp_at_zero Go.wp_at_succ
structure ISl (w : World) (a : Option Addr) (c : Nat) (xs : List Int) : Prop where
  none_ : a = none → xs.length = 0 ∧ c = 0
  lies : 0 < xs.length → ∃ b o, a = some ⟨b, o, none⟩ ∧ ∀ (j : Nat) x, xs[j]? = some x → w.cell? ⟨b, o + j, none⟩ = some (.int .i64 x)
  cap : xs.length ≤ c
  max : c ≤ 9223372036854775807
  wf : ∀ x ∈ xs, I64 x
theorem ISl.turned0 {w w' : World} {a : Option Addr} {c : Nat} {xs : List Int} (h : ISl w a c xs) (ht : Turned (fun _ => False) w w') : ISl w' a c xs := by
  refine ⟨h.none_, fun hp => ?_, h.cap, h.max, h.wf⟩
  obtain ⟨b, o, he, hc⟩ := h.lies hp
  exact ⟨b, o, he, fun j u hu => ht.cell (hc j u hu) (fun f => f)⟩
theorem ISl.at {w : World} {b o c : Nat} {xs : List Int} (h : ISl w (some ⟨b, o, none⟩) c xs) {i : Nat} {x : Int} (hi : xs[i]? = some x) : w.cell? ⟨b, o + i, none⟩ = some (.int .i64 x) := by
  obtain ⟨b', o', e, hc⟩ := h.lies (by have := (List.getElem?_eq_some_iff.1 hi).1; omega)
  injection e with e
  injection e with e1 e2
  subst e1 e2
  exact hc _ _ hi
def BIn (lb n : Nat) (f : Nat → Bool) (w : World) : Prop := w.heap[lb]? = some (.cells ((List.range n).map fun i => Value.bool (f i)).toArray 4 (0, 0))
section
variable {lb n : Nat} {f : Nat → Bool} {w w' : World}
theorem BIn.cell (h : BIn lb n f w) {j : Nat} (hj : j < n) : w.cell? ⟨lb, j, none⟩ = some (.bool (f j)) := by
  have c := cell_of_row w lb j _ 4 (0, 0) h
  rw [c]
  simp [hj]
theorem BIn.free (h : BIn lb n f w) (j : Nat) : w.frozen? ⟨lb, j, none⟩ = false := frozen_of_row w lb j _ 4 h
theorem BIn.congr (h : BIn lb n f w) {g : Nat → Bool} (e : ∀ i, i < n → f i = g i) : BIn lb n g w := by
  unfold BIn at h ⊢
  rw [h]
  congr 2
  congr 1
  exact List.map_congr_left fun i hi => by rw [e i (List.mem_range.1 hi)]
theorem BIn.turned {S : Nat → Prop} (h : BIn lb n f w) (ht : Turned S w w') (hS : ¬ S lb) : BIn lb n f w' := (ht.block lb (Array.getElem?_eq_some_iff.1 h).1 hS).trans h
theorem BIn.lt (h : BIn lb n f w) : lb < w.heap.size := (Array.getElem?_eq_some_iff.1 h).1
theorem BIn.set (h : BIn lb n f w) {j : Nat} (hj : j < n) (b : Bool) : BIn lb n (fun i => if i = j then b else f i) (w.setCell ⟨lb, j, none⟩ (.bool b)) := by
  have c := heap_setCell_same w lb j _ 4 (.bool b) h
  unfold BIn
  rw [c]
  congr 2
  apply Array.ext
  · simp
  · intro i h1 h2
    by_cases e : i = j
    · subst e; simp
    · simp [List.getElem_set, e, fun e' : j = i => e e'.symm]
      intro e'; exact absurd e'.symm e
theorem BIn.made (w : World) (n : Nat) : BIn w.heap.size n (fun _ => false) (w.alloc (.cells (madeCells #[.bool false] n) 4)) := by
  have := heap_alloc_new w (.cells (madeCells #[.bool false] n) 4)
  unfold BIn
  rw [this]
  congr 2
  apply Array.toList_inj.1
  rw [toList_madeCells_one, List.map_const', List.length_range]
end
structure AllIn (w0 : World) (xb mb lb n : Nat) (v : Value) (ks : List Key) (gone : List Int) (f : Nat → Bool) (w : World) : Prop where
  idx : IdxIn xb mb v ks gone w
  bools : BIn lb n f w
  apart : ∀ k, MineX xb mb v k → k ≠ lb ∧ w0.heap.size ≤ k
  lbge : w0.heap.size ≤ lb
  turned : Turned (fun _ => False) w0 w
section
variable {w0 : World} {xb mb lb n : Nat} {v v' : Value} {ks ks' : List Key} {gone gone' : List Int} {f : Nat → Bool} {w w' : World}
theorem AllIn.turned0 (h : AllIn w0 xb mb lb n v ks gone f w) (ht : Turned (fun _ => False) w w') : AllIn w0 xb mb lb n v ks gone f w' :=
  ⟨h.idx.turned0 ht, h.bools.turned ht (fun f => f), h.apart, h.lbge, h.turned.trans ht⟩
theorem AllIn.congr (h : AllIn w0 xb mb lb n v ks gone f w) {g : Nat → Bool} (e : ∀ i, i < n → f i = g i) : AllIn w0 xb mb lb n v ks gone g w := ⟨h.idx, h.bools.congr e, h.apart, h.lbge, h.turned⟩
end
end Go.Proofs.Ytoihjobdfjajfaa
namespace Go.Proofs.Ytoihjobdfjajfaa
open Go.Joins Go.Deep Go.ChangeShapes Go.WideShapes Go.ChangeAt Go.RowKit
set_option linter.unusedVariables false
set_option linter.unusedSimpArgs false
theorem cellsOf27 : Try.prog.cellsOf 27 = 4 := by kernel_rfl
theorem cellsOf22 : Try.prog.cellsOf 22 = 1 := by kernel_rfl
theorem cellsOf3 : Try.prog.cellsOf 3 = 1 := by kernel_rfl
theorem cellsOf2 : Try.prog.cellsOf 2 = 1 := by kernel_rfl
theorem cellsOf9 : Try.prog.cellsOf 9 = 1 := by kernel_rfl
theorem I64_of {n : Int} (h : (Lit.int .i64 n).wf = true) : I64 n := by
  unfold I64
  simp [Lit.wf] at h
  have e1 : IntKind.i64.min = -9223372036854775808 := by decide
  have e2 : IntKind.i64.max = 9223372036854775807 := by decide
  omega
section
variable {H : Type} {enc : TypeId × Value → H} {W : World} {base : Nat} {sp : Nat → Bool} {held : Bool}
theorem list4 {α : Type} {l : List α} (h : l.length = 4) : ∃ a b c d, l = [a, b, c, d] := by
  match l, h with
  | [a, b, c, d], _ => exact ⟨a, b, c, d, rfl⟩
set_option maxRecDepth 100000 in
theorem terms_of (fuel : Nat) : (∀ cs (x : DataW H × List MemPlace), DataW.trod enc Try.prog W base sp held fuel 27 cs = some x → ∃ t : LT, cs = t.cells ∧ t.In (fun _ => True) W) ∧
    (∀ cs (x : DataW H × List MemPlace), DataW.trod enc Try.prog W base sp held fuel 22 cs = some x → ∃ a cap, ∃ l : List LT, cs = [.slice a l.length cap] ∧ LT.Sl (fun _ => True) W a cap l) := by
  induction fuel with
  | zero => exact ⟨fun cs x h => by simp [DataW.trod] at h, fun cs x h => by simp [DataW.trod] at h⟩
  | succ fuel ih =>
    refine ⟨fun cs x h => ?_, fun cs x h => ?_⟩
    · obtain ⟨xs, n, hn, hx, hcs, hlen, hf⟩ := DataW.trod_struct Try.underlying27 h
      have hn : fuel = n := by omega
      subst hn
      rw [cellsOf27] at hcs
      obtain ⟨u0, u1, u2, u3, rfl⟩ := list4 hcs
      obtain ⟨y0, y1, y2, y3, rfl⟩ := list4 hlen
      · · have f0 : DataW.trod enc Try.prog W base sp held fuel 3 (([u0, u1, u2, u3].drop 0).take (Try.prog.cellsOf 3)) = some y0 := hf 0 _ rfl
          have f1 : DataW.trod enc Try.prog W base sp held fuel 2 (([u0, u1, u2, u3].drop 1).take (Try.prog.cellsOf 2)) = some y1 := hf 1 _ rfl
          have f2 : DataW.trod enc Try.prog W base sp held fuel 9 (([u0, u1, u2, u3].drop 2).take (Try.prog.cellsOf 9)) = some y2 := hf 2 _ rfl
          have f3 : DataW.trod enc Try.prog W base sp held fuel 22 (([u0, u1, u2, u3].drop 3).take (Try.prog.cellsOf 22)) = some y3 := hf 3 _ rfl
          simp only [cellsOf3, cellsOf2, cellsOf9, cellsOf22] at f0 f1 f2 f3
          simp at f0 f1 f2 f3
          obtain ⟨k, e0, _, wk⟩ := DataW.trod_int Try.underlying3 f0
          obtain ⟨m, e1, _, wm⟩ := DataW.trod_int Try.underlying2 f1
          obtain ⟨s, e2, _, ws⟩ := DataW.trod_string Try.underlying9 f2
          obtain ⟨a, cap, l, e3, hl⟩ := ih.2 _ _ f3
          simp at e0 e1 e2 e3
          subst e0 e1 e2 e3
          exact ⟨.mk k m s (a, cap) l, rfl, hl.in_ (I64_of wk) (I64_of wm) ws⟩
    · rcases DataW.trod_slice Try.underlying22 h with ⟨hcs, _⟩ | ⟨ad, len, cap, elems, rest, n, hn, hcs, _, _, hl, hm, hlen, hel, _⟩
      · exact ⟨none, 0, [], hcs, ⟨fun _ => ⟨rfl, rfl⟩, fun h => by simp at h, trivial, Nat.le_refl _, by unfold maxLen; omega⟩⟩
      · have hn : fuel = n := by omega
        subst hn
        rw [cellsOf27] at hel
        have hp : ∀ i, ∃ t : LT, i < len → t.In (fun _ => True) W ∧ ∀ j, j < 4 → W.cell? (ad.add (i * 4 + j)) = t.cells[j]? := by
          intro i
          by_cases hi : i < len
          · have he := hel i hi
            rw [List.getElem?_eq_getElem (by omega)] at he
            obtain ⟨cs', hc, ht⟩ := Option.bind_eq_some_iff.1 he
            obtain ⟨t, rfl, hin⟩ := ih.1 _ _ ht
            obtain ⟨_, _, hat⟩ := World.cells?_some hc
            refine ⟨t, fun _ => ⟨hin, fun j hj => ?_⟩⟩
            rw [← hat j hj]
            congr 1
            exact (add_add ..).symm
          · exact ⟨.mk 0 0 ByteArray.empty (none, 0) [], fun h => absurd h hi⟩
        obtain ⟨f, hff⟩ := Classical.axiomOfChoice hp
        refine ⟨some ad, cap, (List.range len).map f, by simpa using hcs, ⟨(fun e => by cases e), fun hpos => ?_, (LT.ins_iff _).2 fun x hx => ?_, by simpa using hl, hm⟩⟩
        · simp at hpos
          obtain ⟨b, o, spot⟩ := ad
          have hc := (hff 0 (by omega)).2 0 (by omega)
          have hspot : spot = none := by
            rw [LT.cells_eq] at hc
            simpa [Addr.add] using World.cell?_spot hc
          subst hspot
          refine ⟨b, o, rfl, trivial, fun j u hu => ?_⟩
          have hlt := (List.getElem?_eq_some_iff.1 hu).1
          rw [LT.flat_length, List.length_map, List.length_range] at hlt
          have hi : j / 4 < len := by omega
          have hx : ((List.range len).map f)[j / 4]? = some (f (j / 4)) := by rw [List.getElem?_map, List.getElem?_range hi]; rfl
          have h4 := LT.flat_at hx (j % 4) (by omega)
          rw [show j / 4 * 4 + j % 4 = j by omega, hu] at h4
          have hc := (hff (j / 4) hi).2 (j % 4) (by omega)
          rw [show j / 4 * 4 + j % 4 = j by omega, Addr.add_lit] at hc
          rw [hc, h4]
        · obtain ⟨i, hi, rfl⟩ := List.mem_map.1 hx
          exact (hff i (by simpa using hi)).1
end
end Go.Proofs.Ytoihjobdfjajfaa
namespace Go.Proofs.Ytoihjobdfjajfaa
set_option linter.unusedVariables false
set_option linter.unusedSimpArgs false
open Go.RowKit Go.Maps
attribute [local go_sem ↓] Go.wp_at_zero Go.wp_at_succ
structure Act2 where
  op : Int
  i : Int
  k : Key
def Act2.cells (a : Act2) : List Value := [.int .i64 a.op, .int .i64 a.i, .int .i64 a.k.kind, .int .i64 a.k.n, .string a.k.name, .int .i64 a.k.arity]
structure ASl (w : World) (a : Option Addr) (c : Nat) (l : List Act2) : Prop where
  none_ : a = none → l.length = 0 ∧ c = 0
  lies : 0 < l.length → ∃ b o, a = some ⟨b, o, none⟩ ∧ ∀ (i : Nat) x, l[i]? = some x → ∀ (j : Nat) u, x.cells[j]? = some u → w.cell? ⟨b, o + (i * 6 + j), none⟩ = some u
  cap : l.length ≤ c
  max : c ≤ 9223372036854775807
  wf : ∀ x ∈ l, I64 x.i
theorem ASl.turned0 {w w' : World} {a : Option Addr} {c : Nat} {l : List Act2} (h : ASl w a c l) (ht : Turned (fun _ => False) w w') : ASl w' a c l := by
  refine ⟨h.none_, fun hp => ?_, h.cap, h.max, h.wf⟩
  obtain ⟨b, o, he, hc⟩ := h.lies hp
  exact ⟨b, o, he, fun i x hx j u hu => ht.cell (hc i x hx j u hu) (fun f => f)⟩
theorem ASl.at {w : World} {b o c : Nat} {l : List Act2} (h : ASl w (some ⟨b, o, none⟩) c l) {i : Nat} {x : Act2} (hi : l[i]? = some x) :
    w.cell? ⟨b, o + i * 6, none⟩ = some (.int .i64 x.op) ∧ w.cell? ⟨b, o + i * 6 + 1, none⟩ = some (.int .i64 x.i) ∧ w.cell? ⟨b, o + i * 6 + 2, none⟩ = some (.int .i64 x.k.kind) ∧ w.cell? ⟨b, o + i * 6 + 3, none⟩ = some (.int .i64 x.k.n) ∧ w.cell? ⟨b, o + i * 6 + 4, none⟩ = some (.string x.k.name) ∧ w.cell? ⟨b, o + i * 6 + 5, none⟩ = some (.int .i64 x.k.arity) := by
  obtain ⟨b', o', e, hc⟩ := h.lies (by have := (List.getElem?_eq_some_iff.1 hi).1; omega)
  injection e with e
  injection e with e1 e2
  subst e1 e2
  have hh := hc i x hi
  refine ⟨hh 0 _ rfl, ?_, ?_, ?_, ?_, ?_⟩
  all_goals rw [Nat.add_assoc]
  · exact hh 1 _ rfl
  · exact hh 2 _ rfl
  · exact hh 3 _ rfl
  · exact hh 4 _ rfl
  · exact hh 5 _ rfl
end Go.Proofs.Ytoihjobdfjajfaa
namespace Go.Proofs.Ytoihjobdfjajfaa
open Go.Joins Go.Deep Go.ChangeShapes Go.WideShapes Go.ChangeAt Go.RowKit
set_option linter.unusedVariables false
set_option linter.unusedSimpArgs false
theorem cellsOf129 : Try.prog.cellsOf 129 = 8 := by kernel_rfl
structure PairT where
  x : LT
  y : LT
def PairT.cells (a : PairT) : List Value := [.int .i64 a.x.kind, .int .i64 a.x.n, .string a.x.name, .slice a.x.at_.1 a.x.args.length a.x.at_.2, .int .i64 a.y.kind, .int .i64 a.y.n, .string a.y.name, .slice a.y.at_.1 a.y.args.length a.y.at_.2]
structure PASl (w : World) (a : Option Addr) (c : Nat) (l : List PairT) : Prop where
  none_ : a = none → l.length = 0 ∧ c = 0
  lies : 0 < l.length → ∃ b o, a = some ⟨b, o, none⟩ ∧ ∀ (i : Nat) x, l[i]? = some x → ∀ (j : Nat) u, x.cells[j]? = some u → w.cell? ⟨b, o + (i * 8 + j), none⟩ = some u
  cap : l.length ≤ c
  max : c ≤ 9223372036854775807
  wf : ∀ x ∈ l, x.x.In (fun _ => True) w ∧ x.y.In (fun _ => True) w
theorem PASl.turned0 {w w' : World} {a : Option Addr} {c : Nat} {l : List PairT} (h : PASl w a c l) (ht : Turned (fun _ => False) w w') : PASl w' a c l := by
  refine ⟨h.none_, fun hp => ?_, h.cap, h.max, fun x hx => ⟨(h.wf x hx).1.turned0 ht, (h.wf x hx).2.turned0 ht⟩⟩
  obtain ⟨b, o, he, hc⟩ := h.lies hp
  exact ⟨b, o, he, fun i x hx j u hu => ht.cell (hc i x hx j u hu) (fun f => f)⟩
theorem PASl.turned {w w' : World} {a : Option Addr} {c : Nat} {l : List PairT} {S : Nat → Prop} {b0 : Nat} (h : PASl w a c l) (hb : ∀ b o, a = some ⟨b, o, none⟩ → b < b0) (hin : ∀ x ∈ l, x.x.In (· < b0) w ∧ x.y.In (· < b0) w) (ht : Turned S w w') (hS : ∀ k, k < b0 → ¬ S k) : PASl w' a c l := by
  refine ⟨h.none_, fun hp => ?_, h.cap, h.max, fun x hx => ⟨LT.In.turned ht (fun k _ hk => hS k hk) (fun _ _ _ => trivial) _ (hin x hx).1, LT.In.turned ht (fun k _ hk => hS k hk) (fun _ _ _ => trivial) _ (hin x hx).2⟩⟩
  obtain ⟨b, o, he, hc⟩ := h.lies hp
  exact ⟨b, o, he, fun i x hx j u hu => ht.cell (hc i x hx j u hu) (hS b (hb b o he))⟩
theorem list8 {α : Type} {l : List α} (h : l.length = 8) : ∃ a b c d e f g i, l = [a, b, c, d, e, f, g, i] := by
  match l, h with
  | [a, b, c, d, e, f, g, i], _ => exact ⟨a, b, c, d, e, f, g, i, rfl⟩
theorem list2p {α : Type} {l : List α} (h : l.length = 2) : ∃ a b, l = [a, b] := by
  match l, h with
  | [a, b], _ => exact ⟨a, b, rfl⟩
theorem PASl.at {w : World} {b o c : Nat} {l : List PairT} (h : PASl w (some ⟨b, o, none⟩) c l) {i : Nat} {x : PairT} (hi : l[i]? = some x) :
    w.cell? ⟨b, o + i * 8, none⟩ = some (.int .i64 x.x.kind) ∧ w.cell? ⟨b, o + i * 8 + 1, none⟩ = some (.int .i64 x.x.n) ∧ w.cell? ⟨b, o + i * 8 + 2, none⟩ = some (.string x.x.name) ∧ w.cell? ⟨b, o + i * 8 + 3, none⟩ = some (.slice x.x.at_.1 x.x.args.length x.x.at_.2) ∧ w.cell? ⟨b, o + i * 8 + 4, none⟩ = some (.int .i64 x.y.kind) ∧ w.cell? ⟨b, o + i * 8 + 5, none⟩ = some (.int .i64 x.y.n) ∧ w.cell? ⟨b, o + i * 8 + 6, none⟩ = some (.string x.y.name) ∧ w.cell? ⟨b, o + i * 8 + 7, none⟩ = some (.slice x.y.at_.1 x.y.args.length x.y.at_.2) := by
  obtain ⟨b', o', e, hc⟩ := h.lies (by have := (List.getElem?_eq_some_iff.1 hi).1; omega)
  injection e with e
  injection e with e1 e2
  subst e1 e2
  have hh := hc i x hi
  refine ⟨hh 0 _ rfl, ?_, ?_, ?_, ?_, ?_, ?_, ?_⟩
  all_goals rw [Nat.add_assoc]
  · exact hh 1 _ rfl
  · exact hh 2 _ rfl
  · exact hh 3 _ rfl
  · exact hh 4 _ rfl
  · exact hh 5 _ rfl
  · exact hh 6 _ rfl
  · exact hh 7 _ rfl
section
variable {H : Type} {enc : TypeId × Value → H} {W : World} {base : Nat} {sp : Nat → Bool} {held : Bool}
set_option maxRecDepth 100000 in
theorem pairT_of {fuel : Nat} {cs : List Value} {x : DataW H × List MemPlace} (h : DataW.trod enc Try.prog W base sp held fuel 129 cs = some x) : ∃ k : PairT, cs = k.cells ∧ k.x.In (fun _ => True) W ∧ k.y.In (fun _ => True) W := by
  cases fuel with
  | zero => simp [DataW.trod] at h
  | succ fuel =>
  obtain ⟨xs, n, hn, hx, hcs, hlen, hf⟩ := DataW.trod_struct Try.underlying129 h
  have hn : fuel = n := by omega
  subst hn
  rw [cellsOf129] at hcs
  obtain ⟨u0, u1, u2, u3, u4, u5, u6, u7, rfl⟩ := list8 hcs
  obtain ⟨y0, y1, rfl⟩ := list2p hlen
  have f0 : DataW.trod enc Try.prog W base sp held fuel 27 (([u0, u1, u2, u3, u4, u5, u6, u7].drop 0).take (Try.prog.cellsOf 27)) = some y0 := hf 0 _ rfl
  have f1 : DataW.trod enc Try.prog W base sp held fuel 27 (([u0, u1, u2, u3, u4, u5, u6, u7].drop 4).take (Try.prog.cellsOf 27)) = some y1 := hf 1 _ rfl
  simp only [cellsOf27] at f0 f1
  simp at f0 f1
  obtain ⟨q, e1, wq⟩ := (terms_of fuel).1 _ _ f0
  obtain ⟨r, e2, wr⟩ := (terms_of fuel).1 _ _ f1
  rw [LT.cells_eq] at e1 e2
  simp at e1 e2
  obtain ⟨rfl, rfl, rfl, rfl⟩ := e1
  obtain ⟨rfl, rfl, rfl, rfl⟩ := e2
  exact ⟨⟨q, r⟩, rfl, wq, wr⟩
set_option maxRecDepth 100000 in
theorem pasT_of {fuel : Nat} {a : Option Addr} {len cap : Nat} {x : DataW H × List MemPlace} (hf : DataW.trod enc Try.prog W base sp held fuel 127 (Value.slice a len cap).cells.toList = some x) : ∃ l : List PairT, l.length = len ∧ PASl W a cap l := by
  cases fuel with
  | zero => simp [DataW.trod] at hf
  | succ fuel =>
  rcases DataW.trod_slice Try.underlying127 hf with ⟨hcs, _⟩ | ⟨ad, len', cap', elems, rest, n, hn, hcs, _, _, hl, hm, hlen, hel, _⟩
  · simp [Value.cells] at hcs
    obtain ⟨rfl, rfl, rfl⟩ := hcs
    exact ⟨[], rfl, ⟨fun _ => ⟨rfl, rfl⟩, fun h => by simp at h, Nat.le_refl _, by omega, fun x hx => by cases hx⟩⟩
  · simp [Value.cells] at hcs
    obtain ⟨rfl, rfl, rfl⟩ := hcs
    rw [cellsOf129] at hel
    have hp : ∀ i, ∃ k : PairT, i < len → (k.x.In (fun _ => True) W ∧ k.y.In (fun _ => True) W) ∧ ∀ j, j < 8 → W.cell? (ad.add (i * 8 + j)) = k.cells[j]? := by
      intro i
      by_cases hi : i < len
      · have he := hel i hi
        rw [List.getElem?_eq_getElem (by omega)] at he
        obtain ⟨cs', hc, ht⟩ := Option.bind_eq_some_iff.1 he
        obtain ⟨k, rfl, wk⟩ := pairT_of ht
        obtain ⟨_, _, hat⟩ := World.cells?_some hc
        refine ⟨k, fun _ => ⟨wk, fun j hj => ?_⟩⟩
        rw [← hat j hj]
        congr 1
        exact (add_add ..).symm
      · exact ⟨⟨leaf 0 0 ByteArray.empty, leaf 0 0 ByteArray.empty⟩, fun h => absurd h hi⟩
    obtain ⟨f, hff⟩ := Classical.axiomOfChoice hp
    refine ⟨(List.range len).map f, by simp, ⟨(fun e => by cases e), fun hpos => ?_, by simpa using hl, by unfold maxLen at hm; omega, fun x hx => ?_⟩⟩
    · simp at hpos
      obtain ⟨b, o, spot⟩ := ad
      have hc := (hff 0 (by omega)).2 0 (by omega)
      have hspot : spot = none := by
        have : W.cell? ((⟨b, o, spot⟩ : Addr).add (0 * 8 + 0)) = some (.int .i64 (f 0).x.kind) := hc
        simpa [Addr.add] using World.cell?_spot this
      subst hspot
      refine ⟨b, o, rfl, fun i x hx j u hu => ?_⟩
      have hlt := (List.getElem?_eq_some_iff.1 hx).1
      rw [List.length_map, List.length_range] at hlt
      have hx2 : ((List.range len).map f)[i]? = some (f i) := by rw [List.getElem?_map, List.getElem?_range hlt]; rfl
      rw [hx] at hx2
      obtain rfl := Option.some.inj hx2
      have hj : j < 8 := (List.getElem?_eq_some_iff.1 hu).1
      have hc := (hff i hlt).2 j hj
      rw [Addr.add_lit] at hc
      rw [hc, hu]
    · obtain ⟨i, hi, rfl⟩ := List.mem_map.1 hx
      exact (hff i (by simpa using hi)).1
end
end Go.Proofs.Ytoihjobdfjajfaa
namespace Go.Proofs.Ytoihjobdfjajfaa
open Go.RowKit Go.Maps
set_option linter.unusedVariables false
set_option linter.unusedSimpArgs false
theorem bothVal {p O : Nat → Prop} {bb m : Nat} {l : TL} {w : World} {x y : LT} {ok : Bool} {c e : Int} {tr : Tm.Trail} (h : BO p bb O m l w) (hx : x.In p w) (sx : slim x) (hy : y.In p w) (sy : slim y) (hR : bothR m (bt l) x.bare y.bare = (ok, c, e, tr)) :
    Calls Try.prog 110 #[.pointer (some ⟨bb, 0, none⟩), .agg #[.int .i64 x.kind, .int .i64 x.n, .string x.name, .slice x.at_.1 x.args.length x.at_.2], .agg #[.int .i64 y.kind, .int .i64 y.n, .string y.name, .slice y.at_.1 y.args.length y.at_.2]] w fun E w' => E = .returned (.tuple #[.bool ok, .int .i64 c, .int .i64 e]) ∧ ∃ l2, bt l2 = tr ∧ After p bb O m l2 w w' := by
  have := bothO110 h hx sx hy sy
  rw [LT.val_eq, LT.val_eq, hR] at this
  exact this
end Go.Proofs.Ytoihjobdfjajfaa
namespace Go.Proofs.Ytoihjobdfjajfaa
open Go.RowKit Go.Maps
set_option linter.unusedVariables false
set_option linter.unusedSimpArgs false
theorem compN {N : Nat} {w : World} {l : List LT} (s : ByteArray) (hs : s.size ≤ maxLen) (n : Nat) (hl : n ≤ 1000) (hn : l.length = n) (h : LT.Ins (fun k => N ≤ k) w l) (hN : N ≤ w.heap.size) (cs : Array Value) (hcs : cs = (l.flatMap LT.cells).toArray) :
    Calls Try.prog 37 #[.string s, .slice (some ⟨w.heap.size, 0, none⟩) n n] (w.alloc (.cells cs 27)) fun e w' => ∃ a' c', e = .returned (.agg #[.int .i64 2, .int .i64 0, .string s, .slice a' n c']) ∧ LT.In (fun k => N ≤ k) w' (.mk 2 0 s (a', c') l) ∧ Turned (fun _ => False) w w' := by
  subst hn hcs
  have hr := Row.made w 27 4 (l.flatMap LT.cells).toArray l.length (by rw [List.size_toArray, LT.flat_length]) (by unfold maxLen; omega)
  have T0 := (Turned.refl (fun _ => False) w).alloc (.cells (l.flatMap LT.cells).toArray 27)
  have hsl := (LT.Sl.of_row (p := fun k => N ≤ k) hr (fun k hk => by simp [Value.ownBlock] at hk; subst hk; exact hN) (LT.Ins.turned0 h T0)).2
  refine (comp37 s hs hsl (by omega)).mono ?_
  rintro e w' ⟨d, rfl, hi, ht⟩
  obtain ⟨a, c⟩ := d
  exact ⟨a, c, by rw [LT.val_eq]; rfl, hi.mono (fun k _ hk => by
    rcases hk with hk | hk
    · exact hk
    · have := T0.size; omega), T0.trans ht⟩
end Go.Proofs.Ytoihjobdfjajfaa
namespace Go.Proofs.Ytoihjobdfjajfaa
open Go.RowKit Go.Maps
set_option linter.unusedVariables false
set_option linter.unusedSimpArgs false
theorem both2 (w : World) : Calls Try.prog 109 #[.int .i64 2] w fun e w' => ∃ bb wb, e = .returned (.tuple #[.pointer (some ⟨bb, 0, none⟩), .pointer (some ⟨wb, 0, none⟩)]) ∧ BDq (fun k => k < w.heap.size) w.heap.size bb wb 2 2 [] [] w w' := both109 2 (by omega) w
theorem BLoop.grown {N bb m : Nat} {l : TL} {w1 wr w' : World} (h : BLoop N bb m l w1 wr) (hN : N = w1.heap.size) (T : Turned (fun _ => False) wr w') : ∃ O, BO (fun k => k < N ∨ (wr.heap.size ≤ k ∧ k < w'.heap.size)) bb O m l w' ∧ (∀ k, O k → N ≤ k) ∧ Turned (fun _ => False) w1 w' := by
  obtain ⟨O, B, hO, T1⟩ := h
  have s1 := T1.size
  have s2 := T.size
  refine ⟨O, (B.turned0 T).wide (fun k hk => .inl hk) (fun k hk => ?_), hO, T1.trans T⟩
  rcases hk with hk | hk
  · exact ⟨by omega, fun c => by have := hO k c; omega⟩
  · exact ⟨hk.2, fun c => by have := B.lt k c; omega⟩
namespace Tm
abbrev awA : Tm Unit := .mk 2 0 ⟨#[97]⟩ () []
abbrev awB : Tm Unit := .mk 2 0 ⟨#[98]⟩ () []
abbrev awX : Tm Unit := .mk 2 0 ⟨#[102]⟩ () [V 0, awB]
abbrev awY : Tm Unit := .mk 2 0 ⟨#[102]⟩ () [awA, V 1]
theorem walk_node (l : Trail) {t : Tm Unit} (h : ¬ t.kind = 0) : walkT l t = t := walkT_stop (fun c => absurd c h)
theorem walk_free {l : Trail} {n : Int} (h : look l n = none) : walkT l (V n) = V n := walkT_stop (fun _ => h)
theorem awUni : unify [] 2000 [(awX, awY)] = .ok [(1, awB), (0, awA)] 1995 := by
  rw [unify_more (left := 1999) (ps := [(V 0, awA), (awB, V 1)]) (by rw [walk_node [] (show ¬ awX.kind = 0 by decide), walk_node [] (show ¬ awY.kind = 0 by decide)]; kernel_rfl)]
  rw [show [(V 0, awA), (awB, V 1)] ++ [] = [(V 0, awA), (awB, V 1)] from rfl]
  rw [unify_ok (left := 1998) (l' := [(0, awA)]) (left' := 1997) (by rw [walk_free (show look [] 0 = none from rfl), walk_node [] (show ¬ awA.kind = 0 by decide)]; kernel_rfl)]
  rw [unify_ok (left := 1996) (l' := [(1, awB), (0, awA)]) (left' := 1995) (by rw [walk_free (show look [(0, awA)] 1 = none by kernel_rfl), walk_node _ (show ¬ awB.kind = 0 by decide)]; kernel_rfl)]
  rfl
theorem awOk : okT 2 [(1, awB), (0, awA)] := by
  have h := unify_spec (m := 2) (by omega) (2000 + 1) [] 2000 [(awX, awY)] trivial (fun p hp => by rw [List.mem_singleton] at hp; rw [hp]; exact ⟨by kernel_rfl, by kernel_rfl⟩) _ awUni
  exact h.1
end Tm
theorem awBoth : bothR 2 [] Tm.awX Tm.awY = (true, 5, 0, [(1, Tm.awB), (0, Tm.awA)]) := by
  unfold bothR
  rw [if_pos ⟨by kernel_rfl, by kernel_rfl⟩, Tm.awUni]
  rfl
theorem awWalk {p O : Nat → Prop} {bb : Nat} {l : TL} {w : World} (n : Int) (t : Tm Unit) (h : BO p bb O 2 l w) (hl : bt l = [(1, Tm.awB), (0, Tm.awA)]) (hn : 0 ≤ n ∧ n < 2) (hk : Tm.look [(1, Tm.awB), (0, Tm.awA)] n = some t) (ht : ¬ t.kind = 0) :
    Calls Try.prog 90 #[.pointer (some ⟨bb, 0, none⟩), .agg #[.int .i64 0, .int .i64 n, .string ByteArray.empty, .slice none 0 0]] w fun e w' => ∃ x : LT, e = .returned (.agg #[.int .i64 x.kind, .int .i64 x.n, .string x.name, .slice x.at_.1 x.args.length x.at_.2]) ∧ x.In p w' ∧ x.bare = t ∧ Turned (fun _ => False) w w' := by
  have hg : goodB (leaf 0 n ByteArray.empty).bare = true := Tm.goodB_V hn.1 (by omega)
  refine (walkO90 h (t := leaf 0 n ByteArray.empty) (var_in (i64_lit _ (by omega))) (Tm.good_ones' hg)).mono ?_
  rintro e w' ⟨x, rfl, hx, hb, T⟩
  refine ⟨x, by rw [LT.val_eq], hx, ?_, T⟩
  rw [hb, hl, Tm.walkT_step Tm.awOk (t := (leaf 0 n ByteArray.empty).bare) (p := t) rfl hk, Tm.walk_node _ ht]
theorem atomVal (s : ByteArray) (hs : s.size ≤ maxLen) (w : World) : Calls Try.prog 63 #[.string s] w fun e w' => e = .returned (.agg #[.int .i64 2, .int .i64 0, .string s, .slice none 0 0]) ∧ Turned (fun _ => False) w w' :=
  (atomV s hs w).mono fun e w' ⟨h1, _, h3⟩ => ⟨h1, h3⟩
theorem sameAtom {x : LT} {w : World} (s : ByteArray) (hx : x.In (fun _ => True) w) (hb : x.bare = .mk 2 0 s () []) (hs : s.size ≤ maxLen) (hg : goodB (Tm.mk 2 0 s () []) = true) :
    Calls Try.prog 52 #[.agg #[.int .i64 x.kind, .int .i64 x.n, .string x.name, .slice x.at_.1 x.args.length x.at_.2], .agg #[.int .i64 2, .int .i64 0, .string s, .slice none 0 0]] w fun e w' => e = .returned (.bool true) ∧ Turned (fun _ => False) w w' :=
  sameVal' (p := fun _ => True) (a := x) (b := leaf 2 0 s) (w := w) (r := true) hx (leafIn' (i64_lit _ (by omega)) (i64_lit _ (by omega)) hs) (good_slimB (by rw [hb]; exact hg)) (leaf_slim _ _ _) (sameB_eq hb (by rw [hb]; exact hg))
set_option maxRecDepth 100000 in
set_option maxHeartbeats 6400000 in
theorem awake108 (w : World) : Calls Try.prog 108 #[] w fun e w' => e = .returned (.bool true) ∧ Turned (fun _ => False) w w' := by
  go_enter Try.func108, Try.ntmps108
  go_wp2_with (first
    | (go_at_call 109; (with_reducible refine (both2 _).mono ?_); rintro e w1 ⟨bb, wb, rfl, h1⟩; have H1 := Lib.hid h1.binds; clear h1)
    | (go_at_call 90; (obtain ⟨O9, l9, q9, hl9, B9, T9⟩ := HB9.out; have HT10 := HT10; (with_reducible refine (awWalk 1 Tm.awB (B9.turned0 (HT10.out.trans HT11.out)) hl9 (by omega) (by kernel_rfl) (by decide)).mono ?_); rintro e w12 ⟨y, rfl, hy, hyb, T12⟩; have HY := Lib.hid (And.intro (hy.mono (q := fun _ => True) (fun _ _ _ => trivial)) hyb); have HT12 := Lib.hid T12; clear hy hyb T12 B9 hl9 T9))
    | (go_at_call 62; have HT10 := HT10; refine (varV 1 (i64_lit _ (by omega)) _).mono ?_; rintro e w11 ⟨rfl, _, T11⟩; have HT11 := Lib.hid T11; clear T11)
    | (go_at_call 90; (obtain ⟨O9, l9, q9, hl9, B9, T9⟩ := HB9.out; (with_reducible refine (awWalk 0 Tm.awA (B9.turned0 HT9.out) hl9 (by omega) (by kernel_rfl) (by decide)).mono ?_); rintro e w10 ⟨x, rfl, hx, hxb, T10⟩; have HX := Lib.hid (And.intro (hx.mono (q := fun _ => True) (fun _ _ _ => trivial)) hxb); have HT10 := Lib.hid (HT9.out.trans T10); clear hx hxb T10 B9 hl9 T9))
    | (go_at_call 62; have HB9 := HB9; refine (varV 0 (i64_lit _ (by omega)) _).mono ?_; rintro e w9b ⟨rfl, _, T9b⟩; have HT9 := Lib.hid T9b; clear T9b)
    | (go_at_call 110; have TT := ((T2.trans T3).trans T4).trans ((T5.trans T6).trans T7); obtain ⟨O1, B7, hO1, T17⟩ := H1.out.grown rfl TT; (refine (bothVal (x := .mk 2 0 ⟨#[102]⟩ (a4, c4) [leaf 0 0 ByteArray.empty, leaf 2 0 ⟨#[98]⟩]) (y := .mk 2 0 ⟨#[102]⟩ (a7, c7) [leaf 2 0 ⟨#[97]⟩, leaf 0 1 ByteArray.empty]) B7 (((i4.turned0 (T5.trans T6)).turned0 T7).mono (fun k hk h => .inr ⟨h, hk⟩)) (good_slimB (by kernel_rfl)) (i7.mono (fun k hk h => .inr ⟨h, hk⟩)) (good_slimB (by kernel_rfl)) awBoth).mono ?_); rintro e w8 ⟨rfl, l8, hl8, O8, B8, hO8, T8⟩; have HB9 : Hid (∃ O9 l9, ∃ q9 : Nat → Prop, bt l9 = [(1, Tm.awB), (0, Tm.awA)] ∧ BO q9 bb O9 2 l9 w8 ∧ Turned (fun _ => False) w w8) := ⟨O8, l8, _, hl8, B8, T17.step T8 (fun i hi e => by have := hO1 i e; omega)⟩; clear B7 hO1 TT hl8 B8 hO8 T8 T17 T2 T3 T4 T5 T6 T7 i4 i7)
    | (go_at_call 37; have := T6; refine (compN (N := w1.heap.size) (l := [leaf 2 0 ⟨#[97]⟩, leaf 0 1 ByteArray.empty]) ⟨#[102]⟩ (by unfold maxLen; decide) 2 (by decide) rfl ⟨leafIn' (i64_lit _ (by omega)) (i64_lit _ (by omega)) (by unfold maxLen; decide), var_in (i64_lit _ (by omega)), trivial⟩ (((T2.trans T3).trans T4).trans (T5.trans T6)).size _ rfl).mono ?_; rintro e w7 ⟨a7, c7, rfl, i7, T7⟩)
    | (go_at_call 62; have := T5; refine (varV 1 (i64_lit _ (by omega)) _).mono ?_; rintro e w6 ⟨rfl, _, T6⟩)
    | (go_at_call 63; have := T4; refine (atomV ⟨#[97]⟩ (by unfold maxLen; decide) _).mono ?_; rintro e w5 ⟨rfl, _, T5⟩)
    | (go_at_call 37; have := T3; refine (compN (N := w1.heap.size) (l := [leaf 0 0 ByteArray.empty, leaf 2 0 ⟨#[98]⟩]) ⟨#[102]⟩ (by unfold maxLen; decide) 2 (by decide) rfl ⟨var_in (i64_lit _ (by omega)), leafIn' (i64_lit _ (by omega)) (i64_lit _ (by omega)) (by unfold maxLen; decide), trivial⟩ (T2.trans T3).size _ rfl).mono ?_; rintro e w4 ⟨a4, c4, rfl, i4, T4⟩)
    | (go_at_call 63; have := T2; refine (atomV ⟨#[98]⟩ (by unfold maxLen; decide) _).mono ?_; rintro e w3 ⟨rfl, _, T3⟩)
    | (go_at_call 62; have := H1; refine (varV 0 (i64_lit _ (by omega)) _).mono ?_; rintro e w2 ⟨rfl, _, T2⟩))
  have h2 := twoBox w12 (.cells #[.int .i64 x.kind, .int .i64 x.n, .string x.name, .slice x.at_.1 x.args.length x.at_.2] 27) (.cells #[.int .i64 y.kind, .int .i64 y.n, .string y.name, .slice y.at_.1 y.args.length y.at_.2] 27)
  obtain ⟨wz, hwz⟩ : ∃ z, z = (w12.alloc (.cells #[.int .i64 x.kind, .int .i64 x.n, .string x.name, .slice x.at_.1 x.args.length x.at_.2] 27)).alloc (.cells #[.int .i64 y.kind, .int .i64 y.n, .string y.name, .slice y.at_.1 y.args.length y.at_.2] 27) := ⟨_, rfl⟩
  rw [← hwz] at h2 ⊢
  have HC := Lib.hid (fun W (T : Turned (fun _ => False) wz W) => And.intro (four_of ((T.block _ (by have := h2.2.1; omega) (fun f => f)).trans h2.2.2.1)) (four_of ((T.block _ (by have := h2.2.1; omega) (fun f => f)).trans h2.2.2.2)))
  have HXA := Lib.hid (fun W (T : Turned (fun _ => False) wz W) => (HX.out.1.turned0 (HT11.out.trans (HT12.out.trans h2.1))).turned0 T)
  have HYA := Lib.hid (fun W (T : Turned (fun _ => False) wz W) => (HY.out.1.turned0 h2.1).turned0 T)
  have HXB := Lib.hid HX.out.2
  have HYB := Lib.hid HY.out.2
  have HTZ := Lib.hid h2.1
  clear h2 hwz
  refine wp_region_ssa' (G := (fun dd vv W => (match dd with | 32 => vv = .bool true | 33 => vv = .bool true | 34 => vv = .int .i64 0 | 35 => vv = .bool true | 36 => vv = .bool true | 37 => vv = .bool true | 38 => vv = .int .i64 5 | 39 => vv = .bool true | 40 => vv = .bool true | 41 => vv = .bool true | 42 => vv = .agg #[.int .i64 x.kind, .int .i64 x.n, .string x.name, .slice x.at_.1 x.args.length x.at_.2] | 43 => vv = .agg #[.int .i64 2, .int .i64 0, .string ⟨#[97]⟩, .slice none 0 0] | 44 => vv = .bool true | 45 => vv = .bool true | 46 => vv = .bool true | 47 => vv = .agg #[.int .i64 y.kind, .int .i64 y.n, .string y.name, .slice y.at_.1 y.args.length y.at_.2] | 48 => vv = .agg #[.int .i64 2, .int .i64 0, .string ⟨#[98]⟩, .slice none 0 0] | 49 => vv = .bool true | 50 => vv = .bool true | 0 => vv = .bool true  | _ => True : Prop))) [32, 33, 34, 35, 36, 37, 38, 39, 40, 41, 42, 43, 44, 45, 46, 47, 48, 49, 50, 0] (by kernel_rfl) rfl (by kernel_rfl) ?hG ?hs ?hQ
  case hG => exact fun d v _ _ _ h => h
  case hs =>
    refine ⟨?s0, ?s1, ?s2, ?s3, ?s4, ?s5, ?s6, ?s7, ?s8, ?s9, ?s10, ?s11, ?s12, ?s13, ?s14, ?s15, ?s16, ?s17, ?s18, ?s19, trivial⟩
    case s0 =>
      refine stepOk_free [] [3] (by kernel_rfl) rfl ?_
      intro ac W hT hI hO
      have h3 : ac.tmps.getD 3 undef = .bool true := hO 3 (by simp)
      show Brings Try.prog (fun vv w' => Turned (fun _ => False) W w' ∧ vv = .bool true) _
      simp only [execOp, Act.eval, h3]
      go_simp
      try exact ⟨Turned.refl _ _, rfl⟩
    case s1 =>
      refine stepOk_free [32] [] (by kernel_rfl) rfl ?_
      intro ac W hT hI hO
      have h32 : ac.tmps.getD 32 undef = .bool true := hI 32 (by simp)
      show Brings Try.prog (fun vv w' => Turned (fun _ => False) W w' ∧ vv = .bool true) _
      simp only [execOp, Act.eval, h32]
      go_simp
      try exact ⟨Turned.refl _ _, rfl⟩
    case s2 =>
      refine stepOk_guard [33] [5] (by kernel_rfl) 1 true 33 rfl rfl (by simp) true true (fun _ _ h => h) (fun hc => ?_) (fun hc => by cases hc)
      intro ac W hT hI hO
      have h5 : ac.tmps.getD 5 undef = .int .i64 0 := hO 5 (by simp)
      show Brings Try.prog (fun vv w' => Turned (fun _ => False) W w' ∧ vv = .int .i64 0) _
      simp only [execOp, Act.eval, h5]
      go_simp
      try exact ⟨Turned.refl _ _, rfl⟩
    case s3 =>
      refine stepOk_guard [34, 33] [] (by kernel_rfl) 1 true 33 rfl rfl (by simp) true true (fun _ _ h => h) (fun hc => ?_) (fun hc => by cases hc)
      intro ac W hT hI hO
      have h34 : ac.tmps.getD 34 undef = .int .i64 0 := hI 34 (by simp)
      show Brings Try.prog (fun vv w' => Turned (fun _ => False) W w' ∧ vv = .bool true) _
      simp only [execOp, Act.eval, h34]
      go_simp
      try exact ⟨Turned.refl _ _, rfl⟩
    case s4 =>
      refine stepOk_free [33, 35] [] (by kernel_rfl) rfl ?_
      intro ac W hT hI hO
      have h33 : ac.tmps.getD 33 undef = .bool true := hI 33 (by simp)
      have h35 : ac.tmps.getD 35 undef = .bool true := hI 35 (by simp)
      show Brings Try.prog (fun vv w' => Turned (fun _ => False) W w' ∧ vv = .bool true) _
      simp only [execOp, Act.eval, h33, h35]
      go_simp
      try exact ⟨Turned.refl _ _, rfl⟩
    case s5 =>
      refine stepOk_free [36] [] (by kernel_rfl) rfl ?_
      intro ac W hT hI hO
      have h36 : ac.tmps.getD 36 undef = .bool true := hI 36 (by simp)
      show Brings Try.prog (fun vv w' => Turned (fun _ => False) W w' ∧ vv = .bool true) _
      simp only [execOp, Act.eval, h36]
      go_simp
      try exact ⟨Turned.refl _ _, rfl⟩
    case s6 =>
      refine stepOk_guard [37] [4] (by kernel_rfl) 5 true 37 rfl rfl (by simp) true true (fun _ _ h => h) (fun hc => ?_) (fun hc => by cases hc)
      intro ac W hT hI hO
      have h4 : ac.tmps.getD 4 undef = .int .i64 5 := hO 4 (by simp)
      show Brings Try.prog (fun vv w' => Turned (fun _ => False) W w' ∧ vv = .int .i64 5) _
      simp only [execOp, Act.eval, h4]
      go_simp
      try exact ⟨Turned.refl _ _, rfl⟩
    case s7 =>
      refine stepOk_guard [38, 37] [] (by kernel_rfl) 5 true 37 rfl rfl (by simp) true true (fun _ _ h => h) (fun hc => ?_) (fun hc => by cases hc)
      intro ac W hT hI hO
      have h38 : ac.tmps.getD 38 undef = .int .i64 5 := hI 38 (by simp)
      show Brings Try.prog (fun vv w' => Turned (fun _ => False) W w' ∧ vv = .bool true) _
      simp only [execOp, Act.eval, h38]
      go_simp
      try exact ⟨Turned.refl _ _, rfl⟩
    case s8 =>
      refine stepOk_free [37, 39] [] (by kernel_rfl) rfl ?_
      intro ac W hT hI hO
      have h37 : ac.tmps.getD 37 undef = .bool true := hI 37 (by simp)
      have h39 : ac.tmps.getD 39 undef = .bool true := hI 39 (by simp)
      show Brings Try.prog (fun vv w' => Turned (fun _ => False) W w' ∧ vv = .bool true) _
      simp only [execOp, Act.eval, h37, h39]
      go_simp
      try exact ⟨Turned.refl _ _, rfl⟩
    case s9 =>
      refine stepOk_free [40] [] (by kernel_rfl) rfl ?_
      intro ac W hT hI hO
      have h40 : ac.tmps.getD 40 undef = .bool true := hI 40 (by simp)
      show Brings Try.prog (fun vv w' => Turned (fun _ => False) W w' ∧ vv = .bool true) _
      simp only [execOp, Act.eval, h40]
      go_simp
      try exact ⟨Turned.refl _ _, rfl⟩
    case s10 =>
      refine stepOk_guard [41] [6] (by kernel_rfl) 9 true 41 rfl rfl (by simp) true true (fun _ _ h => h) (fun hc => ?_) (fun hc => by cases hc)
      intro ac W hT hI hO
      have h6 : ac.tmps.getD 6 undef = .pointer (some ⟨w12.heap.size, 0, none⟩) := hO 6 (by simp)
      show Brings Try.prog (fun vv w' => Turned (fun _ => False) W w' ∧ vv = .agg #[.int .i64 x.kind, .int .i64 x.n, .string x.name, .slice x.at_.1 x.args.length x.at_.2]) _
      obtain ⟨⟨c0, c1, c2, c3⟩, _⟩ := HC.out W hT
      simp only [execOp, Act.eval, h6]
      go_simp
      try exact ⟨Turned.refl _ _, rfl⟩
    case s11 =>
      refine stepOk_guard [41] [] (by kernel_rfl) 9 true 41 rfl rfl (by simp) true true (fun _ _ h => h) (fun hc => ?_) (fun hc => by cases hc)
      intro ac W hT hI hO
      show Brings Try.prog (fun vv w' => Turned (fun _ => False) W w' ∧ vv = .agg #[.int .i64 2, .int .i64 0, .string ⟨#[97]⟩, .slice none 0 0]) _
      simp only [execOp, Act.eval]
      go_simp
      show Calls Try.prog 63 _ W _
      (with_reducible refine (atomVal ⟨#[97]⟩ (by unfold maxLen; decide) W).mono ?_)
      rintro e w' ⟨rfl, T'⟩
      exact ⟨_, rfl, T', rfl⟩
    case s12 =>
      refine stepOk_guard [42, 43, 41] [] (by kernel_rfl) 9 true 41 rfl rfl (by simp) true true (fun _ _ h => h) (fun hc => ?_) (fun hc => by cases hc)
      intro ac W hT hI hO
      have h42 : ac.tmps.getD 42 undef = .agg #[.int .i64 x.kind, .int .i64 x.n, .string x.name, .slice x.at_.1 x.args.length x.at_.2] := hI 42 (by simp)
      have h43 : ac.tmps.getD 43 undef = .agg #[.int .i64 2, .int .i64 0, .string ⟨#[97]⟩, .slice none 0 0] := hI 43 (by simp)
      show Brings Try.prog (fun vv w' => Turned (fun _ => False) W w' ∧ vv = .bool true) _
      simp only [execOp, Act.eval, h42, h43]
      go_simp
      show Calls Try.prog 52 _ W _
      (with_reducible refine (sameAtom ⟨#[97]⟩ (HXA.out W hT) HXB.out (by unfold maxLen; decide) (by kernel_rfl)).mono ?_)
      rintro e w' ⟨rfl, T'⟩
      exact ⟨_, rfl, T', rfl⟩
    case s13 =>
      refine stepOk_free [41, 44] [] (by kernel_rfl) rfl ?_
      intro ac W hT hI hO
      have h41 : ac.tmps.getD 41 undef = .bool true := hI 41 (by simp)
      have h44 : ac.tmps.getD 44 undef = .bool true := hI 44 (by simp)
      show Brings Try.prog (fun vv w' => Turned (fun _ => False) W w' ∧ vv = .bool true) _
      simp only [execOp, Act.eval, h41, h44]
      go_simp
      try exact ⟨Turned.refl _ _, rfl⟩
    case s14 =>
      refine stepOk_free [45] [] (by kernel_rfl) rfl ?_
      intro ac W hT hI hO
      have h45 : ac.tmps.getD 45 undef = .bool true := hI 45 (by simp)
      show Brings Try.prog (fun vv w' => Turned (fun _ => False) W w' ∧ vv = .bool true) _
      simp only [execOp, Act.eval, h45]
      go_simp
      try exact ⟨Turned.refl _ _, rfl⟩
    case s15 =>
      refine stepOk_guard [46] [7] (by kernel_rfl) 14 true 46 rfl rfl (by simp) true true (fun _ _ h => h) (fun hc => ?_) (fun hc => by cases hc)
      intro ac W hT hI hO
      have h7 : ac.tmps.getD 7 undef = .pointer (some ⟨w12.heap.size + 1, 0, none⟩) := hO 7 (by simp)
      show Brings Try.prog (fun vv w' => Turned (fun _ => False) W w' ∧ vv = .agg #[.int .i64 y.kind, .int .i64 y.n, .string y.name, .slice y.at_.1 y.args.length y.at_.2]) _
      obtain ⟨_, ⟨c0, c1, c2, c3⟩⟩ := HC.out W hT
      simp only [execOp, Act.eval, h7]
      go_simp
      try exact ⟨Turned.refl _ _, rfl⟩
    case s16 =>
      refine stepOk_guard [46] [] (by kernel_rfl) 14 true 46 rfl rfl (by simp) true true (fun _ _ h => h) (fun hc => ?_) (fun hc => by cases hc)
      intro ac W hT hI hO
      show Brings Try.prog (fun vv w' => Turned (fun _ => False) W w' ∧ vv = .agg #[.int .i64 2, .int .i64 0, .string ⟨#[98]⟩, .slice none 0 0]) _
      simp only [execOp, Act.eval]
      go_simp
      show Calls Try.prog 63 _ W _
      (with_reducible refine (atomVal ⟨#[98]⟩ (by unfold maxLen; decide) W).mono ?_)
      rintro e w' ⟨rfl, T'⟩
      exact ⟨_, rfl, T', rfl⟩
    case s17 =>
      refine stepOk_guard [47, 48, 46] [] (by kernel_rfl) 14 true 46 rfl rfl (by simp) true true (fun _ _ h => h) (fun hc => ?_) (fun hc => by cases hc)
      intro ac W hT hI hO
      have h47 : ac.tmps.getD 47 undef = .agg #[.int .i64 y.kind, .int .i64 y.n, .string y.name, .slice y.at_.1 y.args.length y.at_.2] := hI 47 (by simp)
      have h48 : ac.tmps.getD 48 undef = .agg #[.int .i64 2, .int .i64 0, .string ⟨#[98]⟩, .slice none 0 0] := hI 48 (by simp)
      show Brings Try.prog (fun vv w' => Turned (fun _ => False) W w' ∧ vv = .bool true) _
      simp only [execOp, Act.eval, h47, h48]
      go_simp
      show Calls Try.prog 52 _ W _
      (with_reducible refine (sameAtom ⟨#[98]⟩ (HYA.out W hT) HYB.out (by unfold maxLen; decide) (by kernel_rfl)).mono ?_)
      rintro e w' ⟨rfl, T'⟩
      exact ⟨_, rfl, T', rfl⟩
    case s18 =>
      refine stepOk_free [46, 49] [] (by kernel_rfl) rfl ?_
      intro ac W hT hI hO
      have h46 : ac.tmps.getD 46 undef = .bool true := hI 46 (by simp)
      have h49 : ac.tmps.getD 49 undef = .bool true := hI 49 (by simp)
      show Brings Try.prog (fun vv w' => Turned (fun _ => False) W w' ∧ vv = .bool true) _
      simp only [execOp, Act.eval, h46, h49]
      go_simp
      try exact ⟨Turned.refl _ _, rfl⟩
    case s19 =>
      refine stepOk_free [50] [] (by kernel_rfl) rfl ?_
      intro ac W hT hI hO
      have h50 : ac.tmps.getD 50 undef = .bool true := hI 50 (by simp)
      show Brings Try.prog (fun vv w' => Turned (fun _ => False) W w' ∧ vv = .bool true) _
      simp only [execOp, Act.eval, h50]
      go_simp
      try exact ⟨Turned.refl _ _, rfl⟩
  case hQ =>
    intro vs w13 T13 hV
    have q0 : vs 0 = .bool true := hV 0 (by simp)
    simp only [List.foldl_cons, List.foldl_nil, List.setIfInBounds_toArray, List.set_cons_zero, List.set_cons_succ, q0]
    obtain ⟨_, _, _, _, _, T9⟩ := HB9.out
    have HT13 := Lib.hid ((((T9.trans HT10.out).trans (HT11.out.trans HT12.out)).trans HTZ.out).trans T13)
    clear hV q0 T13 T9
    go_wp2_with fail
    go_ret
    exact ⟨rfl, HT13.out⟩
end Go.Proofs.Ytoihjobdfjajfaa

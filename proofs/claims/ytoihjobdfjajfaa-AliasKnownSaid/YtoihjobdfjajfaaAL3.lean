/- alias.From: a term's variables numbered from a first one on. -/
import Derived.Test.YtoihjobdfjajfaaAL2
import Derived.Test.YtoihjobdfjajfaaTK1
namespace Go.Proofs.Ytoihjobdfjajfaa
set_option linter.unusedVariables false
set_option linter.unusedSimpArgs false
open Go.RowKit Go.Maps

/-- What the first so many variables stand for. -/
def gmap (vs : List Int) (first : Int) (j : Nat) : Int → Option LT := fun n => if n ∈ vs.take j then some (leaf 0 (Tm.fromS vs first n) ByteArray.empty) else none
theorem gmap_zero (vs : List Int) (first : Int) : valsM (gmap vs first 0) = fun _ => none := by
  funext n; unfold valsM gmap; simp
theorem gmap_none {vs : List Int} {first : Int} {j : Nat} {n : Int} (hnd : vs.Nodup) (h : vs[j]? = some n) : gmap vs first j n = none := by
  unfold gmap
  rw [if_neg]
  intro hm
  obtain ⟨i, hi⟩ := List.getElem?_of_mem hm
  obtain ⟨hl, _⟩ := List.getElem?_eq_some_iff.1 hi
  rw [List.length_take] at hl
  rw [List.getElem?_take_of_lt (by omega)] at hi
  have h1 := Tm.posOf_at hnd hi
  have h2 := Tm.posOf_at hnd h
  omega
theorem gmap_succ {vs : List Int} {first : Int} {j : Nat} {n : Int} (hnd : vs.Nodup) (h : vs[j]? = some n) :
    upd (valsM (gmap vs first j)) n (.agg #[.int .i64 0, .int .i64 (first + (j : Int)), .string ByteArray.empty, .slice none 0 0]) = valsM (gmap vs first (j + 1)) := by
  funext m
  unfold upd valsM gmap
  have e : vs.take (j + 1) = vs.take j ++ [n] := by rw [List.take_add_one, h]; rfl
  by_cases hm : m = n
  · subst hm
    rw [if_pos rfl, if_pos (by rw [e]; simp)]
    unfold Tm.fromS
    rw [Tm.posOf_at hnd h]
    rfl
  · rw [if_neg hm]
    have : m ∈ vs.take (j + 1) ↔ m ∈ vs.take j := by rw [e]; simp [hm]
    by_cases hq : m ∈ vs.take j
    · rw [if_pos hq, if_pos (this.2 hq)]
    · rw [if_neg hq, if_neg (fun c => hq (this.1 c))]
theorem gmap_sub {t : LT} {first : Int} (hg : goodB t = true) : Tm.subF (baresM (gmap t.vars first t.vars.length)) t.bare = Tm.fromT t.bare first := by
  unfold Tm.fromT Tm.ren
  rw [Tm.vars_bare]
  refine Tm.subF_subT t.bare (fun x hx hk => ?_)
  unfold baresM gmap
  rw [List.take_length, if_pos]
  · rfl
  · rw [← Tm.vars_bare]
    exact (Tm.vars_mem x.n).2 ⟨x, hx, hk, rfl⟩
theorem good_nums {t : LT} (hg : goodB t = true) : ∀ n ∈ t.vars, 0 ≤ n ∧ n ≤ 2147483647 := by
  intro n hn
  rw [← Tm.vars_bare] at hn
  obtain ⟨x, hx, hk, rfl⟩ := (Tm.vars_mem n).1 hn
  rw [← goodB_bare] at hg
  unfold goodB at hg
  simp only [Bool.and_eq_true, decide_eq_true_eq, List.all_eq_true] at hg
  have := hg.2.2 x hx
  rw [goodOneB_0 x hk] at this
  simp only [Bool.and_eq_true, decide_eq_true_eq] at this
  exact ⟨this.1, this.2.1⟩
theorem results_cell_tmp2 {P : Program} {fn : Func} {s q p : Tmp} {ty : TypeId} (h : fn.results = #[.cell p ty, .tmp s, .tmp q]) (tmps : Array Value) (w : World) (g : Nat) (t : TypeId) (cs : Array Value) (fr : Nat × Nat) (d : TypeDesc)
    (hp : tmps.getD p undef = .pointer (some ⟨g, 0, none⟩)) (hg : w.heap[g]? = some (.cells cs t fr))
    (hu : P.underlying ty = some d) (hd : (match d with | .struct _ | .array _ _ => true | _ => false) = true) (hi : (P.info? ty).map (·.size) = some cs.size) :
    (results fn tmps).run P w = .ok (.tuple #[.agg cs, tmps.getD s undef, tmps.getD q undef]) w := by
  have hp' : tmps[p]?.getD undef = .pointer (some ⟨g, 0, none⟩) := by simpa using hp
  simp [results, h, hp', asAddr, run_loadVar_row w g t ty cs fr d hg hu hd hi]
theorem results_cell_tmp1 {P : Program} {fn : Func} {s p : Tmp} {ty : TypeId} (h : fn.results = #[.cell p ty, .tmp s]) (tmps : Array Value) (w : World) (g : Nat) (t : TypeId) (cs : Array Value) (fr : Nat × Nat) (d : TypeDesc)
    (hp : tmps.getD p undef = .pointer (some ⟨g, 0, none⟩)) (hg : w.heap[g]? = some (.cells cs t fr))
    (hu : P.underlying ty = some d) (hd : (match d with | .struct _ | .array _ _ => true | _ => false) = true) (hi : (P.info? ty).map (·.size) = some cs.size) :
    (results fn tmps).run P w = .ok (.tuple #[.agg cs, tmps.getD s undef]) w := by
  have hp' : tmps[p]?.getD undef = .pointer (some ⟨g, 0, none⟩) := by simpa using hp
  simp [results, h, hp', asAddr, run_loadVar_row w g t ty cs fr d hg hu hd hi]
/-- What From answers. -/
def FromR (t : Tm Unit) (first : Int) (u : Tm Unit) (m er : Int) : Prop :=
  if goodB t = true ∧ 0 ≤ first ∧ first ≤ 2147483647 then
    (if first + (t.vars.length : Int) ≤ 2147483648 then er = 0 ∧ m = first + (t.vars.length : Int) ∧ u = Tm.fromT t first else er = 3 ∧ m = 0 ∧ u = Tm.V 0)
  else er = 1 ∧ m = 0 ∧ u = Tm.V 0
/-- What lies in memory at the head of the loop. -/
structure FromI (w : World) (mb : Nat) (t : LT) (vs : List Int) (first : Int) (v : Value) (j : Nat) (W : World) : Prop where
  b0 : W.heap[w.heap.size]? = some (.cells #[.int .i64 t.kind, .int .i64 t.n, .string t.name, .slice t.at_.1 t.args.length t.at_.2] 27 (0, 0))
  b1 : W.heap[w.heap.size + 1]? = some (.cells #[.int .i64 0, .int .i64 0, .string ⟨#[]⟩, .slice none 0 0] 27 (0, 0))
  map : IMap Try.prog 2 W mb j (valsM (gmap vs first j))
  row : Row W 2 1 v vs.length (vs.map (Value.int .i64))
  turned : Turned (fun _ => False) w W
  ne : v.ownBlock ≠ some mb
  lt : w.heap.size + 1 < mb
theorem FromI.turned0 {w w1 w2 : World} {mb : Nat} {t : LT} {vs : List Int} {first : Int} {v : Value} {j : Nat} (h : FromI w mb t vs first v j w1) (ht : Turned (fun _ => False) w1 w2) : FromI w mb t vs first v j w2 :=
  ⟨(ht.block _ (Array.getElem?_eq_some_iff.1 h.b0).1 (fun f => f)).trans h.b0, (ht.block _ (Array.getElem?_eq_some_iff.1 h.b1).1 (fun f => f)).trans h.b1, h.map.turned ht (fun f => f), h.row.turned0 ht, h.turned.trans ht, h.ne, h.lt⟩
theorem FromI.put {w w1 w2 : World} {mb : Nat} {t : LT} {vs : List Int} {first : Int} {v : Value} {j : Nat} {n : Int} (h : FromI w mb t vs first v j w1) (hnd : vs.Nodup) (hn : vs[j]? = some n) (ht : Turned (· = mb) w1 w2)
    (hm : IMap Try.prog 2 w2 mb (if (valsM (gmap vs first j) n).isSome then j else j + 1) (upd (valsM (gmap vs first j)) n (.agg #[.int .i64 0, .int .i64 (first + (j : Int)), .string ByteArray.empty, .slice none 0 0]))) : FromI w mb t vs first v (j + 1) w2 := by
  have h0 : valsM (gmap vs first j) n = none := by unfold valsM; rw [gmap_none hnd hn]; rfl
  rw [h0, gmap_succ hnd hn] at hm
  have hlt := h.lt
  exact ⟨(ht.block _ (Array.getElem?_eq_some_iff.1 h.b0).1 (by omega)).trans h.b0, (ht.block _ (Array.getElem?_eq_some_iff.1 h.b1).1 (by omega)).trans h.b1, hm, h.row.turned ht (fun k hk e => h.ne (by rw [hk, e])),
    h.turned.step ht (fun i hi e => by omega), h.ne, h.lt⟩
theorem varE (n : Int) (hn : I64 n) (w : World) : Calls Try.prog 62 #[.int .i64 n] w fun e w' => e = .returned (.agg #[.int .i64 0, .int .i64 n, .string ByteArray.empty, .slice none 0 0]) ∧ Turned (fun _ => False) w w' :=
  (varV n hn w).mono fun e w' ⟨h1, _, h3⟩ => ⟨h1, h3⟩
theorem vtIn {p : Nat → Prop} {W : World} : (leaf 0 0 ByteArray.empty).In p W := leafIn' (i64_lit _ (by omega)) (i64_lit _ (by omega)) (by unfold maxLen; decide)
set_option maxRecDepth 100000 in
set_option maxHeartbeats 3200000 in
theorem from71 {p : Nat → Prop} {t : LT} {w : World} {first : Int} (ht : t.In p w) (hs : slim t) (hf : I64 first) :
    Calls Try.prog 71 #[t.val, .int .i64 first] w fun e w' => ∃ (u : LT) (m er : Int), e = .returned (.tuple #[u.val, .int .i64 m, .int .i64 er]) ∧ FromR t.bare first u.bare m er ∧ u.In (fun k => p k ∨ w.heap.size ≤ k) w' ∧ Turned (fun _ => False) w w' := by
  have hmm := @run_makeMap Try.prog
  have h2 := twoBox w (.cells #[.int .i64 t.kind, .int .i64 t.n, .string t.name, .slice t.at_.1 t.args.length t.at_.2] 27) (.cells #[.int .i64 0, .int .i64 0, .string ⟨#[]⟩, .slice none 0 0] 27)
  have hgo := good38 (ht.turned0 h2.1) hs
  obtain ⟨hf1, hf2⟩ := hf
  have H2 := Lib.hid h2
  obtain ⟨p', hp'⟩ : ∃ q : Nat → Prop, q = fun k => p k ∧ k < w.heap.size := ⟨_, rfl⟩
  have HPL : Hid (∀ k, p' k → p k ∧ k < w.heap.size) := by intro k hq; rw [hp'] at hq; exact hq
  have ht' : t.In p' w := ht.mono (fun k hk h => by rw [hp']; exact ⟨h, hk⟩)
  have HIN := Lib.hid ht'
  have HS := Lib.hid hs
  clear hp' ht'
  rw [LT.val_eq] at hgo ⊢
  clear ht hs h2
  have hboxes : ∀ W, Turned (fun _ => False) ((w.alloc (.cells #[.int .i64 t.kind, .int .i64 t.n, .string t.name, .slice t.at_.1 t.args.length t.at_.2] 27)).alloc (.cells #[.int .i64 0, .int .i64 0, .string ⟨#[]⟩, .slice none 0 0] 27)) W →
      W.heap[w.heap.size]? = some (.cells #[.int .i64 t.kind, .int .i64 t.n, .string t.name, .slice t.at_.1 t.args.length t.at_.2] 27 (0, 0)) ∧ W.heap[w.heap.size + 1]? = some (.cells #[.int .i64 0, .int .i64 0, .string ⟨#[]⟩, .slice none 0 0] 27 (0, 0)) := fun W h =>
    ⟨(h.block _ (Array.getElem?_eq_some_iff.1 H2.out.2.2.1).1 (fun f => f)).trans H2.out.2.2.1, (h.block _ (Array.getElem?_eq_some_iff.1 H2.out.2.2.2).1 (fun f => f)).trans H2.out.2.2.2⟩
  have HBX := Lib.hid hboxes
  clear hboxes
  by_cases hall : goodB t = true ∧ 0 ≤ first ∧ first ≤ 2147483647
  · obtain ⟨hg, h0, h1⟩ := hall
    have hvars := fun W (h : Turned (fun _ => False) w W) => vars34 (HIN.out.turned0 h) HS.out
    rw [LT.val_eq] at hvars
    have ev : varsB t = t.vars := by unfold varsB; rw [if_pos hg]
    have hle : t.vars.length ≤ 2000 := by have := varsB_le t; rw [ev] at this; exact this
    rw [ev] at hvars
    obtain ⟨vs, hvs⟩ : ∃ z, z = t.vars := ⟨_, rfl⟩
    rw [← hvs] at hvars hle
    have HV := Lib.hid hvars
    have HVS := Lib.hid hvs
    have HG := Lib.hid hg
    have hnums := good_nums hg
    rw [← hvs] at hnums
    have HN := Lib.hid hnums
    have hnd : Hid (vs.Nodup) := by show vs.Nodup; rw [hvs]; exact Tm.vars_nodup t
    rw [hg] at hgo
    have HGO := Lib.hid hgo
    clear hgo hvars hvs hg hnums ev
    go_enter Try.func71, Try.ntmps71
    go_wp2_with (first
      | (go_at_call 38; (with_reducible refine HGO.out.mono ?_); rintro e w3 ⟨rfl, T3⟩; have T3m := T3.alloc (.map #[] 0); obtain ⟨b0, b1⟩ := HBX.out _ T3m; obtain ⟨c0, c1, c2, c3, _⟩ := cells4 b0; clear b0 b1)
      | (go_at_call 34; (with_reducible refine (HV.out _ (H2.out.1.trans T3m)).mono ?_); rintro e w4 ⟨v, rfl, hrow, hown, T4⟩; obtain ⟨va, vc, rfl⟩ := hrow.shape))
    have hl3 : w.heap.size + 2 ≤ w3.heap.size := by have := T3.size; have := H2.out.2.1; omega
    have HI : Hid (FromI w w3.heap.size t vs first (.slice va vs.length vc) 0 w4) := by
      obtain ⟨b0, b1⟩ := HBX.out _ (T3m.trans T4)
      refine ⟨b0, b1, ?_, hrow, H2.out.1.trans (T3m.trans T4), fun e => ?_, by omega⟩
      · rw [gmap_zero]
        exact (IMap.made w3 Try.prog 2).turned T4 (fun f => f)
      · have := hown _ e
        simp at this
        omega
    have hr1 := hrow.max.1
    have hr2 := hrow.max.2
    clear hrow hown T4 T3m T3 hl3 c0 c1 c2 c3 HV HGO HBX hmm
    revert HI
    generalize w3.heap.size = mb
    intro HI
    go_loopg [1, 26] vs.length (fun q f i wr => ∃ j : Nat, Hid (j + q = vs.length) ∧ j ≤ vs.length ∧ f = .int .i64 (first + (j : Int)) ∧ i = .int .i64 j ∧ first + (j : Int) ≤ 2147483648 ∧ Hid (FromI w mb t vs first (.slice va vs.length vc) j wr))
    case atStart => exact ⟨0, Nat.zero_add _, Nat.zero_le _, by simp, rfl, by simp; omega, HI⟩
    case round =>
      obtain ⟨j, HG2, hj, rfl, rfl, hfj, HJ⟩ := hrel
      by_cases hjl : j < vs.length
      · obtain ⟨n, hn⟩ : ∃ n, vs[j]? = some n := ⟨_, List.getElem?_eq_getElem hjl⟩
        have hrow := HJ.out.row
        obtain ⟨gv, cap, he⟩ := hrow.shape_pos (by omega)
        injection he with e1 _ e3
        subst e1 e3
        have hcv := hrow.cells rfl j (.int .i64 n) (by rw [List.getElem?_map, hn]; rfl)
        have hkey := key2 (n := n) (by have := HN.out n (List.mem_of_getElem? hn); unfold I64; omega)
        have HNN := Lib.hid hn
        clear hrow hn
        by_cases hov : first + (j : Int) ≤ 2147483647
        · go_wp2_with (first
            | (go_at_call 62; (with_reducible refine (varE (first + (j : Int)) (by unfold I64; omega) _).mono ?_); rintro e w5 ⟨rfl, T5⟩)
            | (at_mapUpdate; refine wpList_put rfl _ _ _ 151 rfl law2 Try.underlying151 rfl (HJ.out.turned0 T5).map (by unfold maxLen; omega) rfl rfl hkey trivial ?_; intro w6 hm6 T6))
          have HK : Hid (FromI w mb t vs first (.slice (some ⟨gv, 0, none⟩) vs.length vc) (j + 1) w6) := (HJ.out.turned0 T5).put hnd.out HNN.out T6 hm6
          clear hm6 T6 T5 HJ
          go_roundg (gk - 1)
          case measure => have := HG2.out; omega
          case rel => exact ⟨j + 1, show _ = _ by have := HG2.out; omega, by omega, by go_num, by go_num, by omega, HK⟩
        · obtain ⟨_, _, _, _, f0, f1, f2, f3⟩ := cells4 HJ.out.b1
          go_wp2_with fail
          have hset := set4 (a' := .int .i64 0) (b' := .int .i64 0) (c' := .string ⟨#[]⟩) (d' := .slice none 0 0) HJ.out.b1
          have T4 := turned4 (a := .int .i64 0) (b := .int .i64 0) (c := .string ⟨#[]⟩) (d := .slice none 0 0) HJ.out.turned (g := w.heap.size + 1) (by omega)
          refine bodyPost_ret (results_cell_tmp2 Try.results71 _ _ (w.heap.size + 1) 27 _ (0, 0) _ rfl hset Try.underlying27 rfl (by kernel_rfl)) rfl ⟨leaf 0 0 ByteArray.empty, 0, 3, rfl, ?_, vtIn, T4⟩
          unfold FromR
          rw [if_pos ⟨by rw [goodB_bare]; exact HG.out, h0, h1⟩, Tm.vars_bare, ← HVS.out, if_neg (by omega)]
          exact ⟨rfl, rfl, rfl⟩
      · obtain rfl : j = vs.length := by omega
        obtain ⟨c0, c1, c2, c3, _⟩ := cells4 HJ.out.b0
        have hrep := fun W (h : Turned (fun _ => False) wr W) => replace136 (mb := mb) (mn := vs.length) (g := gmap vs first vs.length) t.depth p' t W (Nat.le_refl _) (HIN.out.turned0 (HJ.out.turned.trans h)) HS.out (HJ.out.map.turned h (fun f => f)) (fun i x hx => by
          unfold gmap at hx
          split at hx
          · injection hx with hx
            subst hx
            rename_i hm
            rw [List.take_length] at hm
            have := List.idxOf_lt_length_of_mem hm
            exact leafIn' (i64_lit _ (by omega)) (by unfold Tm.fromS Tm.posOf I64; omega) (by unfold maxLen; decide)
          · cases hx)
        rw [LT.val_eq] at hrep
        have HREP := Lib.hid hrep
        clear hrep
        go_wp2_with (go_at_call 136; (with_reducible refine (HREP.out _ (Turned.refl _ _)).mono ?_); rintro e w7 ⟨u, rfl, hub, hui, T7⟩; rw [LT.val_eq u]; obtain ⟨_, _, _, _, f0, f1, f2, f3⟩ := cells4 (HJ.out.turned0 T7).b1)
        have HZ := (HJ.out.turned0 T7)
        have hset := set4 (a' := .int .i64 u.kind) (b' := .int .i64 u.n) (c' := .string u.name) (d' := .slice u.at_.1 u.args.length u.at_.2) HZ.b1
        have T4 := turned4 (a := .int .i64 u.kind) (b := .int .i64 u.n) (c := .string u.name) (d := .slice u.at_.1 u.args.length u.at_.2) HZ.turned (g := w.heap.size + 1) (by omega)
        refine bodyPost_ret (results_cell_tmp2 Try.results71 _ _ (w.heap.size + 1) 27 _ (0, 0) _ rfl hset Try.underlying27 rfl (by kernel_rfl)) rfl ⟨u, first + (vs.length : Int), 0, by rw [LT.val_eq u]; rfl, ?_, ?_, T4⟩
        · unfold FromR
          rw [if_pos ⟨by rw [goodB_bare]; exact HG.out, h0, h1⟩, Tm.vars_bare, ← HVS.out, if_pos hfj]
          refine ⟨rfl, rfl, ?_⟩
          rw [hub, HVS.out]
          exact gmap_sub HG.out
        · have Tq : Turned (fun k => k = w.heap.size + 1) w7 _ := ((((Turned.refl (fun k => k = w.heap.size + 1) w7).setCell (p := ⟨w.heap.size + 1, 0, none⟩) (.inr rfl) (.int .i64 u.kind)).setCell (p := ⟨w.heap.size + 1, 1, none⟩) (.inr rfl) (.int .i64 u.n)).setCell (p := ⟨w.heap.size + 1, 2, none⟩) (.inr rfl) (.string u.name)).setCell (p := ⟨w.heap.size + 1, 3, none⟩) (.inr rfl) (.slice u.at_.1 u.args.length u.at_.2)
          have hpl := HPL.out
          have hb1 := (Array.getElem?_eq_some_iff.1 HJ.out.b1).1
          refine LT.In.turned Tq (fun k _ hk e => ?_) (fun k _ hk => ?_) u hui
          · rcases hk with h | h
            · have := (hpl k h).2; omega
            · omega
          · rcases hk with h | h
            · exact .inl (hpl k h).1
            · exact .inr (by omega)
  · have hbad : ∀ (u : Tm Unit) (m er : Int), FromR t.bare first u m er = (er = 1 ∧ m = 0 ∧ u = Tm.V 0) := fun u m er => by
      unfold FromR
      rw [if_neg (by rw [goodB_bare]; exact hall)]
    have fin : ∀ W, Turned (fun _ => False) ((w.alloc (.cells #[.int .i64 t.kind, .int .i64 t.n, .string t.name, .slice t.at_.1 t.args.length t.at_.2] 27)).alloc (.cells #[.int .i64 0, .int .i64 0, .string ⟨#[]⟩, .slice none 0 0] 27)) W →
      W.heap[w.heap.size + 1]? = some (.cells #[.int .i64 0, .int .i64 0, .string ⟨#[]⟩, .slice none 0 0] 27 (0, 0)) ∧
      ((((W.setCell ⟨w.heap.size + 1, 0, none⟩ (.int .i64 0)).setCell ⟨w.heap.size + 1, 1, none⟩ (.int .i64 0)).setCell ⟨w.heap.size + 1, 2, none⟩ (.string ⟨#[]⟩)).setCell ⟨w.heap.size + 1, 3, none⟩ (.slice none 0 0)).heap[w.heap.size + 1]? = some (.cells #[.int .i64 0, .int .i64 0, .string ⟨#[]⟩, .slice none 0 0] 27 (0, 0)) ∧
      Turned (fun _ => False) w ((((W.setCell ⟨w.heap.size + 1, 0, none⟩ (.int .i64 0)).setCell ⟨w.heap.size + 1, 1, none⟩ (.int .i64 0)).setCell ⟨w.heap.size + 1, 2, none⟩ (.string ⟨#[]⟩)).setCell ⟨w.heap.size + 1, 3, none⟩ (.slice none 0 0)) := fun W h => by
      obtain ⟨_, b1⟩ := HBX.out W h
      exact ⟨b1, set4 b1, turned4 (H2.out.1.trans h) (by omega)⟩
    have FIN := Lib.hid fin
    have HBAD := Lib.hid hbad
    clear hbad fin hmm
    cases hg : goodB t with
    | false =>
      rw [hg] at hgo
      have HGO := Lib.hid hgo
      clear hgo hg hall
      go_enter Try.func71, Try.ntmps71
      go_wp2_with (go_at_call 38; (with_reducible refine HGO.out.mono ?_); rintro e w3 ⟨rfl, T3⟩; obtain ⟨b1, hset, T4⟩ := FIN.out _ T3; obtain ⟨d0, d1, d2, d3, f0, f1, f2, f3⟩ := cells4 b1; have HSET := Lib.hid hset; clear hset b1)
      refine bodyPost_ret (results_cell_tmp2 Try.results71 _ _ (w.heap.size + 1) 27 _ (0, 0) _ rfl HSET.out Try.underlying27 rfl (by kernel_rfl)) rfl ⟨leaf 0 0 ByteArray.empty, 0, 1, rfl, ?_, vtIn, T4⟩
      rw [HBAD.out]
      exact ⟨rfl, rfl, rfl⟩
    | true =>
      rw [hg] at hgo
      have HGO := Lib.hid hgo
      have hout : first < 0 ∨ 2147483647 < first := by
        rcases Int.lt_or_le first 0 with h | h
        · exact .inl h
        · rcases Int.lt_or_le 2147483647 first with h' | h'
          · exact .inr h'
          · exact absurd ⟨hg, h, h'⟩ hall
      clear hgo hg hall
      rcases hout with hout | hout
      · have d1 : decide (first < 0) = true := decide_eq_true hout
        go_enter Try.func71, Try.ntmps71
        go_wp2_with (go_at_call 38; (with_reducible refine HGO.out.mono ?_); rintro e w3 ⟨rfl, T3⟩; obtain ⟨b1, hset, T4⟩ := FIN.out _ T3; obtain ⟨d0, d1, d2, d3, f0, f1, f2, f3⟩ := cells4 b1; have HSET := Lib.hid hset; clear hset b1)
        refine bodyPost_ret (results_cell_tmp2 Try.results71 _ _ (w.heap.size + 1) 27 _ (0, 0) _ rfl HSET.out Try.underlying27 rfl (by kernel_rfl)) rfl ⟨leaf 0 0 ByteArray.empty, 0, 1, rfl, ?_, vtIn, T4⟩
        rw [HBAD.out]
        exact ⟨rfl, rfl, rfl⟩
      · have d1 : decide (first < 0) = false := decide_eq_false (by omega)
        have d2 : decide (2147483647 < first) = true := decide_eq_true hout
        go_enter Try.func71, Try.ntmps71
        go_wp2_with (go_at_call 38; (with_reducible refine HGO.out.mono ?_); rintro e w3 ⟨rfl, T3⟩; obtain ⟨b1, hset, T4⟩ := FIN.out _ T3; obtain ⟨d0, d1, d2, d3, f0, f1, f2, f3⟩ := cells4 b1; have HSET := Lib.hid hset; clear hset b1)
        refine bodyPost_ret (results_cell_tmp2 Try.results71 _ _ (w.heap.size + 1) 27 _ (0, 0) _ rfl HSET.out Try.underlying27 rfl (by kernel_rfl)) rfl ⟨leaf 0 0 ByteArray.empty, 0, 1, rfl, ?_, vtIn, T4⟩
        rw [HBAD.out]
        exact ⟨rfl, rfl, rfl⟩
end Go.Proofs.Ytoihjobdfjajfaa

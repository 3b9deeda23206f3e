/- Vars: the variables' numbers, by where they first stand. -/
import Derived.Test.YtoihjobdfjajfaaGood
import Derived.Test.YtoihjobdfjajfaaIMap
namespace Go.Proofs.Ytoihjobdfjajfaa
set_option linter.unusedVariables false
set_option linter.unusedSimpArgs false
open Go.RowKit Go.Maps

theorem law2 : Keyed Try.prog 2 := int_keyed Try.underlying2
theorem zero4 (w : World) : (zeroValue 4).run Try.prog w = .ok (.bool false) w := by kernel_rfl
theorem infoI : (Try.prog.info? 2).map (fun i => (i.zero, i.size, i.bytes)) = some (some (.int .i64 0), 1, 8) := by kernel_rfl
theorem key2 {n : Int} (h : I64 n) : keyOf Try.prog 2 (.int .i64 n) = some (kI n) := keyOf_int_mk Try.underlying2 h.wf
/-- A set of numbers, as a map to true. -/
def inSet (l : List Int) : Int → Option Value := fun i => if i ∈ l then some (.bool true) else none
theorem inSet_snoc (l : List Int) (i : Int) : upd (inSet l) i (.bool true) = inSet (l ++ [i]) := by
  funext j
  unfold upd inSet
  by_cases e : j = i
  · subst e; simp
  · simp [e]
theorem inSet_get (l : List Int) (i : Int) : (inSet l i).getD (.bool false) = .bool (decide (i ∈ l)) := by
  unfold inSet; split <;> simp_all

/-- What the closure of Vars holds: the set's block, the row's, and the two variables'. -/
structure VarsIn (bh bo : Nat) (mb : Nat) (v : Value) (vs : List Int) (w : World) : Prop where
  hh : w.heap[bh]? = some (.cells #[.map (some mb)] 140 (0, 0))
  ho : w.heap[bo]? = some (.cells #[v] 24 (0, 0))
  map : IMap Try.prog 2 w mb vs.length (inSet vs)
  row : Row w 2 1 v vs.length (vs.map (Value.int .i64))
  ne : bh ≠ bo
  rowH : v.ownBlock ≠ some bh
  rowO : v.ownBlock ≠ some bo

theorem VarsIn.neH {bh bo mb : Nat} {v : Value} {vs : List Int} {w : World} (h : VarsIn bh bo mb v vs w) : mb ≠ bh ∧ mb ≠ bo ∧ v.ownBlock ≠ some mb := by
  obtain ⟨D, ⟨es, clock, hb, _⟩, _⟩ := h.map
  refine ⟨fun e => ?_, fun e => ?_, fun e => ?_⟩
  · subst e; rw [h.hh] at hb; cases hb
  · subst e; rw [h.ho] at hb; cases hb
  · rcases h.row.2 with ⟨rfl, _⟩ | ⟨g, cap, cur, rfl, hg, _⟩
    · simp [Value.ownBlock] at e
    · simp [Value.ownBlock] at e; subst e; rw [hg] at hb; cases hb
def MineV (bh bo mb : Nat) (v : Value) (k : Nat) : Prop := k = bh ∨ k = bo ∨ k = mb ∨ v.ownBlock = some k
theorem VarsIn.lt {bh bo mb : Nat} {v : Value} {vs : List Int} {w : World} (h : VarsIn bh bo mb v vs w) : ∀ k, MineV bh bo mb v k → k < w.heap.size := by
  rintro k (rfl | rfl | rfl | hk)
  · exact (Array.getElem?_eq_some_iff.1 h.hh).1
  · exact (Array.getElem?_eq_some_iff.1 h.ho).1
  · exact h.map.lt
  · exact h.row.lt k hk
theorem VarsIn.turned {bh bo mb : Nat} {v : Value} {vs : List Int} {w w' : World} {S : Nat → Prop} (h : VarsIn bh bo mb v vs w) (ht : Turned S w w') (hS : ∀ k, k < w.heap.size → S k → ¬ MineV bh bo mb v k) : VarsIn bh bo mb v vs w' :=
  ⟨(ht.block bh (h.lt bh (.inl rfl)) (fun s => hS _ (h.lt bh (.inl rfl)) s (.inl rfl))).trans h.hh, (ht.block bo (h.lt bo (.inr (.inl rfl))) (fun s => hS _ (h.lt bo (.inr (.inl rfl))) s (.inr (.inl rfl)))).trans h.ho,
    h.map.turned ht (fun s => hS _ (h.lt mb (.inr (.inr (.inl rfl)))) s (.inr (.inr (.inl rfl)))), h.row.turned ht (fun k e s => hS k (h.lt k (.inr (.inr (.inr e)))) s (.inr (.inr (.inr e)))), h.ne, h.rowH, h.rowO⟩

theorem vars_close {bh bo mb : Nat} {v : Value} {vs : List Int} {n : Int} {w w1 w2 : World} {bx o1 : Obj} {g2 cap2 : Nat} (h : VarsIn bh bo mb v vs w) (h1 : VarsIn bh bo mb v vs (w.alloc bx)) (T0 : Turned (fun _ => False) w (w.alloc bx)) (hn : I64 n) (hm : Hid (n ∉ vs))
    (T1 : Turned (· = mb) (w.alloc bx) w1) (hmap : IMap Try.prog 2 w1 mb (if (inSet vs n).isSome then vs.length else vs.length + 1) (upd (inSet vs) n (.bool true)))
    (hrow : Row w2 2 1 (.slice (some ⟨g2, 0, none⟩) (vs.length + 1) cap2) (vs.length + 1) (vs.map (Value.int .i64) ++ [.int .i64 n])) (T2 : Turned (fun k => v.ownBlock = some k) (w1.alloc o1) w2)
    (hloc : some g2 = v.ownBlock ∨ g2 = (w1.alloc o1).heap.size) (hb2 : w2.heap[bo]? = some (.cells #[v] 24 (0, 0))) :
    VarsIn bh bo mb (.slice (some ⟨g2, 0, none⟩) (vs.length + 1) cap2) (vs ++ [n]) (w2.setCell ⟨bo, 0, none⟩ (.slice (some ⟨g2, 0, none⟩) (vs.length + 1) cap2)) ∧
      Turned (MineV bh bo mb v) w (w2.setCell ⟨bo, 0, none⟩ (.slice (some ⟨g2, 0, none⟩) (vs.length + 1) cap2)) ∧
      ((Value.slice (some ⟨g2, 0, none⟩) (vs.length + 1) cap2).ownBlock = v.ownBlock ∨ ∃ g, (Value.slice (some ⟨g2, 0, none⟩) (vs.length + 1) cap2).ownBlock = some g ∧ w.heap.size ≤ g) := by
  have hm := hm.out
  have hs0 : (w.alloc bx).heap.size = w.heap.size + 1 := by simp
  have hs1 := T1.size
  have hs2 : (w1.alloc o1).heap.size = w1.heap.size + 1 := by simp
  have hs3 := T2.size
  have lbh := h.lt bh (.inl rfl)
  have lbo := h.lt bo (.inr (.inl rfl))
  have lmb := h.lt mb (.inr (.inr (.inl rfl)))
  have hg : g2 ≠ bh ∧ g2 ≠ bo := by
    rcases hloc with e | e
    · exact ⟨fun e' => h.rowH (by rw [← e, e']), fun e' => h.rowO (by rw [← e, e'])⟩
    · omega
  have T1a := T1.trans ((Turned.refl (· = mb) w1).alloc o1)
  refine ⟨⟨?_, cell1_set hb2, ?_, ?_, h.ne, ?_, ?_⟩, ?_, ?_⟩
  · rw [Below.heap_setCell _ _ _ _ h.ne]
    exact (T2.block bh (by omega) (fun e => h.rowH e)).trans ((T1a.block bh (by omega) (fun e => h.neH.1 e.symm)).trans h1.hh)
  · rw [List.length_append, List.length_singleton]
    have hf : inSet vs n = none := by unfold inSet; rw [if_neg hm]
    rw [hf, inSet_snoc] at hmap
    have h2 := (hmap.alloc o1).turned T2 (fun e => h.neH.2.2 e)
    exact h2.turned ((Turned.refl (· = bo) w2).setCell (.inr rfl) _) (fun e => h.neH.2.1 e)
  · rw [List.length_append, List.length_singleton, List.map_append]
    exact hrow.setCell (by simp [Value.ownBlock]; exact hg.2) _
  · simp [Value.ownBlock]; exact hg.1
  · simp [Value.ownBlock]; exact hg.2
  · refine Turned.setCell ?_ (.inr (.inr (.inl rfl))) _
    exact ((T0.mono (fun _ _ f => False.elim f)).step (T1a.mono (fun i _ e => .inr (.inr (.inl e)))) (fun i _ e => e)).step T2 (fun i hi e => .inr (.inr (.inr e)))
  · rcases hloc with e | e
    · exact .inl e
    · exact .inr ⟨g2, rfl, by omega⟩

set_option maxRecDepth 100000 in
set_option maxHeartbeats 1000000 in
theorem varsOne125 (t : LT) (bh bo mb : Nat) (v : Value) (vs : List Int) (w : World) (h : VarsIn bh bo mb v vs w) (ht : I64 t.n) (hl : vs.length ≤ 100000) :
    Calls Try.prog 125 #[t.val, .pointer (some ⟨bh, 0, none⟩), .pointer (some ⟨bo, 0, none⟩)] w fun e w' => e = .returned (.bool true) ∧ ∃ v', VarsIn bh bo mb v' (Tm.addVar vs t) w' ∧ Turned (MineV bh bo mb v) w w' ∧ (v'.ownBlock = v.ownBlock ∨ ∃ g, v'.ownBlock = some g ∧ w.heap.size ≤ g) := by
  obtain ⟨bx, hbx⟩ : ∃ bx : Obj, bx = .cells #[.int .i64 t.kind, .int .i64 t.n, .string t.name, .slice t.at_.1 t.args.length t.at_.2] 27 := ⟨_, rfl⟩
  have T1 := (Turned.refl (fun _ => False) w).alloc bx
  have h1 := h.turned T1 (fun _ _ f => False.elim f)
  have hkey := key2 ht
  have hlk : (Instr.lookup 140 (.map (some mb)) (.int .i64 t.n) false).run Try.prog (w.alloc bx) = .ok (.bool (decide (t.n ∈ vs))) (w.alloc bx) := by
    rw [h1.map.look law2 Try.underlying140 (zero4 _) hkey, inSet_get]
  have lh := h.lt bh (.inl rfl)
  have lo := h.lt bo (.inr (.inl rfl))
  obtain ⟨c0, f0⟩ := cell1 h.hh
  obtain ⟨d0, g0⟩ := cell1 h.ho
  rw [LT.val_eq]
  subst hbx
  by_cases hk : t.kind = 0
  · have k0 : (t.kind == 0) = true := by simp [hk]
    by_cases hm : t.n ∈ vs
    · have hb : decide (t.n ∈ vs) = true := by simpa using hm
      rw [hb] at hlk
      have HR : Hid (Tm.addVar vs t = vs) := by show _ = _; unfold Tm.addVar; simp [hk, hm]
      have H1 := Lib.hid h1
      have HT := Lib.hid T1
      clear hk hm hb h h1 T1
      go_enter Try.func125, Try.ntmps125
      go_wp2_with fail
      go_ret
      rw [HR.out]
      exact ⟨rfl, v, H1.out, HT.out.mono (fun _ _ f => False.elim f), .inl rfl⟩
    · have hb : decide (t.n ∈ vs) = false := by simpa using hm
      rw [hb] at hlk
      have HR : Hid (Tm.addVar vs t = vs ++ [t.n]) := by show _ = _; unfold Tm.addVar; simp [hk, hm]
      have H1 := Lib.hid h1
      have H0 := Lib.hid h
      have HT := Lib.hid T1
      have hm' := Lib.hid hm
      clear hk hm hb h h1 T1
      have hcell : ∀ W, Turned (· = mb) (w.alloc (.cells #[.int .i64 t.kind, .int .i64 t.n, .string t.name, .slice t.at_.1 t.args.length t.at_.2] 27)) W →
          W.cell? ⟨bo, 0, none⟩ = some v ∧ W.frozen? ⟨bo, 0, none⟩ = false ∧ W.cell? ⟨w.heap.size, 1, none⟩ = some (.int .i64 t.n) ∧ Row W 2 1 v vs.length (vs.map (Value.int .i64)) ∧ w.heap.size < W.heap.size := fun W hW => by
        have hb := (hW.block bo (H1.out.lt bo (.inr (.inl rfl))) (fun e => H1.out.neH.2.1 e.symm)).trans H1.out.ho
        have hs := hW.size
        simp at hs
        refine ⟨(cell1 hb).1, (cell1 hb).2, hW.cell (boxed w _ 27 1) (fun e => ?_), H1.out.row.turned hW (fun k hk e => H1.out.neH.2.2 (by rw [hk, e])), by omega⟩
        have := H0.out.map.lt
        simp at e; omega
      have HC := Lib.hid hcell
      clear hcell
      have hst : ∀ W, Turned (· = mb) (w.alloc (.cells #[.int .i64 t.kind, .int .i64 t.n, .string t.name, .slice t.at_.1 t.args.length t.at_.2] 27)) W → ∀ o W2, Turned (fun k => v.ownBlock = some k) (W.alloc o) W2 → W2.heap[bo]? = some (.cells #[v] 24 (0, 0)) := fun W hW o W2 h2 => by
        have hb := (hW.block bo (H1.out.lt bo (.inr (.inl rfl))) (fun e => H1.out.neH.2.1 e.symm)).trans H1.out.ho
        have hbl := (Array.getElem?_eq_some_iff.1 hb).1
        exact (h2.block bo (by simp; omega) (fun e => H1.out.rowO e)).trans ((Below.heap_alloc _ _ _ hbl).trans hb)
      have HS := Lib.hid hst
      clear hst
      obtain ⟨i0, hi0, hz0, hz1, hz2⟩ := info_parts infoI
      go_enter Try.func125, Try.ntmps125
      go_wp2_with (first
        | (at_mapUpdate; refine wpList_put rfl _ _ _ 140 rfl law2 Try.underlying140 rfl H1.out.map (by unfold maxLen; omega) rfl rfl hkey trivial ?_; intro w1 hmap1 T1; obtain ⟨e0, e1, e2, hrow1, hs1⟩ := HC.out w1 T1; have HM := Lib.hid hmap1; clear hmap1)
        | (at_builtin; refine append_some _ rfl _ _ 24 rfl 2 i0 (.int .i64 0) 1 8 Try.underlying24 hi0 hz0 hz1 hz2 rfl (by decide) _ _ _ rfl (hrow1.alloc _) ⟨w1.heap.size, 0, none⟩ 1 1 [.int .i64 t.n] rfl rfl (cell_one_new _ _ _) (by simp [Value.oneCell']) (by omega) (by unfold maxLen; omega) (by omega) ?_; intro g2 cap2 w2 hrow2 T2 hloc2; have hb2 := HS.out w1 T1 _ w2 T2; obtain ⟨e3, e4⟩ := cell1 hb2; have HB2 := Lib.hid hb2; clear hb2))
      go_ret
      rw [HR.out]
      obtain ⟨r1, r2, r3⟩ := vars_close H0.out H1.out HT.out ht hm' T1 HM.out hrow2 T2 hloc2 HB2.out
      exact ⟨rfl, _, r1, r2, r3⟩
  · have k0 : (t.kind == 0) = false := by simp [hk]
    have HR : Hid (Tm.addVar vs t = vs) := by show _ = _; unfold Tm.addVar; simp [hk]
    have H1 := Lib.hid h1
    have HT := Lib.hid T1
    clear hk h h1 T1
    go_enter Try.func125, Try.ntmps125
    go_wp2_with fail
    go_ret
    rw [HR.out]
    exact ⟨rfl, v, H1.out, HT.out.mono (fun _ _ f => False.elim f), .inl rfl⟩

theorem tell_true {α : Type} (told l : List α) : tell (fun _ _ => true) told l = (true, told ++ l) := by
  induction l generalizing told with
  | nil => simp [tell]
  | cons x l ih => rw [tell_cons, if_pos rfl, ih]; simp
theorem addVar_le {α : Type} (l : List (Tm α)) (vs : List Int) : (l.foldl Tm.addVar vs).length ≤ vs.length + l.length := by
  induction l generalizing vs with
  | nil => simp
  | cons x l ih =>
    rw [List.foldl_cons, List.length_cons]
    have := ih (Tm.addVar vs x)
    have h : (Tm.addVar vs x).length ≤ vs.length + 1 := by unfold Tm.addVar; split <;> simp
    omega
def InvVars (bh bo : Nat) (M : Nat → Prop) (l : List LT) (w : World) : Prop := ∃ mb v, (∀ k, M k ↔ MineV bh bo mb v k) ∧ VarsIn bh bo mb v (l.foldl Tm.addVar []) w
theorem enter125 (args : Array Value) (w : World) : (callFunc 125 args).run Try.prog w = .ok (.enter 125 args) w := by kernel_rfl
theorem told_vars (p : Nat → Prop) (t : LT) (bh bo : Nat) (M0 : Nat → Prop) : Told p 125 #[.pointer (some ⟨bh, 0, none⟩), .pointer (some ⟨bo, 0, none⟩)] t M0 (InvVars bh bo) (fun _ _ => true) := by
  refine ⟨enter125, fun M l w k h hk => ?_, fun M T l w w' h ht hT => ?_, fun M l x r w h hl hF hx => ?_⟩
  · obtain ⟨mb, v, hM, hV⟩ := h
    exact hV.lt k ((hM k).1 hk)
  · obtain ⟨mb, v, hM, hV⟩ := h
    exact ⟨mb, v, hM, hV.turned ht (fun k hk s m => hT k hk s ((hM k).2 m))⟩
  · obtain ⟨mb, v, hM, hV⟩ := h
    have hle := addVar_le l []
    refine (varsOne125 x bh bo mb v _ w hV hx.n (by simp at hle; omega)).mono ?_
    rintro e w' ⟨rfl, v', hV', hT, hv⟩
    refine ⟨rfl, MineV bh bo mb v', ⟨mb, v', fun k => Iff.rfl, by rw [List.foldl_append]; exact hV'⟩, hT.mono (fun i _ m => (hM i).2 m), fun k hk => ?_⟩
    rcases hk with hk | hk | hk | hk
    · exact .inl ((hM k).2 (.inl hk))
    · exact .inl ((hM k).2 (.inr (.inl hk)))
    · exact .inl ((hM k).2 (.inr (.inr (.inl hk))))
    · rcases hv with e | ⟨g, e, hg⟩
      · exact .inl ((hM k).2 (.inr (.inr (.inr (by rw [← e]; exact hk)))))
      · rw [e] at hk; injection hk with hk; subst hk; exact .inr hg
theorem good_size {α : Type} {t : Tm α} (h : goodB t = true) : t.size ≤ 2000 := by
  unfold goodB at h; simp at h; exact h.1

theorem eachVars {p : Nat → Prop} {t : LT} {w : World} (ht : t.In p w) (hs : slim t) (h2 : t.size ≤ 2000) :
    Calls Try.prog 124 #[t.val, .func (.func 125) #[] #[.pointer (some ⟨w.heap.size + 1 + 1, 0, none⟩), .pointer (some ⟨w.heap.size, 0, none⟩)]] (((w.alloc (.cells #[.slice none 0 0] 24)).alloc (.map #[] 0)).alloc (.cells #[.map (some (w.heap.size + 1))] 140))
      fun e w' => (∃ b, e = .returned (.bool b)) ∧ ∃ v, w'.heap[w.heap.size]? = some (.cells #[v] 24 (0, 0)) ∧ Row w' 2 1 v t.vars.length (t.vars.map (Value.int .i64)) ∧ (∀ k, v.ownBlock = some k → w.heap.size ≤ k) ∧ Turned (fun _ => False) w w' := by
  have T3 := (((Turned.refl (fun _ => False) w).alloc (.cells #[.slice none 0 0] 24)).alloc (.map #[] 0)).alloc (.cells #[.map (some (w.heap.size + 1))] 140)
  have hin : t.In (fun k => p k ∧ k < w.heap.size) (((w.alloc (.cells #[.slice none 0 0] 24)).alloc (.map #[] 0)).alloc (.cells #[.map (some (w.heap.size + 1))] 140)) := LT.In.turned T3 (fun _ _ _ f => f) (fun k hk h => ⟨h, hk⟩) t ht
  have hV : VarsIn (w.heap.size + 1 + 1) w.heap.size (w.heap.size + 1) (.slice none 0 0) [] (((w.alloc (.cells #[.slice none 0 0] 24)).alloc (.map #[] 0)).alloc (.cells #[.map (some (w.heap.size + 1))] 140)) := by
    refine ⟨?_, ?_, ?_, Row.nil _ _ _, by omega, by simp [Value.ownBlock], by simp [Value.ownBlock]⟩
    · have := heap_alloc_new ((w.alloc (.cells #[.slice none 0 0] 24)).alloc (.map #[] 0)) (.cells #[.map (some (w.heap.size + 1))] 140)
      simpa using this
    · exact (Below.heap_alloc _ _ _ (by simp; omega)).trans (heap_alloc2_old w _ _)
    · have := (IMap.made (w.alloc (.cells #[.slice none 0 0] 24)) Try.prog 2).alloc (.cells #[.map (some (w.heap.size + 1))] 140)
      have e : inSet [] = fun _ => none := by funext i; simp [inSet]
      rw [e]
      simpa using this
  have hM : ∀ k, MineV (w.heap.size + 1 + 1) w.heap.size (w.heap.size + 1) (.slice none 0 0) k → w.heap.size ≤ k := by
    rintro k (rfl | rfl | rfl | h)
    · omega
    · omega
    · omega
    · simp [Value.ownBlock] at h
  refine (each124 (told_vars (fun k => p k ∧ k < w.heap.size) t (w.heap.size + 1 + 1) w.heap.size (MineV (w.heap.size + 1 + 1) w.heap.size (w.heap.size + 1) (.slice none 0 0))) hin (fun k hk m => by have := hM k m; omega)
    (M := MineV (w.heap.size + 1 + 1) w.heap.size (w.heap.size + 1) (.slice none 0 0)) ⟨_, _, fun k => Iff.rfl, hV⟩ (fun k h => h) hs (fun l x r h _ => by have := prefix_size h; omega)).mono ?_
  rintro e w' ⟨rfl, M', ⟨mb, v, hM', hV'⟩, hsub, hT⟩
  refine ⟨⟨_, rfl⟩, v, hV'.ho, ?_, fun k hk => ?_, T3.step hT (fun i hi m => by have := hM i m; omega)⟩
  · have := hV'.row
    rw [tell_true] at this
    simpa [Tm.vars] using this
  · rcases hsub k ((hM' k).2 (.inr (.inr (.inr hk)))) with m | m
    · exact hM k m
    · simp at m; omega

/-- The variables of a term that may be; of another one, none. -/
def varsB {α : Type} (t : Tm α) : List Int := if goodB t then t.vars else []

set_option maxRecDepth 100000 in
set_option maxHeartbeats 800000 in
theorem vars34 {p : Nat → Prop} {t : LT} {w : World} (ht : t.In p w) (hs : slim t) :
    Calls Try.prog 34 #[t.val] w fun e w' => ∃ v, e = .returned v ∧ Row w' 2 1 v (varsB t).length ((varsB t).map (Value.int .i64)) ∧ (∀ k, v.ownBlock = some k → w.heap.size ≤ k) ∧ Turned (fun _ => False) w w' := by
  have hmf : ∀ (fn : Fn) (first cap : Array Value) (w : World), (Instr.makeFunc fn first cap).run Try.prog w = .ok (.func fn first cap) w := fun _ _ _ _ => rfl
  have hmm := @run_makeMap Try.prog
  obtain ⟨bx, hbx⟩ : ∃ bx : Obj, bx = .cells #[.int .i64 t.kind, .int .i64 t.n, .string t.name, .slice t.at_.1 t.args.length t.at_.2] 27 := ⟨_, rfl⟩
  have T1 := (Turned.refl (fun _ => False) w).alloc bx
  have hg := good38 (ht.turned0 T1) hs
  have hc : ∀ W, Turned (fun _ => False) (w.alloc bx) W → W.cell? ⟨w.heap.size, 0, none⟩ = some (.int .i64 t.kind) ∧ W.cell? ⟨w.heap.size, 1, none⟩ = some (.int .i64 t.n) ∧ W.cell? ⟨w.heap.size, 2, none⟩ = some (.string t.name) ∧ W.cell? ⟨w.heap.size, 3, none⟩ = some (.slice t.at_.1 t.args.length t.at_.2) ∧ w.heap.size < W.heap.size := by
    intro W h
    subst hbx
    obtain ⟨hb, hl⟩ := box4 h
    obtain ⟨c0, c1, c2, c3, _⟩ := cells4 hb
    exact ⟨c0, c1, c2, c3, hl⟩
  have he := fun (h2 : t.size ≤ 2000) W (h : Turned (fun _ => False) (w.alloc bx) W) => eachVars (ht.turned0 (T1.trans h)) hs h2
  rw [LT.val_eq] at hg he ⊢
  have HE := Lib.hid he
  have HG := Lib.hid hg
  have HC := Lib.hid hc
  have HT := Lib.hid T1
  subst hbx
  clear hg hc T1 he
  by_cases g : goodB t = true
  · have HV : Hid (varsB t = t.vars) := by show _ = _; unfold varsB; rw [if_pos g]
    have g2 := good_size g
    have HGG := Lib.hid g
    go_enter Try.func34, Try.ntmps34
    go_wp2_with (first
      | (go_at_call 38; refine HG.out.mono ?_; rintro e w2 ⟨rfl, T2⟩; obtain ⟨c0, c1, c2, c3, hl⟩ := HC.out _ T2; have hl1 : w.heap.size < w2.heap.size + 1 := Nat.lt_succ_of_lt hl; have hl2 : w.heap.size < w2.heap.size + 1 + 1 := Nat.lt_succ_of_lt hl1)
      | (go_at_call 124; refine (HE.out g2 _ T2).mono ?_; rintro e w3 ⟨⟨b3, rfl⟩, v3, ho3, hr3, hv3, T3⟩; obtain ⟨c4, f4⟩ := cell1 ho3; have HO3 := Lib.hid ho3; clear ho3))
    go_ret
    refine ⟨v3, rfl, ?_, fun k hk => ?_, HT.out.trans (T2.trans T3)⟩
    · rw [HV.out]; exact hr3
    · have h2 := T2.size
      have := hv3 k hk
      simp at h2; omega
  · have HV : Hid (varsB t = []) := by show _ = _; unfold varsB; rw [if_neg g]
    have g' : goodB t = false := by simpa using g
    clear g
    go_enter Try.func34, Try.ntmps34
    go_wp2_with (first | (go_at_call 38; refine HG.out.mono ?_; rintro e w2 ⟨rfl, T2⟩))
    go_ret
    refine ⟨_, rfl, ?_, fun k hk => by simp [Value.ownBlock] at hk, HT.out.trans T2⟩
    rw [HV.out]
    exact Row.nil _ _ _
end Go.Proofs.Ytoihjobdfjajfaa

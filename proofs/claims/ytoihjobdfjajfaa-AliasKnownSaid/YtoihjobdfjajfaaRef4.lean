/- The document's vars, Vars. -/
import Derived.Test.YtoihjobdfjajfaaRef3
namespace Go.Proofs.Ytoihjobdfjajfaa
set_option linter.unusedVariables false
set_option linter.unusedSimpArgs false
open Go.RowKit

theorem docVarss_snoc {α : Type} (l : List (Tm α)) (j : Nat) (x : Tm α) (vs : List Int) (h : l[j]? = some x) : Tm.docVarss (l.take (j + 1)) vs = Tm.docVars x (Tm.docVarss (l.take j) vs) := by
  rw [take_snoc' _ _ _ h]
  generalize l.take j = m
  induction m generalizing vs with
  | nil => rfl
  | cons y m ih => simp only [List.cons_append, Tm.docVarss]; exact ih _
mutual
theorem docVars_le {α : Type} : ∀ (t : Tm α) (l : List Int), (Tm.docVars t l).length ≤ l.length + t.size
  | .mk k n s e aa, l => by
    simp only [Tm.docVars, Tm.size]
    split
    · split
      · omega
      · simp only [List.length_append, List.length_singleton]; omega
    · have := docVarss_le aa l; omega
theorem docVarss_le {α : Type} : ∀ (m : List (Tm α)) (l : List Int), (Tm.docVarss m l).length ≤ l.length + Tm.sizes m
  | [], l => by simp [Tm.docVarss, Tm.sizes]
  | x :: m, l => by
    simp only [Tm.docVarss, Tm.sizes]
    have h1 := docVars_le x l
    have h2 := docVarss_le m (Tm.docVars x l)
    omega
end
theorem docVars_0 {α : Type} {t : Tm α} {l : List Int} (h : t.kind = 0) (hn : t.n ∈ l) : Tm.docVars t l = l := by
  cases t; simp only [Tm.kind, Tm.n] at h hn; simp [Tm.docVars, h, hn]
theorem docVars_1 {α : Type} {t : Tm α} {l : List Int} (h : t.kind = 0) (hn : t.n ∉ l) : Tm.docVars t l = l ++ [t.n] := by
  cases t; simp only [Tm.kind, Tm.n] at h hn; simp [Tm.docVars, h, hn, Tm.n]
theorem docVars_2 {α : Type} {t : Tm α} {l : List Int} (h : ¬ t.kind = 0) : Tm.docVars t l = Tm.docVarss t.args l := by
  cases t; simp only [Tm.kind] at h; simp [Tm.docVars, h, Tm.args]
theorem mem_take_snoc {l : List Int} {j : Nat} {x n : Int} (h : l[j]? = some x) (hn : n ∉ l.take j) (hx : ¬ x = n) : n ∉ l.take (j + 1) := by
  rw [take_snoc' _ _ _ h]
  intro hm
  rcases List.mem_append.1 hm with hm | hm
  · exact hn hm
  · rw [List.mem_singleton] at hm; exact hx hm.symm
theorem news_one {w : World} {g : Nat} {u : Value} {T : TypeId} (h : w.heap[g]? = some (.cells #[u] T (0, 0))) : ∀ j v, [u][j]? = some v → w.cell? ((⟨g, 0, none⟩ : Addr).add j) = some v := by
  intro j v hv
  rw [Addr.add_lit, Nat.zero_add, cell_of_row w g j _ T (0, 0) h]
  simpa using hv
/-- The row so far, and where it lies. -/
structure VRow (v0 : Value) (w1 : World) (v : Value) (xs : List Int) (w : World) : Prop where
  row : Row w 2 1 v xs.length (xs.map (Value.int .i64))
  own : v.ownBlock = v0.ownBlock ∨ ∃ g, v.ownBlock = some g ∧ w1.heap.size ≤ g
  turned : Turned (fun k => v0.ownBlock = some k) w1 w
def VarsR (t : LT) (xs : List Int) (v0 : Value) (w1 : World) (g : Nat) (v i : Value) (wr : World) : Prop :=
  ∃ j : Nat, Hid (j + g = t.args.length) ∧ j ≤ t.args.length ∧ i = .int .i64 j ∧ Hid (VRow v0 w1 v (Tm.docVarss (t.args.take j) xs) wr)

set_option maxRecDepth 100000 in
set_option maxHeartbeats 3200000 in
theorem vars131 (m : Nat) : ∀ (p : Nat → Prop) (t : LT) (v : Value) (xs : List Int) (w : World), t.depth ≤ m → t.In p w → (∀ k, p k → v.ownBlock ≠ some k) → Row w 2 1 v xs.length (xs.map (Value.int .i64)) → xs.length + t.size ≤ 100000 →
    Calls Try.prog 131 #[t.val, v] w fun e w' => ∃ v', e = .returned v' ∧ VRow v w v' (Tm.docVars t xs) w' := by
  induction m with
  | zero => intro p t v xs w h; have := Tm.depth_pos t; omega
  | succ k ih =>
  intro p t v xs w hd ht hp hrow hlen
  have hl := ht.len
  have hal : t.args.length ≤ 9223372036854775807 := by have := hl.1; have := hl.2.1; unfold maxLen at this; omega
  have hL := fun (q : Nat → Prop) W h => (LT.In.lies (p := q) (w := W) (t := t) h)
  obtain ⟨va, vc, rfl⟩ := hrow.shape
  have hvl := hrow.max.2
  have hvl1 := hrow.max.1
  rw [LT.val_eq]
  obtain ⟨a, ha⟩ : ∃ a, a = t.at_.1 := ⟨_, rfl⟩
  obtain ⟨c, hc⟩ : ∃ c, c = t.at_.2 := ⟨_, rfl⟩
  rw [← ha] at hL
  rw [← ha, ← hc]
  have HL := Lib.hid hL
  have HIN := Lib.hid ht
  have HD := Lib.hid hd
  have HIH := Lib.hid ih
  have HP := Lib.hid hp
  have hxl : xs.length ≤ 100000 := by omega
  have HLEN := Lib.hid hlen
  have HROW := Lib.hid hrow
  clear ha hc hl hL ht hd ih hp hrow hlen
  have T := fun o => (Turned.refl (fun k => (Value.slice va xs.length vc).ownBlock = some k) w).alloc o
  have HT1 := Lib.hid (T (.cells #[.int .i64 t.kind, .int .i64 t.n, .string t.name, .slice a t.args.length c] 41))
  have HS1 : Hid ((w.alloc (.cells #[.int .i64 t.kind, .int .i64 t.n, .string t.name, .slice a t.args.length c] 41)).heap.size = w.heap.size + 1) := by show _ = _; simp
  have hb1 := boxed w #[.int .i64 t.kind, .int .i64 t.n, .string t.name, .slice a t.args.length c] 41
  have HR1 := Lib.hid (HROW.out.alloc (.cells #[.int .i64 t.kind, .int .i64 t.n, .string t.name, .slice a t.args.length c] 41))
  have HTB := And.intro HT1 (And.intro HS1 (And.intro HR1 (Lib.hid hb1)))
  clear T HT1 hb1 HS1 HR1
  by_cases h0 : t.kind = 0
  · have k0 : (t.kind == 0) = true := by simp [h0]
    have H0 := Lib.hid h0
    clear h0
    go_enter Try.func131, Try.ntmps131
    go_wp2_with fail
    revert HTB
    generalize w.alloc (.cells #[.int .i64 t.kind, .int .i64 t.n, .string t.name, .slice a t.args.length c] 41) = w1
    intro HTB
    obtain ⟨HT1, HS1, HR1, HB1⟩ := HTB
    have b1 : w1.cell? ⟨w.heap.size, 1, none⟩ = some (.int .i64 t.n) := HB1.out 1
    clear HB1
    have B1 := Lib.hid b1
    clear b1
    go_loopg [5] xs.length (fun g i wr => ∃ j : Nat, Hid (j + g = xs.length) ∧ j ≤ xs.length ∧ i = .int .i64 j ∧ Hid (t.n ∉ xs.take j) ∧ Turned (fun _ => False) w1 wr)
    case atStart => exact ⟨0, Nat.zero_add _, Nat.zero_le _, rfl, show _ ∉ _ by simp, Turned.refl _ _⟩
    case round =>
      obtain ⟨j, HG, hj, rfl, HN, Tr⟩ := hrel
      have b1 := Tr.cell0 B1.out
      by_cases hjl : j < xs.length
      · have hx : xs[j]? = some xs[j] := List.getElem?_eq_getElem hjl
        obtain ⟨x, hxe⟩ : ∃ x, x = xs[j] := ⟨_, rfl⟩
        rw [← hxe] at hx
        clear hxe
        obtain ⟨g1, rfl⟩ := HR1.out.addr_pos (by omega)
        have k1 := (HR1.out.turned0 Tr).int_at hx
        have HX := Lib.hid hx
        clear hx
        by_cases hxn : x = t.n
        · have hq : (x == t.n) = true := by simp [hxn]
          have HXN := Lib.hid hxn
          clear hxn
          go_wp2_with fail
          go_quiet (fail)
          go_wp2_with fail
          go_ret
          refine ⟨_, rfl, ?_⟩
          have hm : t.n ∈ xs := by rw [← HXN.out]; exact List.mem_of_getElem? HX.out
          rw [docVars_0 H0.out hm]
          exact ⟨HR1.out.turned0 (Tr.trans ((Turned.refl _ wr).drewN _)), .inl rfl, HT1.out.trans ((Tr.trans ((Turned.refl _ wr).drewN _)).mono (fun _ _ f => f.elim))⟩
        · have hq : (x == t.n) = false := by simp [hxn]
          have HXN := Lib.hid hxn
          clear hxn
          go_wp2_with fail
          go_quiet (fail)
          go_wp2_with fail
          go_roundg (gk - 1)
          case measure => have := HG.out; omega
          case rel => exact ⟨j + 1, show _ = _ by have := HG.out; omega, by omega, by go_num, mem_take_snoc HX.out HN.out HXN.out, Tr.trans ((Turned.refl _ wr).drewN _)⟩
      · have hje : j = xs.length := by omega
        have hn := HN.out
        rw [hje, List.take_length] at hn
        have HNN := Lib.hid hn
        have hrw := HR1.out.turned0 Tr
        have HRW := Lib.hid hrw
        obtain ⟨i0, hi0, hz0, hz1, hz2⟩ := info_parts infoI
        clear hn hrw hje
        go_wp2_with (at_builtin; refine append_some _ rfl _ _ 24 rfl 2 i0 (.int .i64 0) 1 8 Try.underlying24 hi0 hz0 hz1 hz2 rfl (by decide) _ _ _ rfl (HRW.out.alloc _) ⟨wr.heap.size, 0, none⟩ 1 1 [.int .i64 t.n] rfl rfl (news_one (heap_alloc_new wr _)) (by simp [Value.oneCell']) (by omega) (by unfold maxLen; omega) (by omega) ?_; intro g5 cap5 w5 hown5 hg5 hloc5)
        go_ret
        refine ⟨_, rfl, ?_⟩
        rw [docVars_1 H0.out HNN.out]
        have h1 := Tr.size
        have h2 := HS1.out
        refine ⟨by simpa using hown5, ?_, ?_⟩
        · rcases hloc5 with e | e
          · exact .inl e
          · exact .inr ⟨g5, rfl, by simp at e; omega⟩
        · exact (HT1.out.trans (Tr.mono (fun _ _ f => f.elim))).step ((Turned.refl _ wr).alloc _ |>.trans hg5) (fun i _ e => e)
  · have k0 : (t.kind == 0) = false := by simp [h0]
    have H0 := Lib.hid h0
    clear h0
    go_enter Try.func131, Try.ntmps131
    go_wp2_with fail
    revert HTB
    generalize w.alloc (.cells #[.int .i64 t.kind, .int .i64 t.n, .string t.name, .slice a t.args.length c] 41) = w1
    intro HTB
    obtain ⟨HT1, HS1, HR1, HB1⟩ := HTB
    have b3 : w1.cell? ⟨w.heap.size, 3, none⟩ = some (.slice a t.args.length c) := HB1.out 3
    clear HB1
    have B3 := Lib.hid b3
    clear b3
    go_loopg [1, 6] t.args.length (fun g v i wr => VarsR t xs (.slice va xs.length vc) w1 g v i wr)
    case atStart => exact ⟨0, Nat.zero_add _, Nat.zero_le _, rfl, HR1.out, .inl rfl, Turned.refl _ _⟩
    case round =>
      obtain ⟨j, HG, hj, rfl, HV⟩ := hrel
      have hb := HV.out.turned.cell B3.out (fun e => by have := HROW.out.lt _ e; exact Nat.lt_irrefl _ this)
      obtain ⟨vb, vd, rfl⟩ := HV.out.row.shape
      by_cases hjl : j < t.args.length
      · have hx : t.args[j]? = some t.args[j] := List.getElem?_eq_getElem hjl
        obtain ⟨x, hxe⟩ : ∃ x : LT, x = t.args[j] := ⟨_, rfl⟩
        rw [← hxe] at hx
        clear hxe
        have hin : t.In (fun k => p k ∧ k < w.heap.size) wr := LT.In.turned (HT1.out.trans HV.out.turned) (fun k hk h e => HP.out k h e) (fun k hk h => ⟨h, hk⟩) t HIN.out
        have hxin := (LT.ins_iff _).1 hin.args x (List.mem_of_getElem? hx)
        obtain ⟨b, o, rfl, _, c0, c1, c2, c3⟩ := (HL.out _ _ hin).cell hx
        have hle1 := docVarss_le (t.args.take j) xs
        have hle2 := sizes_snoc t.args j x hx
        have hle3 := sizes_take_le t.args (j + 1)
        have hih := HIH.out _ x _ _ wr (by have := arg_depth (List.mem_of_getElem? hx); have := HD.out; omega) hxin (fun k hk e => by
          rcases HV.out.own with e' | ⟨g, e', hg⟩
          · exact HP.out k hk.1 (e'.symm.trans e)
          · rw [e'] at e; injection e with e; have := HS1.out; omega) HV.out.row (by have := HLEN.out; rw [Tm.size_eq] at this; omega)
        rw [LT.val_eq] at hih
        have HX := Lib.hid hx
        have HI := Lib.hid hih
        clear hx hih hxin hin hle1 hle2 hle3
        go_wp2_with (go_at_call 131; refine HI.out.mono ?_; rintro e w2 ⟨v2, rfl, V2⟩)
        go_roundg (gk - 1)
        case measure => have := HG.out; omega
        case rel =>
          refine ⟨j + 1, show _ = _ by have := HG.out; omega, by omega, by go_num, ?_⟩
          show VRow _ _ _ _ _
          rw [docVarss_snoc _ _ _ _ HX.out]
          have hs := HV.out.turned.size
          refine ⟨V2.row, ?_, HV.out.turned.step V2.turned (fun i hi e => ?_)⟩
          · rcases V2.own with e | ⟨g, e, hg⟩
            · rcases HV.out.own with e' | ⟨g', e', hg'⟩
              · exact .inl (e.trans e')
              · exact .inr ⟨g', e.trans e', hg'⟩
            · exact .inr ⟨g, e, by omega⟩
          · rcases HV.out.own with e' | ⟨g', e', hg'⟩
            · exact e'.symm.trans e
            · rw [e'] at e; injection e with e; omega
      · have hje : j = t.args.length := by omega
        have HQ : Hid (Tm.docVarss (t.args.take j) xs = Tm.docVarss t.args xs) := by show _ = _; rw [hje, List.take_length]
        go_wp2_with fail
        go_ret
        refine ⟨_, rfl, ?_⟩
        rw [docVars_2 H0.out, ← HQ.out]
        have hs := HS1.out
        have hV := HV.out
        refine ⟨hV.row, ?_, HT1.out.trans hV.turned⟩
        rcases hV.own with e | ⟨g, e, hg⟩
        · exact .inl e
        · exact .inr ⟨g, e, by omega⟩

set_option maxHeartbeats 800000 in
theorem rVars51 {p : Nat → Prop} {t : LT} {w : World} (ht : t.In p w) :
    Calls Try.prog 51 #[t.val] w fun e w' => ∃ v, e = .returned v ∧ Row w' 2 1 v (varsB t).length ((varsB t).map (Value.int .i64)) ∧ (∀ b, v.ownBlock = some b → w.heap.size ≤ b) ∧ Turned (fun _ => False) w w' := by
  obtain ⟨bx, hbx⟩ : ∃ bx : Obj, bx = .cells #[.int .i64 t.kind, .int .i64 t.n, .string t.name, .slice t.at_.1 t.args.length t.at_.2] 41 := ⟨_, rfl⟩
  have T1 := (Turned.refl (fun _ => False) w).alloc bx
  have hin : ∀ W, Turned (fun _ => False) (w.alloc bx) W → t.In p W := fun W h => ht.turned0 (T1.trans h)
  have hc : ∀ W, Turned (fun _ => False) (w.alloc bx) W → W.cell? ⟨w.heap.size, 0, none⟩ = some (.int .i64 t.kind) ∧ W.cell? ⟨w.heap.size, 1, none⟩ = some (.int .i64 t.n) ∧ W.cell? ⟨w.heap.size, 2, none⟩ = some (.string t.name) ∧ W.cell? ⟨w.heap.size, 3, none⟩ = some (.slice t.at_.1 t.args.length t.at_.2) := by
    intro W h
    subst hbx
    obtain ⟨hb, _⟩ := box4 h
    obtain ⟨c0, c1, c2, c3, _⟩ := cells4 hb
    exact ⟨c0, c1, c2, c3⟩
  have h1 := fun W h => rGood45 (hin W h)
  have h2 := fun (hg : goodB t = true) W h => vars131 t.depth p t (.slice none 0 0) [] W (Nat.le_refl _) (hin W h) (fun _ _ e => by simp [Value.ownBlock] at e) (Row.nil _ _ _) (by have := good_size hg; simp; omega)
  rw [LT.val_eq] at h1 h2 ⊢
  have H1 := Lib.hid h1
  have H2 := Lib.hid h2
  have HC := Lib.hid hc
  have HT := Lib.hid T1
  subst hbx
  clear h1 h2 hc T1 hin
  cases hg : goodB t with
  | true =>
    rw [hg] at H1
    have HR : Hid (varsB t = Tm.docVars t []) := by
      show _ = _
      unfold varsB
      rw [if_pos hg]
      exact (Tm.docVars_eq t [] (fun x hx hk => by
        have h1 := good_ones hg x hx
        rw [goodOneB_0 x hk] at h1
        simp only [Bool.and_eq_true, decide_eq_true_eq] at h1
        exact List.eq_nil_of_length_eq_zero (of_decide_eq_true (by simpa using h1.2.2.2)))).symm
    have HG := Lib.hid hg
    clear hg
    go_enter Try.func51, Try.ntmps51
    go_wp2_with (first
      | (go_at_call 45; refine (H1.out _ (Turned.refl _ _)).mono ?_; rintro e w2 ⟨rfl, T2⟩; obtain ⟨c0, c1, c2, c3⟩ := HC.out _ T2)
      | (go_at_call 131; refine (H2.out HG.out _ T2).mono ?_; rintro e w3 ⟨v3, rfl, V3⟩))
    go_ret
    have T3 : Turned (fun _ => False) w2 w3 := V3.turned.mono (fun _ _ e => by simp [Value.ownBlock] at e)
    refine ⟨v3, rfl, by rw [HR.out]; exact V3.row, fun b hb => ?_, HT.out.trans (T2.trans T3)⟩
    rcases V3.own with e | ⟨g, e, hg⟩
    · rw [e] at hb; simp [Value.ownBlock] at hb
    · rw [e] at hb; injection hb with hb; have := HT.out.size; have := T2.size; omega
  | false =>
    rw [hg] at H1
    have HR : Hid (varsB t = []) := by show _ = _; unfold varsB; rw [hg]; rfl
    clear hg H2
    go_enter Try.func51, Try.ntmps51
    go_wp2_with (go_at_call 45; refine (H1.out _ (Turned.refl _ _)).mono ?_; rintro e w2 ⟨rfl, T2⟩; obtain ⟨c0, c1, c2, c3⟩ := HC.out _ T2)
    go_ret
    refine ⟨_, rfl, by rw [HR.out]; exact Row.nil _ _ _, fun b hb => by simp [Value.ownBlock] at hb, HT.out.trans T2⟩
end Go.Proofs.Ytoihjobdfjajfaa

/- Merged texts: BT3, DW2, DW3, DW4, DW5, BL1, UB1, DA1, Own98, DA2, DB7, DL2, DB9, BU1, BU2, BU3, BU4, BK1, BP0, Pick, Idx, IdxAll. -/
import Derived.Test.YtoihjobdfjajfaaBp3
import Derived.Deep.RegionHeld3
import Derived.Deep.DrawnRows
import Derived.Deep.RegionLaw
import Derived.Deep.OwnRows
import Derived.Laws.OwnMore
namespace Go.Proofs.Ytoihjobdfjajfaa
open Go.RowKit Go.Maps
set_option linter.unusedVariables false
set_option linter.unusedSimpArgs false
def remL (l : TL) (todo : List LT) : List (Tm Unit) := todo.reverse.flatMap fun y => (Tm.img (bt l) y.bare).flat
theorem remL_snoc (l : TL) (ys : List LT) (x : LT) : remL l (ys ++ [x]) = (Tm.img (bt l) x.bare).flat ++ remL l ys := by
  unfold remL; rw [List.reverse_append]; rfl
theorem remL_args (l : TL) (ys as_ : List LT) : remL l (ys ++ as_.reverse) = Tm.flats (as_.map fun y => Tm.img (bt l) y.bare) ++ remL l ys := by
  unfold remL
  rw [List.reverse_append, List.reverse_reverse, List.flatMap_append]
  congr 1
  induction as_ with
  | nil => rfl
  | cons y l ih => simp only [List.flatMap_cons, List.map_cons, Tm.flats, ih]
theorem remL_ne (l : TL) (ys : List LT) (x : LT) : remL l (ys ++ [x]) ≠ [] := by
  rw [remL_snoc, Tm.flat_eq]; simp
structure HasI (p : Nat → Prop) (m : Nat) (w0 : World) (todo : List LT) (v : Value) (w : World) : Prop where
  row : Row w 27 4 v todo.length (todo.flatMap LT.cells)
  own : ∀ g, v.ownBlock = some g → w0.heap.size ≤ g
  mem : ∀ y ∈ todo, y.In p w ∧ given m y
  turned : Turned (fun _ => False) w0 w
  plt : ∀ k, p k → k < w0.heap.size
section
variable {p : Nat → Prop} {m : Nat} {w0 w w' : World} {todo ys : List LT} {x : LT} {v : Value}
theorem HasI.turned0 (h : HasI p m w0 todo v w) (T : Turned (fun _ => False) w w') : HasI p m w0 todo v w' := ⟨h.row.turned0 T, h.own, fun y hy => ⟨(h.mem y hy).1.turned0 T, (h.mem y hy).2⟩, h.turned.trans T, h.plt⟩
theorem HasI.pop {g k cap : Nat} (h : HasI p m w0 (ys ++ [x]) (.slice (some ⟨g, 0, none⟩) k cap) w) : k = ys.length + 1 ∧ HasI p m w0 ys (.slice (some ⟨g, 0, none⟩) ys.length cap) w ∧ ys.length + 1 ≤ cap ∧ cap ≤ maxLen := by
  have hr := h.row
  have hn : k = ys.length + 1 := by
    rcases hr.2 with ⟨e, _⟩ | ⟨g', c', cur, e, _⟩
    · cases e
    · injection e with _ e _; simp at e; exact e
  subst hn
  have hcap : ys.length + 1 ≤ cap ∧ cap ≤ maxLen := by
    rcases hr.2 with ⟨e, _⟩ | ⟨g', c', cur, e, _, h1, h2, _⟩
    · cases e
    · injection e with _ _ e; subst e; simp at h1; omega
  have hr' : Row w 27 4 (.slice (some ⟨g, 0, none⟩) (ys.length + 1) cap) (ys.length + 1) ((ys ++ [x]).flatMap LT.cells) := by simpa using hr
  have ht := hr'.take (m := ys.length) (c := cap) (by omega) (by omega) (Nat.le_refl _)
  rw [List.flatMap_append, List.take_left' (by rw [LT.flat_length])] at ht
  exact ⟨rfl, ⟨ht, fun k hk => h.own k (by simpa [Value.ownBlock] using hk), fun y hy => h.mem y (List.mem_append_left _ hy), h.turned, h.plt⟩, hcap⟩
theorem HasI.top {g k cap : Nat} (h : HasI p m w0 (ys ++ [x]) (.slice (some ⟨g, 0, none⟩) k cap) w) :
    w.cell? ⟨g, ys.length * 4, none⟩ = some (.int .i64 x.kind) ∧ w.cell? ⟨g, ys.length * 4 + 1, none⟩ = some (.int .i64 x.n) ∧ w.cell? ⟨g, ys.length * 4 + 2, none⟩ = some (.string x.name) ∧ w.cell? ⟨g, ys.length * 4 + 3, none⟩ = some (.slice x.at_.1 x.args.length x.at_.2) := by
  have hn := h.pop.1
  subst hn
  have hr : Row w 27 4 (.slice (some ⟨g, 0, none⟩) (ys.length + 1) cap) (ys.length + 1) ((ys ++ [x]).flatMap LT.cells) := by simpa using h.row
  have hi : (ys ++ [x])[ys.length]? = some x := by simp
  refine ⟨hr.cells rfl _ _ ?_, hr.cells rfl _ _ ?_, hr.cells rfl _ _ ?_, hr.cells rfl _ _ ?_⟩
  · have := LT.flat_at hi 0 (by omega); rw [Nat.add_zero] at this; rw [this, LT.cells_eq]; rfl
  · rw [LT.flat_at hi 1 (by omega), LT.cells_eq]; rfl
  · rw [LT.flat_at hi 2 (by omega), LT.cells_eq]; rfl
  · rw [LT.flat_at hi 3 (by omega), LT.cells_eq]; rfl
theorem HasI.push {v' : Value} {y : LT} (h : HasI p m w0 ys v w) (hy : y.In p w ∧ given m y) (hr : Row w' 27 4 v' (ys.length + 1) (ys.flatMap LT.cells ++ y.cells)) (T : Turned (fun k => v.ownBlock = some k) w w') (ho : v'.ownBlock = v.ownBlock ∨ ∀ k, v'.ownBlock = some k → w.heap.size ≤ k) : HasI p m w0 (ys ++ [y]) v' w' := by
  refine ⟨by rw [List.flatMap_append, List.length_append]; simpa using hr, fun g e => ?_, fun z hz => ?_, h.turned.step T (fun i hi e => by have := h.own i e; omega), h.plt⟩
  · rcases ho with ho | ho
    · exact h.own g (ho ▸ e)
    · have := ho g e; have := h.turned.size; omega
  · rcases List.mem_append.1 hz with hz | hz
    · exact ⟨LT.In.turned T (fun k _ hk e => by have := h.own k e; have := h.plt k hk; omega) (fun _ _ q => q) _ (h.mem z hz).1, (h.mem z hz).2⟩
    · rw [List.mem_singleton] at hz; rw [hz]; exact ⟨LT.In.turned T (fun k _ hk e => by have := h.own k e; have := h.plt k hk; omega) (fun _ _ q => q) _ hy.1, hy.2⟩
end
theorem has_miss {m most c : Nat} {n : Int} {l : TL} {ys : List LT} {x0 x : LT} (hl : Tm.okT m (bt l)) (hw : Tm.Walked m (bt l) x0.bare x.bare) (hc : c < most) (hn : ¬ (x.kind = 0 ∧ x.n = n)) :
    Tm.hasL most n c (remL l (ys ++ [x0])) = Tm.hasL most n (c + 1) (remL l (ys ++ x.args.reverse)) := by
  rw [remL_snoc, remL_args]
  by_cases hk : x.kind = 0
  · have hkb : x.bare.kind = 0 := by rw [Tm.bare_kind]; exact hk
    rw [hw.flat_var hl hkb]
    have hb := Tm.leafy_self hw.leafy hkb
    have ha : x.args = [] := by
      have := congrArg (fun t => (Tm.args t).length) hb
      exact List.eq_nil_of_length_eq_zero ((Tm.bare_arity x).symm.trans this)
    rw [ha, List.map_nil, Tm.flats, List.nil_append]
    exact Tm.hasL_miss (by rw [Tm.bare_kind, Tm.bare_n]; exact hn) hc
  · have hkb : ¬ x.bare.kind = 0 := by rw [Tm.bare_kind]; exact hk
    obtain ⟨h1, h2⟩ := hw.flat_node hl hkb
    rw [h1, List.cons_append, Tm.hasL_node h2 hc, Tm.bare_args, Tm.bares_eq, List.map_map]
    rfl
theorem has_hit {m most c : Nat} {n : Int} {l : TL} {ys : List LT} {x0 x : LT} (hl : Tm.okT m (bt l)) (hw : Tm.Walked m (bt l) x0.bare x.bare) (hk : x.kind = 0) (hn : x.n = n) :
    Tm.hasL most n c (remL l (ys ++ [x0])) = (true, c + 1) := by
  rw [remL_snoc, hw.flat_var hl (by rw [Tm.bare_kind]; exact hk)]
  exact Tm.hasL_hit (by rw [Tm.bare_kind]; exact hk) (by rw [Tm.bare_n]; exact hn)
theorem given_args' {m : Nat} {x y : LT} (h : given m x) (hy : y ∈ x.args) : given m y := by
  by_cases hk : x.kind = 0
  · have := (given_var h hk).2.2.2.1
    rw [this] at hy
    cases hy
  · exact given_args h hk y hy
def hasR (m : Nat) (l : Tm.Trail) (n : Int) (t : Tm Unit) (most : Nat) : Bool × Nat := if Tm.ownB m t = true then Tm.hasL most n 0 (Tm.img l t).flat else (false, 0)
def HasL (p : Nat → Prop) (m : Nat) (l : TL) (n : Int) (M : Nat) (R : Bool × Nat) (w0 : World) (k : Nat) (v c : Value) (wr : World) : Prop :=
  ∃ (todo : List LT) (j : Nat), Hid (j + k = M) ∧ j ≤ M ∧ c = .int .i64 j ∧ Hid (HasI p m w0 todo v wr) ∧ Hid (Tm.hasL M n j (remL l todo) = R) ∧ Hid (todo.length ≤ 1 + 8 * j)
set_option maxRecDepth 100000 in
set_option maxHeartbeats 6400000 in
theorem has106 {p O : Nat → Prop} {bb m : Nat} {l : TL} {w : World} {t : LT} {n most : Int} (h : BO p bb O m l w) (ht : t.In p w) (hs : slim t) (hm : most ≤ 100000) (hm0 : -9223372036854775808 ≤ most) :
    Calls Try.prog 106 #[.pointer (some ⟨bb, 0, none⟩), .int .i64 n, t.val, .int .i64 most] w fun e w' => e = .returned (.tuple #[.bool (hasR m (bt l) n t.bare most.toNat).1, .int .i64 (hasR m (bt l) n t.bare most.toNat).2]) ∧ Turned (fun _ => False) w w' := by
  obtain ⟨i0, hi0, hz0, hz1, hz2⟩ := info_parts infoT
  have T1 : Turned (fun _ => False) w (w.alloc (.cells #[.int .i64 t.kind, .int .i64 t.n, .string t.name, .slice t.at_.1 t.args.length t.at_.2] 27)) := (Turned.refl _ w).alloc _
  have how : Calls Try.prog 144 #[.pointer (some ⟨bb, 0, none⟩), t.val] (w.alloc (.cells #[.int .i64 t.kind, .int .i64 t.n, .string t.name, .slice t.at_.1 t.args.length t.at_.2] 27)) fun e w' => e = .returned (.bool (Tm.ownB m t)) ∧ Turned (fun _ => False) (w.alloc (.cells #[.int .i64 t.kind, .int .i64 t.n, .string t.name, .slice t.at_.1 t.args.length t.at_.2] 27)) w' := by
    obtain ⟨sb, lv, tv, B, _⟩ := h.bi
    exact own144 (B.turned0 T1) (ht.turned0 T1) hs
  have hbx := heap_alloc_new w (.cells #[.int .i64 t.kind, .int .i64 t.n, .string t.name, .slice t.at_.1 t.args.length t.at_.2] 27)
  have HBX := Lib.hid hbx
  have HT := Lib.hid ht
  have HH := Lib.hid h
  have HT1 := Lib.hid T1
  have hob0 := ownB_bare m t
  rw [LT.val_eq] at how ⊢
  cases hob : Tm.ownB m t with
  | false =>
    have hR : hasR m (bt l) n t.bare most.toNat = (false, 0) := by unfold hasR; rw [hob0, hob]; rfl
    rw [hR]
    rw [hob] at how
    have HOW := Lib.hid how
    clear how hob hob0 hR h ht hs hbx T1
    go_enter Try.func106, Try.ntmps106
    go_wp2_with (go_at_call 144; (with_reducible refine HOW.out.mono ?_); rintro e w4 ⟨rfl, T4⟩)
    go_ret2
    exact ⟨rfl, HT1.out.trans T4⟩
  | true =>
    have hgb := Tm.ownB_iff.1 (show Tm.ownB m t.bare = true by rw [hob0, hob])
    have hgv : given m t := ⟨Tm.good_ones' hgb.1, hgb.2⟩
    have hst : ∀ M, Tm.hasL M n 0 (remL l [t]) = hasR m (bt l) n t.bare M := fun M => by
      unfold hasR; rw [hob0, hob, if_pos rfl]
      rw [show ([t] : List LT) = [] ++ [t] from rfl, remL_snoc]
      show Tm.hasL M n 0 (_ ++ []) = _
      rw [List.append_nil]
    rw [hob] at how
    have HOW := Lib.hid how
    have HGV := Lib.hid hgv
    clear how hob hob0 h ht hs hbx T1 hgv hgb
    by_cases hneg : most < 0
    · have hM0 : most.toNat = 0 := by omega
      rw [hM0]
      have hmx : ¬ (0 : Int) < most := by omega
      obtain ⟨R, hR⟩ : ∃ z, z = hasR m (bt l) n t.bare 0 := ⟨_, rfl⟩
      have HST := Lib.hid ((hst 0).trans hR.symm)
      rw [← hR]
      clear hR hst hM0
      go_enter Try.func106, Try.ntmps106
      go_wp2_with (go_at_call 144; (with_reducible refine HOW.out.mono ?_); rintro e w4 ⟨rfl, T4⟩; obtain ⟨c0, c1, c2, c3, _⟩ := cells4 ((T4.block _ (by simp) (fun f => f)).trans HBX.out); have HT4 := Lib.hid (HT1.out.trans T4); clear T4)
      have hinit : Hid (HasI p m w [t] (.slice (some ⟨w4.heap.size, 0, none⟩) 1 1) (w4.alloc (.cells #[.int .i64 t.kind, .int .i64 t.n, .string t.name, .slice t.at_.1 t.args.length t.at_.2] 27))) := by
        refine ⟨?_, fun g e => by (simp [Value.ownBlock] at e; have := HT4.out.size; omega), fun y hy => ?_, HT4.out.alloc _, HH.out.plt⟩
        · have := Row.made w4 27 4 #[.int .i64 t.kind, .int .i64 t.n, .string t.name, .slice t.at_.1 t.args.length t.at_.2] 1 rfl (by unfold maxLen; omega)
          simpa [LT.cells_eq] using this
        · rw [List.mem_singleton] at hy
          rw [hy]
          exact ⟨HT.out.turned0 (HT4.out.alloc _), HGV.out⟩
      go_loopg [10, 11] 0 (fun k v c wr => HasL p m l n 0 R w k v c wr)
      case atStart => exact ⟨[t], 0, Nat.zero_add _, Nat.zero_le _, rfl, hinit, HST.out, show _ ≤ _ by simp⟩
      case round =>
        obtain ⟨todo, j, HG, hj, rfl, HI, HR, HL⟩ := hrel
        obtain ⟨wo, rfl⟩ : ∃ wo : World, wo = wr := ⟨_, rfl⟩
        obtain ⟨go, rfl⟩ : ∃ go : Nat, go = gk := ⟨_, rfl⟩
        rcases List.eq_nil_or_concat todo with rfl | ⟨ys, x0, rfl⟩
        · obtain ⟨a, cap, rfl⟩ := HI.out.row.shape
          have hr : R = (false, j) := HR.out.symm
          have HRR := Lib.hid hr
          clear hr
          go_wp2_with fail
          go_ret2
          rw [HRR.out]
          exact ⟨rfl, HI.out.turned⟩
        · rw [List.concat_eq_append] at HI HR HL
          obtain ⟨g, cap, rfl⟩ := HI.out.row.shape_pos (by simp)
          obtain ⟨hn1, hI1, hc1, hc2⟩ := HI.out.pop
          obtain ⟨c0, c1, c2, c3⟩ := HI.out.top
          have hcm : cap ≤ 9223372036854775807 := by unfold maxLen at hc2; exact hc2
          have hys : ys.length ≤ 800001 := by have := HL.out; rw [List.length_append, List.length_singleton] at this; omega
          rw [List.length_append, List.length_singleton]
          have HI1 := Lib.hid hI1
          by_cases hjm : j = 0
          · have hjb : ((j : Int) == 0) = true := by simp [hjm]
            have hr : R = (true, 0 + 1) := by rw [← HR.out, Tm.hasL_stop (by omega) (remL_ne l ys x0), hjm]
            have HRR := Lib.hid hr
            clear hr hjm hI1 hn1
            go_wp2_with fail
            go_ret2
            rw [HRR.out]
            exact ⟨rfl, HI.out.turned⟩
          · omega
    · obtain ⟨M, rfl⟩ : ∃ M : Nat, most = M := ⟨most.toNat, by omega⟩
      rw [Int.toNat_natCast]
      obtain ⟨R, hR⟩ : ∃ z, z = hasR m (bt l) n t.bare M := ⟨_, rfl⟩
      have HST := Lib.hid ((hst M).trans hR.symm)
      rw [← hR]
      clear hR hst
      go_enter Try.func106, Try.ntmps106
      go_wp2_with (go_at_call 144; (with_reducible refine HOW.out.mono ?_); rintro e w4 ⟨rfl, T4⟩; obtain ⟨c0, c1, c2, c3, _⟩ := cells4 ((T4.block _ (by simp) (fun f => f)).trans HBX.out); have HT4 := Lib.hid (HT1.out.trans T4); clear T4)
      have hinit : Hid (HasI p m w [t] (.slice (some ⟨w4.heap.size, 0, none⟩) 1 1) (w4.alloc (.cells #[.int .i64 t.kind, .int .i64 t.n, .string t.name, .slice t.at_.1 t.args.length t.at_.2] 27))) := by
        refine ⟨?_, fun g e => by (simp [Value.ownBlock] at e; have := HT4.out.size; omega), fun y hy => ?_, HT4.out.alloc _, HH.out.plt⟩
        · have := Row.made w4 27 4 #[.int .i64 t.kind, .int .i64 t.n, .string t.name, .slice t.at_.1 t.args.length t.at_.2] 1 rfl (by unfold maxLen; omega)
          simpa [LT.cells_eq] using this
        · rw [List.mem_singleton] at hy
          rw [hy]
          exact ⟨HT.out.turned0 (HT4.out.alloc _), HGV.out⟩
      go_loopg [10, 11] M (fun k v c wr => HasL p m l n M R w k v c wr)
      case atStart => exact ⟨[t], 0, Nat.zero_add _, Nat.zero_le _, rfl, hinit, HST.out, show _ ≤ _ by simp⟩
      case round =>
        obtain ⟨todo, j, HG, hj, rfl, HI, HR, HL⟩ := hrel
        obtain ⟨wo, rfl⟩ : ∃ wo : World, wo = wr := ⟨_, rfl⟩
        obtain ⟨go, rfl⟩ : ∃ go : Nat, go = gk := ⟨_, rfl⟩
        rcases List.eq_nil_or_concat todo with rfl | ⟨ys, x0, rfl⟩
        · obtain ⟨a, cap, rfl⟩ := HI.out.row.shape
          have hr : R = (false, j) := HR.out.symm
          have HRR := Lib.hid hr
          clear hr
          go_wp2_with fail
          go_ret2
          rw [HRR.out]
          exact ⟨rfl, HI.out.turned⟩
        · rw [List.concat_eq_append] at HI HR HL
          obtain ⟨g, cap, rfl⟩ := HI.out.row.shape_pos (by simp)
          obtain ⟨hn1, hI1, hc1, hc2⟩ := HI.out.pop
          obtain ⟨c0, c1, c2, c3⟩ := HI.out.top
          have hcm : cap ≤ 9223372036854775807 := by unfold maxLen at hc2; exact hc2
          have hys : ys.length ≤ 800001 := by have := HL.out; rw [List.length_append, List.length_singleton] at this; omega
          rw [List.length_append, List.length_singleton]
          have HI1 := Lib.hid hI1
          by_cases hjm : j = M
          · have hjb : ((j : Int) == (M : Int)) = true := by simp [hjm]
            have hr : R = (true, M + 1) := by rw [← HR.out, Tm.hasL_stop (by omega) (remL_ne l ys x0), hjm]
            have HRR := Lib.hid hr
            clear hr hjm hI1 hn1
            go_wp2_with fail
            go_ret2
            rw [HRR.out]
            exact ⟨rfl, HI.out.turned⟩
          · have hjb : ((j : Int) == (M : Int)) = false := by simp; omega
            have hjl : j < M := by omega
            have hw := Tm.walked HH.out.ok _ x0.bare (Nat.le_refl _) (HI.out.mem x0 (by simp)).2.1
            have hwc := walkO90 (HH.out.turned0 HI.out.turned) (HI.out.mem x0 (by simp)).1 (HI.out.mem x0 (by simp)).2.1
            have hgx := (HI.out.mem x0 (by simp)).2
            rw [LT.val_eq] at hwc
            have HWC := Lib.hid hwc
            have HWD := Lib.hid hw
            have HGX := Lib.hid hgx
            clear hw hwc hI1 hn1 hgx
            obtain ⟨K, hK⟩ : ∃ z, z = (Tm.walkT (bt l) x0.bare).kind := ⟨_, rfl⟩
            obtain ⟨Q, hQ⟩ : ∃ z, z = (Tm.walkT (bt l) x0.bare).n := ⟨_, rfl⟩
            have HK := Lib.hid hK
            have HQ := Lib.hid hQ
            clear hK hQ
            by_cases hhit : K = 0 ∧ Q = n
            · have hr : ∀ x : LT, x.bare = Tm.walkT (bt l) x0.bare → R = (true, j + 1) ∧ x.kind = 0 ∧ x.n = n := fun x hx => by
                have h1 : x.kind = 0 := by rw [← Tm.bare_kind, hx, ← HK.out]; exact hhit.1
                have h2 : x.n = n := by rw [← Tm.bare_n, hx, ← HQ.out]; exact hhit.2
                exact ⟨by rw [← HR.out]; exact has_hit HH.out.ok (by rw [hx]; exact HWD.out) h1 h2, h1, h2⟩
              have HRR := Lib.hid hr
              clear hr hhit
              go_wp2_with (go_at_call 90; (with_reducible refine HWC.out.mono ?_); rintro e w6 ⟨x, rfl, hxi, hxb, T6⟩; rw [LT.val_eq]; obtain ⟨r1, r2, r3⟩ := HRR.out x hxb; rw [r2, r3]; have HT6 := Lib.hid T6; have HR1 := Lib.hid r1; clear hxi hxb T6 r1 r2 r3)
              go_ret2
              rw [HR1.out]
              exact ⟨rfl, (HI.out.turned.trans HT6.out).alloc _⟩
            · have hgw : ∀ x : LT, x.bare = Tm.walkT (bt l) x0.bare → given m x := fun x hx => ⟨by rw [hx]; exact HWD.out.ones, by rw [hx]; exact HWD.out.lt HGX.out.2⟩
              have HGW := Lib.hid hgw
              have hms : ∀ x : LT, x.bare = Tm.walkT (bt l) x0.bare → Tm.hasL M n (j + 1) (remL l (ys ++ x.args.reverse)) = R := fun x hx => by
                rw [← HR.out]
                exact (has_miss HH.out.ok (by rw [hx]; exact HWD.out) hjl (fun c => hhit ⟨by rw [HK.out, ← hx, Tm.bare_kind]; exact c.1, by rw [HQ.out, ← hx, Tm.bare_n]; exact c.2⟩)).symm
              have HMS := Lib.hid hms
              clear hgw hms
              by_cases hk0 : K = 0
              · have hqn : ∀ x : LT, x.bare = Tm.walkT (bt l) x0.bare → (x.kind == 0) = true ∧ (x.n == n) = false := fun x hx => by
                  have h1 : x.kind = 0 := by rw [← Tm.bare_kind, hx, ← HK.out]; exact hk0
                  have h2 : ¬ x.n = n := fun e => hhit ⟨hk0, by rw [HQ.out, ← hx, Tm.bare_n]; exact e⟩
                  exact ⟨by simp [h1], by simp [h2]⟩
                have HQN := Lib.hid hqn
                clear hqn hhit hk0
                go_wp2_with (go_at_call 90; (with_reducible refine HWC.out.mono ?_); rintro e w6 ⟨x, rfl, hxi, hxb, T6⟩; rw [LT.val_eq]; obtain ⟨b1, b2⟩ := HQN.out x hxb; have hlen := hxi.len; have hal : x.args.length ≤ 8 := given_arity (HGW.out x hxb); have HXI := Lib.hid hxi; have HXB := Lib.hid hxb; have hI6 := HI1.out.turned0 T6; have HI6 := Lib.hid hI6; have hb6 := heap_alloc_new w6 (.cells #[.int .i64 x.kind, .int .i64 x.n, .string x.name, .slice x.at_.1 x.args.length x.at_.2] 27); have HB6 := Lib.hid hb6; clear hxi hxb T6 hI6 hlen hb6)
                have hI7 := HI6.out.turned0 ((Turned.refl (fun _ => False) w6).alloc (.cells #[.int .i64 x.kind, .int .i64 x.n, .string x.name, .slice x.at_.1 x.args.length x.at_.2] 27))
                have hx7 := HXI.out.turned0 ((Turned.refl (fun _ => False) w6).alloc (.cells #[.int .i64 x.kind, .int .i64 x.n, .string x.name, .slice x.at_.1 x.args.length x.at_.2] 27))
                have hn7 : g ≠ w6.heap.size := fun e => by have := HI6.out.row.lt g rfl; omega
                have HI7 := Lib.hid hI7
                have HX7 := Lib.hid hx7
                have HLI := Lib.hid HXI.out.lies
                clear hI7 hx7
                try clear b1 b2
                go_loopg [10, 13] x.args.length (fun q v i wr2 => Hid (q ≤ x.args.length) ∧ i = .int .i64 ((q : Int) - 1) ∧ Hid (HasI p m w (ys ++ (x.args.drop q).reverse) v wr2) ∧ wr2.heap[w6.heap.size]? = some (.cells #[.int .i64 x.kind, .int .i64 x.n, .string x.name, .slice x.at_.1 x.args.length x.at_.2] 27 (0, 0)) ∧ Hid (∀ g, v.ownBlock = some g → g ≠ w6.heap.size) ∧ Hid (x.In p wr2))
                case atStart => exact ⟨Nat.le_refl _, rfl, (show HasI _ _ _ _ _ _ by simpa using HI7.out), HB6.out, fun g' hg' => by (simp [Value.ownBlock] at hg'; subst hg'; exact hn7), HX7.out⟩
                case round =>
                  obtain ⟨HJ, hi, HI8, hb8, HO8, HX8⟩ := hrel
                  obtain ⟨a8, cap8, rfl⟩ := HI8.out.row.shape
                  obtain ⟨c0, c1, c2, c3, _⟩ := cells4 hb8
                  have HB8 := Lib.hid hb8
                  clear hb8
                  rcases gk with _ | q
                  · rw [show (((0 : Nat) : Int) - 1) = -1 from rfl] at hi
                    subst hi
                    go_wp2_with fail
                    go_roundg (go - 1)
                    case measure => have := HG.out; omega
                    case rel =>
                      refine ⟨ys ++ x.args.reverse, j + 1, show _ = _ by (have := HG.out; omega), by omega, by go_num, (show HasI _ _ _ _ _ _ by simpa using HI8.out), HMS.out x HXB.out, ?_⟩
                      show _ ≤ _
                      have := HL.out
                      simp at this ⊢
                      omega
                  · rw [show (((q + 1 : Nat) : Int) - 1) = (q : Int) from by omega] at hi
                    subst hi
                    have hm : q < x.args.length := by have := HJ.out; omega
                    obtain ⟨y, hy⟩ : ∃ y : LT, x.args[q]? = some y := ⟨_, List.getElem?_eq_getElem hm⟩
                    obtain ⟨b, o, ha, _, d0, d1, d2, d3⟩ := HX8.out.lies.cell hy
                    rw [ha] at c3
                    have HY := Lib.hid hy
                    have HAd := Lib.hid ha
                    have hgy := given_args' (HGW.out x HXB.out) (List.mem_of_getElem? hy)
                    have hyi : y.In p wr := (LT.ins_iff _).1 HX8.out.args y (List.mem_of_getElem? hy)
                    have TA : Turned (fun _ => False) wr (wr.alloc (.cells #[.int .i64 y.kind, .int .i64 y.n, .string y.name, .slice y.at_.1 y.args.length y.at_.2] 27)) := (Turned.refl _ wr).alloc _
                    have hrow := (HI8.out.turned0 TA).row
                    have hnews := news_block (cs := y.cells) (by rw [LT.cells_eq y]; exact heap_alloc_new wr (.cells #[.int .i64 y.kind, .int .i64 y.n, .string y.name, .slice y.at_.1 y.args.length y.at_.2] 27))
                    have HN := Lib.hid hnews
                    have HR9 := Lib.hid hrow
                    have HYG := Lib.hid (And.intro (hyi.turned0 TA) hgy)
                    have HTA := Lib.hid TA
                    have hlen : (ys ++ (x.args.drop (q + 1)).reverse).length ≤ 800200 := by simp; omega
                    clear hy ha hnews hrow TA hgy hyi
                    go_wp2_with (at_builtin; refine append_some _ rfl _ _ 22 rfl 27 i0 zeroT 4 56 Try.underlying22 hi0 hz0 hz1 hz2 rfl (by decide) _ _ _ rfl HR9.out ⟨wr.heap.size, 0, none⟩ 1 1 y.cells rfl (LT.cells_length y) HN.out (LT.cells_one y) (by omega) (by unfold maxLen; omega) (by omega) ?_; intro g5 cap5 w5 hown5 hg5 hloc5)
                    go_roundg q
                    case measure => omega
                    case rel =>
                      have hpush := (HI8.out.turned0 HTA.out).push HYG.out hown5 hg5 (by
                        rcases hloc5 with e | e
                        · exact .inl e
                        · exact .inr (own_new e (by simp)))
                      have hst : ys ++ (x.args.drop (q + 1)).reverse ++ [y] = ys ++ (x.args.drop q).reverse := by
                        rw [List.append_assoc, List.drop_eq_getElem_cons hm, List.reverse_cons]
                        have hy := HY.out
                        rw [List.getElem?_eq_getElem hm] at hy
                        injection hy with hy
                        rw [hy]
                      rw [hst] at hpush
                      have hl5 : (ys ++ (x.args.drop (q + 1)).reverse).length = ys.length + (x.args.length - (q + 1)) := by simp
                      rw [hl5] at hpush
                      refine ⟨by have := HJ.out; show _ ≤ _; omega, rfl, hpush, ?_, ?_, ?_⟩
                      · exact (hg5.block _ (Nat.lt_of_lt_of_le (Array.getElem?_eq_some_iff.1 HB8.out).1 HTA.out.size) (fun e => HO8.out _ e rfl)).trans ((HTA.out.block _ (Array.getElem?_eq_some_iff.1 HB8.out).1 (fun f => f)).trans HB8.out)
                      · show ∀ g', _
                        intro g' hg'
                        rcases hloc5 with e | e
                        · exact HO8.out g' (e.symm.trans hg')
                        · simp [Value.ownBlock] at hg'
                          have h1 := (Array.getElem?_eq_some_iff.1 HB8.out).1
                          simp at e
                          omega
                      · exact LT.In.turned hg5 (fun k _ hk e => by have := HI8.out.own k e; have := HI8.out.plt k hk; omega) (fun _ _ q => q) _ (HX8.out.turned0 HTA.out)
              · have hqn : ∀ x : LT, x.bare = Tm.walkT (bt l) x0.bare → (x.kind == 0) = false ∧ True := fun x hx => by
                  have h1 : ¬ x.kind = 0 := by rw [← Tm.bare_kind, hx, ← HK.out]; exact hk0
                  exact ⟨by simp [h1], trivial⟩
                have HQN := Lib.hid hqn
                clear hqn hhit hk0
                go_wp2_with (go_at_call 90; (with_reducible refine HWC.out.mono ?_); rintro e w6 ⟨x, rfl, hxi, hxb, T6⟩; rw [LT.val_eq]; obtain ⟨b1, b2⟩ := HQN.out x hxb; have hlen := hxi.len; have hal : x.args.length ≤ 8 := given_arity (HGW.out x hxb); have HXI := Lib.hid hxi; have HXB := Lib.hid hxb; have hI6 := HI1.out.turned0 T6; have HI6 := Lib.hid hI6; have hb6 := heap_alloc_new w6 (.cells #[.int .i64 x.kind, .int .i64 x.n, .string x.name, .slice x.at_.1 x.args.length x.at_.2] 27); have HB6 := Lib.hid hb6; clear hxi hxb T6 hI6 hlen hb6)
                have hI7 := HI6.out.turned0 ((Turned.refl (fun _ => False) w6).alloc (.cells #[.int .i64 x.kind, .int .i64 x.n, .string x.name, .slice x.at_.1 x.args.length x.at_.2] 27))
                have hx7 := HXI.out.turned0 ((Turned.refl (fun _ => False) w6).alloc (.cells #[.int .i64 x.kind, .int .i64 x.n, .string x.name, .slice x.at_.1 x.args.length x.at_.2] 27))
                have hn7 : g ≠ w6.heap.size := fun e => by have := HI6.out.row.lt g rfl; omega
                have HI7 := Lib.hid hI7
                have HX7 := Lib.hid hx7
                have HLI := Lib.hid HXI.out.lies
                clear hI7 hx7
                try clear b1 b2
                go_loopg [10, 13] x.args.length (fun q v i wr2 => Hid (q ≤ x.args.length) ∧ i = .int .i64 ((q : Int) - 1) ∧ Hid (HasI p m w (ys ++ (x.args.drop q).reverse) v wr2) ∧ wr2.heap[w6.heap.size]? = some (.cells #[.int .i64 x.kind, .int .i64 x.n, .string x.name, .slice x.at_.1 x.args.length x.at_.2] 27 (0, 0)) ∧ Hid (∀ g, v.ownBlock = some g → g ≠ w6.heap.size) ∧ Hid (x.In p wr2))
                case atStart => exact ⟨Nat.le_refl _, rfl, (show HasI _ _ _ _ _ _ by simpa using HI7.out), HB6.out, fun g' hg' => by (simp [Value.ownBlock] at hg'; subst hg'; exact hn7), HX7.out⟩
                case round =>
                  obtain ⟨HJ, hi, HI8, hb8, HO8, HX8⟩ := hrel
                  obtain ⟨a8, cap8, rfl⟩ := HI8.out.row.shape
                  obtain ⟨c0, c1, c2, c3, _⟩ := cells4 hb8
                  have HB8 := Lib.hid hb8
                  clear hb8
                  rcases gk with _ | q
                  · rw [show (((0 : Nat) : Int) - 1) = -1 from rfl] at hi
                    subst hi
                    go_wp2_with fail
                    go_roundg (go - 1)
                    case measure => have := HG.out; omega
                    case rel =>
                      refine ⟨ys ++ x.args.reverse, j + 1, show _ = _ by (have := HG.out; omega), by omega, by go_num, (show HasI _ _ _ _ _ _ by simpa using HI8.out), HMS.out x HXB.out, ?_⟩
                      show _ ≤ _
                      have := HL.out
                      simp at this ⊢
                      omega
                  · rw [show (((q + 1 : Nat) : Int) - 1) = (q : Int) from by omega] at hi
                    subst hi
                    have hm : q < x.args.length := by have := HJ.out; omega
                    obtain ⟨y, hy⟩ : ∃ y : LT, x.args[q]? = some y := ⟨_, List.getElem?_eq_getElem hm⟩
                    obtain ⟨b, o, ha, _, d0, d1, d2, d3⟩ := HX8.out.lies.cell hy
                    rw [ha] at c3
                    have HY := Lib.hid hy
                    have HAd := Lib.hid ha
                    have hgy := given_args' (HGW.out x HXB.out) (List.mem_of_getElem? hy)
                    have hyi : y.In p wr := (LT.ins_iff _).1 HX8.out.args y (List.mem_of_getElem? hy)
                    have TA : Turned (fun _ => False) wr (wr.alloc (.cells #[.int .i64 y.kind, .int .i64 y.n, .string y.name, .slice y.at_.1 y.args.length y.at_.2] 27)) := (Turned.refl _ wr).alloc _
                    have hrow := (HI8.out.turned0 TA).row
                    have hnews := news_block (cs := y.cells) (by rw [LT.cells_eq y]; exact heap_alloc_new wr (.cells #[.int .i64 y.kind, .int .i64 y.n, .string y.name, .slice y.at_.1 y.args.length y.at_.2] 27))
                    have HN := Lib.hid hnews
                    have HR9 := Lib.hid hrow
                    have HYG := Lib.hid (And.intro (hyi.turned0 TA) hgy)
                    have HTA := Lib.hid TA
                    have hlen : (ys ++ (x.args.drop (q + 1)).reverse).length ≤ 800200 := by simp; omega
                    clear hy ha hnews hrow TA hgy hyi
                    go_wp2_with (at_builtin; refine append_some _ rfl _ _ 22 rfl 27 i0 zeroT 4 56 Try.underlying22 hi0 hz0 hz1 hz2 rfl (by decide) _ _ _ rfl HR9.out ⟨wr.heap.size, 0, none⟩ 1 1 y.cells rfl (LT.cells_length y) HN.out (LT.cells_one y) (by omega) (by unfold maxLen; omega) (by omega) ?_; intro g5 cap5 w5 hown5 hg5 hloc5)
                    go_roundg q
                    case measure => omega
                    case rel =>
                      have hpush := (HI8.out.turned0 HTA.out).push HYG.out hown5 hg5 (by
                        rcases hloc5 with e | e
                        · exact .inl e
                        · exact .inr (own_new e (by simp)))
                      have hst : ys ++ (x.args.drop (q + 1)).reverse ++ [y] = ys ++ (x.args.drop q).reverse := by
                        rw [List.append_assoc, List.drop_eq_getElem_cons hm, List.reverse_cons]
                        have hy := HY.out
                        rw [List.getElem?_eq_getElem hm] at hy
                        injection hy with hy
                        rw [hy]
                      rw [hst] at hpush
                      have hl5 : (ys ++ (x.args.drop (q + 1)).reverse).length = ys.length + (x.args.length - (q + 1)) := by simp
                      rw [hl5] at hpush
                      refine ⟨by have := HJ.out; show _ ≤ _; omega, rfl, hpush, ?_, ?_, ?_⟩
                      · exact (hg5.block _ (Nat.lt_of_lt_of_le (Array.getElem?_eq_some_iff.1 HB8.out).1 HTA.out.size) (fun e => HO8.out _ e rfl)).trans ((HTA.out.block _ (Array.getElem?_eq_some_iff.1 HB8.out).1 (fun f => f)).trans HB8.out)
                      · show ∀ g', _
                        intro g' hg'
                        rcases hloc5 with e | e
                        · exact HO8.out g' (e.symm.trans hg')
                        · simp [Value.ownBlock] at hg'
                          have h1 := (Array.getElem?_eq_some_iff.1 HB8.out).1
                          simp at e
                          omega
                      · exact LT.In.turned hg5 (fun k _ hk e => by have := HI8.out.own k e; have := HI8.out.plt k hk; omega) (fun _ _ q => q) _ (HX8.out.turned0 HTA.out)
end Go.Proofs.Ytoihjobdfjajfaa
namespace Go.Proofs.Ytoihjobdfjajfaa
open Go.RowKit Go.Maps
set_option linter.unusedVariables false
set_option linter.unusedSimpArgs false
theorem int1 {w : World} {g : Nat} {v : Value} {T : TypeId} (h : w.heap[g]? = some (.cells #[v] T (0, 0))) : w.cell? ⟨g, 0, none⟩ = some v ∧ w.frozen? ⟨g, 0, none⟩ = false :=
  ⟨cell_of_row w g 0 _ T (0, 0) h, frozen_of_row w g 0 _ T h⟩
theorem int1_set {w : World} {g : Nat} {v v' : Value} {T : TypeId} (h : w.heap[g]? = some (.cells #[v] T (0, 0))) : (w.setCell ⟨g, 0, none⟩ v').heap[g]? = some (.cells #[v'] T (0, 0)) := heap_setCell_same w g 0 _ T v' h
theorem after_has {w3 : World} {N C : Nat} {a0 b0 c0 d0 v0 : Value} (hN : w3.heap[N]? = some (.cells #[a0, b0, c0, d0] 41 (0, 0))) (hC : w3.heap[C]? = some (.cells #[v0] 3 (0, 0))) (hne : C ≠ N) (a b c d v : Value) :
    (((((w3.setCell ⟨N, 0, none⟩ a).setCell ⟨N, 1, none⟩ b).setCell ⟨N, 2, none⟩ c).setCell ⟨N, 3, none⟩ d).setCell ⟨C, 0, none⟩ v).heap[N]? = some (.cells #[a, b, c, d] 41 (0, 0)) ∧
    (((((w3.setCell ⟨N, 0, none⟩ a).setCell ⟨N, 1, none⟩ b).setCell ⟨N, 2, none⟩ c).setCell ⟨N, 3, none⟩ d).setCell ⟨C, 0, none⟩ v).heap[C]? = some (.cells #[v] 3 (0, 0)) ∧
    Turned (fun k => k = N ∨ k = C) w3 (((((w3.setCell ⟨N, 0, none⟩ a).setCell ⟨N, 1, none⟩ b).setCell ⟨N, 2, none⟩ c).setCell ⟨N, 3, none⟩ d).setCell ⟨C, 0, none⟩ v) := by
  have T1 := turned_store4 w3 N a b c d
  have hs := set4 (a' := a) (b' := b) (c' := c) (d' := d) hN
  have hk := (T1.block C (Array.getElem?_eq_some_iff.1 hC).1 hne).trans hC
  revert T1 hs hk
  generalize (((w3.setCell ⟨N, 0, none⟩ a).setCell ⟨N, 1, none⟩ b).setCell ⟨N, 2, none⟩ c).setCell ⟨N, 3, none⟩ d = W
  intro T1 hs hk
  have T2 : Turned (fun k => k = C) W (W.setCell ⟨C, 0, none⟩ v) := (Turned.refl (fun k => k = C) W).setCell (p := ⟨C, 0, none⟩) (.inr rfl) v
  exact ⟨(T2.block N (Array.getElem?_eq_some_iff.1 hs).1 (fun e => hne e.symm)).trans hs, int1_set hk, (T1.mono (fun _ _ e => .inl e)).trans (T2.mono (fun _ _ e => .inr e))⟩
def HasDP (b : Bool) (r : Nat) (C : Nat) (w : World) (e : Ending) (w' : World) : Prop :=
  e = .returned (.bool b) ∧ w'.heap[C]? = some (.cells #[.int .i64 r] 3 (0, 0)) ∧ Turned (fun k => k = C) w w'
def HasDQ (R : Bool × Nat) (C : Nat) (w : World) (e : Ending) (w' : World) : Prop := HasDP R.1 R.2 C w e w'
def HasDL (x : LT) (l : Tm.Trail) (M : Nat) (n : Int) (c C B : Nat) (R : Bool × Nat) (W4 : World) (k : Nat) (i : Value) (wr : World) : Prop :=
  ∃ j cj : Nat, Hid (j + k = x.args.length) ∧ j ≤ x.args.length ∧ i = .int .i64 j ∧ Hid (c < cj ∧ cj ≤ M) ∧ Hid (Tm.hasL M n cj (Tm.flats ((x.bare.args.drop j).map (Tm.img l))) = R) ∧ Hid (wr.heap[C]? = some (.cells #[.int .i64 cj] 3 (0, 0))) ∧ Hid (Turned (fun k => k = C) W4 wr)
theorem has_back {w w2 w3 W W' : World} {o : Obj} {C : Nat} (hw : w2 = w.alloc o) (T3 : Turned (fun _ => False) w2 w3) (A : Turned (fun k => k = w.heap.size ∨ k = C) w3 W) (T : Turned (fun k => k = C) W W') : Turned (fun k => k = C) w W' := by
  have T1 : Turned (fun k => k = C) w w3 := (by rw [hw] at T3; exact ((Turned.refl (fun _ => False) w).alloc _).trans T3 : Turned (fun _ => False) w w3).mono (fun _ _ f => f.elim)
  exact (T1.step A (fun i hi e => e.elim (fun e => by omega) id)).trans T
set_option maxRecDepth 100000 in
set_option maxHeartbeats 6400000 in
theorem has150 {p O : Nat → Prop} {wb m M : Nat} {l : Tm.Trail} {n : Int} (hM : M ≤ 100000) (k : Nat) : ∀ (t : LT) (c C : Nat) (w : World), M < c + k → c ≤ M → DO p wb O m l w → t.In p w → given m t → w.heap[C]? = some (.cells #[.int .i64 c] 3 (0, 0)) → ¬ O C → ¬ p C →
    Calls Try.prog 150 #[.pointer (some ⟨wb, 0, none⟩), .int .i64 n, t.val, .int .i64 M, .pointer (some ⟨C, 0, none⟩)] w (HasDQ (Tm.hasL M n c (Tm.img l t.bare).flat) C w) := by
  induction k with
  | zero => intro t c C w h1 h2; omega
  | succ k ih =>
    intro t c C w hk hc h ht hg hC hOC hpC
    have hCl := (Array.getElem?_eq_some_iff.1 hC).1
    obtain ⟨w2, hw2⟩ : ∃ z, z = w.alloc (.cells #[.int .i64 t.kind, .int .i64 t.n, .string t.name, .slice t.at_.1 t.args.length t.at_.2] 41) := ⟨_, rfl⟩
    have T2 : Turned (fun _ => False) w w2 := by rw [hw2]; exact (Turned.refl _ w).alloc _
    have hb2 : w2.heap[w.heap.size]? = some (.cells #[.int .i64 t.kind, .int .i64 t.n, .string t.name, .slice t.at_.1 t.args.length t.at_.2] 41 (0, 0)) := by rw [hw2]; exact heap_alloc_new w _
    have hwk : Calls Try.prog 170 #[.pointer (some ⟨wb, 0, none⟩), t.val] w2 fun e w' => ∃ x : LT, e = .returned x.val ∧ x.In p w' ∧ x.bare = Tm.walkT l t.bare ∧ Turned (fun _ => False) w2 w' := walk170 (h.turned0 T2) (ht.turned0 T2) hg.1
    have hwd := Tm.walked h.ok _ t.bare (Nat.le_refl _) hg.1
    obtain ⟨X, hX⟩ : ∃ z, z = Tm.walkT l t.bare := ⟨_, rfl⟩
    rw [← hX] at hwk hwd
    have hgX : ∀ x : LT, x.bare = X → given m x := fun x hx => ⟨by rw [hx]; exact hwd.ones, by rw [hx]; exact hwd.lt hg.2⟩
    have hv1 : X.kind = 0 → Tm.hasL M n c (Tm.img l t.bare).flat = (decide (M < c + 1 ∨ X.n = n), c + 1) := fun hk => Tm.hasL_walked_var h.ok hwd hk
    have hv2 := fun hk : ¬ X.kind = 0 => Tm.hasL_walked_node (M := M) (n := n) (c := c) h.ok hwd hk
    obtain ⟨R, hR⟩ : ∃ z, z = Tm.hasL M n c (Tm.img l t.bare).flat := ⟨_, rfl⟩
    rw [← hR] at hv1 hv2 ⊢
    have hNC : C ≠ w.heap.size := by omega
    have hCN : w.heap.size ≠ C := by omega
    rw [LT.val_eq] at hwk ⊢
    have hC2 : w2.heap[C]? = some (.cells #[.int .i64 c] 3 (0, 0)) := (T2.block C hCl (fun f => f)).trans hC
    have HWK := Lib.hid hwk
    have HB2 := Lib.hid hb2
    have HC2 := Lib.hid hC2
    have HW2 := Lib.hid hw2
    have HT2 := Lib.hid T2
    have HGX := Lib.hid hgX
    have HH := Lib.hid h
    have HOC := Lib.hid hOC
    have HPC := Lib.hid hpC
    have HIH := Lib.hid ih
    have HK := Lib.hid hk
    have HCL := Lib.hid hCl
    have HV2 := Lib.hid hv2
    clear hwk hb2 hC2 hw2 T2 hgX h ht hg hC hOC hpC ih hX hwd hR hk hv2
    by_cases hA : M < c + 1
    · have d1 : decide ((M : Int) < (c : Int) + 1) = true := decide_eq_true (by omega)
      have hr : R = (true, c + 1) := by
        by_cases hk : X.kind = 0
        · rw [hv1 hk, decide_eq_true (.inl hA)]
        · exact (HV2.out hk).1 hA
      have HRR := Lib.hid hr
      clear hr hv1 hA
      go_enter Try.func150, Try.ntmps150
      go_wp2_with (go_at_call 170; rw [← HW2.out]; (with_reducible refine HWK.out.mono ?_); rintro e w3 ⟨x, rfl, hxi, hxb, T3⟩; rw [LT.val_eq x]; have hq := (T3.block _ (Array.getElem?_eq_some_iff.1 HC2.out).1 (fun f => f)).trans HC2.out; have hbx := (T3.block _ (Array.getElem?_eq_some_iff.1 HB2.out).1 (fun f => f)).trans HB2.out; obtain ⟨k0, k1⟩ := int1 hq; obtain ⟨c0, c1, c2, c3, f0, f1, f2, f3⟩ := cells4 hbx; have HAW := Lib.hid (after_has hbx hq hNC (.int .i64 x.kind) (.int .i64 x.n) (.string x.name) (.slice x.at_.1 x.args.length x.at_.2) (.int .i64 ((c : Int) + 1))); have HT3 := Lib.hid T3; clear hq hbx T3 hxi hxb)
      go_ret
      obtain ⟨A1, A2, A3⟩ := HAW.out
      refine ⟨by rw [HRR.out]; rfl, ?_, has_back HW2.out HT3.out A3 (Turned.refl _ _)⟩
      rw [HRR.out]
      exact A2
    · have d1 : decide ((M : Int) < (c : Int) + 1) = false := decide_eq_false (by omega)
      by_cases hH : X.kind = 0 ∧ X.n = n
      · have HHH := Lib.hid hH
        have hr : R = (true, c + 1) := by rw [hv1 hH.1, decide_eq_true (.inr hH.2)]
        have HRR := Lib.hid hr
        clear hr hv1 hA hH
        go_enter Try.func150, Try.ntmps150
        go_wp2_with (go_at_call 170; rw [← HW2.out]; (with_reducible refine HWK.out.mono ?_); rintro e w3 ⟨x, rfl, hxi, hxb, T3⟩; rw [LT.val_eq x]; have hq := (T3.block _ (Array.getElem?_eq_some_iff.1 HC2.out).1 (fun f => f)).trans HC2.out; have hbx := (T3.block _ (Array.getElem?_eq_some_iff.1 HB2.out).1 (fun f => f)).trans HB2.out; obtain ⟨k0, k1⟩ := int1 hq; obtain ⟨c0, c1, c2, c3, f0, f1, f2, f3⟩ := cells4 hbx; have hkx : (x.kind == 0) = true := (by rw [← Tm.bare_kind, hxb]; simp [HHH.out.1]); have hnx : (x.n == n) = true := (by rw [← Tm.bare_n, hxb]; simp [HHH.out.2]); have HAW := Lib.hid (after_has hbx hq hNC (.int .i64 x.kind) (.int .i64 x.n) (.string x.name) (.slice x.at_.1 x.args.length x.at_.2) (.int .i64 ((c : Int) + 1))); have HT3 := Lib.hid T3; clear hq hbx T3 hxi hxb)
        go_ret
        obtain ⟨A1, A2, A3⟩ := HAW.out
        refine ⟨by rw [HRR.out]; rfl, ?_, has_back HW2.out HT3.out A3 (Turned.refl _ _)⟩
        rw [HRR.out]
        exact A2
      · have hst : ∀ x : LT, x.bare = X → given m x → Tm.hasL M n (c + 1) (Tm.flats ((x.bare.args.drop 0).map (Tm.img l))) = R := by
          intro x hx hgx
          by_cases hk : X.kind = 0
          · have ha := (given_var hgx (by rw [← Tm.bare_kind, hx]; exact hk)).2.2.2.1
            rw [hv1 hk, decide_eq_false (fun e => e.elim hA (fun e => hH ⟨hk, e⟩)), Tm.bare_args, ha]
            rfl
          · rw [hx]
            exact (HV2.out hk).2 (by omega)
        have HST := Lib.hid hst
        have HA := Lib.hid hA
        clear hst hv1 hA HV2
        by_cases hk0 : X.kind = 0
        · have HKN := Lib.hid (And.intro hk0 (show ¬ X.n = n from fun e => hH ⟨hk0, e⟩))
          clear hk0 hH
          go_enter Try.func150, Try.ntmps150
          go_wp2_with (go_at_call 170; rw [← HW2.out]; (with_reducible refine HWK.out.mono ?_); rintro e w3 ⟨x, rfl, hxi, hxb, T3⟩; rw [LT.val_eq x]; have hq := (T3.block _ (Array.getElem?_eq_some_iff.1 HC2.out).1 (fun f => f)).trans HC2.out; have hbx := (T3.block _ (Array.getElem?_eq_some_iff.1 HB2.out).1 (fun f => f)).trans HB2.out; obtain ⟨k0, k1⟩ := int1 hq; obtain ⟨c0, c1, c2, c3, f0, f1, f2, f3⟩ := cells4 hbx; have hkx : (x.kind == 0) = true := (by rw [← Tm.bare_kind, hxb]; simp [HKN.out.1]); have hnx : (x.n == n) = false := (by rw [← Tm.bare_n, hxb]; simp [HKN.out.2]); have HAW := Lib.hid (after_has hbx hq hNC (.int .i64 x.kind) (.int .i64 x.n) (.string x.name) (.slice x.at_.1 x.args.length x.at_.2) (.int .i64 ((c : Int) + 1))); have HT3 := Lib.hid T3; have HXI := Lib.hid hxi; have HXB := Lib.hid hxb; have HG := Lib.hid (HGX.out x hxb); clear hq hbx T3 hxi hxb)
          obtain ⟨A1, A2, A3⟩ := HAW.out
          revert A1 A2 A3
          generalize (((((w3.setCell ⟨w.heap.size, 0, none⟩ (.int .i64 x.kind)).setCell ⟨w.heap.size, 1, none⟩ (.int .i64 x.n)).setCell ⟨w.heap.size, 2, none⟩ (.string x.name)).setCell ⟨w.heap.size, 3, none⟩ (.slice x.at_.1 x.args.length x.at_.2)).setCell ⟨C, 0, none⟩ (.int .i64 ((c : Int) + 1))) = W4
          intro A1 A2 A3
          have HA1 := Lib.hid A1
          have HA2 := Lib.hid A2
          have HA3 := Lib.hid A3
          have HDW : Hid (DO p wb O m l W4) := (HH.out.turned0 (HT2.out.trans HT3.out)).turned A3 (fun k hk e => by
            rcases e with e | e
            · exact ⟨fun o => by have := HH.out.lt k o; omega, fun o => by have := HH.out.plt k o; omega⟩
            · exact ⟨fun o => HOC.out (e ▸ o), fun o => HPC.out (e ▸ o)⟩)
          have HXW : Hid (x.In p W4) := LT.In.turned A3 (fun k _ hk e => by
            rcases e with e | e
            · have := HH.out.plt k hk; omega
            · exact HPC.out (e ▸ hk)) (fun _ _ q => q) _ HXI.out
          have hal : x.args.length ≤ 8 := given_arity HG.out
          clear A1 A2 A3 c0 c1 c2 c3 f0 f1 f2 f3 k0 k1 HAW HXI
          go_loopg [11] x.args.length (fun q i wr => HasDL x l M n c C w.heap.size R W4 q i wr)
          case atStart => exact ⟨0, c + 1, Nat.zero_add _, Nat.zero_le _, rfl, show _ ∧ _ from ⟨by omega, by have := HA.out; omega⟩, HST.out x HXB.out HG.out, by show _ = _; rw [HA2.out]; rfl, Turned.refl _ _⟩
          case round =>
            obtain ⟨j, cj, HGJ, hj, rfl, HCJ, HRJ, HBJ, HTJ⟩ := hrel
            have hb0 := (HTJ.out.block _ (Array.getElem?_eq_some_iff.1 HA1.out).1 hCN).trans HA1.out
            obtain ⟨c0, c1, c2, c3, _⟩ := cells4 hb0
            clear hb0
            by_cases hjl : j < x.args.length
            · obtain ⟨y, hy⟩ : ∃ y : LT, x.args[j]? = some y := ⟨_, List.getElem?_eq_getElem hjl⟩
              have hDO : DO p wb O m l wr := HDW.out.turned HTJ.out (fun k hk e => ⟨fun o => HOC.out (e ▸ o), fun o => HPC.out (e ▸ o)⟩)
              have hxw : x.In p wr := LT.In.turned HTJ.out (fun k _ hk e => HPC.out (e ▸ hk)) (fun _ _ q => q) _ HXW.out
              obtain ⟨b, o, hbo, _, x0, x1, x2, x3⟩ := hxw.lies.cell hy
              have hyb : x.bare.args[j]? = some y.bare := by rw [Tm.bare_args, Tm.bares_eq, List.getElem?_map, hy]; rfl
              have hs := Tm.hasL_arg hyb R HRJ.out
              have hcy := HIH.out y cj C wr (by have := HK.out; have := HCJ.out.1; omega) HCJ.out.2 hDO ((LT.ins_iff _).1 hxw.args y (List.mem_of_getElem? hy)) (given_args' HG.out (List.mem_of_getElem? hy)) HBJ.out HOC.out HPC.out
              obtain ⟨Ry, hRy⟩ : ∃ z, z = Tm.hasL M n cj (Tm.img l y.bare).flat := ⟨_, rfl⟩
              have hmf := fun h => Tm.hasL_false (n := n) (Tm.img l y.bare).flat HCJ.out.2 h
              have hle := (Tm.hasL_le M n (Tm.img l y.bare).flat cj).1
              rw [← hRy] at hs hcy hmf hle
              rw [LT.val_eq y] at hcy
              have HCY := Lib.hid hcy
              have HS := Lib.hid hs
              have HLE := Lib.hid (And.intro hle hmf)
              have hlen := hxw.len
              clear hy hDO hxw hyb hs hcy hRy hmf hle
              obtain ⟨by_, cy⟩ := Ry
              cases by_ with
              | true =>
                have HCY : Hid (Calls Try.prog 150 _ wr (HasDP true cy C wr)) := Lib.hid HCY.out
                rw [hbo] at c3; clear hbo
                go_wp2_with (go_at_call 150; (with_reducible refine HCY.out.mono ?_); rintro e w5 ⟨rfl, hq5, T5⟩; have HQ5 := Lib.hid hq5; have HT5 := Lib.hid T5; clear hq5 T5)
                go_ret
                have hr := HS.out.1 (by first | rfl | trivial)
                refine ⟨by rw [hr]; rfl, by rw [hr]; exact HQ5.out, has_back HW2.out HT3.out HA3.out (HTJ.out.trans HT5.out)⟩
              | false =>
                have HCY : Hid (Calls Try.prog 150 _ wr (HasDP false cy C wr)) := Lib.hid HCY.out
                rw [hbo] at c3; clear hbo
                go_wp2_with (go_at_call 150; (with_reducible refine HCY.out.mono ?_); rintro e w5 ⟨rfl, hq5, T5⟩; have HQ5 := Lib.hid hq5; have HT5 := Lib.hid T5; clear hq5 T5)
                go_roundg (gk - 1)
                case measure => have := HGJ.out; omega
                case rel => exact ⟨j + 1, cy, show _ = _ by have := HGJ.out; omega, by omega, by go_num, show _ ∧ _ from ⟨Nat.lt_of_lt_of_le HCJ.out.1 HLE.out.1, HLE.out.2 (by first | rfl | trivial)⟩, HS.out.2 (by first | rfl | trivial), HQ5.out, HTJ.out.trans HT5.out⟩
            · obtain rfl : j = x.args.length := by omega
              have hr := Tm.hasL_end (by rw [Tm.bare_args, Tm.bares_eq, List.length_map]; exact Nat.le_refl _) R HRJ.out
              have HRE := Lib.hid hr
              clear hr
              go_wp2_with fail
              go_ret
              exact ⟨by rw [HRE.out]; rfl, by rw [HRE.out]; exact HBJ.out, has_back HW2.out HT3.out HA3.out HTJ.out⟩
        · have HKN := Lib.hid hk0
          clear hk0 hH
          go_enter Try.func150, Try.ntmps150
          go_wp2_with (go_at_call 170; rw [← HW2.out]; (with_reducible refine HWK.out.mono ?_); rintro e w3 ⟨x, rfl, hxi, hxb, T3⟩; rw [LT.val_eq x]; have hq := (T3.block _ (Array.getElem?_eq_some_iff.1 HC2.out).1 (fun f => f)).trans HC2.out; have hbx := (T3.block _ (Array.getElem?_eq_some_iff.1 HB2.out).1 (fun f => f)).trans HB2.out; obtain ⟨k0, k1⟩ := int1 hq; obtain ⟨c0, c1, c2, c3, f0, f1, f2, f3⟩ := cells4 hbx; have hkx : (x.kind == 0) = false := (by rw [← Tm.bare_kind, hxb]; simp [HKN.out]); have HAW := Lib.hid (after_has hbx hq hNC (.int .i64 x.kind) (.int .i64 x.n) (.string x.name) (.slice x.at_.1 x.args.length x.at_.2) (.int .i64 ((c : Int) + 1))); have HT3 := Lib.hid T3; have HXI := Lib.hid hxi; have HXB := Lib.hid hxb; have HG := Lib.hid (HGX.out x hxb); clear hq hbx T3 hxi hxb)
          obtain ⟨A1, A2, A3⟩ := HAW.out
          revert A1 A2 A3
          generalize (((((w3.setCell ⟨w.heap.size, 0, none⟩ (.int .i64 x.kind)).setCell ⟨w.heap.size, 1, none⟩ (.int .i64 x.n)).setCell ⟨w.heap.size, 2, none⟩ (.string x.name)).setCell ⟨w.heap.size, 3, none⟩ (.slice x.at_.1 x.args.length x.at_.2)).setCell ⟨C, 0, none⟩ (.int .i64 ((c : Int) + 1))) = W4
          intro A1 A2 A3
          have HA1 := Lib.hid A1
          have HA2 := Lib.hid A2
          have HA3 := Lib.hid A3
          have HDW : Hid (DO p wb O m l W4) := (HH.out.turned0 (HT2.out.trans HT3.out)).turned A3 (fun k hk e => by
            rcases e with e | e
            · exact ⟨fun o => by have := HH.out.lt k o; omega, fun o => by have := HH.out.plt k o; omega⟩
            · exact ⟨fun o => HOC.out (e ▸ o), fun o => HPC.out (e ▸ o)⟩)
          have HXW : Hid (x.In p W4) := LT.In.turned A3 (fun k _ hk e => by
            rcases e with e | e
            · have := HH.out.plt k hk; omega
            · exact HPC.out (e ▸ hk)) (fun _ _ q => q) _ HXI.out
          have hal : x.args.length ≤ 8 := given_arity HG.out
          clear A1 A2 A3 c0 c1 c2 c3 f0 f1 f2 f3 k0 k1 HAW HXI
          go_loopg [11] x.args.length (fun q i wr => HasDL x l M n c C w.heap.size R W4 q i wr)
          case atStart => exact ⟨0, c + 1, Nat.zero_add _, Nat.zero_le _, rfl, show _ ∧ _ from ⟨by omega, by have := HA.out; omega⟩, HST.out x HXB.out HG.out, by show _ = _; rw [HA2.out]; rfl, Turned.refl _ _⟩
          case round =>
            obtain ⟨j, cj, HGJ, hj, rfl, HCJ, HRJ, HBJ, HTJ⟩ := hrel
            have hb0 := (HTJ.out.block _ (Array.getElem?_eq_some_iff.1 HA1.out).1 hCN).trans HA1.out
            obtain ⟨c0, c1, c2, c3, _⟩ := cells4 hb0
            clear hb0
            by_cases hjl : j < x.args.length
            · obtain ⟨y, hy⟩ : ∃ y : LT, x.args[j]? = some y := ⟨_, List.getElem?_eq_getElem hjl⟩
              have hDO : DO p wb O m l wr := HDW.out.turned HTJ.out (fun k hk e => ⟨fun o => HOC.out (e ▸ o), fun o => HPC.out (e ▸ o)⟩)
              have hxw : x.In p wr := LT.In.turned HTJ.out (fun k _ hk e => HPC.out (e ▸ hk)) (fun _ _ q => q) _ HXW.out
              obtain ⟨b, o, hbo, _, x0, x1, x2, x3⟩ := hxw.lies.cell hy
              have hyb : x.bare.args[j]? = some y.bare := by rw [Tm.bare_args, Tm.bares_eq, List.getElem?_map, hy]; rfl
              have hs := Tm.hasL_arg hyb R HRJ.out
              have hcy := HIH.out y cj C wr (by have := HK.out; have := HCJ.out.1; omega) HCJ.out.2 hDO ((LT.ins_iff _).1 hxw.args y (List.mem_of_getElem? hy)) (given_args' HG.out (List.mem_of_getElem? hy)) HBJ.out HOC.out HPC.out
              obtain ⟨Ry, hRy⟩ : ∃ z, z = Tm.hasL M n cj (Tm.img l y.bare).flat := ⟨_, rfl⟩
              have hmf := fun h => Tm.hasL_false (n := n) (Tm.img l y.bare).flat HCJ.out.2 h
              have hle := (Tm.hasL_le M n (Tm.img l y.bare).flat cj).1
              rw [← hRy] at hs hcy hmf hle
              rw [LT.val_eq y] at hcy
              have HCY := Lib.hid hcy
              have HS := Lib.hid hs
              have HLE := Lib.hid (And.intro hle hmf)
              have hlen := hxw.len
              clear hy hDO hxw hyb hs hcy hRy hmf hle
              obtain ⟨by_, cy⟩ := Ry
              cases by_ with
              | true =>
                have HCY : Hid (Calls Try.prog 150 _ wr (HasDP true cy C wr)) := Lib.hid HCY.out
                rw [hbo] at c3; clear hbo
                go_wp2_with (go_at_call 150; (with_reducible refine HCY.out.mono ?_); rintro e w5 ⟨rfl, hq5, T5⟩; have HQ5 := Lib.hid hq5; have HT5 := Lib.hid T5; clear hq5 T5)
                go_ret
                have hr := HS.out.1 (by first | rfl | trivial)
                refine ⟨by rw [hr]; rfl, by rw [hr]; exact HQ5.out, has_back HW2.out HT3.out HA3.out (HTJ.out.trans HT5.out)⟩
              | false =>
                have HCY : Hid (Calls Try.prog 150 _ wr (HasDP false cy C wr)) := Lib.hid HCY.out
                rw [hbo] at c3; clear hbo
                go_wp2_with (go_at_call 150; (with_reducible refine HCY.out.mono ?_); rintro e w5 ⟨rfl, hq5, T5⟩; have HQ5 := Lib.hid hq5; have HT5 := Lib.hid T5; clear hq5 T5)
                go_roundg (gk - 1)
                case measure => have := HGJ.out; omega
                case rel => exact ⟨j + 1, cy, show _ = _ by have := HGJ.out; omega, by omega, by go_num, show _ ∧ _ from ⟨Nat.lt_of_lt_of_le HCJ.out.1 HLE.out.1, HLE.out.2 (by first | rfl | trivial)⟩, HS.out.2 (by first | rfl | trivial), HQ5.out, HTJ.out.trans HT5.out⟩
            · obtain rfl : j = x.args.length := by omega
              have hr := Tm.hasL_end (by rw [Tm.bare_args, Tm.bares_eq, List.length_map]; exact Nat.le_refl _) R HRJ.out
              have HRE := Lib.hid hr
              clear hr
              go_wp2_with fail
              go_ret
              exact ⟨by rw [HRE.out]; rfl, by rw [HRE.out]; exact HBJ.out, has_back HW2.out HT3.out HA3.out HTJ.out⟩
end Go.Proofs.Ytoihjobdfjajfaa
namespace Go.Proofs.Ytoihjobdfjajfaa
open Go.RowKit Go.Maps
set_option linter.unusedVariables false
set_option linter.unusedSimpArgs false
theorem DO.alloc {p O : Nat → Prop} {wb m : Nat} {l : Tm.Trail} {w w' : World} (h : DO p wb O m l w) (T : Turned (fun _ => False) w w') : ¬ O w'.heap.size ∧ ¬ p w'.heap.size :=
  ⟨fun o => by have := h.lt _ o; have := T.size; omega, fun o => by have := h.plt _ o; have := T.size; omega⟩
theorem has_own {w W W' : World} {o : Obj} {C : Nat} (T : Turned (fun _ => False) w W) (hC : C = W.heap.size) (T2 : Turned (fun k => k = C) (W.alloc o) W') : Turned (fun _ => False) w W' :=
  (T.alloc o).step T2 (fun i hi e => by have := T.size; omega)
set_option maxRecDepth 100000 in
set_option maxHeartbeats 3200000 in
theorem has100 {p O : Nat → Prop} {wb m : Nat} {l : Tm.Trail} {w : World} {t : LT} {n most : Int} (h : DO p wb O m l w) (ht : t.In p w) (hm : most ≤ 100000) (hm0 : -9223372036854775808 ≤ most) :
    Calls Try.prog 100 #[.pointer (some ⟨wb, 0, none⟩), .int .i64 n, t.val, .int .i64 most] w fun e w' => e = .returned (.tuple #[.bool (hasR m l n t.bare most.toNat).1, .int .i64 (hasR m l n t.bare most.toNat).2]) ∧ Turned (fun _ => False) w w' := by
  obtain ⟨w2, hw2⟩ : ∃ z, z = w.alloc (.cells #[.int .i64 t.kind, .int .i64 t.n, .string t.name, .slice t.at_.1 t.args.length t.at_.2] 41) := ⟨_, rfl⟩
  have T2 : Turned (fun _ => False) w w2 := by rw [hw2]; exact (Turned.refl _ w).alloc _
  have hb2 : w2.heap[w.heap.size]? = some (.cells #[.int .i64 t.kind, .int .i64 t.n, .string t.name, .slice t.at_.1 t.args.length t.at_.2] 41 (0, 0)) := by rw [hw2]; exact heap_alloc_new w _
  have hkn := known99 (h.turned0 T2) (ht.turned0 T2)
  rw [← ownB_bare] at hkn
  have HH := Lib.hid h
  have HT := Lib.hid ht
  have HW2 := Lib.hid hw2
  have HT2 := Lib.hid T2
  have HB2 := Lib.hid hb2
  have HV := Lib.hid (LT.val_eq t)
  rw [LT.val_eq] at hkn ⊢
  cases hob : Tm.ownB m t.bare with
  | false =>
    rw [hob] at hkn
    have hR : hasR m l n t.bare most.toNat = (false, 0) := by unfold hasR; rw [hob]; rfl
    rw [hR]
    have HKN := Lib.hid hkn
    clear hkn hob hR h ht hw2 T2 hb2
    go_enter Try.func100, Try.ntmps100
    go_wp2_with (go_at_call 99; rw [← HW2.out]; (with_reducible refine HKN.out.mono ?_); rintro e w3 ⟨rfl, T3⟩; have HT3 := Lib.hid T3; clear T3)
    go_ret2
    exact ⟨rfl, HT2.out.trans HT3.out⟩
  | true =>
    rw [hob] at hkn
    have hob' := Tm.ownB_iff.1 hob
    have hR : hasR m l n t.bare most.toNat = Tm.hasL most.toNat n 0 (Tm.img l t.bare).flat := by unfold hasR; rw [if_pos hob]
    rw [hR]
    obtain ⟨M, hMe⟩ : ∃ z, z = most.toNat := ⟨_, rfl⟩
    have hM : M ≤ 100000 := by omega
    have hcl : ∀ W, Turned (fun _ => False) w W → Calls Try.prog 150 #[.pointer (some ⟨wb, 0, none⟩), .int .i64 n, t.val, .int .i64 M, .pointer (some ⟨W.heap.size, 0, none⟩)] (W.alloc (.cells #[.int .i64 0] 3)) (HasDQ (Tm.hasL M n 0 (Tm.img l t.bare).flat) W.heap.size (W.alloc (.cells #[.int .i64 0] 3))) := fun W hW =>
      has150 hM (M + 1) t 0 W.heap.size _ (by omega) (Nat.zero_le _) (h.turned0 (hW.alloc _)) (ht.turned0 (hW.alloc _)) ⟨Tm.good_ones' hob'.1, hob'.2⟩ (heap_alloc_new W _) (h.alloc hW).1 (h.alloc hW).2
    rw [← hMe]
    obtain ⟨R, hRR⟩ : ∃ z, z = Tm.hasL M n 0 (Tm.img l t.bare).flat := ⟨_, rfl⟩
    rw [← hRR] at hcl ⊢
    rw [LT.val_eq] at hcl
    have HKN := Lib.hid hkn
    have HCL := Lib.hid hcl
    clear hkn hcl hob hob' hR hRR h ht hw2 T2 hb2
    by_cases hneg : most < 0
    · have d1 : decide (most < 0) = true := decide_eq_true hneg
      have hM0 : M = 0 := by omega
      subst hM0
      have hz := HCL.out
      simp only [Int.ofNat_zero, Int.natCast_zero] at hz
      have HCL := Lib.hid hz
      clear hMe hneg hz
      go_enter Try.func100, Try.ntmps100
      go_wp2_with (first
        | (go_at_call 150; (with_reducible refine (HCL.out _ (HT2.out.trans HT3.out)).mono ?_); rintro e w4 ⟨rfl, hq4, T4⟩; obtain ⟨e0, _⟩ := int1 hq4; have HT4 := Lib.hid T4; clear hq4 T4)
        | (go_at_call 99; rw [← HW2.out]; (with_reducible refine HKN.out.mono ?_); rintro e w3 ⟨rfl, T3⟩; obtain ⟨c0, c1, c2, c3, _⟩ := cells4 (((T3.alloc (.cells #[.int .i64 0] 3)).block _ (Array.getElem?_eq_some_iff.1 HB2.out).1 (fun f => f)).trans HB2.out); have HT3 := Lib.hid T3; clear T3))
      go_quiet (fail)
      go_wp2_with fail
      go_ret2
      exact ⟨rfl, (has_own (HT2.out.trans HT3.out) rfl HT4.out).drewN nq⟩
    · have d1 : decide (most < 0) = false := decide_eq_false hneg
      obtain rfl : most = (M : Int) := by omega
      clear hMe hneg
      go_enter Try.func100, Try.ntmps100
      go_wp2_with (first
        | (go_at_call 150; (with_reducible refine (HCL.out _ (HT2.out.trans HT3.out)).mono ?_); rintro e w4 ⟨rfl, hq4, T4⟩; obtain ⟨e0, _⟩ := int1 hq4; have HT4 := Lib.hid T4; clear hq4 T4)
        | (go_at_call 99; rw [← HW2.out]; (with_reducible refine HKN.out.mono ?_); rintro e w3 ⟨rfl, T3⟩; obtain ⟨c0, c1, c2, c3, _⟩ := cells4 (((T3.alloc (.cells #[.int .i64 0] 3)).block _ (Array.getElem?_eq_some_iff.1 HB2.out).1 (fun f => f)).trans HB2.out); have HT3 := Lib.hid T3; clear T3))
      go_quiet (fail)
      go_wp2_with fail
      go_ret2
      exact ⟨rfl, (has_own (HT2.out.trans HT3.out) rfl HT4.out).drewN nq⟩
end Go.Proofs.Ytoihjobdfjajfaa
namespace Go.Proofs.Ytoihjobdfjajfaa
open Go.RowKit Go.Maps
set_option linter.unusedVariables false
set_option linter.unusedSimpArgs false
structure MakD (p : Nat → Prop) (σ : Tm Unit → Tm Unit) (G K : Nat) (t : LT) (w3 : World) (j : Nat) (us : List LT) (W : World) : Prop where
  len : us.length = t.args.length
  bares : (us.take j).map Tm.bare = (t.args.take j).map fun x => σ x.bare
  row : Row W 41 4 (.slice (some ⟨G, 0, none⟩) t.args.length t.args.length) t.args.length (us.flatMap LT.cells)
  ins : LT.Ins (fun k => p k ∨ G + 1 ≤ k) W us
  turned : Turned (fun k => k = G ∨ k = K) w3 W
theorem MakD.put {p : Nat → Prop} {σ : Tm Unit → Tm Unit} {G K : Nat} {t x u : LT} {w3 W W7 : World} {j : Nat} {us : List LT} (h : MakD p σ G K t w3 j us W) (hp : ∀ k, p k → k < G ∧ k ≠ K) (hKG : K < G) (hG : G < W.heap.size) (hx : t.args[j]? = some x) (hb : u.bare = σ x.bare) (hu : u.In (fun k => p k ∨ W.heap.size ≤ k) W7) (hT : Turned (fun k => k = K) W W7) :
    MakD p σ G K t w3 (j + 1) (us.set j u) ((((W7.setCell ⟨G, j * 4, none⟩ (.int .i64 u.kind)).setCell ⟨G, j * 4 + 1, none⟩ (.int .i64 u.n)).setCell ⟨G, j * 4 + 2, none⟩ (.string u.name)).setCell ⟨G, j * 4 + 3, none⟩ (.slice u.at_.1 u.args.length u.at_.2)) := by
  have hjl : j < t.args.length := (List.getElem?_eq_some_iff.1 hx).1
  have hju : j < us.length := by rw [h.len]; exact hjl
  have Tq : Turned (fun k => k = G) W7 ((((W7.setCell ⟨G, j * 4, none⟩ (.int .i64 u.kind)).setCell ⟨G, j * 4 + 1, none⟩ (.int .i64 u.n)).setCell ⟨G, j * 4 + 2, none⟩ (.string u.name)).setCell ⟨G, j * 4 + 3, none⟩ (.slice u.at_.1 u.args.length u.at_.2)) :=
    ((((Turned.refl (fun k => k = G) W7).setCell (p := ⟨G, j * 4, none⟩) (.inr rfl) _).setCell (p := ⟨G, j * 4 + 1, none⟩) (.inr rfl) _).setCell (p := ⟨G, j * 4 + 2, none⟩) (.inr rfl) _).setCell (p := ⟨G, j * 4 + 3, none⟩) (.inr rfl) _
  refine ⟨by rw [List.length_set]; exact h.len, ?_, ?_, ?_, (h.turned.trans (hT.mono (fun _ _ e => .inr e))).trans (Tq.mono (fun _ _ e => .inl e))⟩
  · have e1 : (us.set j u).take (j + 1) = us.take j ++ [u] := by
      rw [List.take_add_one, List.take_set, List.getElem?_set_self hju]
      rw [List.set_eq_of_length_le (by rw [List.length_take]; omega)]
      rfl
    have e2 : t.args.take (j + 1) = t.args.take j ++ [x] := by rw [List.take_add_one, hx]; rfl
    rw [e1, e2, List.map_append, List.map_append, h.bares]
    simp [hb]
  · have hr := h.row.turned hT (fun k hk e => by simp [Value.ownBlock] at hk; omega)
    have r1 := hr.setAt (off := j * 4) (by omega) (.int .i64 u.kind)
    have r2 := r1.setAt (off := j * 4 + 1) (by omega) (.int .i64 u.n)
    have r3 := r2.setAt (off := j * 4 + 2) (by omega) (.string u.name)
    have r4 := r3.setAt (off := j * 4 + 3) (by omega) (.slice u.at_.1 u.args.length u.at_.2)
    rw [flat_set hju] at r4
    exact r4
  · rw [LT.ins_iff]
    intro y hy
    have keep : ∀ z : LT, z.In (fun k => p k ∨ G + 1 ≤ k) W7 → z.In (fun k => p k ∨ G + 1 ≤ k) _ := fun z hz => LT.In.turned Tq (fun k _ hk e => by
      rcases hk with hk | hk
      · have := hp k hk; omega
      · omega) (fun _ _ hk => hk) z hz
    refine keep y ?_
    rcases List.mem_or_eq_of_mem_set hy with hy | rfl
    · exact LT.In.turned hT (fun k _ hk e => by
        rcases hk with hk | hk
        · exact (hp k hk).2 e
        · omega) (fun _ _ hk => hk) y ((LT.ins_iff _).1 h.ins y hy)
    · exact hu.mono (fun k _ hk => hk.elim .inl (fun hk => .inr (by omega)))
def WhQ (p : Nat → Prop) (l : Tm.Trail) (C : Nat) (t : LT) (s d : Nat) (w : World) (e : Ending) (w' : World) : Prop :=
  ∃ (u : LT) (L' : Int), e = .returned (.tuple #[.agg #[.int .i64 u.kind, .int .i64 u.n, .string u.name, .slice u.at_.1 u.args.length u.at_.2], .bool (Tm.makeOk s d (Tm.img l t.bare))]) ∧ (Tm.makeOk s d (Tm.img l t.bare) = true → u.bare = Tm.img l t.bare ∧ L' + ((s + (Tm.img l t.bare).size : Nat) : Int) = 2000) ∧
    w'.heap[C]? = some (.cells #[.int .i64 L'] 3 (0, 0)) ∧ u.In (fun k => p k ∨ w.heap.size ≤ k) w' ∧ Turned (fun k => k = C) w w'
theorem WhQ.no {p : Nat → Prop} {l : Tm.Trail} {C : Nat} {t x : LT} {s d : Nat} {w w' : World} {L' : Int} (hno : Tm.makeOk s d (Tm.img l t.bare) = false) (hC : w'.heap[C]? = some (.cells #[.int .i64 L'] 3 (0, 0))) (hx : x.In p w') (T : Turned (fun k => k = C) w w') :
    WhQ p l C t s d w (.returned (.tuple #[.agg #[.int .i64 x.kind, .int .i64 x.n, .string x.name, .slice x.at_.1 x.args.length x.at_.2], .bool false])) w' :=
  ⟨x, L', by rw [hno], (fun e => by rw [hno] at e; cases e), hC, hx.mono (fun _ _ h => .inl h), T⟩
theorem WhQ.yes {p : Nat → Prop} {l : Tm.Trail} {C : Nat} {t u : LT} {s d : Nat} {w w' : World} {L' : Int} (hok : Tm.makeOk s d (Tm.img l t.bare) = true) (hb : u.bare = Tm.img l t.bare) (hC : w'.heap[C]? = some (.cells #[.int .i64 L'] 3 (0, 0))) (hL : L' + ((s + (Tm.img l t.bare).size : Nat) : Int) = 2000) (hu : u.In (fun k => p k ∨ w.heap.size ≤ k) w') (T : Turned (fun k => k = C) w w') :
    WhQ p l C t s d w (.returned (.tuple #[.agg #[.int .i64 u.kind, .int .i64 u.n, .string u.name, .slice u.at_.1 u.args.length u.at_.2], .bool true])) w' :=
  ⟨u, L', by rw [hok], fun _ => ⟨hb, hL⟩, hC, hu, T⟩
theorem wh_no {s d : Nat} {u : Tm Unit} (h : ¬ s + 1 ≤ 2000 ∨ ¬ d ≤ 64) : Tm.makeOk s d u = false := by
  rw [Bool.eq_false_iff, ne_eq, Tm.makeOk_iff]
  intro c
  have h1 := Tm.size_pos u
  have h2 := Tm.depth_pos u
  omega
theorem wh_back {w w2 w3 W W' : World} {C : Nat} (T2 : Turned (fun _ => False) w w2) (T3 : Turned (fun _ => False) w2 w3) (A : Turned (fun k => k = w.heap.size ∨ k = C) w3 W) (Tq : Turned (fun k => k = w.heap.size + 1) W W') : Turned (fun k => k = C) w W' :=
  (((T2.trans T3).mono (fun _ _ f => f.elim) : Turned (fun k => k = C) w w3).step A (fun i hi e => e.elim (fun e => by omega) id)).step Tq (fun i hi e => by omega)
theorem wh_in {p q : Nat → Prop} {w3 w W W' : World} {C : Nat} {x : LT} (hp : ∀ k, p k → k < w.heap.size ∧ k ≠ C) (A : Turned (fun k => k = w.heap.size ∨ k = C) w3 W) (Tq : Turned (fun k => k = w.heap.size + 1) W W') (h : x.In p w3) (hq : ∀ k, p k → q k) : x.In q W' :=
  LT.In.turned Tq (fun k _ hk e => by have := (hp k hk).1; omega) (fun k _ hk => hq k hk) x (LT.In.turned A (fun k _ hk e => by have := hp k hk; omega) (fun _ _ hk => hk) x h)
theorem turned_store4g (W : World) (G j : Nat) (a b c d : Value) : Turned (fun k => k = G) W ((((W.setCell ⟨G, j * 4, none⟩ a).setCell ⟨G, j * 4 + 1, none⟩ b).setCell ⟨G, j * 4 + 2, none⟩ c).setCell ⟨G, j * 4 + 3, none⟩ d) :=
  ((((Turned.refl (fun k => k = G) W).setCell (p := ⟨G, j * 4, none⟩) (.inr rfl) _).setCell (p := ⟨G, j * 4 + 1, none⟩) (.inr rfl) _).setCell (p := ⟨G, j * 4 + 2, none⟩) (.inr rfl) _).setCell (p := ⟨G, j * 4 + 3, none⟩) (.inr rfl) _
theorem whk_back {w W5 wr W7 W8 : World} {C G N : Nat} (T5 : Turned (fun k => k = C) w W5) (TM : Turned (fun k => k = G ∨ k = C) W5 wr) (T7 : Turned (fun k => k = C) wr W7) (Tq : Turned (fun k => k = N) W7 W8) (h : w.heap.size ≤ G ∧ w.heap.size ≤ N) : Turned (fun k => k = C) w W8 :=
  ((T5.step TM (fun i hi e => e.elim (fun e => by omega) id)).trans T7).step Tq (fun i hi e => by omega)
def WhL (p : Nat → Prop) (C : Nat) (l : Tm.Trail) (x : LT) (s d G : Nat) (Y : List (Tm Unit)) (W5 : World) (k : Nat) (i : Value) (wr : World) : Prop :=
  ∃ (j : Nat) (us : List LT) (Lj : Int), Hid (j + k = x.args.length) ∧ j ≤ x.args.length ∧ i = .int .i64 j ∧ Hid (MakD p (Tm.img l) G C x W5 j us wr) ∧ Hid (wr.heap[C]? = some (.cells #[.int .i64 Lj] 3 (0, 0))) ∧ Hid (Lj + ((s + 1 + Tm.sizes (Y.take j) : Nat) : Int) = 2000 ∧ s + 1 + Tm.sizes (Y.take j) ≤ 2000) ∧ Hid (∀ y ∈ Y.take j, d + 1 + y.depth ≤ 65)
set_option maxRecDepth 100000 in
set_option maxHeartbeats 12800000 in
theorem whole152 {p O : Nat → Prop} {wb m : Nat} {l : Tm.Trail} (n : Nat) : ∀ (t : LT) (s d C : Nat) (L D : Int) (w : World), d + n = 66 → d ≤ 65 → L + (s : Int) = 2000 → D + (d : Int) = 65 → s ≤ 2000 → DO p wb O m l w → t.In p w → (∀ z ∈ t.bare.flat, goodOneB z = true) → w.heap[C]? = some (.cells #[.int .i64 L] 3 (0, 0)) → ¬ O C → ¬ p C →
    Calls Try.prog 152 #[.pointer (some ⟨wb, 0, none⟩), t.val, .pointer (some ⟨C, 0, none⟩), .int .i64 D] w (WhQ p l C t s d w) := by
  induction n with
  | zero => intro t s d C L D w h1 h2; omega
  | succ n ih =>
    intro t s d C L D w hdn hd hLs hDd hs h ht hg hC hOC hpC
    have hCl := (Array.getElem?_eq_some_iff.1 hC).1
    have h2 := twoBox w (.cells #[.int .i64 t.kind, .int .i64 t.n, .string t.name, .slice t.at_.1 t.args.length t.at_.2] 41) (.cells #[.int .i64 0, .int .i64 0, .string ⟨#[]⟩, .slice none 0 0] 41)
    obtain ⟨w2, hw2⟩ : ∃ z, z = (w.alloc (.cells #[.int .i64 t.kind, .int .i64 t.n, .string t.name, .slice t.at_.1 t.args.length t.at_.2] 41)).alloc (.cells #[.int .i64 0, .int .i64 0, .string ⟨#[]⟩, .slice none 0 0] 41) := ⟨_, rfl⟩
    rw [← hw2] at h2
    have T2 := h2.1
    have hwk : Calls Try.prog 170 #[.pointer (some ⟨wb, 0, none⟩), t.val] w2 fun e w' => ∃ x : LT, e = .returned x.val ∧ x.In p w' ∧ x.bare = Tm.walkT l t.bare ∧ Turned (fun _ => False) w2 w' := walk170 (h.turned0 T2) (ht.turned0 T2) hg
    have hwd := Tm.walked h.ok _ t.bare (Nat.le_refl _) hg
    obtain ⟨X, hX⟩ : ∃ z, z = Tm.walkT l t.bare := ⟨_, rfl⟩
    rw [← hX] at hwk hwd
    have hNC : C ≠ w.heap.size := by omega
    have hCN : w.heap.size ≠ C := by omega
    have hNC1 : C ≠ w.heap.size + 1 := by omega
    have hCN1 : w.heap.size + 1 ≠ C := by omega
    rw [LT.val_eq] at hwk ⊢
    have hC2 : w2.heap[C]? = some (.cells #[.int .i64 L] 3 (0, 0)) := (T2.block C hCl (fun f => f)).trans hC
    have HPP2 : Hid (∀ k, p k → k < w.heap.size ∧ k ≠ C) := fun k hk => ⟨h.plt k hk, fun e => hpC (e ▸ hk)⟩
    have HPP : Hid (∀ k, p k → k < w.heap.size ∧ k ≠ C) := fun k hk => ⟨h.plt k hk, fun e => hpC (e ▸ hk)⟩
    have HWK := Lib.hid hwk
    have HB2 := Lib.hid h2.2.2
    have HC2 := Lib.hid hC2
    have HW2 := Lib.hid hw2
    have HT2 := Lib.hid T2
    have HH := Lib.hid h
    have HOC := Lib.hid hOC
    have HPC := Lib.hid hpC
    have HIH := Lib.hid ih
    have HCL := Lib.hid hCl
    have HWD := Lib.hid hwd
    have HLS := Lib.hid (And.intro hLs (And.intro hDd (And.intro hdn (And.intro hd hs))))
    have hL0 : 0 ≤ L ∧ L ≤ 2000 := by omega
    have hD0 : 0 ≤ D ∧ D ≤ 65 := by omega
    clear hwk h2 hC2 hw2 T2 h ht hg hC hOC hpC ih hX hwd hLs hDd hdn hd hs
    by_cases hA : 1 ≤ L
    · have d1 : decide (L - 1 < 0) = false := decide_eq_false (by omega)
      by_cases hD : 1 ≤ D
      · have d2 : decide (D < 1) = false := decide_eq_false (by omega)
        obtain ⟨q, hq⟩ : ∃ z, z = X.args.length := ⟨_, rfl⟩
        by_cases hL : q = 0
        · have HLM := Lib.hid (leaf_make (s := s) (d := d) HH.out.ok HWD.out (by rw [← hq]; exact hL) (by have := HLS.out; omega) (by have := HLS.out; omega))
          have HQ := Lib.hid (show X.args.length = 0 by rw [← hq]; exact hL)
          clear hq hL
          go_enter Try.func152, Try.ntmps152
          go_wp2_with (go_at_call 170; rw [← HW2.out]; (with_reducible refine HWK.out.mono ?_); rintro e w3 ⟨x, rfl, hxi, hxb, T3⟩; rw [LT.val_eq x]; have hq := (T3.block _ (Array.getElem?_eq_some_iff.1 HC2.out).1 (fun f => f)).trans HC2.out; have hbx := (T3.block _ (Array.getElem?_eq_some_iff.1 HB2.out.1).1 (fun f => f)).trans HB2.out.1; have hbz := (T3.block _ (Array.getElem?_eq_some_iff.1 HB2.out.2).1 (fun f => f)).trans HB2.out.2; obtain ⟨k0, k1⟩ := int1 hq; obtain ⟨c0, c1, c2, c3, f0, f1, f2, f3⟩ := cells4 hbx; obtain ⟨z0, z1, z2, z3, g0, g1, g2, g3⟩ := cells4 hbz; have HAW := Lib.hid (after_has hbx hq hNC (.int .i64 x.kind) (.int .i64 x.n) (.string x.name) (.slice x.at_.1 x.args.length x.at_.2) (.int .i64 (L - 1))); have HBZ := Lib.hid hbz; have HT3 := Lib.hid T3; have HXI := Lib.hid hxi; have HXB := Lib.hid hxb; have hlx : x.args.length = X.args.length := (Tm.bare_arity x).symm.trans (congrArg (fun z => (Tm.args z).length) hxb); have hl0 : (x.args.length == 0) = true := (by rw [hlx, HQ.out]; rfl); have hl1 : ((x.args.length : Int) == 0) = true := (by rw [hlx, HQ.out]; rfl); clear hlx; clear hq hbx hbz T3 hxi hxb)
          obtain ⟨A1, A2, A3⟩ := HAW.out
          have hbz := (A3.block (w.heap.size + 1) (Array.getElem?_eq_some_iff.1 HBZ.out).1 (fun e => by have := HCL.out; omega)).trans HBZ.out
          have hset := set4 (a' := .int .i64 x.kind) (b' := .int .i64 x.n) (c' := .string x.name) (d' := .slice x.at_.1 x.args.length x.at_.2) hbz
          have Tq := fun W => turned_store4 W (w.heap.size + 1) (.int .i64 x.kind) (.int .i64 x.n) (.string x.name) (.slice x.at_.1 x.args.length x.at_.2)
          refine bodyPost_ret (results_cell_tmp1 Try.results152 _ _ (w.heap.size + 1) 41 _ (0, 0) _ rfl hset Try.underlying41 rfl (by kernel_rfl)) rfl (WhQ.yes HLM.out.2.1 (HXB.out.trans HLM.out.1.symm) (((Tq _).block C (Array.getElem?_eq_some_iff.1 A2).1 (by have := HCL.out; omega)).trans A2) (by rw [HLM.out.2.2]; have := HLS.out; omega) (wh_in HPP.out A3 (Tq _) HXI.out (fun _ h => .inl h)) (wh_back HT2.out HT3.out A3 (Tq _)))
        · have hxa : ¬ X.args = [] := fun e => hL (by rw [hq, e]; rfl)
          have HKN := Lib.hid (Tm.one_args (HWD.out.ones X (by rw [Tm.flat_eq]; exact List.mem_cons_self ..)) hxa)
          have HAR := Lib.hid (HWD.out.args hxa)
          have HQ := Lib.hid (show 0 < X.args.length by omega)
          clear hq hL hxa
          go_enter Try.func152, Try.ntmps152
          go_wp2_with (go_at_call 170; rw [← HW2.out]; (with_reducible refine HWK.out.mono ?_); rintro e w3 ⟨x, rfl, hxi, hxb, T3⟩; rw [LT.val_eq x]; have hq := (T3.block _ (Array.getElem?_eq_some_iff.1 HC2.out).1 (fun f => f)).trans HC2.out; have hbx := (T3.block _ (Array.getElem?_eq_some_iff.1 HB2.out.1).1 (fun f => f)).trans HB2.out.1; have hbz := (T3.block _ (Array.getElem?_eq_some_iff.1 HB2.out.2).1 (fun f => f)).trans HB2.out.2; obtain ⟨k0, k1⟩ := int1 hq; obtain ⟨c0, c1, c2, c3, f0, f1, f2, f3⟩ := cells4 hbx; obtain ⟨z0, z1, z2, z3, g0, g1, g2, g3⟩ := cells4 hbz; have HAW := Lib.hid (after_has hbx hq hNC (.int .i64 x.kind) (.int .i64 x.n) (.string x.name) (.slice x.at_.1 x.args.length x.at_.2) (.int .i64 (L - 1))); have HBZ := Lib.hid hbz; have HT3 := Lib.hid T3; have HXI := Lib.hid hxi; have HXB := Lib.hid hxb; have hlx : x.args.length = X.args.length := (Tm.bare_arity x).symm.trans (congrArg (fun z => (Tm.args z).length) hxb); have hal8 : x.args.length ≤ 8 := (by have := HKN.out.2.2; omega); have hl0 : (x.args.length == 0) = false := (by have := HQ.out; exact beq_false_of_ne (by omega)); have hl1 : ((x.args.length : Int) == 0) = false := (by have := HQ.out; exact beq_false_of_ne (by omega)); obtain ⟨ZZ, hZZ⟩ : ∃ z, z = madeCells zeroR.cells (x.args.length * 4) := ⟨_, rfl⟩; have hm := make_blanks x.args.length (by omega); rw [← hZZ] at hm; have hmk := (fun W => (hm W).1); have HMK := Lib.hid (fun W => (hm W).2); clear hlx hm hZZ; clear hq hbx hbz T3 hxi hxb)
          obtain ⟨A1, A2, A3⟩ := HAW.out
          have hsz : (((((w3.setCell ⟨w.heap.size, 0, none⟩ (.int .i64 x.kind)).setCell ⟨w.heap.size, 1, none⟩ (.int .i64 x.n)).setCell ⟨w.heap.size, 2, none⟩ (.string x.name)).setCell ⟨w.heap.size, 3, none⟩ (.slice x.at_.1 x.args.length x.at_.2)).setCell ⟨C, 0, none⟩ (.int .i64 (L - 1))).heap.size = w3.heap.size := by simp [World.setCell]
          have hbz := (A3.block (w.heap.size + 1) (Array.getElem?_eq_some_iff.1 HBZ.out).1 (fun e => by have := HCL.out; omega)).trans HBZ.out
          revert A1 A2 A3 hsz hbz
          generalize (((((w3.setCell ⟨w.heap.size, 0, none⟩ (.int .i64 x.kind)).setCell ⟨w.heap.size, 1, none⟩ (.int .i64 x.n)).setCell ⟨w.heap.size, 2, none⟩ (.string x.name)).setCell ⟨w.heap.size, 3, none⟩ (.slice x.at_.1 x.args.length x.at_.2)).setCell ⟨C, 0, none⟩ (.int .i64 (L - 1))) = W4
          intro A1 A2 A3 hsz hbz
          have HR0 := HMK.out W4
          rw [hsz] at HR0
          have TA := (Turned.refl (fun _ => False) W4).alloc (.cells ZZ 41)
          have hds : DO p wb O m l W4 := (HH.out.turned0 (HT2.out.trans HT3.out)).turned A3 (fun k hk e => by
            rcases e with e | e
            · exact ⟨fun o => by have := HH.out.lt k o; omega, fun o => by have := HH.out.plt k o; omega⟩
            · exact ⟨fun o => HOC.out (e ▸ o), fun o => HPC.out (e ▸ o)⟩)
          have hxs : x.In p W4 := LT.In.turned A3 (fun k _ hk e => by have := HPP.out k hk; omega) (fun _ _ q => q) _ HXI.out
          have hTw : Turned (fun k => k = C) w W4 := ((HT2.out.trans HT3.out).mono (fun _ _ f => f.elim) : Turned (fun k => k = C) w w3).step A3 (fun i hi e => e.elim (fun e => by omega) id)
          have HH5 := And.intro (Lib.hid HR0) (And.intro (Lib.hid ((TA.block _ (Array.getElem?_eq_some_iff.1 A1).1 (fun f => f)).trans A1)) (And.intro (Lib.hid ((TA.block _ (Array.getElem?_eq_some_iff.1 A2).1 (fun f => f)).trans A2)) (And.intro (Lib.hid ((TA.block _ (Array.getElem?_eq_some_iff.1 hbz).1 (fun f => f)).trans hbz)) (And.intro (Lib.hid (hds.turned0 TA)) (And.intro (Lib.hid (hxs.turned0 TA)) (And.intro (Lib.hid (hTw.trans (TA.mono (fun _ _ f => f.elim)))) (Lib.hid (show (W4.alloc (.cells ZZ 41)).heap.size = w3.heap.size + 1 by simp; omega))))))))
          have hG2 : w.heap.size + 2 ≤ w3.heap.size := by have := (Array.getElem?_eq_some_iff.1 HBZ.out).1; omega
          clear HR0 TA hds hxs hTw A1 A2 A3 hsz hbz HAW HBZ HXI HT3 HMK hmk c0 c1 c2 c3 f0 f1 f2 f3 z0 z1 z2 z3 g0 g1 g2 g3 k0 k1
          revert HH5
          generalize W4.alloc (.cells ZZ 41) = W5
          obtain ⟨G, hG⟩ : ∃ z, z = w3.heap.size := ⟨_, rfl⟩
          rw [← hG] at hG2 ⊢
          intro HH5
          obtain ⟨HR0, HB5, HC5, HZ5, HD5, HX5, HT5, HS5⟩ := HH5
          have HGG := Lib.hid hG2
          have HGG2 : Hid (C < G ∧ w.heap.size ≤ G) := Lib.hid (by have := HCL.out; omega)
          clear hG hG2
          have hY : Tm.args (Tm.img l t.bare) = x.args.map (fun y => Tm.img l y.bare) := by
            rw [HAR.out]
            show X.args.map (Tm.img l) = _
            rw [← HXB.out, Tm.bare_args, Tm.bares_eq, List.map_map]
            rfl
          obtain ⟨Y, hYe⟩ : ∃ z, z = x.args.map (fun y => Tm.img l y.bare) := ⟨_, rfl⟩
          rw [← hYe] at hY
          have HY := Lib.hid hY
          have HYE := Lib.hid hYe
          clear hY hYe
          have hinit : Hid (MakD p (Tm.img l) G C x W5 0 (blanks x.args.length) W5) := ⟨blanks_length _, rfl, HR0.out, blanks_in _ _ _, Turned.refl _ _⟩
          go_loopg [11] x.args.length (fun q i wr => WhL p C l x s d G Y W5 q i wr)
          case atStart => exact ⟨0, _, L - 1, Nat.zero_add _, Nat.zero_le _, rfl, hinit, HC5.out, show _ ∧ _ from ⟨by rw [List.take_zero]; show L - 1 + ((s + 1 + 0 : Nat) : Int) = 2000; have := HLS.out; omega, by rw [List.take_zero]; show s + 1 + 0 ≤ 2000; have := HLS.out; omega⟩, fun y hy => by rw [List.take_zero] at hy; cases hy⟩
          case round =>
            obtain ⟨j, us, Lj, HG, hj, rfl, HM, HCJ, HLJ, HDJ⟩ := hrel
            have hb0 := (HM.out.turned.block _ (Array.getElem?_eq_some_iff.1 HB5.out).1 (fun e => by have := HGG.out; omega)).trans HB5.out
            obtain ⟨c0, c1, c2, c3, _⟩ := cells4 hb0
            have hbz := (HM.out.turned.block _ (Array.getElem?_eq_some_iff.1 HZ5.out).1 (fun e => by have := HGG.out; omega)).trans HZ5.out
            have HBZ := Lib.hid hbz
            have HB0 := Lib.hid hb0
            clear hb0 hbz
            by_cases hjl : j < x.args.length
            · obtain ⟨y, hy⟩ : ∃ y : LT, x.args[j]? = some y := ⟨_, List.getElem?_eq_getElem hjl⟩
              have hDO : DO p wb O m l wr := HD5.out.turned HM.out.turned (fun k hk e => by
                have := HGG.out
                rcases e with e | e
                · exact ⟨fun o => by have := HH.out.lt k o; omega, fun o => by have := HH.out.plt k o; omega⟩
                · exact ⟨fun o => HOC.out (e ▸ o), fun o => HPC.out (e ▸ o)⟩)
              have hxw : x.In p wr := LT.In.turned HM.out.turned (fun k _ hk e => by have := HGG.out; have := HPP.out k hk; omega) (fun _ _ q => q) _ HX5.out
              obtain ⟨b, o, hbo, _, x0, x1, x2, x3⟩ := hxw.lies.cell hy
              have hyY : Y[j]? = some (Tm.img l y.bare) := by rw [HYE.out, List.getElem?_map, hy]; rfl
              have hyg : ∀ z ∈ y.bare.flat, goodOneB z = true := fun z hz => HWD.out.ones z (by
                rw [← HXB.out, Tm.flat_eq]
                exact List.mem_cons_of_mem _ (mem_flats_arg (by rw [Tm.bare_args, Tm.bares_eq]; exact List.mem_map_of_mem (List.mem_of_getElem? hy)) hz))
              have hcy := HIH.out y (s + 1 + Tm.sizes (Y.take j)) (d + 1) C Lj (D - 1) wr (by have := HLS.out; omega) (by have := HLS.out; omega) HLJ.out.1 (by have := HLS.out; omega) HLJ.out.2 hDO ((LT.ins_iff _).1 hxw.args y (List.mem_of_getElem? hy)) hyg HCJ.out HOC.out HPC.out
              rw [LT.val_eq y] at hcy
              have HCY := Lib.hid hcy
              have HYY := Lib.hid hyY
              have HXY := Lib.hid hy
              rw [hbo] at c3
              clear hy hDO hxw hyY hyg hcy hbo
              cases hok : Tm.makeOk (s + 1 + Tm.sizes (Y.take j)) (d + 1) (Tm.img l y.bare) with
              | true =>
                have hmk := Tm.makeOk_iff.1 hok
                have HMK := Lib.hid hmk
                have HCY2 : Hid (Calls Try.prog 152 _ wr fun e w' => ∃ (u : LT) (L' : Int), e = .returned (.tuple #[.agg #[.int .i64 u.kind, .int .i64 u.n, .string u.name, .slice u.at_.1 u.args.length u.at_.2], .bool true]) ∧ (u.bare = Tm.img l y.bare ∧ L' + ((s + 1 + Tm.sizes (Y.take j) + (Tm.img l y.bare).size : Nat) : Int) = 2000) ∧ w'.heap[C]? = some (.cells #[.int .i64 L'] 3 (0, 0)) ∧ u.In (fun k => p k ∨ wr.heap.size ≤ k) w' ∧ Turned (fun k => k = C) wr w') := Lib.hid (HCY.out.mono (fun e w' h => by
                  obtain ⟨u, L', h1, h2, h3⟩ := h
                  rw [hok] at h1
                  exact ⟨u, L', h1, h2 hok, h3⟩))
                clear hok hmk HCY
                go_wp2_with (go_at_call 152; (with_reducible refine HCY2.out.mono ?_); rintro e w7 ⟨u, L7, rfl, ⟨hub, hL7⟩, hq7, hui, T7⟩; have T8 := T7.alloc (.cells #[.int .i64 u.kind, .int .i64 u.n, .string u.name, .slice u.at_.1 u.args.length u.at_.2] 41); have hI := HM.out.put (fun k hk => ⟨by have := (HPP2.out k hk).1; have := HGG2.out.2; omega, (HPP2.out k hk).2⟩) HGG2.out.1 (by have := HM.out.turned.size; have := HS5.out; omega) HXY.out hub (hui.turned0 ((Turned.refl _ _).alloc (.cells #[.int .i64 u.kind, .int .i64 u.n, .string u.name, .slice u.at_.1 u.args.length u.at_.2] 41))) T8; have hrw := HM.out.row.turned T8 (fun k hk e => by simp [Value.ownBlock] at hk; have := HGG2.out.1; omega); have f0 := hrw.free rfl (j * 4); have f1 := hrw.free rfl (j * 4 + 1); have f2 := hrw.free rfl (j * 4 + 2); have f3 := hrw.free rfl (j * 4 + 3); have g0 := row_some hrw (j * 4) (by omega); have g1 := row_some hrw (j * 4 + 1) (by omega); have g2 := row_some hrw (j * 4 + 2) (by omega); have g3 := row_some hrw (j * 4 + 3) (by omega); obtain ⟨z0, g0⟩ := g0; obtain ⟨z1, g1⟩ := g1; obtain ⟨z2, g2⟩ := g2; obtain ⟨z3, g3⟩ := g3; have hcl := (((Turned.refl (fun _ => False) w7).alloc (.cells #[.int .i64 u.kind, .int .i64 u.n, .string u.name, .slice u.at_.1 u.args.length u.at_.2] 41)).block C (Array.getElem?_eq_some_iff.1 hq7).1 (fun f => f)).trans hq7; have hnb := heap_alloc_new w7 (.cells #[.int .i64 u.kind, .int .i64 u.n, .string u.name, .slice u.at_.1 u.args.length u.at_.2] 41); obtain ⟨y0, y1, y2, y3, _⟩ := cells4 hnb; have HI := Lib.hid hI; have HQ7 := Lib.hid hcl; have HL7 := Lib.hid hL7; clear hI hrw hub hui hq7 hcl hL7 hnb)
                go_roundg (gk - 1)
                case measure => have := HG.out; omega
                case rel => exact ⟨j + 1, _, L7, show _ = _ by have := HG.out; omega, by omega, by go_num, HI, show _ = _ by (have Tq := turned_store4g (w7.alloc (.cells #[.int .i64 u.kind, .int .i64 u.n, .string u.name, .slice u.at_.1 u.args.length u.at_.2] 41)) G j (.int .i64 u.kind) (.int .i64 u.n) (.string u.name) (.slice u.at_.1 u.args.length u.at_.2); exact (Tq.block C (Array.getElem?_eq_some_iff.1 HQ7.out).1 (by have := HGG2.out.1; omega)).trans HQ7.out), show _ ∧ _ by (rw [Tm.sizes_take HYY.out]; have := HL7.out; have := HMK.out; omega), fun z hz => by
                    rw [List.take_add_one, HYY.out] at hz
                    rcases List.mem_append.1 hz with hz | hz
                    · exact HDJ.out z hz
                    · simp only [Option.toList, List.mem_singleton] at hz
                      rw [hz]
                      exact HMK.out.2⟩
              | false =>
                have hno : Tm.makeOk s d (Tm.img l t.bare) = false := Tm.makeOk_no (i := j) (x := Tm.img l y.bare) (by rw [HY.out]; exact HYY.out) (by rw [HY.out]; exact hok)
                have HNO := Lib.hid hno
                have HCY2 : Hid (Calls Try.prog 152 _ wr fun e w' => ∃ (u : LT) (L' : Int), e = .returned (.tuple #[.agg #[.int .i64 u.kind, .int .i64 u.n, .string u.name, .slice u.at_.1 u.args.length u.at_.2], .bool false]) ∧ w'.heap[C]? = some (.cells #[.int .i64 L'] 3 (0, 0)) ∧ Turned (fun k => k = C) wr w') := Lib.hid (HCY.out.mono (fun e w' h => by
                  obtain ⟨u, L', h1, h2, h3, _, h5⟩ := h
                  rw [hok] at h1
                  exact ⟨u, L', h1, h3, h5⟩))
                clear hok hno HCY
                go_wp2_with (go_at_call 152; (with_reducible refine HCY2.out.mono ?_); rintro e w7 ⟨u, L7, rfl, hq7, T7⟩; have T8 := T7.alloc (.cells #[.int .i64 u.kind, .int .i64 u.n, .string u.name, .slice u.at_.1 u.args.length u.at_.2] 41); have hcl := (((Turned.refl (fun _ => False) w7).alloc (.cells #[.int .i64 u.kind, .int .i64 u.n, .string u.name, .slice u.at_.1 u.args.length u.at_.2] 41)).block C (Array.getElem?_eq_some_iff.1 hq7).1 (fun f => f)).trans hq7; have hb8 := (T8.block _ (Array.getElem?_eq_some_iff.1 HB0.out).1 hCN).trans HB0.out; have hz8 := (T8.block _ (Array.getElem?_eq_some_iff.1 HBZ.out).1 hCN1).trans HBZ.out; obtain ⟨y0, y1, y2, y3, _⟩ := cells4 hb8; obtain ⟨d0, d1, d2, d3, f0, f1, f2, f3⟩ := cells4 hz8; have HZ8 := Lib.hid hz8; have HQ7 := Lib.hid hcl; have HT8 := Lib.hid T8; clear hcl hq7 hb8 hz8 T7 T8)
                have hset := set4 (a' := .int .i64 x.kind) (b' := .int .i64 x.n) (c' := .string x.name) (d' := .slice x.at_.1 x.args.length x.at_.2) HZ8.out
                have Tq := fun W => turned_store4 W (w.heap.size + 1) (.int .i64 x.kind) (.int .i64 x.n) (.string x.name) (.slice x.at_.1 x.args.length x.at_.2)
                have TT := whk_back HT5.out HM.out.turned HT8.out (Tq _) (by have := HGG.out; omega)
                have hxi : x.In p _ := LT.In.turned (Tq _) (fun k _ hk e => by have := HPP.out k hk; omega) (fun _ _ q => q) _ (LT.In.turned HT8.out (fun k _ hk e => (HPP.out k hk).2 e) (fun _ _ q => q) _ (LT.In.turned HM.out.turned (fun k _ hk e => by have := HGG.out; have := HPP.out k hk; omega) (fun _ _ q => q) _ HX5.out))
                refine bodyPost_ret (results_cell_tmp1 Try.results152 _ _ (w.heap.size + 1) 41 _ (0, 0) _ rfl hset Try.underlying41 rfl (by kernel_rfl)) rfl (WhQ.no HNO.out (((Tq _).block C (Array.getElem?_eq_some_iff.1 HQ7.out).1 hNC1).trans HQ7.out) hxi TT)
            · obtain rfl : j = x.args.length := by omega
              go_wp2_with (go_at_call 160; (with_reducible refine (rComp160 _ _ _ _ _).mono ?_); rintro e w7 ⟨rfl, T7⟩; have hb1 := (T7.block _ (Array.getElem?_eq_some_iff.1 HBZ.out).1 (fun f => f)).trans HBZ.out; obtain ⟨d0, d1, d2, d3, f0, f1, f2, f3⟩ := cells4 hb1; have HB7 := Lib.hid hb1; have HT7 := Lib.hid T7; clear hb1 T7)
              have hset := set4 (a' := .int .i64 2) (b' := .int .i64 0) (c' := .string x.name) (d' := .slice (some ⟨G, 0, none⟩) x.args.length x.args.length) HB7.out
              have Tq := turned_store4 w7 (w.heap.size + 1) (.int .i64 2) (.int .i64 0) (.string x.name) (.slice (some ⟨G, 0, none⟩) x.args.length x.args.length)
              have hne : ∀ q, (Value.slice (some ⟨G, 0, none⟩) x.args.length x.args.length).ownBlock ≠ some (Addr.block ⟨w.heap.size + 1, q, none⟩) := fun q e => by simp [Value.ownBlock] at e; have := HGG.out; omega
              have hrow := (((((HM.out.row.turned0 HT7.out).setCell (hne 0) (.int .i64 2)).setCell (hne 1) (.int .i64 0)).setCell (hne 2) (.string x.name)).setCell (hne 3) (.slice (some ⟨G, 0, none⟩) x.args.length x.args.length))
              have hins := (HM.out.ins.turned0 HT7.out).turned (q := fun k => p k ∨ w.heap.size ≤ k) Tq (fun k _ hk e => by
                have := HGG.out
                rcases hk with h | h
                · have := (HPP.out k h).1; omega
                · omega) (fun k _ hk => by
                have := HGG.out
                rcases hk with h | h
                · exact .inl h
                · exact .inr (by omega))
              obtain ⟨e1, e2⟩ := LT.Sl.of_row (p := fun k => p k ∨ w.heap.size ≤ k) hrow (fun k hk => .inr (by simp [Value.ownBlock] at hk; have := HGG.out; omega)) hins
              have hUL : us.length = x.args.length := HM.out.len
              have hbr := HM.out.bares
              rw [List.take_length, ← hUL, List.take_length] at hbr
              have hYL : Y.length = x.args.length := by rw [HYE.out, List.length_map]
              have hl2 := HLJ.out
              have hd2 := HDJ.out
              rw [← hYL, List.take_length] at hl2 hd2
              have hok : Tm.makeOk s d (Tm.img l t.bare) = true := Tm.makeOk_yes (by have := HLS.out; omega) (by have := HLS.out; omega) (by rw [HY.out]; exact hl2.2) (by rw [HY.out]; exact hd2)
              have hsz : (Tm.img l t.bare).size = 1 + Tm.sizes Y := by rw [Tm.size_eq, HY.out]
              have hC7 := (Tq.block C (Array.getElem?_eq_some_iff.1 ((HT7.out.block C (Array.getElem?_eq_some_iff.1 HCJ.out).1 (fun f => f)).trans HCJ.out)).1 hNC1).trans ((HT7.out.block C (Array.getElem?_eq_some_iff.1 HCJ.out).1 (fun f => f)).trans HCJ.out)
              have TT := whk_back HT5.out HM.out.turned (HT7.out.mono (fun _ _ f => f.elim)) Tq (by have := HGG.out; omega)
              have hub : (Tm.mk 2 0 x.name (some ⟨G, 0, none⟩, x.args.length) us : LT).bare = Tm.img l t.bare := by
                rw [HAR.out, Tm.bare, Tm.bares_eq, hbr, ← HXB.out, Tm.bare_args, Tm.bares_eq, List.map_map, Tm.bare_name, Tm.bare_kind]
                rw [show x.kind = 2 by have := HKN.out.1; rw [← HXB.out, Tm.bare_kind] at this; exact this]
                rfl
              have hfin := WhQ.yes (p := p) (l := l) (C := C) (t := t) (s := s) (d := d) (w := w) (u := Tm.mk 2 0 x.name (some ⟨G, 0, none⟩, x.args.length) us) hok hub hC7 (by rw [hsz]; have := hl2.1; omega) (e2.in_ (i64_lit _ (by omega)) (i64_lit _ (by omega)) HX5.out.name) TT
              refine bodyPost_ret (results_cell_tmp1 Try.results152 _ _ (w.heap.size + 1) 41 _ (0, 0) _ rfl hset Try.underlying41 rfl (by kernel_rfl)) rfl ?_
              rw [show (Tm.args (Tm.mk 2 0 x.name (some ⟨G, 0, none⟩, x.args.length) us : LT)).length = x.args.length from hUL] at hfin
              exact hfin
      · have d2 : decide (D < 1) = true := decide_eq_true (by omega)
        have HNO := Lib.hid (wh_no (s := s) (d := d) (u := Tm.img l t.bare) (.inr (by have := HLS.out; omega)))
        go_enter Try.func152, Try.ntmps152
        go_wp2_with (go_at_call 170; rw [← HW2.out]; (with_reducible refine HWK.out.mono ?_); rintro e w3 ⟨x, rfl, hxi, hxb, T3⟩; rw [LT.val_eq x]; have hq := (T3.block _ (Array.getElem?_eq_some_iff.1 HC2.out).1 (fun f => f)).trans HC2.out; have hbx := (T3.block _ (Array.getElem?_eq_some_iff.1 HB2.out.1).1 (fun f => f)).trans HB2.out.1; have hbz := (T3.block _ (Array.getElem?_eq_some_iff.1 HB2.out.2).1 (fun f => f)).trans HB2.out.2; obtain ⟨k0, k1⟩ := int1 hq; obtain ⟨c0, c1, c2, c3, f0, f1, f2, f3⟩ := cells4 hbx; obtain ⟨z0, z1, z2, z3, g0, g1, g2, g3⟩ := cells4 hbz; have HAW := Lib.hid (after_has hbx hq hNC (.int .i64 x.kind) (.int .i64 x.n) (.string x.name) (.slice x.at_.1 x.args.length x.at_.2) (.int .i64 (L - 1))); have HBZ := Lib.hid hbz; have HT3 := Lib.hid T3; have HXI := Lib.hid hxi; have HXB := Lib.hid hxb; clear hq hbx hbz T3 hxi hxb)
        obtain ⟨A1, A2, A3⟩ := HAW.out
        have hbz := (A3.block (w.heap.size + 1) (Array.getElem?_eq_some_iff.1 HBZ.out).1 (fun e => by have := HCL.out; omega)).trans HBZ.out
        have hset := set4 (a' := .int .i64 x.kind) (b' := .int .i64 x.n) (c' := .string x.name) (d' := .slice x.at_.1 x.args.length x.at_.2) hbz
        have Tq := fun W => turned_store4 W (w.heap.size + 1) (.int .i64 x.kind) (.int .i64 x.n) (.string x.name) (.slice x.at_.1 x.args.length x.at_.2)
        refine bodyPost_ret (results_cell_tmp1 Try.results152 _ _ (w.heap.size + 1) 41 _ (0, 0) _ rfl hset Try.underlying41 rfl (by kernel_rfl)) rfl (WhQ.no HNO.out (((Tq _).block C (Array.getElem?_eq_some_iff.1 A2).1 (by have := HCL.out; omega)).trans A2) (wh_in HPP.out A3 (Tq _) HXI.out (fun _ h => h)) (wh_back HT2.out HT3.out A3 (Tq _)))
    · have d1 : decide (L - 1 < 0) = true := decide_eq_true (by omega)
      have HNO := Lib.hid (wh_no (s := s) (d := d) (u := Tm.img l t.bare) (.inl (by have := HLS.out; omega)))
      go_enter Try.func152, Try.ntmps152
      go_wp2_with (go_at_call 170; rw [← HW2.out]; (with_reducible refine HWK.out.mono ?_); rintro e w3 ⟨x, rfl, hxi, hxb, T3⟩; rw [LT.val_eq x]; have hq := (T3.block _ (Array.getElem?_eq_some_iff.1 HC2.out).1 (fun f => f)).trans HC2.out; have hbx := (T3.block _ (Array.getElem?_eq_some_iff.1 HB2.out.1).1 (fun f => f)).trans HB2.out.1; have hbz := (T3.block _ (Array.getElem?_eq_some_iff.1 HB2.out.2).1 (fun f => f)).trans HB2.out.2; obtain ⟨k0, k1⟩ := int1 hq; obtain ⟨c0, c1, c2, c3, f0, f1, f2, f3⟩ := cells4 hbx; obtain ⟨z0, z1, z2, z3, g0, g1, g2, g3⟩ := cells4 hbz; have HAW := Lib.hid (after_has hbx hq hNC (.int .i64 x.kind) (.int .i64 x.n) (.string x.name) (.slice x.at_.1 x.args.length x.at_.2) (.int .i64 (L - 1))); have HBZ := Lib.hid hbz; have HT3 := Lib.hid T3; have HXI := Lib.hid hxi; have HXB := Lib.hid hxb; clear hq hbx hbz T3 hxi hxb)
      obtain ⟨A1, A2, A3⟩ := HAW.out
      have hbz := (A3.block (w.heap.size + 1) (Array.getElem?_eq_some_iff.1 HBZ.out).1 (fun e => by have := HCL.out; omega)).trans HBZ.out
      have hset := set4 (a' := .int .i64 x.kind) (b' := .int .i64 x.n) (c' := .string x.name) (d' := .slice x.at_.1 x.args.length x.at_.2) hbz
      have Tq := fun W => turned_store4 W (w.heap.size + 1) (.int .i64 x.kind) (.int .i64 x.n) (.string x.name) (.slice x.at_.1 x.args.length x.at_.2)
      refine bodyPost_ret (results_cell_tmp1 Try.results152 _ _ (w.heap.size + 1) 41 _ (0, 0) _ rfl hset Try.underlying41 rfl (by kernel_rfl)) rfl (WhQ.no HNO.out (((Tq _).block C (Array.getElem?_eq_some_iff.1 A2).1 (by have := HCL.out; omega)).trans A2) (wh_in HPP.out A3 (Tq _) HXI.out (fun _ h => h)) (wh_back HT2.out HT3.out A3 (Tq _)))
end Go.Proofs.Ytoihjobdfjajfaa
namespace Go.Proofs.Ytoihjobdfjajfaa
open Go.RowKit Go.Maps
set_option linter.unusedVariables false
set_option linter.unusedSimpArgs false
def W105 (p : Nat → Prop) (m : Nat) (l : Tm.Trail) (t : LT) (w : World) (e : Ending) (w' : World) : Prop :=
  ∃ u : LT, e = .returned (.tuple #[.agg #[.int .i64 u.kind, .int .i64 u.n, .string u.name, .slice u.at_.1 u.args.length u.at_.2], .int .i64 (wholeE m l t.bare)]) ∧ u.bare = wholeT m l t.bare ∧ u.In (fun k => p k ∨ w.heap.size ≤ k) w' ∧ Turned (fun _ => False) w w'
theorem W105.no {p : Nat → Prop} {m : Nat} {l : Tm.Trail} {t : LT} {w w' : World} {E : Int} (hE : wholeE m l t.bare = E) (h0 : ¬ E = 0) (T : Turned (fun _ => False) w w') :
    W105 p m l t w (.returned (.tuple #[.agg #[.int .i64 0, .int .i64 0, .string ⟨#[]⟩, .slice none 0 0], .int .i64 E])) w' :=
  ⟨leaf 0 0 ByteArray.empty, by rw [hE]; rfl, by unfold wholeT; rw [hE, if_neg h0], leafIn' (i64_lit _ (by omega)) (i64_lit _ (by omega)) (by unfold maxLen; decide), T⟩
set_option maxRecDepth 100000 in
set_option maxHeartbeats 3200000 in
theorem whole105 {p O : Nat → Prop} {wb m : Nat} {l : Tm.Trail} {w : World} {t : LT} (h : DO p wb O m l w) (ht : t.In p w) :
    Calls Try.prog 105 #[.pointer (some ⟨wb, 0, none⟩), t.val] w (W105 p m l t w) := by
  have h2 := twoBox w (.cells #[.int .i64 t.kind, .int .i64 t.n, .string t.name, .slice t.at_.1 t.args.length t.at_.2] 41) (.cells #[.int .i64 0, .int .i64 0, .string ⟨#[]⟩, .slice none 0 0] 41)
  obtain ⟨w2, hw2⟩ : ∃ z, z = (w.alloc (.cells #[.int .i64 t.kind, .int .i64 t.n, .string t.name, .slice t.at_.1 t.args.length t.at_.2] 41)).alloc (.cells #[.int .i64 0, .int .i64 0, .string ⟨#[]⟩, .slice none 0 0] 41) := ⟨_, rfl⟩
  rw [← hw2] at h2
  have T2 := h2.1
  have hkn := known99 (h.turned0 T2) (ht.turned0 T2)
  rw [← ownB_bare] at hkn
  have HH := Lib.hid h
  have HT := Lib.hid ht
  have HW2 := Lib.hid hw2
  have HT2 := Lib.hid T2
  have HB2 := Lib.hid h2.2.2
  rw [LT.val_eq] at hkn ⊢
  cases hob : Tm.ownB m t.bare with
  | false =>
    rw [hob] at hkn
    have hE : wholeE m l t.bare = 1 := by unfold wholeE; rw [hob]; rfl
    have HE := Lib.hid hE
    have HKN := Lib.hid hkn
    clear hkn hob h ht hw2 T2 h2 hE
    go_enter Try.func105, Try.ntmps105
    go_wp2_with (go_at_call 99; rw [← HW2.out]; (with_reducible refine HKN.out.mono ?_); rintro e w3 ⟨rfl, T3⟩; have hbz := (T3.block _ (Array.getElem?_eq_some_iff.1 HB2.out.2).1 (fun f => f)).trans HB2.out.2; obtain ⟨z0, z1, z2, z3, g0, g1, g2, g3⟩ := cells4 hbz; have HBZ := Lib.hid hbz; have HT3 := Lib.hid T3; clear T3 hbz)
    have hset := set4 (a' := .int .i64 0) (b' := .int .i64 0) (c' := .string ⟨#[]⟩) (d' := .slice none 0 0) HBZ.out
    have T4 := turned4 (a := .int .i64 0) (b := .int .i64 0) (c := .string ⟨#[]⟩) (d := .slice none 0 0) (HT2.out.trans HT3.out) (g := w.heap.size + 1) (by omega)
    refine bodyPost_ret (results_cell_tmp1 Try.results105 _ _ (w.heap.size + 1) 41 _ (0, 0) _ rfl hset Try.underlying41 rfl (by kernel_rfl)) rfl (W105.no HE.out (by decide) T4)
  | true =>
    rw [hob] at hkn
    have hgd := Tm.good_ones' (Tm.ownB_iff.1 hob).1
    have hcl : ∀ W, Turned (fun _ => False) w2 W → Calls Try.prog 152 #[.pointer (some ⟨wb, 0, none⟩), t.val, .pointer (some ⟨W.heap.size, 0, none⟩), .int .i64 64] (W.alloc (.cells #[.int .i64 2000] 3)) (WhQ p l W.heap.size t 0 1 (W.alloc (.cells #[.int .i64 2000] 3))) := fun W hW =>
      whole152 65 t 0 1 W.heap.size 2000 64 _ (by omega) (by omega) (by omega) (by omega) (by omega) (h.turned0 ((T2.trans hW).alloc _)) (ht.turned0 ((T2.trans hW).alloc _)) hgd (heap_alloc_new W _) (h.alloc (T2.trans hW)).1 (h.alloc (T2.trans hW)).2
    have hmw := Tm.makeOk_whole l t.bare
    have hEE : wholeE m l t.bare = if Tm.makeOk 0 1 (Tm.img l t.bare) = true then 0 else 12 := by unfold wholeE; rw [if_pos hob, hmw]
    have hTT : wholeT m l t.bare = if Tm.makeOk 0 1 (Tm.img l t.bare) = true then Tm.img l t.bare else (leaf 0 0 ByteArray.empty).bare := by
      unfold wholeT; rw [hEE]
      by_cases hk : Tm.makeOk 0 1 (Tm.img l t.bare) = true
      · rw [if_pos hk, if_pos hk, if_pos rfl]
      · rw [if_neg hk, if_neg hk, if_neg (by decide)]
    rw [LT.val_eq] at hcl
    cases hok : Tm.makeOk 0 1 (Tm.img l t.bare) with
    | false =>
      rw [hok, if_neg (by decide)] at hEE hTT
      have hcl2 : ∀ W, Turned (fun _ => False) w2 W → Calls Try.prog 152 #[.pointer (some ⟨wb, 0, none⟩), .agg #[.int .i64 t.kind, .int .i64 t.n, .string t.name, .slice t.at_.1 t.args.length t.at_.2], .pointer (some ⟨W.heap.size, 0, none⟩), .int .i64 64] (W.alloc (.cells #[.int .i64 2000] 3)) fun e w' => ∃ u : LT, e = .returned (.tuple #[.agg #[.int .i64 u.kind, .int .i64 u.n, .string u.name, .slice u.at_.1 u.args.length u.at_.2], .bool false]) ∧ Turned (fun _ => False) w2 w' := fun W hW => (hcl W hW).mono (fun e w' h => by
        obtain ⟨u, L', h1, h2, h3, h4, h5⟩ := h
        rw [hok] at h1
        exact ⟨u, h1, has_own hW rfl h5⟩)
      have HE := Lib.hid hEE
      have HKN := Lib.hid hkn
      have HCL := Lib.hid hcl2
      clear hkn hob h ht hw2 T2 h2 hEE hTT hcl hcl2 hok hmw hgd
      go_enter Try.func105, Try.ntmps105
      go_wp2_with (first
        | (go_at_call 152; have HT3 := HT3; (with_reducible refine (HCL.out _ HT3.out).mono ?_); rintro e w4 ⟨u, rfl, T4⟩; have T5 := T4.alloc (.cells #[.int .i64 u.kind, .int .i64 u.n, .string u.name, .slice u.at_.1 u.args.length u.at_.2] 41); have hbz := (T5.block _ (Array.getElem?_eq_some_iff.1 HB2.out.2).1 (fun f => f)).trans HB2.out.2; obtain ⟨d0, d1, d2, d3, g0, g1, g2, g3⟩ := cells4 hbz; have hnb := heap_alloc_new w4 (.cells #[.int .i64 u.kind, .int .i64 u.n, .string u.name, .slice u.at_.1 u.args.length u.at_.2] 41); obtain ⟨y0, y1, y2, y3, _⟩ := cells4 hnb; have HBZ5 := Lib.hid hbz; have HT5 := Lib.hid T5; have HT4 := Lib.hid T4; clear T4 T5 hbz hnb)
        | (go_at_call 99; rw [← HW2.out]; (with_reducible refine HKN.out.mono ?_); rintro e w3 ⟨rfl, T3⟩; have T3A := T3.alloc (.cells #[.int .i64 2000] 3); have hb := (T3A.block _ (Array.getElem?_eq_some_iff.1 HB2.out.1).1 (fun f => f)).trans HB2.out.1; obtain ⟨c0, c1, c2, c3, _⟩ := cells4 hb; have HT3 := Lib.hid T3; clear T3 T3A hb))
      have hset := set4 (a' := .int .i64 0) (b' := .int .i64 0) (c' := .string ⟨#[]⟩) (d' := .slice none 0 0) HBZ5.out
      have T4 := turned4 (a := .int .i64 0) (b := .int .i64 0) (c := .string ⟨#[]⟩) (d := .slice none 0 0) (HT2.out.trans HT5.out) (g := w.heap.size + 1) (by omega)
      refine bodyPost_ret (results_cell_tmp1 Try.results105 _ _ (w.heap.size + 1) 41 _ (0, 0) _ rfl hset Try.underlying41 rfl (by kernel_rfl)) rfl (W105.no HE.out (by decide) T4)
    | true =>
      rw [hok, if_pos rfl] at hEE hTT
      have hcl2 : ∀ W, Turned (fun _ => False) w2 W → Calls Try.prog 152 #[.pointer (some ⟨wb, 0, none⟩), .agg #[.int .i64 t.kind, .int .i64 t.n, .string t.name, .slice t.at_.1 t.args.length t.at_.2], .pointer (some ⟨W.heap.size, 0, none⟩), .int .i64 64] (W.alloc (.cells #[.int .i64 2000] 3)) fun e w' => ∃ u : LT, e = .returned (.tuple #[.agg #[.int .i64 u.kind, .int .i64 u.n, .string u.name, .slice u.at_.1 u.args.length u.at_.2], .bool true]) ∧ u.bare = Tm.img l t.bare ∧ u.In (fun k => p k ∨ W.heap.size ≤ k) w' ∧ Turned (fun _ => False) w2 w' := fun W hW => (hcl W hW).mono (fun e w' h => by
        obtain ⟨u, L', h1, h2, h3, h4, h5⟩ := h
        rw [hok] at h1
        exact ⟨u, h1, (h2 hok).1, h4.mono (fun k _ hk => hk.imp id (fun hk => Nat.le_trans ((Turned.refl (fun _ => False) W).alloc _).size hk)), has_own hW rfl h5⟩)
      have HE := Lib.hid hEE
      have HTE := Lib.hid hTT
      have HKN := Lib.hid hkn
      have HCL := Lib.hid hcl2
      have HPL := Lib.hid h.plt
      clear hkn hob h ht hw2 T2 h2 hEE hTT hcl hcl2 hok hmw hgd
      go_enter Try.func105, Try.ntmps105
      go_wp2_with (first
        | (go_at_call 152; have HT3 := HT3; (with_reducible refine (HCL.out _ HT3.out).mono ?_); rintro e w4 ⟨u, rfl, hub, hui, T4⟩; have T5 := T4.alloc (.cells #[.int .i64 u.kind, .int .i64 u.n, .string u.name, .slice u.at_.1 u.args.length u.at_.2] 41); have hbz := (T5.block _ (Array.getElem?_eq_some_iff.1 HB2.out.2).1 (fun f => f)).trans HB2.out.2; obtain ⟨d0, d1, d2, d3, g0, g1, g2, g3⟩ := cells4 hbz; have hnb := heap_alloc_new w4 (.cells #[.int .i64 u.kind, .int .i64 u.n, .string u.name, .slice u.at_.1 u.args.length u.at_.2] 41); obtain ⟨y0, y1, y2, y3, _⟩ := cells4 hnb; have HBZ5 := Lib.hid hbz; have HT5 := Lib.hid T5; have HT4 := Lib.hid T4; have HUB := Lib.hid hub; have HUI := Lib.hid hui; clear hub hui; clear T4 T5 hbz hnb)
        | (go_at_call 99; rw [← HW2.out]; (with_reducible refine HKN.out.mono ?_); rintro e w3 ⟨rfl, T3⟩; have T3A := T3.alloc (.cells #[.int .i64 2000] 3); have hb := (T3A.block _ (Array.getElem?_eq_some_iff.1 HB2.out.1).1 (fun f => f)).trans HB2.out.1; obtain ⟨c0, c1, c2, c3, _⟩ := cells4 hb; have HT3 := Lib.hid T3; clear T3 T3A hb))
      have hset := set4 (a' := .int .i64 u.kind) (b' := .int .i64 u.n) (c' := .string u.name) (d' := .slice u.at_.1 u.args.length u.at_.2) HBZ5.out
      have T4 := turned4 (a := .int .i64 u.kind) (b := .int .i64 u.n) (c := .string u.name) (d := .slice u.at_.1 u.args.length u.at_.2) (HT2.out.trans HT5.out) (g := w.heap.size + 1) (by omega)
      have Tq := turned_store4 (w4.alloc (.cells #[.int .i64 u.kind, .int .i64 u.n, .string u.name, .slice u.at_.1 u.args.length u.at_.2] 41)) (w.heap.size + 1) (.int .i64 u.kind) (.int .i64 u.n) (.string u.name) (.slice u.at_.1 u.args.length u.at_.2)
      have hs3 : w.heap.size + 2 ≤ w3.heap.size := by have := HT3.out.size; have := (Array.getElem?_eq_some_iff.1 HB2.out.2).1; omega
      have hui := LT.In.turned (q := fun k => p k ∨ w.heap.size ≤ k) Tq (fun k _ hk e => by
        rcases hk with h | h
        · have := HPL.out k h; omega
        · omega) (fun k _ hk => hk.imp id (fun h => by omega)) _ (HUI.out.turned0 ((Turned.refl (fun _ => False) w4).alloc (.cells #[.int .i64 u.kind, .int .i64 u.n, .string u.name, .slice u.at_.1 u.args.length u.at_.2] 41)))
      refine bodyPost_ret (results_cell_tmp1 Try.results105 _ _ (w.heap.size + 1) 41 _ (0, 0) _ rfl hset Try.underlying41 rfl (by kernel_rfl)) rfl ⟨u, by rw [HE.out]; rfl, by rw [HUB.out, HTE.out], hui, T4⟩
end Go.Proofs.Ytoihjobdfjajfaa
namespace Go.Proofs.Ytoihjobdfjajfaa
set_option linter.unusedVariables false
set_option linter.unusedSimpArgs false
open Go.RowKit Go.Maps
theorem wholeE_ok {m : Nat} {l : Tm.Trail} {t : Tm Unit} (h : wholeE m l t = 0) : Tm.ownB m t = true ∧ Tm.wholeB l t = true := by
  unfold wholeE at h
  split at h
  · rename_i h1
    split at h
    · rename_i h2; exact ⟨h1, h2⟩
    · cases h
  · cases h
theorem good_slimB {t : LT} (h : goodB t.bare = true) : slim t := by
  intro x hx
  have h1 := Tm.good_ones' h x.bare (by rw [Tm.flat_bare]; exact List.mem_map_of_mem hx)
  rw [goodOneB_bare] at h1
  by_cases ha : x.args = []
  · rw [ha]; exact Nat.zero_le _
  · have := (Tm.one_args h1 ha).2.2; omega
theorem wholeVal {p O : Nat → Prop} {bb m : Nat} {l : TL} {w : World} {t : LT} {E : Int} (h : BO p bb O m l w) (ht : t.In p w) (hs : slim t) (hE : wholeE m (bt l) t.bare = E) :
    Calls Try.prog 89 #[.pointer (some ⟨bb, 0, none⟩), .agg #[.int .i64 t.kind, .int .i64 t.n, .string t.name, .slice t.at_.1 t.args.length t.at_.2]] w fun e w' => ∃ u : LT, e = .returned (.tuple #[.agg #[.int .i64 u.kind, .int .i64 u.n, .string u.name, .slice u.at_.1 u.args.length u.at_.2], .int .i64 E]) ∧ u.bare = wholeT m (bt l) t.bare ∧ u.In (fun k => p k ∨ w.heap.size ≤ k) w' ∧ Turned (fun _ => False) w w' := by
  have := wholeO89 h ht hs
  rw [LT.val_eq, hE] at this
  exact this.mono fun e w' ⟨u, h1, h2⟩ => ⟨u, by rw [h1, LT.val_eq], h2⟩
def BLoop (N bb m : Nat) (l : TL) (w1 wr : World) : Prop :=
  ∃ O, BO (fun k => k < N) bb O m l wr ∧ (∀ k, O k → N ≤ k) ∧ Turned (fun _ => False) w1 wr
theorem BLoop.step {N bb m m' : Nat} {l l' : TL} {w1 wr w' : World} {O : Nat → Prop} (hN : N = w1.heap.size) (h : BO (fun k => k < N) bb O m l wr) (hO : ∀ k, O k → N ≤ k) (T : Turned (fun _ => False) w1 wr) (ha : After (fun k => k < N) bb O m' l' wr w') : BLoop N bb m' l' w1 w' := by
  obtain ⟨O', a1, a2, a3⟩ := ha
  refine ⟨O', a1, fun k hk => ?_, T.step a3 (fun i hi e => by have := hO i e; omega)⟩
  rcases Nat.lt_or_ge k wr.heap.size with h1 | h1
  · exact hO k (a2 k hk h1)
  · have := T.size; omega
end Go.Proofs.Ytoihjobdfjajfaa
namespace Go.Proofs.Ytoihjobdfjajfaa
open Go.RowKit Go.Maps
set_option linter.unusedVariables false
set_option linter.unusedSimpArgs false
structure BD2 (q : Nat → Prop) (bb wb : Nat) (O D : Nat → Prop) (m mw : Nat) (l : TL) (lw : Tm.Trail) (w : World) : Prop where
  b : BO q bb O m l w
  d : DO q wb D mw lw w
  dis : ∀ k, O k → ¬ D k
section
variable {q q' O D : Nat → Prop} {bb wb m mw m' : Nat} {l l' : TL} {lw lw' : Tm.Trail} {w w' : World} {N : Nat} {w1 wr : World}
theorem BD2.turned0 (h : BD2 q bb wb O D m mw l lw w) (T : Turned (fun _ => False) w w') : BD2 q bb wb O D m mw l lw w' :=
  ⟨h.b.turned0 T, h.d.turned0 T, h.dis⟩
theorem BD2.stepB (h : BD2 q bb wb O D m mw l lw w) (ha : After q bb O m' l' w w') : ∃ O', BD2 q bb wb O' D m' mw l' lw w' ∧ (∀ k, O' k → k < w.heap.size → O k) ∧ Turned O w w' := by
  obtain ⟨O', a1, a2, a3⟩ := ha
  refine ⟨O', ⟨a1, h.d.turned a3 (fun k hk e => ⟨h.dis k e, fun c => h.b.sep k c e⟩), fun k hk c => h.dis k (a2 k hk (h.d.lt k c)) c⟩, a2, a3⟩
theorem BD2.stepD (h : BD2 q bb wb O D m mw l lw w) (ha : AfterD q wb D m' lw' w w') : ∃ D', BD2 q bb wb O D' m m' l lw' w' ∧ (∀ k, D' k → k < w.heap.size → D k) ∧ Turned D w w' := by
  obtain ⟨D', a1, a2, a3⟩ := ha
  refine ⟨D', ⟨h.b.turned a3 (fun k hk e => ⟨fun c => h.dis k c e, fun c => h.d.sep k c e⟩), a1, fun k hk c => h.dis k hk (a2 k c (h.b.lt k hk))⟩, a2, a3⟩
theorem BD2.wide (h : BD2 q bb wb O D m mw l lw w) (hp : ∀ k, q k → q' k) (hq : ∀ k, q' k → k < w.heap.size ∧ ¬ O k ∧ ¬ D k) : BD2 q' bb wb O D m mw l lw w :=
  ⟨h.b.wide hp (fun k hk => ⟨(hq k hk).1, (hq k hk).2.1⟩), h.d.wide hp (fun k hk => ⟨(hq k hk).1, (hq k hk).2.2⟩), h.dis⟩
theorem BD2.grown (h : BD2 q bb wb O D m mw l lw w) (T : Turned (fun _ => False) w w') : BD2 (fun k => q k ∨ (w.heap.size ≤ k ∧ k < w'.heap.size)) bb wb O D m mw l lw w' := by
  refine (h.turned0 T).wide (fun k hk => .inl hk) (fun k hk => ?_)
  rcases hk with hk | hk
  · exact ⟨Nat.lt_of_lt_of_le (h.b.plt k hk) T.size, h.b.sep k hk, h.d.sep k hk⟩
  · exact ⟨hk.2, fun c => by have := h.b.lt k c; omega, fun c => by have := h.d.lt k c; omega⟩
def BDq (q : Nat → Prop) (N bb wb m mw : Nat) (l : TL) (lw : Tm.Trail) (w1 wr : World) : Prop :=
  ∃ O D, BD2 q bb wb O D m mw l lw wr ∧ (∀ k, O k → N ≤ k) ∧ (∀ k, D k → N ≤ k) ∧ Turned (fun _ => False) w1 wr
theorem BDq.stepB (hN : N ≤ w1.heap.size) (h : BD2 q bb wb O D m mw l lw wr) (hO : ∀ k, O k → N ≤ k) (hD : ∀ k, D k → N ≤ k) (hO1 : ∀ k, O k → w1.heap.size ≤ k) (T : Turned (fun _ => False) w1 wr) (ha : After q bb O m' l' wr w') : BDq q N bb wb m' mw l' lw w1 w' := by
  obtain ⟨O', a1, a2, a3⟩ := h.stepB ha
  refine ⟨O', D, a1, fun k hk => ?_, hD, T.step a3 (fun i hi e => by have := hO1 i e; omega)⟩
  rcases Nat.lt_or_ge k wr.heap.size with h1 | h1
  · exact hO k (a2 k hk h1)
  · have := T.size; omega
theorem BDq.stepD (hN : N ≤ w1.heap.size) (h : BD2 q bb wb O D m mw l lw wr) (hO : ∀ k, O k → N ≤ k) (hD : ∀ k, D k → N ≤ k) (hD1 : ∀ k, D k → w1.heap.size ≤ k) (T : Turned (fun _ => False) w1 wr) (ha : AfterD q wb D m' lw' wr w') : BDq q N bb wb m m' l lw' w1 w' := by
  obtain ⟨D', a1, a2, a3⟩ := h.stepD ha
  refine ⟨O, D', a1, hO, fun k hk => ?_, T.step a3 (fun i hi e => by have := hD1 i e; omega)⟩
  rcases Nat.lt_or_ge k wr.heap.size with h1 | h1
  · exact hD k (a2 k hk h1)
  · have := T.size; omega
theorem BDq.turned0 (h : BDq q N bb wb m mw l lw w1 wr) (T : Turned (fun _ => False) wr w') : BDq q N bb wb m mw l lw w1 w' := by
  obtain ⟨O, D, h1, h3, h4, h5⟩ := h
  exact ⟨O, D, h1.turned0 T, h3, h4, h5.trans T⟩
theorem BDq.old (h : BDq q N bb wb m mw l lw w1 wr) : Turned (fun _ => False) w1 wr := by
  obtain ⟨O, D, h1, h3, h4, h5⟩ := h
  exact h5
theorem BDq.binds (h : BDq (fun k => k < N) N bb wb m mw l lw w1 wr) : BLoop N bb m l w1 wr := by
  obtain ⟨O, D, h1, h3, h4, h5⟩ := h
  exact ⟨O, h1.b, h3, h5⟩
end
set_option maxRecDepth 100000 in
set_option maxHeartbeats 3200000 in
theorem both97 (n : Nat) (hn : n ≤ 65536) (w : World) :
    Calls Try.prog 97 #[.int .i64 n] w fun e w' => ∃ bb wb, e = .returned (.tuple #[.pointer (some ⟨bb, 0, none⟩), .pointer (some ⟨wb, 0, none⟩)]) ∧ BDq (fun k => k < w.heap.size) w.heap.size bb wb n n [] [] w w' := by
  go_enter Try.func97, Try.ntmps97
  go_wp2_with (go_at_call 86; (with_reducible refine (newO86 (p := fun k => k < w.heap.size) _ (fun k h => h)).mono ?_); rintro e w2 ⟨bb, rfl, B2, _, T2⟩; have HB2 : Hid (BLoop w.heap.size bb 0 [] w w2) := ⟨_, B2, fun k hk => hk.1, T2⟩; have HT2 := Lib.hid T2; clear B2 T2)
  have hb2 : BDq (fun k => k < w.heap.size) w.heap.size bb w2.heap.size 0 0 [] [] w (w2.alloc (.cells #[.slice none 0 0, .slice none 0 0, .slice none 0 0] 113)) := by
    obtain ⟨O, B, hO, T⟩ := HB2.out
    have T3 := (Turned.refl (fun _ => False) w2).alloc (.cells #[.slice none 0 0, .slice none 0 0, .slice none 0 0] 113)
    refine ⟨O, _, ⟨B.turned0 T3, newD w2 (fun k hk => Nat.lt_of_lt_of_le hk T.size), fun k hk c => by have := B.lt k hk; omega⟩, hO, fun k hk => by have := T.size; omega, T.trans T3⟩
  have HB3 := Lib.hid hb2
  clear hb2
  go_loopg [6] n (fun k i wr => ∃ j : Nat, Hid (j + k = n) ∧ j ≤ n ∧ i = .int .i64 j ∧ Hid (BDq (fun k => k < w.heap.size) w.heap.size bb w2.heap.size j j [] [] w wr))
  case atStart => exact ⟨0, Nat.zero_add _, Nat.zero_le _, rfl, HB3⟩
  case round =>
    obtain ⟨j, HG, hj, rfl, HB⟩ := hrel
    by_cases hjn : j < n
    · have dj : decide ((j : Int) < (n : Int)) = true := decide_eq_true (by omega)
      go_wp2_with (first
        | (go_at_call 87; obtain ⟨O, D, B, hO, hD, T⟩ := HB.out; (with_reducible refine (freshO87 B.b (by omega)).mono ?_); rintro e w3 ⟨rfl, A3⟩; have HB4 : Hid (BDq (fun k => k < w.heap.size) w.heap.size bb w2.heap.size (j + 1) j [] [] w w3) := BDq.stepB (Nat.le_refl _) B hO hD hO T A3; clear B hO hD T A3)
        | (go_at_call 103; obtain ⟨O, D, B, hO, hD, T⟩ := HB4.out; (with_reducible refine (freshD B.d (by omega)).mono ?_); rintro e w4 ⟨rfl, A4⟩; have HB5 : Hid (BDq (fun k => k < w.heap.size) w.heap.size bb w2.heap.size (j + 1) (j + 1) [] [] w w4) := BDq.stepD (Nat.le_refl _) B hO hD hD T A4; clear B hO hD T A4))
      go_roundg (gk - 1)
      case measure => have := HG.out; omega
      case rel => exact ⟨j + 1, show _ = _ by have := HG.out; omega, by omega, by go_num, HB5⟩
    · obtain rfl : j = n := by omega
      have dj : decide ((j : Int) < (j : Int)) = false := decide_eq_false (by omega)
      go_wp2_with fail
      go_ret2
      exact ⟨bb, _, rfl, HB.out⟩
end Go.Proofs.Ytoihjobdfjajfaa
namespace Go.Proofs.Ytoihjobdfjajfaa
open Go.RowKit Go.Maps
set_option linter.unusedVariables false
set_option linter.unusedSimpArgs false
def AlkO (b : Tm Unit) (v : Value) (W : World) : Prop := ∃ o : LT, v = .agg #[.int .i64 o.kind, .int .i64 o.n, .string o.name, .slice o.at_.1 o.args.length o.at_.2] ∧ o.In (fun _ => True) W ∧ o.bare = b
theorem alkSame {a b : LT} {w : World} (ha : a.In (fun _ => True) w) (hb : b.In (fun _ => True) w) (h : a.bare = b.bare) : Calls Try.prog 48 #[.agg #[.int .i64 a.kind, .int .i64 a.n, .string a.name, .slice a.at_.1 a.args.length a.at_.2], .agg #[.int .i64 b.kind, .int .i64 b.n, .string b.name, .slice b.at_.1 b.args.length b.at_.2]] w fun e w' => e = .returned (.bool true) ∧ Turned (fun _ => False) w w' := by
  have := rSame48 (p := fun _ => True) a.depth a b w (Nat.le_refl _) ha hb
  rw [LT.val_eq, LT.val_eq, same_of_bare h] at this
  exact this
theorem wholeSlim {m : Nat} {l : Tm.Trail} {t : Tm Unit} {u : LT} (hl : Tm.okT m l) (h : u.bare = wholeT m l t) : slim u := by
  by_cases hE : wholeE m l t = 0
  · obtain ⟨h1, h2⟩ := wholeE_ok hE
    have e : u.bare = Tm.img l t := by rw [h]; unfold wholeT; rw [if_pos hE]
    exact good_slimB (by rw [e]; exact (Tm.ownB_iff.1 (Tm.whole_good hl h1 h2)).1)
  · have e : u.bare = (leaf 0 0 ByteArray.empty).bare := by rw [h]; unfold wholeT; rw [if_neg hE]
    exact slim_eq' e.symm (leaf_slim _ _ _)
end Go.Proofs.Ytoihjobdfjajfaa
namespace Go.Proofs.Ytoihjobdfjajfaa
set_option linter.unusedVariables false
set_option linter.unusedSimpArgs false
open Go.RowKit
set_option maxRecDepth 100000 in
set_option maxHeartbeats 3200000 in
theorem own98 {p : Nat → Prop} (n : Nat) : ∀ (t : LT) (w : World), t.depth ≤ n → t.In p w → slim t →
    Calls Try.prog 98 #[t.val] w fun e w' => ∃ u : LT, e = .returned u.val ∧ u.bare = t.bare ∧ u.In (fun k => w.heap.size ≤ k) w' ∧ Turned (fun _ => False) w w' := by
  induction n with
  | zero => intro t w h; have := Tm.depth_pos t; omega
  | succ n ih =>
    intro t w hd ht hsl
    obtain ⟨i0, hi0, hz0, hz1, hz2⟩ := info_parts infoR
    have hl12 : t.args.length ≤ 12 := hsl t (by rw [Tm.flat_eq]; exact List.mem_cons_self ..)
    have hcall : ∀ x : LT, x ∈ t.args → ∀ W, x.In p W → Calls Try.prog 98 #[x.val] W fun e w' => ∃ u : LT, e = .returned u.val ∧ u.bare = x.bare ∧ u.In (fun k => W.heap.size ≤ k) w' ∧ Turned (fun _ => False) W w' := fun x hx W hW => ih x W (by have := arg_depth hx; omega) hW (fun y hy => hsl y (by rw [Tm.flat_eq]; exact List.mem_cons_of_mem _ (mem_flats_arg hx hy)))
    have HC := Lib.hid hcall
    have HIN := Lib.hid ht
    have hL := fun W h => (LT.In.lies (p := p) (w := W) (t := t) h)
    rw [LT.val_eq]
    obtain ⟨ad, had⟩ : ∃ z, z = t.at_.1 := ⟨_, rfl⟩
    obtain ⟨cd, hcd⟩ : ∃ z, z = t.at_.2 := ⟨_, rfl⟩
    rw [← had] at hL
    rw [← had, ← hcd]
    have HL := Lib.hid hL
    have H3 := Lib.hid (three w (.cells #[.int .i64 t.kind, .int .i64 t.n, .string t.name, .slice ad t.args.length cd] 27) (.cells #[.int .i64 0, .int .i64 0, .string ⟨#[]⟩, .slice none 0 0] 41) (.cells #[.int .i64 t.kind, .int .i64 t.n, .string t.name, .slice none 0 0] 41))
    clear ih hd hsl hcall ht hL had hcd
    go_enter Try.func98, Try.ntmps98
    go_wp2_with fail
    revert H3
    generalize (((w.alloc (.cells #[.int .i64 t.kind, .int .i64 t.n, .string t.name, .slice ad t.args.length cd] 27)).alloc (.cells #[.int .i64 0, .int .i64 0, .string ⟨#[]⟩, .slice none 0 0] 41)).alloc (.cells #[.int .i64 t.kind, .int .i64 t.n, .string t.name, .slice none 0 0] 41)) = w1
    intro H3
    obtain ⟨B0, hB0⟩ : ∃ z, z = w.heap.size := ⟨_, rfl⟩
    obtain ⟨B1, hB1⟩ : ∃ z, z = w.heap.size + 1 := ⟨_, rfl⟩
    obtain ⟨B2, hB2⟩ : ∃ z, z = w.heap.size + 2 := ⟨_, rfl⟩
    obtain ⟨N, hN⟩ : ∃ z, z = w.heap.size + 3 := ⟨_, rfl⟩
    rw [← hB1, ← hB2, ← hN, ← hB0] at H3
    have HE := Lib.hid (And.intro hB0 (And.intro hB1 (And.intro hB2 hN)))
    try rw [← hB2]
    try rw [← hB1]
    try rw [← hB0]
    clear hB0 hB1 hB2 hN
    have hinit : Hid (OwnI N B2 t w1 0 [] none 0 w1) := ⟨rfl, H3.out.2.2.2.1, Row.nil _ _ _, trivial, fun b h => by simp [Value.ownBlock] at h, Turned.refl _ _⟩
    go_loopg [4] t.args.length (fun g i wr => ∃ j : Nat, Hid (j + g = t.args.length) ∧ j ≤ t.args.length ∧ i = .int .i64 j ∧ ∃ us a c, Hid (OwnI N B2 t w1 j us a c wr))
    case atStart => exact ⟨0, Nat.zero_add _, Nat.zero_le _, rfl, [], none, 0, hinit⟩
    case round =>
      obtain ⟨j, HG, hj, rfl, us, a, c, HOI⟩ := hrel
      have HTw : Hid (Turned (fun _ => False) w wr) := H3.out.1.step HOI.out.turned (fun i hi e => by have := HE.out; omega)
      have hb0 := (HOI.out.turned.block B0 (Array.getElem?_eq_some_iff.1 H3.out.2.2.1).1 (fun e => by have := HE.out; omega)).trans H3.out.2.2.1
      obtain ⟨_, _, _, k3, _⟩ := cells4 hb0
      have hlen' : us.length = j := by have := congrArg List.length HOI.out.bares; rw [Tm.bares_length, Tm.bares_length, List.length_take] at this; omega
      have HUL := Lib.hid hlen'
      clear hb0 hlen'
      by_cases hjl : j < t.args.length
      · have hx : t.args[j]? = some t.args[j] := List.getElem?_eq_getElem hjl
        obtain ⟨x, hxe⟩ : ∃ x : LT, x = t.args[j] := ⟨_, rfl⟩
        rw [← hxe] at hx
        clear hxe
        have tin := HIN.out.turned0 HTw.out
        have xin := (LT.ins_iff _).1 tin.args x (List.mem_of_getElem? hx)
        obtain ⟨b, o, rfl, _, c0, c1, c2, c3⟩ := (HL.out _ tin).cell hx
        have hcx := fun W (h : Turned (fun _ => False) wr W) => HC.out x (List.mem_of_getElem? hx) W (xin.turned0 h)
        rw [LT.val_eq x] at hcx
        have HCX := Lib.hid hcx
        have HX := Lib.hid hx
        have HBN : Hid (B2 < N ∧ N ≤ wr.heap.size ∧ w1.heap.size ≤ N) := ⟨by have := HE.out; omega, by have := HOI.out.turned.size; have := H3.out.2.1; omega, by have := H3.out.2.1; omega⟩
        clear hx hcx xin tin
        go_wp2_with fail
        · skip
          refine wp_region_hs [19, 20, 21, 22, 23, 24, 25, 26, 27, 28, 29] [7, 8, 9, 11] [4, 2, 0, 0, 0, 0, 0, 4, 4, 4, 4, 4] [26, 27, 28, 100011] (fun d v => (match d with | 19 => v = .pointer (some ⟨B2, 3, none⟩) | 20 => v = .slice a j c | 21 => v = .pointer (some ⟨B0, 3, none⟩) | 22 => v = .slice (some ⟨b, o, none⟩) t.args.length cd | 23 => v = .int .i64 (j : Int) | 24 => v = .pointer (some ⟨b, o + j * 4, none⟩) | 25 => v = .agg #[.int .i64 x.kind, .int .i64 x.n, .string x.name, .slice x.at_.1 x.args.length x.at_.2] | 29 => v = .pointer (some ⟨B2, 3, none⟩) | _ => True : Prop)) (OwnS N B2 t x w1 j us a c wr) (by kernel_rfl) rfl (by kernel_rfl) (by kernel_rfl) (by kernel_rfl) (by kernel_rfl) (fun _ h => h) (fun hs w w' h ht => OwnS.turned0 hs w w' h ht) ?hs ?hQ
          case hs =>
            refine ⟨?s0, ?s1, ?s2, ?s3, ?s4, ?s5, ?s6, ?s7, ?s8, ?s9, ?s10, ?s11, trivial⟩
            case s0 =>
              refine fun hs hle => stepG_free [] [3] (by kernel_rfl) rfl ?_
              · intro ac W hT hI hO
                have h3 : ac.tmps.getD 3 undef = .pointer (some ⟨B2, 0, none⟩) := hO 3 (by simp)
                show Brings Try.prog (fun v w' => Turned (fun _ => False) W w' ∧ v = .pointer (some ⟨B2, 3, none⟩)) _
                simp only [execOp, Act.eval, h3]
                go_simp
                try exact ⟨Turned.refl _ _, rfl⟩
            case s1 =>
              refine fun hs hle => stepG_free [19] [] (by kernel_rfl) rfl ?_
              · intro ac W hT hI hO
                have hle : hs.length ≤ 2 := hle
                have h19 : ac.tmps.getD 19 undef = .pointer (some ⟨B2, 3, none⟩) := hI 19 (by simp)
                show Brings Try.prog (fun v w' => Turned (fun _ => False) W w' ∧ v = .slice a j c) _
                obtain ⟨_, _, _, d3⟩ := OwnS.blk HOI.out hs W hle hT
                simp only [execOp, Act.eval, h19]
                go_simp
                exact ⟨Turned.refl _ _, rfl⟩
            case s2 =>
              refine fun hs hle => stepG_free [] [1] (by kernel_rfl) rfl ?_
              · intro ac W hT hI hO
                have hle : hs.length ≤ 0 := hle
                have h1 : ac.tmps.getD 1 undef = .pointer (some ⟨B0, 0, none⟩) := hO 1 (by simp)
                show Brings Try.prog (fun v w' => Turned (fun _ => False) W w' ∧ v = .pointer (some ⟨B0, 3, none⟩)) _
                simp only [execOp, Act.eval, h1]
                go_simp
                try exact ⟨Turned.refl _ _, rfl⟩
            case s3 =>
              refine fun hs hle => stepG_free [21] [] (by kernel_rfl) rfl ?_
              · intro ac W hT hI hO
                have hle : hs.length ≤ 0 := hle
                have h21 : ac.tmps.getD 21 undef = .pointer (some ⟨B0, 3, none⟩) := hI 21 (by simp)
                show Brings Try.prog (fun v w' => Turned (fun _ => False) W w' ∧ v = .slice (some ⟨b, o, none⟩) t.args.length cd) _
                have hT0 : Turned (fun _ => False) wr W := own_nil (by omega) hT; have e3 := hT0.cell0 k3; have g0 := hT0.cell0 c0; have g1 := hT0.cell0 c1; have g2 := hT0.cell0 c2; have g3 := hT0.cell0 c3
                simp only [execOp, Act.eval, h21]
                go_simp
                exact ⟨Turned.refl _ _, rfl⟩
            case s4 =>
              refine fun hs hle => stepG_free [] [4] (by kernel_rfl) rfl ?_
              · intro ac W hT hI hO
                have hle : hs.length ≤ 0 := hle
                have h4 : ac.tmps.getD 4 undef = .int .i64 (j : Int) := hO 4 (by simp)
                show Brings Try.prog (fun v w' => Turned (fun _ => False) W w' ∧ v = .int .i64 (j : Int)) _
                simp only [execOp, Act.eval, h4]
                go_simp
                try exact ⟨Turned.refl _ _, rfl⟩
            case s5 =>
              refine fun hs hle => stepG_free [22, 23] [] (by kernel_rfl) rfl ?_
              · intro ac W hT hI hO
                have hle : hs.length ≤ 0 := hle
                have h22 : ac.tmps.getD 22 undef = .slice (some ⟨b, o, none⟩) t.args.length cd := hI 22 (by simp)
                have h23 : ac.tmps.getD 23 undef = .int .i64 (j : Int) := hI 23 (by simp)
                show Brings Try.prog (fun v w' => Turned (fun _ => False) W w' ∧ v = .pointer (some ⟨b, o + j * 4, none⟩)) _
                simp only [execOp, Act.eval, h22, h23]
                go_simp
                try rw [if_pos (by omega)]
                try exact ⟨Turned.refl _ _, rfl⟩
            case s6 =>
              refine fun hs hle => stepG_free [24] [] (by kernel_rfl) rfl ?_
              · intro ac W hT hI hO
                have hle : hs.length ≤ 0 := hle
                have h24 : ac.tmps.getD 24 undef = .pointer (some ⟨b, o + j * 4, none⟩) := hI 24 (by simp)
                show Brings Try.prog (fun v w' => Turned (fun _ => False) W w' ∧ v = .agg #[.int .i64 x.kind, .int .i64 x.n, .string x.name, .slice x.at_.1 x.args.length x.at_.2]) _
                have hT0 : Turned (fun _ => False) wr W := own_nil (by omega) hT; have e3 := hT0.cell0 k3; have g0 := hT0.cell0 c0; have g1 := hT0.cell0 c1; have g2 := hT0.cell0 c2; have g3 := hT0.cell0 c3
                simp only [execOp, Act.eval, h24]
                go_simp
                exact ⟨Turned.refl _ _, rfl⟩
            case s7 =>
              refine fun hs hlen => stepG_free [25] [] (by kernel_rfl) rfl ?_
              · intro ac W hT hI hO
                have h25 : ac.tmps.getD 25 undef = .agg #[.int .i64 x.kind, .int .i64 x.n, .string x.name, .slice x.at_.1 x.args.length x.at_.2] := hI 25 (by simp)
                show Brings Try.prog (fun v w' => OwnS N B2 t x w1 j us a c wr (hs ++ [v]) w') _
                obtain rfl : hs = [] := List.eq_nil_of_length_eq_zero hlen
                replace hT : Turned (fun _ => False) wr W := hT
                simp only [execOp, Act.eval, h25]
                go_simp
                show Calls Try.prog 98 _ W _
                (with_reducible refine (HCX.out W hT).mono ?_)
                rintro e w' ⟨u, rfl, hb, hu, T'⟩
                exact ⟨_, rfl, hT.trans T', u, rfl, hb, hu.mono (fun k hk h => Nat.le_trans hT.size h)⟩
            case s8 =>
              refine fun hs hlen => stepG_free [26] [] (by kernel_rfl) rfl ?_
              · intro ac W hT hI hO
                have h26 : hs[0]? = some (ac.tmps.getD 26 undef) := hI 26 (by simp)
                show Brings Try.prog (fun v w' => OwnS N B2 t x w1 j us a c wr (hs ++ [v]) w') _
                obtain ⟨uv, rfl⟩ := List.length_eq_one_iff.1 hlen
                obtain ⟨hT1, u, rfl, hb, hu⟩ := hT
                replace h26 : ac.tmps.getD 26 undef = u.val := by simpa using h26.symm
                rw [LT.val_eq] at h26
                have h26' : ac.tmps[26]?.getD undef = .agg #[.int .i64 u.kind, .int .i64 u.n, .string u.name, .slice u.at_.1 u.args.length u.at_.2] := by rw [← Array.getD_eq_getD_getElem?]; exact h26
                simp only [execOp, Act.eval, h26]
                go_simp
                have hnew := heap_alloc_new W (.cells #[.int .i64 u.kind, .int .i64 u.n, .string u.name, .slice u.at_.1 u.args.length u.at_.2] 41)
                refine ⟨hT1.alloc _, u, W.heap.size, rfl, hb, hu.turned0 ((Turned.refl _ W).alloc _), ?_⟩
                rw [LT.cells_eq]
                exact hnew
            case s9 =>
              refine fun hs hlen => stepG_free [20, 27] [] (by kernel_rfl) rfl ?_
              · intro ac W hT hI hO
                have h20 : ac.tmps.getD 20 undef = .slice a j c := hI 20 (by simp)
                have h27 : hs[1]? = some (ac.tmps.getD 27 undef) := hI 27 (by simp)
                show Brings Try.prog (fun v w' => OwnS N B2 t x w1 j us a c wr (hs ++ [v]) w') _
                obtain ⟨uv, sv, rfl⟩ := list2' hlen
                obtain ⟨hT1, u, g, rfl, hb, hu, hg⟩ := hT
                replace h27 : ac.tmps.getD 27 undef = .slice (some ⟨g, 0, none⟩) 1 1 := by simpa using h27.symm
                refine brings_append (.tmp 20) (.tmp 27) 39 rfl 41 i0 zeroR 4 56 Try.underlying39 hi0 hz0 hz1 hz2 rfl (by decide) _ _ _ h20 (HOI.out.row.turned0 hT1) ⟨g, 0, none⟩ 1 1 u.cells h27 (LT.cells_length u) (news_block hg) (LT.cells_one u) (by omega) (by unfold maxLen; omega) (by omega) ?_
                intro g2 cap2 w2 hrow2 T2 hl2
                have hgw : some g2 = (Value.slice a j c).ownBlock ∨ wr.heap.size ≤ g2 := by
                  rcases hl2 with e | e
                  · exact .inl e
                  · have := hT1.size; exact .inr (by omega)
                refine ⟨u, g2, cap2, rfl, hb, hrow2, ?_, (hT1.mono (fun _ _ f => f.elim)).trans T2, hgw⟩
                refine hu.turned T2 (fun k hk h e => ?_) (fun k hk h => ⟨h, fun e => ?_⟩)
                · have := HOI.out.row.lt k e; omega
                · subst e
                  rcases hl2 with e | e
                  · have := HOI.out.row.lt k e.symm; omega
                  · omega
            case s10 =>
              refine fun hs hle => stepG_free [] [3] (by kernel_rfl) rfl ?_
              · intro ac W hT hI hO
                have h3 : ac.tmps.getD 3 undef = .pointer (some ⟨B2, 0, none⟩) := hO 3 (by simp)
                show Brings Try.prog (fun v w' => Turned (fun _ => False) W w' ∧ v = .pointer (some ⟨B2, 3, none⟩)) _
                simp only [execOp, Act.eval, h3]
                go_simp
                try exact ⟨Turned.refl _ _, rfl⟩
            case s11 =>
              refine fun hs hlen => stepG_free [29, 28] [] (by kernel_rfl) rfl ?_
              · intro ac W hT hI hO
                have h29 : ac.tmps.getD 29 undef = .pointer (some ⟨B2, 3, none⟩) := hI 29 (by simp)
                have h28 : hs[2]? = some (ac.tmps.getD 28 undef) := hI 28 (by simp)
                show Brings Try.prog (fun v w' => OwnS N B2 t x w1 j us a c wr (hs ++ [v]) w') _
                obtain ⟨uv, sv, av, rfl⟩ := list3' hlen
                obtain ⟨u, g, cap, rfl, hb, hrow, hu, hT2, hg⟩ := hT
                replace h28 : ac.tmps.getD 28 undef = .slice (some ⟨g, 0, none⟩) (j + 1) cap := by simpa using h28.symm
                have hbl := (hT2.block B2 (Array.getElem?_eq_some_iff.1 HOI.out.blk).1 (fun e => by have := HOI.out.own B2 e; have := HBN.out.1; omega)).trans HOI.out.blk
                obtain ⟨_, _, _, d3, _, _, _, f3⟩ := cells4 hbl
                simp only [execOp, Act.eval, h29, h28]
                go_simp
                exact ⟨_, _, _, own_close HBN.out.1 HBN.out.2.1 HOI.out HX.out hb hrow hu hT2 hg HBN.out.2.2⟩
          case hQ =>
            intro hs vs w2 hlen hR hV
            obtain ⟨e1, e2, e3, e4, rfl⟩ : ∃ a b c d, hs = [a, b, c, d] := list4' hlen
            obtain ⟨us', a', c', hI⟩ := hR
            have HI' := Lib.hid hI
            simp only [List.foldl_cons, List.foldl_nil, List.setIfInBounds_toArray, List.set_cons_zero, List.set_cons_succ]
            clear hV hlen hI
            go_wp2_with fail
            go_roundg (gk - 1)
            case measure => have := HG.out; omega
            case rel => exact ⟨j + 1, show _ = _ by have := HG.out; omega, by omega, by go_num, us', a', c', HI'⟩
      · obtain rfl : j = t.args.length := by omega
        have hb1 := (HOI.out.turned.block B1 (Array.getElem?_eq_some_iff.1 H3.out.2.2.2.2).1 (fun e => by have := HE.out; omega)).trans H3.out.2.2.2.2
        obtain ⟨d0, d1, d2, d3, f0, f1, f2, f3⟩ := cells4 hb1
        obtain ⟨g0, g1, g2, g3, _⟩ := cells4 HOI.out.blk
        have HB1 := Lib.hid hb1
        clear hb1
        go_wp2_with fail
        have hset := set4 (a' := .int .i64 t.kind) (b' := .int .i64 t.n) (c' := .string t.name) (d' := .slice a t.args.length c) HB1.out
        have hge : w.heap.size ≤ B1 := by have := HE.out; omega
        have T4 := turned4 (a := .int .i64 t.kind) (b := .int .i64 t.n) (c := .string t.name) (d := .slice a t.args.length c) HTw.out hge
        refine bodyPost_ret (v := .agg #[.int .i64 t.kind, .int .i64 t.n, .string t.name, .slice a t.args.length c]) (results_cell_row Try.results98 _ _ B1 41 _ (0, 0) _ rfl hset Try.underlying41 rfl (by kernel_rfl)) rfl ?_
        have hne : ∀ q, (Value.slice a t.args.length c).ownBlock ≠ some (Addr.block ⟨B1, q, none⟩) := fun q e => by have h1 : N ≤ B1 := HOI.out.own _ e; have := HE.out; omega
        have hrow := ((((HOI.out.row.setCell (hne 0) (.int .i64 t.kind)).setCell (hne 1) (.int .i64 t.n)).setCell (hne 2) (.string t.name)).setCell (hne 3) (.slice a t.args.length c))
        have Tq : Turned (fun k => k = B1) wr _ := ((((Turned.refl (fun k => k = B1) wr).setCell (p := ⟨B1, 0, none⟩) (.inr rfl) (.int .i64 t.kind)).setCell (p := ⟨B1, 1, none⟩) (.inr rfl) (.int .i64 t.n)).setCell (p := ⟨B1, 2, none⟩) (.inr rfl) (.string t.name)).setCell (p := ⟨B1, 3, none⟩) (.inr rfl) (.slice a t.args.length c)
        have hins := HOI.out.ins.turned (q := fun k => w.heap.size ≤ k) Tq (fun k _ hk e => by have := HE.out; omega) (fun k _ hk => by have := HE.out; omega)
        obtain ⟨e1, e2⟩ := LT.Sl.of_row (p := fun k => w.heap.size ≤ k) hrow (fun k hk => by have := HOI.out.own k hk; have := HE.out; omega) hins
        refine ⟨.mk t.kind t.n t.name (a, c) us, ?_, ?_, e2.in_ HIN.out.kind HIN.out.n HIN.out.name, T4⟩
        · show _ = Ending.returned (LT.val (.mk t.kind t.n t.name (a, c) us))
          rw [LT.val_eq]
          show _ = Ending.returned (.agg #[.int .i64 t.kind, .int .i64 t.n, .string t.name, .slice a us.length c])
          rw [HUL.out]
        · rw [mk_bare t, Tm.bare, HOI.out.bares, List.take_length]
end Go.Proofs.Ytoihjobdfjajfaa
namespace Go.Proofs.Ytoihjobdfjajfaa
open Go.RowKit Go.Maps
set_option linter.unusedVariables false
set_option linter.unusedSimpArgs false
theorem alkOwn104 {u : LT} {w : World} (hu : u.In (fun _ => True) w) (hs : slim u) : Calls Try.prog 98 #[.agg #[.int .i64 u.kind, .int .i64 u.n, .string u.name, .slice u.at_.1 u.args.length u.at_.2]] w fun e w' => ∃ o : LT, e = .returned (.agg #[.int .i64 o.kind, .int .i64 o.n, .string o.name, .slice o.at_.1 o.args.length o.at_.2]) ∧ o.bare = u.bare ∧ o.In (fun _ => True) w' ∧ Turned (fun _ => False) w w' := by
  have := own98 u.depth u w (Nat.le_refl _) hu hs
  rw [LT.val_eq] at this
  refine this.mono ?_
  rintro e w' ⟨o, rfl, h1, h2, h3⟩
  exact ⟨o, by rw [LT.val_eq], h1, h2.mono (fun _ _ _ => trivial), h3⟩
set_option maxRecDepth 100000 in
set_option maxHeartbeats 12800000 in
theorem alike104 {q O D : Nat → Prop} {bb wb m : Nat} {l : TL} {w : World} (h : BD2 q bb wb O D m m l (bt l) w) (n : Nat) (hn : n ≤ 65536) :
    Calls Try.prog 104 #[.pointer (some ⟨bb, 0, none⟩), .pointer (some ⟨wb, 0, none⟩), .int .i64 n] w fun e w' => e = .returned (.bool true) ∧ Turned (fun _ => False) w w' := by
  have HB0 := Lib.hid h.b
  have HD0 := Lib.hid h.d
  have hok := h.b.ok
  have HOK := Lib.hid hok
  clear h hok
  go_enter Try.func104, Try.ntmps104
  go_wp2_with fail
  go_loopg [7] n (fun k i wr => ∃ j : Nat, Hid (j + k = n) ∧ j ≤ n ∧ i = .int .i64 (j : Int) ∧ Turned (fun _ => False) w wr)
  case atStart => exact ⟨0, Nat.zero_add _, Nat.zero_le _, rfl, Turned.refl _ _⟩
  case round =>
    obtain ⟨j, HG, hj, rfl, hT⟩ := hrel
    have HT := Lib.hid hT
    clear hT
    by_cases hjn : j < n
    · have dj : decide ((j : Int) < (n : Int)) = true := decide_eq_true (by omega)
      have hI : I64 (j : Int) := by unfold I64; omega
      have hlf : ∀ W, (leaf 0 (j : Int) ByteArray.empty : LT).In q W := fun W => leafIn' (i64_lit _ (by omega)) hI (by unfold maxLen; decide)
      obtain ⟨E, hE⟩ : ∃ z, z = wholeE m (bt l) (leaf 0 (j : Int) ByteArray.empty : LT).bare := ⟨_, rfl⟩
      have HLF := Lib.hid hlf
      have HE := Lib.hid hE
      clear hlf hE
      go_wp2_with (first
        | (go_at_call 105; have HT4 := HT4; refine (whole105 (t := leaf 0 (j : Int) ByteArray.empty) (HD0.out.turned0 HT4.out) (HLF.out _)).mono ?_; rintro e w6 ⟨v, rfl, hvb, hvi, T6⟩; rw [← HE.out]; have HUV := Lib.hid (HUB.out.trans hvb.symm); have HIv := Lib.hid (fun W (T : Turned (fun _ => False) (w6.alloc (.cells #[.int .i64 v.kind, .int .i64 v.n, .string v.name, .slice v.at_.1 v.args.length v.at_.2] 41)) W) => ((hvi.mono (q := fun _ => True) (fun _ _ _ => trivial)).turned0 (((Turned.refl (fun _ => False) w6).alloc (.cells #[.int .i64 v.kind, .int .i64 v.n, .string v.name, .slice v.at_.1 v.args.length v.at_.2] 41)).trans T))); have HIu := Lib.hid (fun W (T : Turned (fun _ => False) (w6.alloc (.cells #[.int .i64 v.kind, .int .i64 v.n, .string v.name, .slice v.at_.1 v.args.length v.at_.2] 41)) W) => HUI.out.turned0 ((T6.alloc (.cells #[.int .i64 v.kind, .int .i64 v.n, .string v.name, .slice v.at_.1 v.args.length v.at_.2] 41)).trans T)); have HCu := Lib.hid (fun W (T : Turned (fun _ => False) (w6.alloc (.cells #[.int .i64 v.kind, .int .i64 v.n, .string v.name, .slice v.at_.1 v.args.length v.at_.2] 41)) W) => (((T6.alloc (.cells #[.int .i64 v.kind, .int .i64 v.n, .string v.name, .slice v.at_.1 v.args.length v.at_.2] 41)).trans T).block _ (Array.getElem?_eq_some_iff.1 HBU.out).1 (fun f => f)).trans HBU.out); have HCv := Lib.hid (fun W (T : Turned (fun _ => False) (w6.alloc (.cells #[.int .i64 v.kind, .int .i64 v.n, .string v.name, .slice v.at_.1 v.args.length v.at_.2] 41)) W) => (T.block _ (Array.getElem?_eq_some_iff.1 (heap_alloc_new w6 (.cells #[.int .i64 v.kind, .int .i64 v.n, .string v.name, .slice v.at_.1 v.args.length v.at_.2] 41))).1 (fun f => f)).trans (heap_alloc_new w6 (.cells #[.int .i64 v.kind, .int .i64 v.n, .string v.name, .slice v.at_.1 v.args.length v.at_.2] 41))); have HT6 := Lib.hid (HT4.out.trans (T6.alloc (.cells #[.int .i64 v.kind, .int .i64 v.n, .string v.name, .slice v.at_.1 v.args.length v.at_.2] 41))); clear hvb hvi T6)
        | (go_at_call 89; have T3 := T3; refine (wholeVal (t := leaf 0 (j : Int) ByteArray.empty) (HB0.out.turned0 (HT.out.trans T3)) (HLF.out _) (leaf_slim _ _ _) HE.out.symm).mono ?_; rintro e w4 ⟨u, rfl, hub, hui, T4⟩; have T4A := T4.alloc (.cells #[.int .i64 u.kind, .int .i64 u.n, .string u.name, .slice u.at_.1 u.args.length u.at_.2] 27); have HUB := Lib.hid hub; have HSu := Lib.hid (wholeSlim HOK.out hub); have HUI := Lib.hid ((hui.mono (q := fun _ => True) (fun _ _ _ => trivial)).turned0 ((Turned.refl (fun _ => False) w4).alloc (.cells #[.int .i64 u.kind, .int .i64 u.n, .string u.name, .slice u.at_.1 u.args.length u.at_.2] 27))); have HBU := Lib.hid (heap_alloc_new w4 (.cells #[.int .i64 u.kind, .int .i64 u.n, .string u.name, .slice u.at_.1 u.args.length u.at_.2] 27)); have HT4 := Lib.hid ((HT.out.trans T3).trans T4A); clear hub hui T4 T4A)
        | (go_at_call 62; refine (varV (j : Int) hI _).mono ?_; rintro e w3 ⟨rfl, _, T3⟩))
      refine wp_region_ssa' (G := (fun dd vv W => (match dd with | 31 => vv = .int .i64 E | 32 => vv = .int .i64 E | 33 => vv = .bool false | 34 => vv = .bool false | 35 => vv = .agg #[.int .i64 u.kind, .int .i64 u.n, .string u.name, .slice u.at_.1 u.args.length u.at_.2] | 37 => vv = .agg #[.int .i64 v.kind, .int .i64 v.n, .string v.name, .slice v.at_.1 v.args.length v.at_.2] | 38 => vv = .bool true | 39 => vv = .bool false | 40 => vv = .bool false | 36 => AlkO u.bare (vv) W | _ => True : Prop))) [31, 32, 33, 34, 35, 36, 37, 38, 39, 40] (by kernel_rfl) rfl (by kernel_rfl) ?hG ?hs ?hQ
      case hG =>
        intro d vv W W2 T h
        split at h <;> first
          | exact h
          | (obtain ⟨x, x1, x2, x3⟩ := h; exact ⟨x, x1, x2.turned0 T, x3⟩)
      case hs =>
        refine ⟨?s0, ?s1, ?s2, ?s3, ?s4, ?s5, ?s6, ?s7, ?s8, ?s9, trivial⟩
        case s0 =>
          refine stepOk_free [] [9] (by kernel_rfl) rfl ?_
          intro ac W hT hI hO
          have h9 : ac.tmps.getD 9 undef = .int .i64 E := hO 9 (by simp)
          show Brings Try.prog (fun vv w' => Turned (fun _ => False) W w' ∧ vv = .int .i64 E) _
          simp only [execOp, Act.eval, h9]
          go_simp
          try exact ⟨Turned.refl _ _, rfl⟩
        case s1 =>
          refine stepOk_free [] [11] (by kernel_rfl) rfl ?_
          intro ac W hT hI hO
          have h11 : ac.tmps.getD 11 undef = .int .i64 E := hO 11 (by simp)
          show Brings Try.prog (fun vv w' => Turned (fun _ => False) W w' ∧ vv = .int .i64 E) _
          simp only [execOp, Act.eval, h11]
          go_simp
          try exact ⟨Turned.refl _ _, rfl⟩
        case s2 =>
          refine stepOk_free [31, 32] [] (by kernel_rfl) rfl ?_
          intro ac W hT hI hO
          have h31 : ac.tmps.getD 31 undef = .int .i64 E := hI 31 (by simp)
          have h32 : ac.tmps.getD 32 undef = .int .i64 E := hI 32 (by simp)
          show Brings Try.prog (fun vv w' => Turned (fun _ => False) W w' ∧ vv = .bool false) _
          simp only [execOp, Act.eval, h31, h32]
          go_simp
          try exact ⟨Turned.refl _ _, rfl⟩
        case s3 =>
          refine stepOk_free [33] [] (by kernel_rfl) rfl ?_
          intro ac W hT hI hO
          have h33 : ac.tmps.getD 33 undef = .bool false := hI 33 (by simp)
          show Brings Try.prog (fun vv w' => Turned (fun _ => False) W w' ∧ vv = .bool false) _
          simp only [execOp, Act.eval, h33]
          go_simp
          try exact ⟨Turned.refl _ _, rfl⟩
        case s4 =>
          refine stepOk_guard [34] [8] (by kernel_rfl) 3 false 34 rfl rfl (by simp) true false (fun _ _ h => h) (fun hc => ?_) (fun hc => by cases hc)
          intro ac W hT hI hO
          have h8 : ac.tmps.getD 8 undef = .pointer (some ⟨w4.heap.size, 0, none⟩) := hO 8 (by simp)
          show Brings Try.prog (fun vv w' => Turned (fun _ => False) W w' ∧ vv = .agg #[.int .i64 u.kind, .int .i64 u.n, .string u.name, .slice u.at_.1 u.args.length u.at_.2]) _
          obtain ⟨c0, c1, c2, c3, _⟩ := cells4 (HCu.out W hT)
          simp only [execOp, Act.eval, h8]
          go_simp
          try exact ⟨Turned.refl _ _, rfl⟩
        case s5 =>
          refine stepOk_guard [35, 34] [] (by kernel_rfl) 3 false 34 rfl rfl (by simp) true false (fun _ _ h => h) (fun hc => ?_) (fun hc => by cases hc)
          intro ac W hT hI hO
          have h35 : ac.tmps.getD 35 undef = .agg #[.int .i64 u.kind, .int .i64 u.n, .string u.name, .slice u.at_.1 u.args.length u.at_.2] := hI 35 (by simp)
          show Brings Try.prog (fun vv w' => Turned (fun _ => False) W w' ∧ AlkO u.bare (vv) w') _
          simp only [execOp, Act.eval, h35]
          go_simp
          show Calls Try.prog 98 _ W _
          refine (alkOwn104 (HIu.out W hT) HSu.out).mono ?_
          rintro e w' ⟨o, rfl, h1, h2, h3⟩
          exact ⟨_, rfl, h3, o, rfl, h2, h1⟩
        case s6 =>
          refine stepOk_guard [34] [10] (by kernel_rfl) 3 false 34 rfl rfl (by simp) true false (fun _ _ h => h) (fun hc => ?_) (fun hc => by cases hc)
          intro ac W hT hI hO
          have h10 : ac.tmps.getD 10 undef = .pointer (some ⟨w6.heap.size, 0, none⟩) := hO 10 (by simp)
          show Brings Try.prog (fun vv w' => Turned (fun _ => False) W w' ∧ vv = .agg #[.int .i64 v.kind, .int .i64 v.n, .string v.name, .slice v.at_.1 v.args.length v.at_.2]) _
          obtain ⟨c0, c1, c2, c3, _⟩ := cells4 (HCv.out W hT)
          simp only [execOp, Act.eval, h10]
          go_simp
          try exact ⟨Turned.refl _ _, rfl⟩
        case s7 =>
          refine stepOk_guard [36, 37, 34] [] (by kernel_rfl) 3 false 34 rfl rfl (by simp) true false (fun _ _ h => h) (fun hc => ?_) (fun hc => by cases hc)
          intro ac W hT hI hO
          have h36 := hI 36 (by simp)
          obtain ⟨o36, h36, x36, y36⟩ : AlkO u.bare (ac.tmps.getD 36 undef) W := h36
          have h37 : ac.tmps.getD 37 undef = .agg #[.int .i64 v.kind, .int .i64 v.n, .string v.name, .slice v.at_.1 v.args.length v.at_.2] := hI 37 (by simp)
          show Brings Try.prog (fun vv w' => Turned (fun _ => False) W w' ∧ vv = .bool true) _
          simp only [execOp, Act.eval, h36, h37]
          go_simp
          show Calls Try.prog 48 _ W _
          (with_reducible refine (alkSame x36 (HIv.out W hT) (y36.trans HUV.out)).mono ?_)
          rintro e w' ⟨rfl, T'⟩
          exact ⟨_, rfl, T', rfl⟩
        case s8 =>
          refine stepOk_guard [38, 34] [] (by kernel_rfl) 3 false 34 rfl rfl (by simp) true false (fun _ _ h => h) (fun hc => ?_) (fun hc => by cases hc)
          intro ac W hT hI hO
          have h38 : ac.tmps.getD 38 undef = .bool true := hI 38 (by simp)
          show Brings Try.prog (fun vv w' => Turned (fun _ => False) W w' ∧ vv = .bool false) _
          simp only [execOp, Act.eval, h38]
          go_simp
          try exact ⟨Turned.refl _ _, rfl⟩
        case s9 =>
          refine stepOk_free [34, 39] [] (by kernel_rfl) rfl ?_
          intro ac W hT hI hO
          have h34 : ac.tmps.getD 34 undef = .bool false := hI 34 (by simp)
          have h39 : ac.tmps.getD 39 undef = .bool false := hI 39 (by simp)
          show Brings Try.prog (fun vv w' => Turned (fun _ => False) W w' ∧ vv = .bool false) _
          simp only [execOp, Act.eval, h34, h39]
          go_simp
          try exact ⟨Turned.refl _ _, rfl⟩
      case hQ =>
        intro vs w10 T10 hV
        have q40 : vs 40 = .bool false := hV 40 (by simp)
        simp only [List.foldl_cons, List.foldl_nil, List.setIfInBounds_toArray, List.set_cons_zero, List.set_cons_succ, q40]
        have HT10 := Lib.hid (HT6.out.trans T10)
        clear hV q40 T10
        go_wp2_with fail
        go_roundg (gk - 1)
        case measure => have := HG.out; omega
        case rel => exact ⟨j + 1, show _ = _ by have := HG.out; omega, by omega, by go_num, HT10.out⟩
    · have dj : decide ((j : Int) < (n : Int)) = false := decide_eq_false (by omega)
      have HTT := HT
      obtain ⟨ta, ia, ra, tc, ic, rc, us, is, D0, R, hlu, hli, hO⟩ := (HD0.out.turned0 HT.out).parts
      rw [bt_length] at D0
      have HDB := Lib.hid (fun W (T : Turned (fun _ => False) wr W) => (D0.turned0 T).b)
      have HB := Lib.hid (HB0.out.turned0 HT.out)
      clear D0 R hO
      go_wp2_with fail
      refine wp_region_ssa' (G := (fun dd vv W => (match dd with | 41 => vv = .pointer (some ⟨bb, 0, none⟩) | 42 => vv = .int .i64 (l.length : Int) | 43 => vv = .pointer (some ⟨wb, 0, none⟩) | 44 => vv = .pointer (some ⟨wb, 0, none⟩) | 45 => vv = .pointer (some ⟨wb, 2, none⟩) | 46 => vv = .slice ra l.length rc | 47 => vv = .int .i64 (l.length : Int) | 48 => vv = .bool true | 49 => vv = .bool true | 50 => vv = .pointer (some ⟨bb, 0, none⟩) | 51 => vv = .int .i64 (m : Int) | 52 => vv = .pointer (some ⟨wb, 0, none⟩) | 53 => vv = .pointer (some ⟨wb, 0, none⟩) | 54 => vv = .pointer (some ⟨wb, 0, none⟩) | 55 => vv = .slice ta m tc | 56 => vv = .int .i64 (m : Int) | 57 => vv = .bool true | 58 => vv = .bool true | 6 => vv = .bool true  | _ => True : Prop))) [41, 42, 43, 44, 45, 46, 47, 48, 49, 50, 51, 52, 53, 54, 55, 56, 57, 58, 6] (by kernel_rfl) rfl (by kernel_rfl) ?hG ?hs ?hQ
      case hG => exact fun d v _ _ _ h => h
      case hs =>
        refine ⟨?s0, ?s1, ?s2, ?s3, ?s4, ?s5, ?s6, ?s7, ?s8, ?s9, ?s10, ?s11, ?s12, ?s13, ?s14, ?s15, ?s16, ?s17, ?s18, trivial⟩
        case s0 =>
          refine stepOk_free [] [0] (by kernel_rfl) rfl ?_
          intro ac W hT hI hO
          have h0 : ac.tmps.getD 0 undef = .pointer (some ⟨bb, 0, none⟩) := hO 0 (by simp)
          show Brings Try.prog (fun vv w' => Turned (fun _ => False) W w' ∧ vv = .pointer (some ⟨bb, 0, none⟩)) _
          simp only [execOp, Act.eval, h0]
          go_simp
          try exact ⟨Turned.refl _ _, rfl⟩
        case s1 =>
          refine stepOk_free [41] [] (by kernel_rfl) rfl ?_
          intro ac W hT hI hO
          have h41 : ac.tmps.getD 41 undef = .pointer (some ⟨bb, 0, none⟩) := hI 41 (by simp)
          show Brings Try.prog (fun vv w' => Turned (fun _ => False) W w' ∧ vv = .int .i64 (l.length : Int)) _
          simp only [execOp, Act.eval, h41]
          go_simp
          show Calls Try.prog 111 _ W _
          (with_reducible refine (markO111 (HB.out.turned0 hT)).mono ?_)
          rintro e w' ⟨rfl, T'⟩
          exact ⟨_, rfl, T', rfl⟩
        case s2 =>
          refine stepOk_free [] [1] (by kernel_rfl) rfl ?_
          intro ac W hT hI hO
          have h1 : ac.tmps.getD 1 undef = .pointer (some ⟨wb, 0, none⟩) := hO 1 (by simp)
          show Brings Try.prog (fun vv w' => Turned (fun _ => False) W w' ∧ vv = .pointer (some ⟨wb, 0, none⟩)) _
          simp only [execOp, Act.eval, h1]
          go_simp
          try exact ⟨Turned.refl _ _, rfl⟩
        case s3 =>
          refine stepOk_free [43] [] (by kernel_rfl) rfl ?_
          intro ac W hT hI hO
          have h43 : ac.tmps.getD 43 undef = .pointer (some ⟨wb, 0, none⟩) := hI 43 (by simp)
          show Brings Try.prog (fun vv w' => Turned (fun _ => False) W w' ∧ vv = .pointer (some ⟨wb, 0, none⟩)) _
          simp only [execOp, Act.eval, h43]
          go_simp
          try exact ⟨Turned.refl _ _, rfl⟩
        case s4 =>
          refine stepOk_free [44] [] (by kernel_rfl) rfl ?_
          intro ac W hT hI hO
          have h44 : ac.tmps.getD 44 undef = .pointer (some ⟨wb, 0, none⟩) := hI 44 (by simp)
          show Brings Try.prog (fun vv w' => Turned (fun _ => False) W w' ∧ vv = .pointer (some ⟨wb, 2, none⟩)) _
          simp only [execOp, Act.eval, h44]
          go_simp
          try exact ⟨Turned.refl _ _, rfl⟩
        case s5 =>
          refine stepOk_free [45] [] (by kernel_rfl) rfl ?_
          intro ac W hT hI hO
          have h45 : ac.tmps.getD 45 undef = .pointer (some ⟨wb, 2, none⟩) := hI 45 (by simp)
          show Brings Try.prog (fun vv w' => Turned (fun _ => False) W w' ∧ vv = .slice ra l.length rc) _
          obtain ⟨b0, b1, b2, _⟩ := rec3b (HDB.out W hT)
          simp only [execOp, Act.eval, h45]
          go_simp
          try exact ⟨Turned.refl _ _, rfl⟩
        case s6 =>
          refine stepOk_free [46] [] (by kernel_rfl) rfl ?_
          intro ac W hT hI hO
          have h46 : ac.tmps.getD 46 undef = .slice ra l.length rc := hI 46 (by simp)
          show Brings Try.prog (fun vv w' => Turned (fun _ => False) W w' ∧ vv = .int .i64 (l.length : Int)) _
          simp only [execOp, Act.eval, h46]
          go_simp
          try exact ⟨Turned.refl _ _, rfl⟩
        case s7 =>
          refine stepOk_free [42, 47] [] (by kernel_rfl) rfl ?_
          intro ac W hT hI hO
          have h42 : ac.tmps.getD 42 undef = .int .i64 (l.length : Int) := hI 42 (by simp)
          have h47 : ac.tmps.getD 47 undef = .int .i64 (l.length : Int) := hI 47 (by simp)
          show Brings Try.prog (fun vv w' => Turned (fun _ => False) W w' ∧ vv = .bool true) _
          simp only [execOp, Act.eval, h42, h47]
          go_simp
          try exact ⟨Turned.refl _ _, rfl⟩
        case s8 =>
          refine stepOk_free [48] [] (by kernel_rfl) rfl ?_
          intro ac W hT hI hO
          have h48 : ac.tmps.getD 48 undef = .bool true := hI 48 (by simp)
          show Brings Try.prog (fun vv w' => Turned (fun _ => False) W w' ∧ vv = .bool true) _
          simp only [execOp, Act.eval, h48]
          go_simp
          try exact ⟨Turned.refl _ _, rfl⟩
        case s9 =>
          refine stepOk_guard [49] [0] (by kernel_rfl) 8 true 49 rfl rfl (by simp) true true (fun _ _ h => h) (fun hc => ?_) (fun hc => by cases hc)
          intro ac W hT hI hO
          have h0 : ac.tmps.getD 0 undef = .pointer (some ⟨bb, 0, none⟩) := hO 0 (by simp)
          show Brings Try.prog (fun vv w' => Turned (fun _ => False) W w' ∧ vv = .pointer (some ⟨bb, 0, none⟩)) _
          simp only [execOp, Act.eval, h0]
          go_simp
          try exact ⟨Turned.refl _ _, rfl⟩
        case s10 =>
          refine stepOk_guard [50, 49] [] (by kernel_rfl) 8 true 49 rfl rfl (by simp) true true (fun _ _ h => h) (fun hc => ?_) (fun hc => by cases hc)
          intro ac W hT hI hO
          have h50 : ac.tmps.getD 50 undef = .pointer (some ⟨bb, 0, none⟩) := hI 50 (by simp)
          show Brings Try.prog (fun vv w' => Turned (fun _ => False) W w' ∧ vv = .int .i64 (m : Int)) _
          simp only [execOp, Act.eval, h50]
          go_simp
          show Calls Try.prog 107 _ W _
          (with_reducible refine (lenO107 (HB.out.turned0 hT)).mono ?_)
          rintro e w' ⟨rfl, T'⟩
          exact ⟨_, rfl, T', rfl⟩
        case s11 =>
          refine stepOk_guard [49] [1] (by kernel_rfl) 8 true 49 rfl rfl (by simp) true true (fun _ _ h => h) (fun hc => ?_) (fun hc => by cases hc)
          intro ac W hT hI hO
          have h1 : ac.tmps.getD 1 undef = .pointer (some ⟨wb, 0, none⟩) := hO 1 (by simp)
          show Brings Try.prog (fun vv w' => Turned (fun _ => False) W w' ∧ vv = .pointer (some ⟨wb, 0, none⟩)) _
          simp only [execOp, Act.eval, h1]
          go_simp
          try exact ⟨Turned.refl _ _, rfl⟩
        case s12 =>
          refine stepOk_guard [52, 49] [] (by kernel_rfl) 8 true 49 rfl rfl (by simp) true true (fun _ _ h => h) (fun hc => ?_) (fun hc => by cases hc)
          intro ac W hT hI hO
          have h52 : ac.tmps.getD 52 undef = .pointer (some ⟨wb, 0, none⟩) := hI 52 (by simp)
          show Brings Try.prog (fun vv w' => Turned (fun _ => False) W w' ∧ vv = .pointer (some ⟨wb, 0, none⟩)) _
          simp only [execOp, Act.eval, h52]
          go_simp
          try exact ⟨Turned.refl _ _, rfl⟩
        case s13 =>
          refine stepOk_guard [53, 49] [] (by kernel_rfl) 8 true 49 rfl rfl (by simp) true true (fun _ _ h => h) (fun hc => ?_) (fun hc => by cases hc)
          intro ac W hT hI hO
          have h53 : ac.tmps.getD 53 undef = .pointer (some ⟨wb, 0, none⟩) := hI 53 (by simp)
          show Brings Try.prog (fun vv w' => Turned (fun _ => False) W w' ∧ vv = .pointer (some ⟨wb, 0, none⟩)) _
          simp only [execOp, Act.eval, h53]
          go_simp
          try exact ⟨Turned.refl _ _, rfl⟩
        case s14 =>
          refine stepOk_guard [54, 49] [] (by kernel_rfl) 8 true 49 rfl rfl (by simp) true true (fun _ _ h => h) (fun hc => ?_) (fun hc => by cases hc)
          intro ac W hT hI hO
          have h54 : ac.tmps.getD 54 undef = .pointer (some ⟨wb, 0, none⟩) := hI 54 (by simp)
          show Brings Try.prog (fun vv w' => Turned (fun _ => False) W w' ∧ vv = .slice ta m tc) _
          obtain ⟨b0, b1, b2, _⟩ := rec3b (HDB.out W hT)
          simp only [execOp, Act.eval, h54]
          go_simp
          try exact ⟨Turned.refl _ _, rfl⟩
        case s15 =>
          refine stepOk_guard [55, 49] [] (by kernel_rfl) 8 true 49 rfl rfl (by simp) true true (fun _ _ h => h) (fun hc => ?_) (fun hc => by cases hc)
          intro ac W hT hI hO
          have h55 : ac.tmps.getD 55 undef = .slice ta m tc := hI 55 (by simp)
          show Brings Try.prog (fun vv w' => Turned (fun _ => False) W w' ∧ vv = .int .i64 (m : Int)) _
          simp only [execOp, Act.eval, h55]
          go_simp
          try exact ⟨Turned.refl _ _, rfl⟩
        case s16 =>
          refine stepOk_guard [51, 56, 49] [] (by kernel_rfl) 8 true 49 rfl rfl (by simp) true true (fun _ _ h => h) (fun hc => ?_) (fun hc => by cases hc)
          intro ac W hT hI hO
          have h51 : ac.tmps.getD 51 undef = .int .i64 (m : Int) := hI 51 (by simp)
          have h56 : ac.tmps.getD 56 undef = .int .i64 (m : Int) := hI 56 (by simp)
          show Brings Try.prog (fun vv w' => Turned (fun _ => False) W w' ∧ vv = .bool true) _
          simp only [execOp, Act.eval, h51, h56]
          go_simp
          try exact ⟨Turned.refl _ _, rfl⟩
        case s17 =>
          refine stepOk_free [49, 57] [] (by kernel_rfl) rfl ?_
          intro ac W hT hI hO
          have h49 : ac.tmps.getD 49 undef = .bool true := hI 49 (by simp)
          have h57 : ac.tmps.getD 57 undef = .bool true := hI 57 (by simp)
          show Brings Try.prog (fun vv w' => Turned (fun _ => False) W w' ∧ vv = .bool true) _
          simp only [execOp, Act.eval, h49, h57]
          go_simp
          try exact ⟨Turned.refl _ _, rfl⟩
        case s18 =>
          refine stepOk_free [58] [] (by kernel_rfl) rfl ?_
          intro ac W hT hI hO
          have h58 : ac.tmps.getD 58 undef = .bool true := hI 58 (by simp)
          show Brings Try.prog (fun vv w' => Turned (fun _ => False) W w' ∧ vv = .bool true) _
          simp only [execOp, Act.eval, h58]
          go_simp
          try exact ⟨Turned.refl _ _, rfl⟩
      case hQ =>
        intro vs w10 T10 hV
        have q6 : vs 6 = .bool true := hV 6 (by simp)
        simp only [List.foldl_cons, List.foldl_nil, List.setIfInBounds_toArray, List.set_cons_zero, List.set_cons_succ, q6]
        have HT10 := Lib.hid (HTT.out.trans T10)
        clear hV q6 T10
        go_wp2_with fail
        go_ret
        exact ⟨rfl, HT10.out⟩
end Go.Proofs.Ytoihjobdfjajfaa
namespace Go.Proofs.Ytoihjobdfjajfaa
open Go.RowKit Go.Maps
set_option linter.unusedVariables false
set_option linter.unusedSimpArgs false
structure SetR (jT jI gt gi m ct ci N : Nat) (t : LT) (us : List LT) (is : List Bool) (w0 : World) (hs : Hist) (W : World) : Prop where
  tw : Turned (fun k => k = gt ∨ k = gi) w0 W
  rt : ∃ u : List LT, Row W 41 4 (.slice (some ⟨gt, 0, none⟩) m ct) m (u.flatMap LT.cells) ∧ ((∀ v, (jT, v) ∉ hs) → u = us) ∧ ∀ v, (jT, v) ∈ hs → u = us.set N t
  ri : ∃ u : List Bool, Row W 4 1 (.slice (some ⟨gi, 0, none⟩) m ci) m (u.map Value.bool) ∧ ((∀ v, (jI, v) ∉ hs) → u = is) ∧ ∀ v, (jI, v) ∈ hs → u = is.set N true
section
variable {jT jI gt gi m ct ci N : Nat} {t : LT} {us : List LT} {is : List Bool} {w0 W W' : World} {hs : Hist}
theorem SetR.start (h1 : Row w0 41 4 (.slice (some ⟨gt, 0, none⟩) m ct) m (us.flatMap LT.cells)) (h2 : Row w0 4 1 (.slice (some ⟨gi, 0, none⟩) m ci) m (is.map Value.bool)) (T : Turned (fun _ => False) w0 W) : SetR jT jI gt gi m ct ci N t us is w0 [] W :=
  ⟨T.mono (fun _ _ f => f.elim), ⟨us, h1.turned0 T, fun _ => rfl, fun v hv => (List.not_mem_nil hv).elim⟩, ⟨is, h2.turned0 T, fun _ => rfl, fun v hv => (List.not_mem_nil hv).elim⟩⟩
theorem SetR.turned0 (h : SetR jT jI gt gi m ct ci N t us is w0 hs W) (T : Turned (fun _ => False) W W') : SetR jT jI gt gi m ct ci N t us is w0 hs W' := by
  obtain ⟨u, a1, a2⟩ := h.rt
  obtain ⟨v, b1, b2⟩ := h.ri
  exact ⟨h.tw.trans (T.mono (fun _ _ f => f.elim)), ⟨u, a1.turned0 T, a2⟩, ⟨v, b1.turned0 T, b2⟩⟩
theorem SetR.cellsT (h : SetR jT jI gt gi m ct ci N t us is w0 hs W) (hN : N < m) :
    (∃ z0 z1 z2 z3, W.cell? ⟨gt, N * 4, none⟩ = some z0 ∧ W.cell? ⟨gt, N * 4 + 1, none⟩ = some z1 ∧ W.cell? ⟨gt, N * 4 + 2, none⟩ = some z2 ∧ W.cell? ⟨gt, N * 4 + 3, none⟩ = some z3) ∧
    W.frozen? ⟨gt, N * 4, none⟩ = false ∧ W.frozen? ⟨gt, N * 4 + 1, none⟩ = false ∧ W.frozen? ⟨gt, N * 4 + 2, none⟩ = false ∧ W.frozen? ⟨gt, N * 4 + 3, none⟩ = false := by
  obtain ⟨u, a1, a2⟩ := h.rt
  obtain ⟨z0, g0⟩ := row_some a1 (N * 4) (by omega)
  obtain ⟨z1, g1⟩ := row_some a1 (N * 4 + 1) (by omega)
  obtain ⟨z2, g2⟩ := row_some a1 (N * 4 + 2) (by omega)
  obtain ⟨z3, g3⟩ := row_some a1 (N * 4 + 3) (by omega)
  exact ⟨⟨z0, z1, z2, z3, g0, g1, g2, g3⟩, a1.free rfl (N * 4), a1.free rfl (N * 4 + 1), a1.free rfl (N * 4 + 2), a1.free rfl (N * 4 + 3)⟩
theorem SetR.cellI (h : SetR jT jI gt gi m ct ci N t us is w0 hs W) (hN : N < m) : (∃ z, W.cell? ⟨gi, N, none⟩ = some z) ∧ W.frozen? ⟨gi, N, none⟩ = false := by
  obtain ⟨u, a1, a2⟩ := h.ri
  exact ⟨row_some a1 N (by omega), a1.free rfl N⟩
theorem SetR.storeT (h : SetR jT jI gt gi m ct ci N t us is w0 hs W) (hN : N < m) (hu : us.length = m) (hg : gt ≠ gi) (hj : jT ≠ jI) (hno : ∀ v, (jT, v) ∉ hs) (x : Value) :
    SetR jT jI gt gi m ct ci N t us is w0 (hs ++ [(jT, x)]) ((((W.setCell ⟨gt, N * 4, none⟩ (.int .i64 t.kind)).setCell ⟨gt, N * 4 + 1, none⟩ (.int .i64 t.n)).setCell ⟨gt, N * 4 + 2, none⟩ (.string t.name)).setCell ⟨gt, N * 4 + 3, none⟩ (.slice t.at_.1 t.args.length t.at_.2)) := by
  obtain ⟨u, a1, a2, a3⟩ := h.rt
  obtain ⟨v, b1, b2, b3⟩ := h.ri
  obtain rfl := a2 hno
  have Tq : Turned (fun k => k = gt) W ((((W.setCell ⟨gt, N * 4, none⟩ (.int .i64 t.kind)).setCell ⟨gt, N * 4 + 1, none⟩ (.int .i64 t.n)).setCell ⟨gt, N * 4 + 2, none⟩ (.string t.name)).setCell ⟨gt, N * 4 + 3, none⟩ (.slice t.at_.1 t.args.length t.at_.2)) :=
    ((((Turned.refl (fun k => k = gt) W).setCell (p := ⟨gt, N * 4, none⟩) (.inr rfl) _).setCell (p := ⟨gt, N * 4 + 1, none⟩) (.inr rfl) _).setCell (p := ⟨gt, N * 4 + 2, none⟩) (.inr rfl) _).setCell (p := ⟨gt, N * 4 + 3, none⟩) (.inr rfl) _
  refine ⟨h.tw.trans (Tq.mono (fun _ _ e => .inl e)), ⟨u.set N t, ?_, fun hn => absurd (List.mem_append_right _ (List.mem_singleton.2 rfl)) (hn x), fun _ _ => rfl⟩, ⟨v, b1.turned Tq (fun k hk e => by simp [Value.ownBlock] at hk; omega), fun hn => b2 (fun y hy => hn y (List.mem_append_left _ hy)), fun y hy => ?_⟩⟩
  · have r1 := a1.setAt (off := N * 4) (by omega) (.int .i64 t.kind)
    have r2 := r1.setAt (off := N * 4 + 1) (by omega) (.int .i64 t.n)
    have r3 := r2.setAt (off := N * 4 + 2) (by omega) (.string t.name)
    have r4 := r3.setAt (off := N * 4 + 3) (by omega) (.slice t.at_.1 t.args.length t.at_.2)
    rw [flat_set (by omega)] at r4
    exact r4
  · rcases mem_snoc hy with hy | ⟨e, _⟩
    · exact b3 y hy
    · exact absurd e.symm hj
theorem SetR.storeI (h : SetR jT jI gt gi m ct ci N t us is w0 hs W) (hN : N < m) (hi : is.length = m) (hg : gt ≠ gi) (hj : jT ≠ jI) (hno : ∀ v, (jI, v) ∉ hs) (x : Value) :
    SetR jT jI gt gi m ct ci N t us is w0 (hs ++ [(jI, x)]) (W.setCell ⟨gi, N, none⟩ (.bool true)) := by
  obtain ⟨u, a1, a2, a3⟩ := h.rt
  obtain ⟨v, b1, b2, b3⟩ := h.ri
  obtain rfl := b2 hno
  have Tq : Turned (fun k => k = gi) W (W.setCell ⟨gi, N, none⟩ (.bool true)) := (Turned.refl (fun k => k = gi) W).setCell (p := ⟨gi, N, none⟩) (.inr rfl) _
  refine ⟨h.tw.trans (Tq.mono (fun _ _ e => .inr e)), ⟨u, a1.turned Tq (fun k hk e => by simp [Value.ownBlock] at hk; omega), fun hn => a2 (fun y hy => hn y (List.mem_append_left _ hy)), fun y hy => ?_⟩, ⟨v.set N true, ?_, fun hn => absurd (List.mem_append_right _ (List.mem_singleton.2 rfl)) (hn x), fun _ _ => rfl⟩⟩
  · rcases mem_snoc hy with hy | ⟨e, _⟩
    · exact a3 y hy
    · exact absurd e hj
  · have r1 := b1.setAt (off := N) (by omega) (.bool true)
    rw [List.map_set]
    exact r1
theorem SetR.done (h : SetR jT jI gt gi m ct ci N t us is w0 hs W) (h1 : ∃ v, (jT, v) ∈ hs) (h2 : ∃ v, (jI, v) ∈ hs) :
    Row W 41 4 (.slice (some ⟨gt, 0, none⟩) m ct) m ((us.set N t).flatMap LT.cells) ∧ Row W 4 1 (.slice (some ⟨gi, 0, none⟩) m ci) m ((is.set N true).map Value.bool) ∧ Turned (fun k => k = gt ∨ k = gi) w0 W := by
  obtain ⟨u, a1, a2, a3⟩ := h.rt
  obtain ⟨v, b1, b2, b3⟩ := h.ri
  obtain ⟨x, hx⟩ := h1
  obtain ⟨y, hy⟩ := h2
  rw [a3 x hx] at a1
  rw [b3 y hy] at b1
  exact ⟨a1, b1, h.tw⟩
end
end Go.Proofs.Ytoihjobdfjajfaa
namespace Go.Proofs.Ytoihjobdfjajfaa
open Go.RowKit Go.Maps
set_option linter.unusedVariables false
set_option linter.unusedSimpArgs false
theorem DT.bound {m : Nat} {l : Tm.Trail} {us : List LT} {is : List Bool} {n : Int} {N : Nat} {t : LT} (R : DT m l us is (Tm.dom l).reverse) (hn : n = (N : Int)) (hN : N < m) (hi : is.length = m) (hE : Tm.okT m ((n, t.bare) :: l)) :
    DT m ((n, t.bare) :: l) (us.set N t) (is.set N true) ((Tm.dom l).reverse ++ [(N : Int)]) := by
  subst hn
  refine ⟨hE, by rw [List.length_set]; exact R.len, fun i hi' => ?_, fun i b hb => ?_, by simp [Tm.dom]⟩
  · by_cases he : N = i
    · subst he
      rw [List.getElem?_set_self (by omega), decide_eq_true (by simp [Tm.dom])]
    · rw [List.getElem?_set_ne he, R.set i hi']
      have : ((i : Int) ∈ Tm.dom (((N : Int), t.bare) :: l)) ↔ ((i : Int) ∈ Tm.dom l) := by
        simp only [Tm.dom, List.map_cons, List.mem_cons]
        exact ⟨fun h => h.elim (fun h => by omega) id, .inr⟩
      simp only [this]
  · unfold Tm.look at hb
    by_cases he : (N : Int) = i
    · rw [if_pos he] at hb
      injection hb with hb
      subst he
      refine ⟨t, ?_, hb⟩
      rw [Int.toNat_natCast, List.getElem?_set_self (by have := R.len; omega)]
    · rw [if_neg he] at hb
      obtain ⟨u, hu, hb2⟩ := R.val i b hb
      have h0 := (Tm.okT_mem R.ok (Tm.look_mem hb)).1
      refine ⟨u, ?_, hb2⟩
      rw [List.getElem?_set_ne (by intro c; apply he; simp only [] at h0; omega)]
      exact hu
end Go.Proofs.Ytoihjobdfjajfaa
namespace Go.Proofs.Ytoihjobdfjajfaa
open Go.RowKit Go.Maps
set_option linter.unusedVariables false
set_option linter.unusedSimpArgs false
theorem dom_take {l : Tm.Trail} {n : Nat} (hn : n ≤ l.length) : (Tm.dom l).reverse.take n = (Tm.dom (l.drop (l.length - n))).reverse := by
  rw [List.take_reverse]
  unfold Tm.dom
  rw [List.length_map, List.map_drop]
theorem DT.undone {m : Nat} {l : Tm.Trail} {us : List LT} {is is' : List Bool} {n : Nat} (R : DT m l us is (Tm.dom l).reverse) (hn : n ≤ l.length) (hs : ∀ i : Nat, i < m → is'[i]? = some (decide ((i : Int) ∈ (Tm.dom l).reverse.take n))) :
    DT m (l.drop (l.length - n)) us is' ((Tm.dom l).reverse.take n) := by
  refine ⟨Tm.okT_drop _ R.ok, R.len, fun i hi => ?_, fun i b hb => ?_, dom_take hn⟩
  · rw [hs i hi, dom_take hn]
    simp only [List.mem_reverse]
  · exact R.val i b (Tm.look_of_mem R.ok (b := (i, b)) (List.mem_of_mem_drop (Tm.look_mem hb)))
def UndoLD (tr : List Int) (m n : Nat) (ia : Option Addr) (ic : Nat) (w : World) (k : Nat) (i : Value) (wr : World) : Prop :=
  ∃ (j : Nat) (is' : List Bool), Hid (j + k = tr.length) ∧ j ≤ tr.length ∧ n ≤ j ∧ i = .int .i64 j ∧ Hid (Row wr 4 1 (.slice ia m ic) m (is'.map Value.bool)) ∧ Hid (is'.length = m) ∧ Hid (∀ i : Nat, i < m → is'[i]? = some (decide ((i : Int) ∈ tr.take n ∨ (i : Int) ∈ tr.drop j))) ∧ Hid (Turned (fun k => (Value.slice ia m ic).ownBlock = some k) w wr)
theorem undo_step {tr : List Int} {m n j X : Nat} {is' : List Bool} (hnd : tr.Nodup) (hnj : n ≤ j) (hx : tr[j]? = some (X : Int)) (hX : X < m) (hl : is'.length = m) (h : ∀ i : Nat, i < m → is'[i]? = some (decide ((i : Int) ∈ tr.take n ∨ (i : Int) ∈ tr.drop j))) :
    ∀ i : Nat, i < m → (is'.set X false)[i]? = some (decide ((i : Int) ∈ tr.take n ∨ (i : Int) ∈ tr.drop (j + 1))) := by
  intro i hi
  obtain ⟨hjl, hxe⟩ := List.getElem?_eq_some_iff.1 hx
  have hd : tr.drop j = (X : Int) :: tr.drop (j + 1) := by rw [List.drop_eq_getElem_cons hjl, hxe]
  by_cases he : X = i
  · subst he
    rw [List.getElem?_set_self (by omega)]
    congr 1
    symm
    refine decide_eq_false ?_
    rintro (c | c)
    · have h1 := List.nodup_append.1 ((List.take_append_drop j tr).symm ▸ hnd)
      refine h1.2.2 (X : Int) ?_ (X : Int) (by rw [hd]; exact List.mem_cons_self ..) rfl
      have h2 : tr.take n = (tr.take j).take n := by rw [List.take_take]; congr 1; omega
      rw [h2] at c
      exact List.mem_of_mem_take c
    · have h1 := List.nodup_append.1 ((List.take_append_drop j tr).symm ▸ hnd)
      have h2 := h1.2.1
      rw [hd] at h2
      exact (List.nodup_cons.1 h2).1 c
  · rw [List.getElem?_set_ne he, h i hi, hd]
    have : ((i : Int) ∈ (X : Int) :: tr.drop (j + 1)) ↔ (i : Int) ∈ tr.drop (j + 1) := by
      rw [List.mem_cons]
      exact ⟨fun c => c.elim (fun c => by omega) id, .inr⟩
    simp only [this]
set_option maxRecDepth 100000 in
set_option maxHeartbeats 6400000 in
theorem undoD {p O : Nat → Prop} {wb m : Nat} {l : Tm.Trail} {w : World} (h : DO p wb O m l w) (n : Nat) (hn : n ≤ l.length) :
    Calls Try.prog 102 #[.pointer (some ⟨wb, 0, none⟩), .int .i64 n] w fun e w' => e = .returned (.bool true) ∧ AfterD p wb O m (l.drop (l.length - n)) w w' := by
  obtain ⟨i0, hi0, hz0, hz1, hz2⟩ := info_parts infoN3
  obtain ⟨ta, ia, ra, tc, ic, rc, us, is, D, R, hlu, hli, hO⟩ := h.parts
  have hnd : (Tm.dom l).reverse.Nodup := (List.reverse_perm (Tm.dom l)).symm.nodup (Tm.okT_nodup h.ok)
  have hlen : (Tm.dom l).reverse.length = l.length := by unfold Tm.dom; rw [List.length_reverse, List.length_map]
  have hin : ∀ x ∈ (Tm.dom l).reverse, 0 ≤ x ∧ x < (m : Int) := fun x hx => by
    obtain ⟨b, hb, rfl⟩ := List.mem_map.1 (List.mem_reverse.1 hx)
    have := Tm.okT_mem h.ok hb
    exact ⟨this.1, this.2.1⟩
  have hlm := Tm.okT_length h.ok
  have hm65 := h.most
  have hDT := fun is' hs => R.undone (is' := is') hn hs
  have hset := R.set
  have HA : Hid (∀ (is' : List Bool) (v2 : Value) (w' : World), is'.length = m → Row w' 4 1 (.slice ia m ic) m (is'.map Value.bool) → Row w' 2 1 v2 n (((Tm.dom l).reverse.take n).map (Value.int .i64)) → (∀ k, v2.ownBlock = some k → w.heap.size ≤ k) → w'.heap[wb]? = some (.cells #[.slice ta m tc, .slice ia m ic, v2] 113 (0, 0)) → Turned (fun k => (Value.slice ia m ic).ownBlock = some k ∨ k = wb) w w' → (∀ i : Nat, i < m → is'[i]? = some (decide ((i : Int) ∈ (Tm.dom l).reverse.take n))) → AfterD p wb O m (l.drop (l.length - n)) w w') := by
    intro is' v2 w' h1 h2 h3 h4 h5 h6 h7
    have hne := D.ne
    have hTk : (((Tm.dom l).reverse.take n).length = n) := by rw [List.length_take, hlen]; omega
    have hsep : ∀ k, k < w.heap.size → ¬ v2.ownBlock = some k := fun k hk e => by have := h4 k e; omega
    have hDB : DB p wb (.slice ta m tc) (.slice ia m ic) v2 us is' ((Tm.dom l).reverse.take n) w' := by
      have hlt := D.own_lt
      refine ⟨h5, D.row.turned h6 (fun k hk e => ?_), by rw [h1]; exact h2, by rw [hTk]; exact h3, by rw [h1, hlu], ?_, D.most, ⟨hne.1, hne.2.1, fun e => hsep wb (hlt wb (.inl rfl)) e, fun k hk => ⟨(hne.2.2.2.1 k hk).1, hsep k (hlt k (.inr (.inl hk)))⟩, fun k hk => hsep k (hlt k (.inr (.inr (.inl hk))))⟩, fun k hk => ?_⟩
      · rcases e with e | e
        · exact (hne.2.2.2.1 k hk).1 e
        · exact hne.1 (e ▸ hk)
      · exact LT.Ins.turned h6 (fun k _ hk e => (D.sep k hk).2 (e.elim (fun e => .inr (.inr (.inl e))) .inl)) (fun _ _ q => q) _ D.ins
      · obtain ⟨s1, s2⟩ := D.sep k hk
        refine ⟨Nat.lt_of_lt_of_le s1 h6.size, ?_⟩
        rintro (e | e | e | e)
        · exact s2 (.inl e)
        · exact s2 (.inr (.inl e))
        · exact s2 (.inr (.inr (.inl e)))
        · exact hsep k s1 e
    refine ⟨fun k => ownD wb (.slice ta m tc) (.slice ia m ic) v2 k ∨ (O k ∧ k < w.heap.size), ⟨⟨_, _, v2, us, is', _, hDB, hDT is' h7, fun k hk => .inl hk⟩, fun k hk => hk.elim (hDB.own_lt k) (fun e => Nat.lt_of_lt_of_le e.2 h6.size), fun k hk c => ?_⟩, fun k hk hl => ?_, h6.mono (fun k _ e => hO k (e.elim (fun e => .inr (.inr (.inl e))) .inl))⟩
    · rcases c with c | c
      · exact (hDB.sep k hk).2 c
      · exact h.sep k hk c.1
    · rcases hk with (e | e | e | e) | hk
      · exact hO k (.inl e)
      · exact hO k (.inr (.inl e))
      · exact hO k (.inr (.inr (.inl e)))
      · exact absurd e (hsep k hl)
      · exact hk.1
  have hne := D.ne
  have hbs := D.bools
  have htr := D.trail
  rw [hli] at hbs
  rw [hlen] at htr
  have hmx := htr.max
  have HRB := Lib.hid hbs
  have HRT := Lib.hid htr
  have HDB := Lib.hid D.b
  have HNE := Lib.hid hne
  have hwl := D.own_lt wb (.inl rfl)
  have hown := D.own_lt
  have HOW := Lib.hid hown
  have hset2 : ∀ i : Nat, i < m → is[i]? = some (decide ((i : Int) ∈ (Tm.dom l).reverse.take n ∨ (i : Int) ∈ (Tm.dom l).reverse.drop n)) := fun i hi => by
    rw [hset i hi]
    have : ((i : Int) ∈ (Tm.dom l).reverse.take n ∨ (i : Int) ∈ (Tm.dom l).reverse.drop n) ↔ (i : Int) ∈ Tm.dom l := by
      rw [← List.mem_append, List.take_append_drop, List.mem_reverse]
    simp only [this]
  obtain ⟨tr, htre⟩ : ∃ z, z = (Tm.dom l).reverse := ⟨_, rfl⟩
  rw [← htre] at hnd hlen hin HA HRT hset2 htr
  have HND := Lib.hid hnd
  have HIN := Lib.hid hin
  have HST := Lib.hid hset2
  have HLI := Lib.hid hli
  obtain ⟨b0, b1, b2, f0, f1, f2⟩ := rec3b D.b
  have d1 : decide ((n : Int) < 0) = false := decide_eq_false (by omega)
  have d2 : decide ((l.length : Int) < (n : Int)) = false := decide_eq_false (by omega)
  have d3 : decide (l.length < n) = false := decide_eq_false (by omega)
  clear hnd hin hset2 hli hset hDT hne hbs htr hown D R hO htre h hlu
  go_enter Try.func102, Try.ntmps102
  go_wp2_with fail
  clear b0 b1 b2 f0 f1 f2
  go_loopg [5] (l.length - n) (fun k i wr => UndoLD tr m n ia ic w k i wr)
  case atStart => exact ⟨n, is, show _ = _ by omega, by omega, Nat.le_refl _, rfl, HRB.out, HLI.out, HST.out, Turned.refl _ _⟩
  case round =>
    obtain ⟨j, is', HG, hj, hnj, rfl, HB, HL, HS, HT⟩ := hrel
    have hwb := (HT.out.block wb hwl (fun e => HNE.out.2.1 e)).trans HDB.out
    obtain ⟨b0, b1, b2, f0, f1, f2⟩ := rec3b hwb
    have HWB := Lib.hid hwb
    clear hwb
    have hrt : Row wr 2 1 (.slice ra l.length rc) l.length (tr.map (Value.int .i64)) := HRT.out.turned HT.out (fun k hk e => HNE.out.2.2.2.2 k e hk)
    by_cases hjl : j < l.length
    · have dj : decide ((j : Int) < (l.length : Int)) = true := decide_eq_true (by omega)
      obtain ⟨x, hx⟩ : ∃ x, tr[j]? = some x := ⟨_, List.getElem?_eq_getElem (by omega)⟩
      have hxm := HIN.out x (List.mem_of_getElem? hx)
      obtain ⟨X, rfl⟩ : ∃ X : Nat, x = X := ⟨x.toNat, by omega⟩
      obtain ⟨gr, cr, hre⟩ := hrt.shape_pos (by omega)
      injection hre with e1 _ e3
      subst e1 e3
      have hcv := hrt.cells rfl j (.int .i64 (X : Int)) (by rw [List.getElem?_map, hx]; rfl)
      obtain ⟨gi, ci, hie⟩ := HB.out.shape_pos (by omega)
      injection hie with e4 _ e6
      subst e4 e6
      have hbd := HB.out.turned0 ((Turned.refl (fun _ => False) wr).drew)
      obtain ⟨z0, g0⟩ := row_some hbd X (by omega)
      have g1 := hbd.free rfl X
      have hXm : X < m := by omega
      have HX := Lib.hid hx
      have HBD := Lib.hid hbd
      clear hx hxm hrt hbd
      go_wp2_with fail
      refine region_tail 12 (by kernel_rfl) (by kernel_rfl) ?_
      simp only [List.take_succ_cons, List.take_zero, List.drop_succ_cons, List.drop_zero]
      repeat still_step
      refine wpStill_nil ?_
      go_wp2_with fail
      go_roundg (gk - 1)
      case measure => have := HG.out; omega
      case rel => exact ⟨j + 1, is'.set X false, show _ = _ by have := HG.out; omega, by omega, by omega, by go_num, (by have := HBD.out.setAt (off := X) (by omega) (.bool false); rw [← List.map_set] at this; exact this), (by show _ = _; rw [List.length_set]; exact HL.out), undo_step HND.out hnj HX.out hXm HL.out HS.out, (HT.out.drew).setCell (p := ⟨gi, X, none⟩) (.inr rfl) _⟩
    · obtain rfl : j = l.length := by omega
      have dj : decide ((l.length : Int) < (l.length : Int)) = false := decide_eq_false (by omega)
      have hnone : ra = none → n = 0 ∧ rc = 0 := fun e => by
        subst e
        rcases hrt.2 with ⟨e, _⟩ | ⟨g, c, cur, e, _⟩
        · injection e with _ e2 e3; exact ⟨by omega, e3⟩
        · injection e with e1 _ _; cases e1
      have hnews : ∀ o : Obj, ∀ ad, ra = some ad → ∀ j u, ((tr.take n).map (Value.int .i64))[j]? = some u → (wr.alloc o).cell? (ad.add j) = some u := fun o ad had j u hu => by
        subst had
        obtain ⟨g, c, hge⟩ := hrt.shape_pos (by
          rcases Nat.eq_zero_or_pos l.length with h0 | h0
          · exfalso
            have : ((tr.take n).map (Value.int .i64)) = [] := List.eq_nil_of_length_eq_zero (by rw [List.length_map, List.length_take]; omega)
            rw [this] at hu
            cases hu
          · exact h0)
        injection hge with e1 _ e3
        injection e1 with e1
        subst e1 e3
        have hu2 : (tr.map (Value.int .i64))[j]? = some u := by
          rw [List.map_take] at hu
          rw [List.getElem?_take] at hu
          split at hu
          · exact hu
          · cases hu
        rw [Addr.add_lit, Nat.zero_add]
        exact cell_old (hrt.cells rfl j u hu2)
      have hone : ∀ u ∈ (tr.take n).map (Value.int .i64), u.oneCell' = true := fun u hu => by
        obtain ⟨z, _, rfl⟩ := List.mem_map.1 hu
        rfl
      have hnrc : n ≤ rc := by have := hrt.max; omega
      have hnrc2 : (n : Int) ≤ (rc : Int) := by omega
      have HNW := Lib.hid hnews
      have HON := Lib.hid hone
      have hTl : ((tr.take n).map (Value.int .i64)).length = n * 1 := by rw [List.length_map, List.length_take]; omega
      have hwbl : wb < wr.heap.size := Nat.lt_of_lt_of_le hwl HT.out.size
      have HSZ := Lib.hid HT.out.size
      clear hrt hnews hone
      go_wp2_with (at_builtin; refine append_any _ rfl _ _ 24 rfl 2 i0 (.int .i64 0) 1 8 Try.underlying24 hi0 hz0 hz1 hz2 rfl (by decide) _ _ _ rfl (Row.made _ 2 1 #[] 0 rfl (by simp)) ra n rc ((tr.take n).map (Value.int .i64)) rfl hnone hTl (HNW.out _) HON.out (by unfold maxLen; omega) (by omega) ?_; intro v2 w5 hrow5 T5 ho5; have hrow5 : Row w5 2 1 v2 n ((tr.take n).map (Value.int .i64)) := (by simpa using hrow5); obtain ⟨va, vc, rfl⟩ := hrow5.shape; have TA := (Turned.refl (fun _ => False) wr).alloc (.cells #[] 2); have hT5 : Turned (fun _ => False) wr w5 := TA.step T5 (fun i hi e => by simp [Value.ownBlock, Act.eval] at e; omega); have hwb5 := (hT5.block wb hwbl (fun f => f)).trans HWB.out; obtain ⟨c0, c1, c2, g0, g1, g2⟩ := rec3b hwb5; have HW5 := Lib.hid hwb5; have HT5 := Lib.hid hT5; have HR5 := Lib.hid hrow5; have HO5 : Hid (∀ k, (Value.slice va n vc).ownBlock = some k → wr.heap.size ≤ k) := Lib.hid (fun k hk => by rcases ho5 with e | e; (rw [hk] at e; simp [Value.ownBlock, Act.eval] at e; omega); (rw [hk] at e; simp at e; omega)); clear TA hT5 hwb5 hrow5 T5 ho5)
      go_ret
      have Tw : Turned (fun k => k = wb) w5 (w5.setCell ⟨wb, 2, none⟩ (.slice va n vc)) := (Turned.refl (fun k => k = wb) w5).setCell (p := ⟨wb, 2, none⟩) (.inr rfl) _
      refine ⟨rfl, HA.out is' (.slice va n vc) _ HL.out ((HB.out.turned0 HT5.out).turned Tw (fun k hk e => HNE.out.2.1 (e ▸ hk))) ?_ (fun k hk => by have := HO5.out k hk; have := HSZ.out; omega) (by have := heap_setCell_same w5 wb 2 _ 113 (.slice va n vc) HW5.out; simpa using this) (((HT.out.mono (fun _ _ e => .inl e)).trans (HT5.out.mono (fun _ _ f => f.elim)) : Turned (fun k => (Value.slice ia m ic).ownBlock = some k ∨ k = wb) w w5).trans (Tw.mono (fun _ _ e => .inr e))) ?_⟩
      · have := HR5.out.turned Tw (fun k hk e => by have := HO5.out k hk; omega)
        simpa using this
      · intro i hi
        have := HS.out i hi
        rw [this, List.drop_eq_nil_of_le (by omega)]
        simp
end Go.Proofs.Ytoihjobdfjajfaa
namespace Go.Proofs.Ytoihjobdfjajfaa
open Go.RowKit Go.Maps
set_option linter.unusedVariables false
set_option linter.unusedSimpArgs false
abbrev PT := LT × LT
def PT.cells (q : PT) : List Value := q.1.cells ++ q.2.cells
theorem PT.cells_length (q : PT) : (PT.cells q).length = 8 := by unfold PT.cells; rw [List.length_append, LT.cells_length, LT.cells_length]
theorem PT.cells_one (q : PT) : ∀ u ∈ PT.cells q, u.oneCell' = true := by
  intro u hu
  rcases List.mem_append.1 hu with h | h
  · exact LT.cells_one _ u h
  · exact LT.cells_one _ u h
theorem PT.flat_length (l : List PT) : (l.flatMap PT.cells).length = l.length * 8 := by
  induction l with
  | nil => rfl
  | cons x l ih => rw [List.flatMap_cons, List.length_append, PT.cells_length, ih, List.length_cons]; omega
structure UK (p : Nat → Prop) (bb K : Nat) (v : Value) (st : List PT) (c : Int) (O : Nat → Prop) (m : Nat) (l : TL) (w : World) : Prop where
  bo : BO p bb O m l w
  k : w.heap[K]? = some (.cells #[.pointer (some ⟨bb, 0, none⟩), v, .int .i64 c] 190 (0, 0))
  row : Row w 187 8 v st.length (st.flatMap PT.cells)
  mem : ∀ q ∈ st, (q.1.In p w ∧ Tm.ownB m q.1.bare = true) ∧ q.2.In p w ∧ Tm.ownB m q.2.bare = true
  kO : ¬ O K ∧ ¬ p K
  vO : ∀ g, v.ownBlock = some g → ¬ O g ∧ ¬ p g ∧ g ≠ K
def ownU (K : Nat) (v : Value) (O : Nat → Prop) (k : Nat) : Prop := k = K ∨ v.ownBlock = some k ∨ O k
section
variable {p O : Nat → Prop} {bb K m : Nat} {v : Value} {st : List PT} {c : Int} {l : TL} {w w' : World}
theorem UK.turned0 (h : UK p bb K v st c O m l w) (T : Turned (fun _ => False) w w') : UK p bb K v st c O m l w' :=
  ⟨h.bo.turned0 T, (T.block _ (Array.getElem?_eq_some_iff.1 h.k).1 (fun f => f)).trans h.k, h.row.turned0 T, fun q hq => ⟨⟨(h.mem q hq).1.1.turned0 T, (h.mem q hq).1.2⟩, (h.mem q hq).2.1.turned0 T, (h.mem q hq).2.2⟩, h.kO, h.vO⟩
theorem UK.own_lt (h : UK p bb K v st c O m l w) : ∀ k, ownU K v O k → k < w.heap.size := by
  rintro k (rfl | e | e)
  · exact (Array.getElem?_eq_some_iff.1 h.k).1
  · exact h.row.lt k e
  · exact h.bo.lt k e
end
def UA (p : Nat → Prop) (bb K : Nat) (v : Value) (st : List PT) (c' : Int) (O : Nat → Prop) (m : Nat) (l' : Tm.Trail) (w w' : World) : Prop :=
  ∃ (l2 : TL) (O' : Nat → Prop), bt l2 = l' ∧ UK p bb K v st c' O' m l2 w' ∧ (∀ k, O' k → k < w.heap.size → O k) ∧ Turned (ownU K v O) w w'
theorem UA.same {p O : Nat → Prop} {bb K m : Nat} {v : Value} {st : List PT} {c : Int} {l : TL} {w w' : World} (h : UK p bb K v st c O m l w') (T : Turned (ownU K v O) w w') : UA p bb K v st c O m (bt l) w w' := ⟨l, O, rfl, h, fun _ hk _ => hk, T⟩
theorem UK.after {p O : Nat → Prop} {bb K m : Nat} {v : Value} {st : List PT} {c : Int} {l l2 : TL} {w w' : World} (h : UK p bb K v st c O m l w) (A : After p bb O m l2 w w') : ∃ O', UK p bb K v st c O' m l2 w' ∧ (∀ k, O' k → k < w.heap.size → O k) ∧ Turned O w w' := by
  obtain ⟨O', a1, a2, a3⟩ := A
  have hkl := (Array.getElem?_eq_some_iff.1 h.k).1
  have hp : ∀ q : LT, q.In p w → q.In p w' := fun q hq => LT.In.turned a3 (fun k _ hk e => h.bo.sep k hk e) (fun _ _ hk => hk) q hq
  exact ⟨O', ⟨a1, (a3.block K hkl h.kO.1).trans h.k, h.row.turned a3 (fun k hk e => (h.vO k hk).1 e), fun q hq => ⟨⟨hp _ (h.mem q hq).1.1, (h.mem q hq).1.2⟩, hp _ (h.mem q hq).2.1, (h.mem q hq).2.2⟩, ⟨fun e => h.kO.1 (a2 K e hkl), h.kO.2⟩, fun g hg => ⟨fun e => (h.vO g hg).1 (a2 g e (h.row.lt g hg)), (h.vO g hg).2⟩⟩, a2, a3⟩
end Go.Proofs.Ytoihjobdfjajfaa
namespace Go.Proofs.Ytoihjobdfjajfaa
open Go.RowKit Go.Maps
set_option linter.unusedVariables false
set_option linter.unusedSimpArgs false
def WkS (p : Nat → Prop) (X0 Y0 : Tm Unit) (N : Nat) (w2 : World) : List Value → World → Prop
  | [], W => Turned (fun _ => False) w2 W
  | [a], W => Turned (fun _ => False) w2 W ∧ ∃ X : LT, a = .agg #[.int .i64 X.kind, .int .i64 X.n, .string X.name, .slice X.at_.1 X.args.length X.at_.2] ∧ X.In p W ∧ X.bare = X0
  | [a, b], W => Turned (fun _ => False) w2 W ∧ (∃ X : LT, a = .agg #[.int .i64 X.kind, .int .i64 X.n, .string X.name, .slice X.at_.1 X.args.length X.at_.2] ∧ X.In p W ∧ X.bare = X0) ∧ ∃ Y : LT, b = .agg #[.int .i64 Y.kind, .int .i64 Y.n, .string Y.name, .slice Y.at_.1 Y.args.length Y.at_.2] ∧ Y.In p W ∧ Y.bare = Y0
  | [_, b, _], W => Turned (fun k => k = N) w2 W ∧ (∃ X : LT, W.heap[N]? = some (.cells #[.int .i64 X.kind, .int .i64 X.n, .string X.name, .slice X.at_.1 X.args.length X.at_.2] 27 (0, 0)) ∧ X.In p W ∧ X.bare = X0) ∧ ∃ Y : LT, b = .agg #[.int .i64 Y.kind, .int .i64 Y.n, .string Y.name, .slice Y.at_.1 Y.args.length Y.at_.2] ∧ Y.In p W ∧ Y.bare = Y0
  | [_, _, _, _], W => Turned (fun k => k = N ∨ k = N + 1) w2 W ∧ (∃ X : LT, W.heap[N]? = some (.cells #[.int .i64 X.kind, .int .i64 X.n, .string X.name, .slice X.at_.1 X.args.length X.at_.2] 27 (0, 0)) ∧ X.In p W ∧ X.bare = X0) ∧ ∃ Y : LT, W.heap[N + 1]? = some (.cells #[.int .i64 Y.kind, .int .i64 Y.n, .string Y.name, .slice Y.at_.1 Y.args.length Y.at_.2] 27 (0, 0)) ∧ Y.In p W ∧ Y.bare = Y0
  | _, _ => False
section
variable {p : Nat → Prop} {X0 Y0 : Tm Unit} {N : Nat} {w2 W W' : World}
theorem WkS.turned0 : ∀ (hs : List Value) (w w' : World), WkS p X0 Y0 N w2 hs w → Turned (fun _ => False) w w' → WkS p X0 Y0 N w2 hs w'
  | [], _, _, h, T => Turned.trans h T
  | [_], _, _, h, T => by obtain ⟨h1, X, x1, x2, x3⟩ := h; exact ⟨h1.trans T, X, x1, x2.turned0 T, x3⟩
  | [_, _], _, _, h, T => by obtain ⟨h1, ⟨X, x1, x2, x3⟩, Y, y1, y2, y3⟩ := h; exact ⟨h1.trans T, ⟨X, x1, x2.turned0 T, x3⟩, Y, y1, y2.turned0 T, y3⟩
  | [_, _, _], _, _, h, T => by obtain ⟨h1, ⟨X, x1, x2, x3⟩, Y, y1, y2, y3⟩ := h; exact ⟨h1.trans (T.mono (fun _ _ f => f.elim)), ⟨X, (T.block _ (Array.getElem?_eq_some_iff.1 x1).1 (fun f => f)).trans x1, x2.turned0 T, x3⟩, Y, y1, y2.turned0 T, y3⟩
  | [_, _, _, _], _, _, h, T => by obtain ⟨h1, ⟨X, x1, x2, x3⟩, Y, y1, y2, y3⟩ := h; exact ⟨h1.trans (T.mono (fun _ _ f => f.elim)), ⟨X, (T.block _ (Array.getElem?_eq_some_iff.1 x1).1 (fun f => f)).trans x1, x2.turned0 T, x3⟩, Y, (T.block _ (Array.getElem?_eq_some_iff.1 y1).1 (fun f => f)).trans y1, y2.turned0 T, y3⟩
  | _ :: _ :: _ :: _ :: _ :: _, _, _, h, _ => h.elim
theorem WkS.turned : ∀ (hs : List Value) (W : World), WkS p X0 Y0 N w2 hs W → Turned (fun k => k = N ∨ k = N + 1) w2 W
  | [], _, h => Turned.mono h (fun _ _ f => f.elim)
  | [_], _, h => h.1.mono (fun _ _ f => f.elim)
  | [_, _], _, h => h.1.mono (fun _ _ f => f.elim)
  | [_, _, _], _, h => h.1.mono (fun _ _ e => .inl e)
  | [_, _, _, _], _, h => h.1
  | _ :: _ :: _ :: _ :: _ :: _, _, h => h.elim
end
theorem UA.from {p O : Nat → Prop} {bb K m : Nat} {v : Value} {st : List PT} {c : Int} {l' : Tm.Trail} {w w3 w' : World} (T : Turned (fun _ => False) w w3) (h : UA p bb K v st c O m l' w3 w') : UA p bb K v st c O m l' w w' := by
  obtain ⟨l2, O', h1, h2, h3, h4⟩ := h
  exact ⟨l2, O', h1, h2, fun k hk hl => h3 k hk (Nat.lt_of_lt_of_le hl T.size), (T.mono (fun _ _ f => f.elim)).trans h4⟩
def VarS (p : Nat → Prop) (bb : Nat) (O : Nat → Prop) (m : Nat) (l : TL) (n k : Int) (w3 : World) : List Value → World → Prop
  | [], W => Turned (fun _ => False) w3 W
  | [a], W => Turned (fun _ => False) w3 W ∧ a = .agg #[.int .i64 0, .int .i64 k, .string ByteArray.empty, .slice none 0 0]
  | [_, b], W => b = .int .i64 0 ∧ ∃ l', bt l' = (n, Tm.V k) :: bt l ∧ After p bb O m l' w3 W
  | _, _ => False
section
variable {p O : Nat → Prop} {bb m : Nat} {l : TL} {n k : Int} {w3 : World}
theorem VarS.turned0 : ∀ (hs : List Value) (w w' : World), VarS p bb O m l n k w3 hs w → Turned (fun _ => False) w w' → VarS p bb O m l n k w3 hs w'
  | [], _, _, h, T => Turned.trans h T
  | [_], _, _, h, T => ⟨h.1.trans T, h.2⟩
  | [_, _], _, _, ⟨h1, l', h2, h3⟩, T => ⟨h1, l', h2, h3.turned0 T⟩
  | _ :: _ :: _ :: _, _, _, h, _ => h.elim
theorem VarS.turned : ∀ (hs : List Value) (W : World), hs.length ≤ 1 → VarS p bb O m l n k w3 hs W → Turned (fun _ => False) w3 W
  | [], _, _, h => h
  | [_], _, _, h => h.1
theorem VarS.val : ∀ (hs : List Value) (W : World) {x : Value}, VarS p bb O m l n k w3 hs W → hs[1]? = some x → x = .int .i64 0
  | [], _, _, _, e => by simp at e
  | [_], _, _, _, e => by simp at e
  | [_, _], _, _, h, e => by simp at e; rw [← e]; exact h.1
  | _ :: _ :: _ :: _, _, _, h, _ => h.elim
end
def PsS (bb K : Nat) (v : Value) (n : Nat) (xs : List Value) (c : Int) (X Y : LT) (wr : World) : List Value → World → Prop
  | [], W => Turned (fun _ => False) wr W
  | [s], W => Turned (fun _ => False) wr W ∧ ∃ g0, s = .slice (some ⟨g0, 0, none⟩) 1 1 ∧ W.heap[g0]? = some (.cells #[.int .i64 X.kind, .int .i64 X.n, .string X.name, .slice X.at_.1 X.args.length X.at_.2, .int .i64 Y.kind, .int .i64 Y.n, .string Y.name, .slice Y.at_.1 Y.args.length Y.at_.2] 187 (0, 0))
  | [_, a], W => Row W 187 8 a (n + 1) (xs ++ PT.cells (X, Y)) ∧ (a.ownBlock = v.ownBlock ∨ ∀ g, a.ownBlock = some g → wr.heap.size ≤ g) ∧ Turned (fun k => v.ownBlock = some k) wr W
  | [_, a, _], W => Row W 187 8 a (n + 1) (xs ++ PT.cells (X, Y)) ∧ (a.ownBlock = v.ownBlock ∨ ∀ g, a.ownBlock = some g → wr.heap.size ≤ g) ∧ Turned (fun k => k = K ∨ v.ownBlock = some k) wr W ∧ W.heap[K]? = some (.cells #[.pointer (some ⟨bb, 0, none⟩), a, .int .i64 c] 190 (0, 0))
  | _, _ => False
section
variable {bb K n : Nat} {v : Value} {xs : List Value} {c : Int} {X Y : LT} {wr W W' : World}
theorem PsS.turned0 : ∀ (hs : List Value) (w w' : World), PsS bb K v n xs c X Y wr hs w → Turned (fun _ => False) w w' → PsS bb K v n xs c X Y wr hs w'
  | [], _, _, h, T => Turned.trans h T
  | [_], _, _, ⟨h1, g0, h2, h3⟩, T => ⟨h1.trans T, g0, h2, (T.block _ (Array.getElem?_eq_some_iff.1 h3).1 (fun f => f)).trans h3⟩
  | [_, _], _, _, ⟨h1, h2, h3⟩, T => ⟨h1.turned0 T, h2, h3.trans (T.mono (fun _ _ f => f.elim))⟩
  | [_, _, _], _, _, ⟨h1, h2, h3, h4⟩, T => ⟨h1.turned0 T, h2, h3.trans (T.mono (fun _ _ f => f.elim)), (T.block _ (Array.getElem?_eq_some_iff.1 h4).1 (fun f => f)).trans h4⟩
  | _ :: _ :: _ :: _ :: _, _, _, h, _ => h.elim
theorem PsS.turned : ∀ (hs : List Value) (W : World), hs.length ≤ 2 → PsS bb K v n xs c X Y wr hs W → Turned (fun k => v.ownBlock = some k) wr W
  | [], _, _, h => Turned.mono h (fun _ _ f => f.elim)
  | [_], _, _, h => h.1.mono (fun _ _ f => f.elim)
  | [_, _], _, _, h => h.2.2
end
theorem UK.push {p O : Nat → Prop} {bb K m : Nat} {v a : Value} {st : List PT} {c : Int} {l : TL} {wr W : World} {X Y : LT} (h : UK p bb K v st c O m l wr) (hX : X.In p wr ∧ Tm.ownB m X.bare = true) (hY : Y.In p wr ∧ Tm.ownB m Y.bare = true) (hr : Row W 187 8 a (st.length + 1) (st.flatMap PT.cells ++ PT.cells (X, Y))) (ho : a.ownBlock = v.ownBlock ∨ ∀ g, a.ownBlock = some g → wr.heap.size ≤ g) (T : Turned (fun k => k = K ∨ v.ownBlock = some k) wr W) (hk : W.heap[K]? = some (.cells #[.pointer (some ⟨bb, 0, none⟩), a, .int .i64 c] 190 (0, 0))) :
    UK p bb K a (st ++ [(X, Y)]) c O m l W := by
  have hS : ∀ k, k < wr.heap.size → (k = K ∨ v.ownBlock = some k) → ¬ O k ∧ ¬ p k := fun k _ e => by
    rcases e with e | e
    · rw [e]; exact h.kO
    · exact ⟨(h.vO k e).1, (h.vO k e).2.1⟩
  have hp : ∀ q : LT, q.In p wr → q.In p W := fun q hq => LT.In.turned T (fun k hl hk e => (hS k hl e).2 hk) (fun _ _ hk => hk) q hq
  refine ⟨h.bo.turned T hS, hk, by simpa using hr, fun q hq => ?_, h.kO, fun g hg => ?_⟩
  · rcases List.mem_append.1 hq with hq | hq
    · exact ⟨⟨hp _ (h.mem q hq).1.1, (h.mem q hq).1.2⟩, hp _ (h.mem q hq).2.1, (h.mem q hq).2.2⟩
    · rw [List.mem_singleton] at hq
      rw [hq]
      exact ⟨⟨hp _ hX.1, hX.2⟩, hp _ hY.1, hY.2⟩
  · rcases ho with e | e
    · exact h.vO g (e ▸ hg)
    · have h1 := e g hg
      exact ⟨fun c => by have := h.bo.lt g c; omega, fun c => by have := h.bo.plt g c; omega, fun c => by have := (Array.getElem?_eq_some_iff.1 h.k).1; omega⟩
end Go.Proofs.Ytoihjobdfjajfaa
namespace Go.Proofs.Ytoihjobdfjajfaa
open Go.RowKit Go.Maps
set_option linter.unusedVariables false
set_option linter.unusedSimpArgs false
theorem PT.flat_at {l : List PT} {i : Nat} {q : PT} (h : l[i]? = some q) (j : Nat) (hj : j < 8) : (l.flatMap PT.cells)[i * 8 + j]? = (PT.cells q)[j]? := by
  induction l generalizing i with
  | nil => simp at h
  | cons y l ih =>
    rw [List.flatMap_cons]
    cases i with
    | zero =>
      simp at h; subst h
      rw [List.getElem?_append_left (by rw [PT.cells_length]; omega), Nat.zero_mul, Nat.zero_add]
    | succ i =>
      simp at h
      rw [List.getElem?_append_right (by rw [PT.cells_length]; omega), PT.cells_length]
      have : (i + 1) * 8 + j - 8 = i * 8 + j := by omega
      rw [this]
      exact ih h
theorem PT.cells_eq (q : PT) : PT.cells q = [.int .i64 q.1.kind, .int .i64 q.1.n, .string q.1.name, .slice q.1.at_.1 q.1.args.length q.1.at_.2, .int .i64 q.2.kind, .int .i64 q.2.n, .string q.2.name, .slice q.2.at_.1 q.2.args.length q.2.at_.2] := by unfold PT.cells; rw [LT.cells_eq, LT.cells_eq]; rfl
theorem UK.last {p O : Nat → Prop} {bb K m g n cap : Nat} {ss : List PT} {q : PT} {c : Int} {l : TL} {w : World} (h : UK p bb K (.slice (some ⟨g, 0, none⟩) n cap) (ss ++ [q]) c O m l w) :
    n = ss.length + 1 ∧ ss.length + 1 ≤ cap ∧ cap ≤ maxLen ∧ (w.cell? ⟨g, ss.length * 8, none⟩ = some (.int .i64 q.1.kind) ∧ w.cell? ⟨g, ss.length * 8 + 1, none⟩ = some (.int .i64 q.1.n) ∧ w.cell? ⟨g, ss.length * 8 + 2, none⟩ = some (.string q.1.name) ∧ w.cell? ⟨g, ss.length * 8 + 3, none⟩ = some (.slice q.1.at_.1 q.1.args.length q.1.at_.2)) ∧
    w.cell? ⟨g, ss.length * 8 + 4, none⟩ = some (.int .i64 q.2.kind) ∧ w.cell? ⟨g, ss.length * 8 + 5, none⟩ = some (.int .i64 q.2.n) ∧ w.cell? ⟨g, ss.length * 8 + 6, none⟩ = some (.string q.2.name) ∧ w.cell? ⟨g, ss.length * 8 + 7, none⟩ = some (.slice q.2.at_.1 q.2.args.length q.2.at_.2) := by
  have hr := h.row
  have hn : n = ss.length + 1 := by
    rcases hr.2 with ⟨e, _⟩ | ⟨g', c', cur, e, _⟩
    · cases e
    · injection e with _ e _; simp at e; exact e
  subst hn
  have hcap : ss.length + 1 ≤ cap ∧ cap ≤ maxLen := by
    rcases hr.2 with ⟨e, _⟩ | ⟨g', c', cur, e, _, h1, h2, _⟩
    · cases e
    · injection e with _ _ e; subst e; simp at h1; omega
  have hr' : Row w 187 8 (.slice (some ⟨g, 0, none⟩) (ss.length + 1) cap) (ss.length + 1) ((ss ++ [q]).flatMap PT.cells) := by simpa using hr
  have hi : (ss ++ [q])[ss.length]? = some q := by simp
  refine ⟨rfl, hcap.1, hcap.2, ⟨hr'.cells rfl _ _ ?_, hr'.cells rfl _ _ ?_, hr'.cells rfl _ _ ?_, hr'.cells rfl _ _ ?_⟩, hr'.cells rfl _ _ ?_, hr'.cells rfl _ _ ?_, hr'.cells rfl _ _ ?_, hr'.cells rfl _ _ ?_⟩
  · have := PT.flat_at hi 0 (by omega); rw [Nat.add_zero] at this; rw [this, PT.cells_eq]; rfl
  all_goals (rw [PT.flat_at hi _ (by omega), PT.cells_eq]; rfl)
def BxS (q : PT) (wr : World) : List Value → World → Prop
  | [], W => Turned (fun _ => False) wr W
  | [b], W => Turned (fun _ => False) wr W ∧ ∃ B a0 a1 a2 a3 a4 a5 a6 a7, b = .pointer (some ⟨B, 0, none⟩) ∧ wr.heap.size ≤ B ∧ W.heap[B]? = some (.cells #[a0, a1, a2, a3, a4, a5, a6, a7] 187 (0, 0))
  | [b, _], W => Turned (fun _ => False) wr W ∧ ∃ B, b = .pointer (some ⟨B, 0, none⟩) ∧ wr.heap.size ≤ B ∧ W.heap[B]? = some (.cells #[.int .i64 q.1.kind, .int .i64 q.1.n, .string q.1.name, .slice q.1.at_.1 q.1.args.length q.1.at_.2, .int .i64 q.2.kind, .int .i64 q.2.n, .string q.2.name, .slice q.2.at_.1 q.2.args.length q.2.at_.2] 187 (0, 0))
  | _, _ => False
theorem BxS.turned0 {q : PT} {wr : World} : ∀ (hs : List Value) (w w' : World), BxS q wr hs w → Turned (fun _ => False) w w' → BxS q wr hs w'
  | [], _, _, h, T => Turned.trans h T
  | [_], _, _, ⟨h1, B, a0, a1, a2, a3, a4, a5, a6, a7, h2, h3, h4⟩, T => ⟨h1.trans T, B, a0, a1, a2, a3, a4, a5, a6, a7, h2, h3, (T.block _ (Array.getElem?_eq_some_iff.1 h4).1 (fun f => f)).trans h4⟩
  | [_, _], _, _, ⟨h1, B, h2, h3, h4⟩, T => ⟨h1.trans T, B, h2, h3, (T.block _ (Array.getElem?_eq_some_iff.1 h4).1 (fun f => f)).trans h4⟩
  | _ :: _ :: _ :: _, _, _, h, _ => h.elim
theorem BxS.turned {q : PT} {wr : World} : ∀ (hs : List Value) (W : World), BxS q wr hs W → Turned (fun _ => False) wr W
  | [], _, h => h
  | [_], _, h => h.1
  | [_, _], _, h => h.1
  | _ :: _ :: _ :: _, _, h => h.elim
end Go.Proofs.Ytoihjobdfjajfaa
namespace Go.Proofs.Ytoihjobdfjajfaa
open Go.RowKit Go.Maps
set_option linter.unusedVariables false
set_option linter.unusedSimpArgs false
theorem undoO101 {p O : Nat → Prop} {bb m : Nat} {l : TL} {w : World} (h : BO p bb O m l w) (n : Nat) (hn : n ≤ l.length) :
    Calls Try.prog 101 #[.pointer (some ⟨bb, 0, none⟩), .int .i64 n] w fun e w' => e = .returned (.bool true) ∧ After p bb O m (l.drop (l.length - n)) w w' := by
  obtain ⟨sb, lv, tv, B, hO⟩ := h.bi
  refine (undo101 B n hn).mono ?_
  rintro e w' ⟨rfl, ⟨tv', B', ho⟩, T⟩
  refine ⟨rfl, O, ⟨⟨sb, lv, tv', B', fun k hk => hO k ?_⟩, fun b hb => h.box b (List.mem_of_mem_drop hb), fun k hk => Nat.lt_of_lt_of_le (h.lt k hk) T.size, h.sep⟩, fun k hk _ => hk, T.mono (fun k _ e => hO k (e.elim (fun e => .inr (.inl e)) (fun e => e.elim (fun e => .inr (.inr (.inl e))) (fun e => .inr (.inr (.inr e))))))⟩
  rcases hk with e | e | e | e
  · exact .inl e
  · exact .inr (.inl e)
  · exact .inr (.inr (.inl e))
  · exact .inr (.inr (.inr (ho ▸ e)))
theorem UK.new {p O : Nat → Prop} {bb m : Nat} {l : TL} {w : World} {x y : LT} (h : BO p bb O m l w) (hx : x.In p w) (gx : Tm.ownB m x.bare = true) (hy : y.In p w) (gy : Tm.ownB m y.bare = true) :
    UK p bb (w.heap.size + 1) (.slice (some ⟨w.heap.size, 0, none⟩) 1 1) [(x, y)] 0 O m l ((w.alloc (.cells #[.int .i64 x.kind, .int .i64 x.n, .string x.name, .slice x.at_.1 x.args.length x.at_.2, .int .i64 y.kind, .int .i64 y.n, .string y.name, .slice y.at_.1 y.args.length y.at_.2] 187)).alloc (.cells #[.pointer (some ⟨bb, 0, none⟩), .slice (some ⟨w.heap.size, 0, none⟩) 1 1, .int .i64 0] 190)) := by
  have T : Turned (fun _ => False) w ((w.alloc (.cells #[.int .i64 x.kind, .int .i64 x.n, .string x.name, .slice x.at_.1 x.args.length x.at_.2, .int .i64 y.kind, .int .i64 y.n, .string y.name, .slice y.at_.1 y.args.length y.at_.2] 187)).alloc (.cells #[.pointer (some ⟨bb, 0, none⟩), .slice (some ⟨w.heap.size, 0, none⟩) 1 1, .int .i64 0] 190)) := ((Turned.refl _ w).alloc _).alloc _
  refine ⟨h.turned0 T, heap_alloc2_new w _ _, ?_, fun q hq => ?_, ⟨fun e => by have := h.lt _ e; omega, fun e => by have := h.plt _ e; omega⟩, fun g hg => ?_⟩
  · have := Row.made w 187 8 #[.int .i64 x.kind, .int .i64 x.n, .string x.name, .slice x.at_.1 x.args.length x.at_.2, .int .i64 y.kind, .int .i64 y.n, .string y.name, .slice y.at_.1 y.args.length y.at_.2] 1 rfl (by unfold maxLen; omega)
    have := this.turned0 ((Turned.refl (fun _ => False) _).alloc (.cells #[.pointer (some ⟨bb, 0, none⟩), .slice (some ⟨w.heap.size, 0, none⟩) 1 1, .int .i64 0] 190))
    simpa [PT.cells_eq] using this
  · rw [List.mem_singleton] at hq
    rw [hq]
    exact ⟨⟨hx.turned0 T, gx⟩, hy.turned0 T, gy⟩
  · simp [Value.ownBlock] at hg
    subst hg
    exact ⟨fun e => by have := h.lt _ e; omega, fun e => by have := h.plt _ e; omega, by omega⟩
end Go.Proofs.Ytoihjobdfjajfaa
namespace Go.Proofs.Ytoihjobdfjajfaa
open Go.RowKit Go.Maps
set_option linter.unusedVariables false
set_option linter.unusedSimpArgs false
def BK (m bb : Nat) (tr : Tm.Trail) (bx : List (Nat × Obj)) (ts : List LT) (wA w : World) : Prop :=
  ∃ (O : Nat → Prop) (l : TL), bt l = tr ∧ BO (fun k => k < w.heap.size ∧ ¬ O k) bb O m l w ∧ (∀ k, O k → wA.heap.size ≤ k) ∧ Turned (fun _ => False) wA w ∧ (∀ b ∈ bx, w.heap[b.1]? = some b.2 ∧ ¬ O b.1) ∧ ∀ t ∈ ts, t.In (fun k => k < w.heap.size ∧ ¬ O k) w
section
variable {m bb : Nat} {tr tr' : Tm.Trail} {bx : List (Nat × Obj)} {ts : List LT} {wA w w' w1 : World} {x : LT}
theorem BK.turned0 (h : BK m bb tr bx ts wA w) (T : Turned (fun _ => False) w w') : BK m bb tr bx ts wA w' := by
  obtain ⟨O, l, h1, h2, h3, h4, h5, h6⟩ := h
  exact ⟨O, l, h1, (h2.turned0 T).wide (fun k hk => ⟨Nat.lt_of_lt_of_le hk.1 T.size, hk.2⟩) (fun k hk => hk), h3, h4.trans T, fun b hb => ⟨(T.block _ (Array.getElem?_eq_some_iff.1 (h5 b hb).1).1 (fun f => f)).trans (h5 b hb).1, (h5 b hb).2⟩, fun t ht => (((h6 t ht).turned0 T).mono (fun k hk hp => ⟨hk, hp.2⟩))⟩
theorem BK.old (h : BK m bb tr bx ts wA w) : Turned (fun _ => False) wA w := by obtain ⟨O, l, h1, h2, h3, h4, _⟩ := h; exact h4
theorem BK.ok (h : BK m bb tr bx ts wA w) : Tm.okT m tr := by obtain ⟨O, l, rfl, h2, h3, h4, _⟩ := h; exact h2.ok
theorem BK.boxes (h : BK m bb tr bx ts wA w) : ∀ b ∈ bx, w.heap[b.1]? = some b.2 := by obtain ⟨O, l, h1, h2, h3, h4, h5, h6⟩ := h; exact fun b hb => (h5 b hb).1
theorem BK.terms (h : BK m bb tr bx ts wA w) : ∀ t ∈ ts, t.In (fun _ => True) w := by obtain ⟨O, l, h1, h2, h3, h4, h5, h6⟩ := h; exact fun t ht => (h6 t ht).mono (fun _ _ _ => trivial)
theorem BK.start (h : BLoop wA.heap.size bb m [] wA w) : BK m bb [] [] [] wA w := by
  obtain ⟨O, h1, h2, h3⟩ := h
  exact ⟨O, [], rfl, h1.wide (fun k hk => ⟨Nat.lt_of_lt_of_le hk h3.size, fun c => by have := h2 k c; omega⟩) (fun k hk => hk), h2, h3, fun b hb => (by cases hb), fun b hb => (by cases hb)⟩
theorem BK.box (h : BK m bb tr bx ts wA w) (o : Obj) : BK m bb tr ((w.heap.size, o) :: bx) ts wA (w.alloc o) := by
  have T := (Turned.refl (fun _ => False) w).alloc o
  obtain ⟨O, l, h1, h2, h3, h4, h5, h6⟩ := h
  refine ⟨O, l, h1, (h2.turned0 T).wide (fun k hk => ⟨Nat.lt_of_lt_of_le hk.1 T.size, hk.2⟩) (fun k hk => hk), h3, h4.trans T, fun b hb => ?_, fun t ht => (((h6 t ht).turned0 T).mono (fun k hk hp => ⟨hk, hp.2⟩))⟩
  rcases List.mem_cons.1 hb with rfl | hb
  · exact ⟨heap_alloc_new w o, fun c => by have := h2.lt _ c; simp only [] at this; omega⟩
  · exact ⟨(T.block _ (Array.getElem?_eq_some_iff.1 (h5 b hb).1).1 (fun f => f)).trans (h5 b hb).1, (h5 b hb).2⟩
theorem BK.after {m' : Nat} {O : Nat → Prop} {l' : TL} (hO : ∀ k, O k → wA.heap.size ≤ k) (T : Turned (fun _ => False) wA w) (hb : ∀ b ∈ bx, w.heap[b.1]? = some b.2 ∧ ¬ O b.1) (ht : ∀ t ∈ ts, t.In (fun k => k < w.heap.size ∧ ¬ O k) w) (ha : After (fun k => k < w.heap.size ∧ ¬ O k) bb O m' l' w w') : BK m' bb (bt l') bx ts wA w' := by
  obtain ⟨O', a1, a2, a3⟩ := ha
  refine ⟨O', l', rfl, a1.wide (fun k hk => ⟨Nat.lt_of_lt_of_le hk.1 a3.size, fun c => hk.2 (a2 k c hk.1)⟩) (fun k hk => hk), fun k hk => ?_, T.step a3 (fun i hi e => by have := hO i e; omega), fun b hbm => ?_, fun t htm => LT.In.turned a3 (fun k hk hp c => hp.2 c) (fun k hk hp => ⟨Nat.lt_of_lt_of_le hk a3.size, fun c => hp.2 (a2 k c hk)⟩) t (ht t htm)⟩
  · rcases Nat.lt_or_ge k w.heap.size with h | h
    · exact hO k (a2 k hk h)
    · have := T.size; omega
  · have hl := (Array.getElem?_eq_some_iff.1 (hb b hbm).1).1
    exact ⟨(a3.block _ hl (hb b hbm).2).trans (hb b hbm).1, fun c => (hb b hbm).2 (a2 _ c hl)⟩
theorem BK.term (h : BK m bb tr bx ts wA w1) (T : Turned (fun _ => False) w1 w) (hx : x.In (fun k => w1.heap.size ≤ k) w) : ∃ (O : Nat → Prop) (l : TL), bt l = tr ∧ BO (fun k => k < w.heap.size ∧ ¬ O k) bb O m l w ∧ (∀ k, O k → wA.heap.size ≤ k) ∧ Turned (fun _ => False) wA w ∧ ((∀ b ∈ bx, w.heap[b.1]? = some b.2 ∧ ¬ O b.1) ∧ ∀ t ∈ ts, t.In (fun k => k < w.heap.size ∧ ¬ O k) w) ∧ x.In (fun k => k < w.heap.size ∧ ¬ O k) w := by
  obtain ⟨O, l, h1, h2, h3, h4, hb, ht⟩ := h
  refine ⟨O, l, h1, (h2.turned0 T).wide (fun k hk => ⟨Nat.lt_of_lt_of_le hk.1 T.size, hk.2⟩) (fun k hk => hk), h3, h4.trans T, ⟨fun b hbm => ⟨(T.block _ (Array.getElem?_eq_some_iff.1 (hb b hbm).1).1 (fun f => f)).trans (hb b hbm).1, (hb b hbm).2⟩, fun t htm => (((ht t htm).turned0 T).mono (fun k hk hp => ⟨hk, hp.2⟩))⟩, hx.mono (fun k hk hp => ⟨hk, fun c => ?_⟩)⟩
  have := h2.lt k c
  omega
theorem BK.set (h : BK m bb tr bx ts wA w1) (T : Turned (fun _ => False) w1 w) (hx : x.In (fun k => w1.heap.size ≤ k) w) (hs : slim x) (n : Int) (h64 : I64 n) (hE : Tm.setE m tr n x.bare = 0) :
    Calls Try.prog 88 #[.pointer (some ⟨bb, 0, none⟩), .int .i64 n, .agg #[.int .i64 x.kind, .int .i64 x.n, .string x.name, .slice x.at_.1 x.args.length x.at_.2]] w fun e w' => e = .returned (.int .i64 0) ∧ BK m bb ((n, x.bare) :: tr) bx ts wA w' := by
  obtain ⟨O, l, rfl, h2, h3, h4, ⟨hb, ht⟩, h5⟩ := h.term T hx
  have := setO88 h2 h5 hs n h64
  rw [LT.val_eq, hE] at this
  refine this.mono ?_
  rintro e w' ⟨rfl, l', hl, ha⟩
  refine ⟨rfl, ?_⟩
  rw [if_pos rfl] at hl
  rw [← hl]
  exact BK.after h3 h4 hb ht ha
theorem BK.whole (h : BK m bb tr bx ts wA w1) (T : Turned (fun _ => False) w1 w) (hx : x.In (fun k => w1.heap.size ≤ k) w) (hs : slim x) {E : Int} (hE : wholeE m tr x.bare = E) :
    Calls Try.prog 89 #[.pointer (some ⟨bb, 0, none⟩), .agg #[.int .i64 x.kind, .int .i64 x.n, .string x.name, .slice x.at_.1 x.args.length x.at_.2]] w fun e w' => ∃ u : LT, e = .returned (.tuple #[.agg #[.int .i64 u.kind, .int .i64 u.n, .string u.name, .slice u.at_.1 u.args.length u.at_.2], .int .i64 E]) ∧ u.bare = wholeT m tr x.bare ∧ BK m bb tr bx (u :: ts) wA w' ∧ Turned (fun _ => False) w w' := by
  obtain ⟨O, l, rfl, h2, h3, h4, ⟨hb, ht⟩, h5⟩ := h.term T hx
  have hl := h2.lt
  have hBK : BK m bb (bt l) bx ts wA w := ⟨O, l, rfl, h2, h3, h4, hb, ht⟩
  refine (wholeVal h2 h5 hs hE).mono ?_
  rintro e w' ⟨u, h1, hu2, hu3, T4⟩
  refine ⟨u, h1, hu2, ?_, T4⟩
  refine ⟨O, l, rfl, (h2.turned0 T4).wide (fun k hk => ⟨Nat.lt_of_lt_of_le hk.1 T4.size, hk.2⟩) (fun k hk => hk), h3, h4.trans T4, fun b hbm => ⟨(T4.block _ (Array.getElem?_eq_some_iff.1 (hb b hbm).1).1 (fun f => f)).trans (hb b hbm).1, (hb b hbm).2⟩, fun t htm => ?_⟩
  rcases List.mem_cons.1 htm with rfl | htm
  · exact hu3.mono (fun k hk hp => ⟨hk, fun c => by rcases hp with hp | hp; (exact hp.2 c); (have := hl k c; omega)⟩)
  · exact (((ht t htm).turned0 T4).mono (fun k hk hp => ⟨hk, hp.2⟩))
theorem BK.has (h : BK m bb tr bx ts wA w1) (T : Turned (fun _ => False) w1 w) (hx : x.In (fun k => w1.heap.size ≤ k) w) (hs : slim x) {n most : Int} (hm : most ≤ 100000) (hm0 : 0 ≤ most) {b : Bool} {c : Nat} (hR : hasR m tr n x.bare most.toNat = (b, c)) :
    Calls Try.prog 106 #[.pointer (some ⟨bb, 0, none⟩), .int .i64 n, .agg #[.int .i64 x.kind, .int .i64 x.n, .string x.name, .slice x.at_.1 x.args.length x.at_.2], .int .i64 most] w fun e w' => e = .returned (.tuple #[.bool b, .int .i64 c]) ∧ Turned (fun _ => False) w w' := by
  obtain ⟨O, l, rfl, h2, h3, h4, ⟨hb, ht⟩, h5⟩ := h.term T hx
  have := has106 (n := n) (most := most) h2 h5 hs hm (by omega)
  rw [LT.val_eq, hR] at this
  exact this
theorem BK.len (h : BK m bb tr bx ts wA w) : Calls Try.prog 107 #[.pointer (some ⟨bb, 0, none⟩)] w fun e w' => e = .returned (.int .i64 m) ∧ Turned (fun _ => False) w w' := by
  obtain ⟨O, l, rfl, h2, h3, h4, hb, ht⟩ := h
  exact lenO107 h2
theorem BK.undo (h : BK m bb tr bx ts wA w) (n : Nat) (hn : n ≤ tr.length) : Calls Try.prog 101 #[.pointer (some ⟨bb, 0, none⟩), .int .i64 n] w fun e w' => e = .returned (.bool true) ∧ BK m bb (tr.drop (tr.length - n)) bx ts wA w' := by
  obtain ⟨O, l, rfl, h2, h3, h4, hb, ht⟩ := h
  rw [bt_length] at hn ⊢
  refine (undoO101 h2 n hn).mono ?_
  rintro e w' ⟨rfl, ha⟩
  refine ⟨rfl, ?_⟩
  have := BK.after h3 h4 hb ht ha
  rw [show bt (l.drop (l.length - n)) = (bt l).drop (l.length - n) from by unfold bt; rw [List.map_drop]] at this
  exact this
set_option maxRecDepth 100000 in
set_option maxHeartbeats 1600000 in
theorem undoNo101 {p O : Nat → Prop} {l : TL} (h : BO p bb O m l w) (n : Int) (hn : n < 0 ∨ (l.length : Int) < n) :
    Calls Try.prog 101 #[.pointer (some ⟨bb, 0, none⟩), .int .i64 n] w fun e w' => e = .returned (.bool false) ∧ Turned (fun _ => False) w w' := by
  obtain ⟨sb, lv, tv, B, hO⟩ := h.bi
  have hlen := B.length
  have hmost := B.most
  obtain ⟨n1, n2, n3, n4, n5, n6⟩ := B.ne
  obtain ⟨c0, c1, _⟩ := rec2b B.b
  have hst : Stk (α := Int) 209 2 (Value.int .i64) w 0 sb 65536 tv (l.map (·.1)).reverse := ⟨Nat.zero_le _, fun _ _ => Nat.zero_le _, B.s, by
    have := B.trail
    rw [List.length_reverse, List.length_map, List.map_reverse, List.map_map]
    exact this, n5, by omega, by omega, by rw [List.length_reverse, List.length_map]; omega⟩
  have hu := stkUndoI_no hst n (by rw [List.length_reverse, List.length_map]; exact hn)
  have HU := Lib.hid hu
  clear hu hst B hO h hn hlen hmost
  go_enter Try.func101, Try.ntmps101
  go_wp2_with (go_at_call 151; (with_reducible refine HU.out.mono ?_); rintro e w2 ⟨rfl, rfl⟩)
  go_loopg [20] 0 (fun k i wr => i = .int .i64 0 ∧ wr = w)
  case atStart => exact ⟨rfl, rfl⟩
  case round =>
    obtain ⟨rfl, rfl⟩ := hrel
    go_wp2_with fail
    go_ret
    exact ⟨rfl, Turned.refl _ _⟩
end
end Go.Proofs.Ytoihjobdfjajfaa
namespace Go.Proofs.Ytoihjobdfjajfaa
open Go.RowKit Go.Maps
set_option linter.unusedVariables false
set_option linter.unusedSimpArgs false
def BPQ (N bb wb m mw : Nat) (tr lw : Tm.Trail) (bx : List (Nat × Obj)) (w1 W : World) : Prop := ∃ (q : Nat → Prop) (tl : TL), (∀ k, k < N → q k) ∧ bt tl = tr ∧ ∃ O D, BD2 q bb wb O D m mw tl lw W ∧ (∀ k, O k → N ≤ k) ∧ (∀ k, D k → N ≤ k) ∧ Turned (fun _ => False) w1 W ∧ ∀ b ∈ bx, W.heap[b.1]? = some b.2 ∧ ¬ O b.1 ∧ ¬ D b.1
section
variable {N bb wb m mw : Nat} {tr lw tr' lw' : Tm.Trail} {bx : List (Nat × Obj)} {w1 W W' : World} {x t X : LT} {m' : Nat}
theorem BPQ.turned0 (h : BPQ N bb wb m mw tr lw bx w1 W) (T : Turned (fun _ => False) W W') : BPQ N bb wb m mw tr lw bx w1 W' := by
  obtain ⟨q, l2, h1, h2, O, D, b1, b2, b3, b4, b5⟩ := h
  exact ⟨q, l2, h1, h2, O, D, b1.turned0 T, b2, b3, b4.trans T, fun b hb => ⟨(T.block _ (Array.getElem?_eq_some_iff.1 (b5 b hb).1).1 (fun f => f)).trans (b5 b hb).1, (b5 b hb).2⟩⟩
theorem BPQ.old (h : BPQ N bb wb m mw tr lw bx w1 W) : Turned (fun _ => False) w1 W := by obtain ⟨q, l2, h1, h2, O, D, b1, b2, b3, b4, b5⟩ := h; exact b4
theorem BPQ.ok (h : BPQ N bb wb m mw tr lw bx w1 W) : Tm.okT m tr := by obtain ⟨q, l2, h1, rfl, O, D, b1, _⟩ := h; exact b1.b.ok
theorem BPQ.most (h : BPQ N bb wb m mw tr lw bx w1 W) : m ≤ 65536 := by obtain ⟨q, l2, h1, rfl, O, D, b1, _⟩ := h; exact b1.b.most
theorem BPQ.boxes (h : BPQ N bb wb m mw tr lw bx w1 W) : ∀ b ∈ bx, W.heap[b.1]? = some b.2 := by obtain ⟨q, l2, h1, h2, O, D, b1, b2, b3, b4, b5⟩ := h; exact fun b hb => (b5 b hb).1
theorem BPQ.drop (h : BPQ N bb wb m mw tr lw bx w1 W) : BPQ N bb wb m mw tr lw [] w1 W := by obtain ⟨q, l2, h1, h2, O, D, b1, b2, b3, b4, b5⟩ := h; exact ⟨q, l2, h1, h2, O, D, b1, b2, b3, b4, fun b hb => by cases hb⟩
theorem BPQ.box (h : BPQ N bb wb m mw tr lw bx w1 W) (o : Obj) : BPQ N bb wb m mw tr lw ((W.heap.size, o) :: bx) w1 (W.alloc o) := by
  have T := (Turned.refl (fun _ => False) W).alloc o
  obtain ⟨q, l2, h1, h2, O, D, b1, b2, b3, b4, b5⟩ := h
  refine ⟨q, l2, h1, h2, O, D, b1.turned0 T, b2, b3, b4.trans T, fun b hb => ?_⟩
  rcases List.mem_cons.1 hb with rfl | hb
  · exact ⟨heap_alloc_new W o, fun c => Nat.lt_irrefl _ (b1.b.lt _ c), fun c => Nat.lt_irrefl _ (b1.d.lt _ c)⟩
  · exact ⟨(T.block _ (Array.getElem?_eq_some_iff.1 (b5 b hb).1).1 (fun f => f)).trans (b5 b hb).1, (b5 b hb).2⟩
theorem BPQ.stepB {q O D : Nat → Prop} {l l' : TL} (hN : N = w1.heap.size) (h1 : ∀ k, k < N → q k) (b1 : BD2 q bb wb O D m mw l lw W) (b2 : ∀ k, O k → N ≤ k) (b3 : ∀ k, D k → N ≤ k) (b4 : Turned (fun _ => False) w1 W) (b5 : ∀ b ∈ bx, W.heap[b.1]? = some b.2 ∧ ¬ O b.1 ∧ ¬ D b.1) (hl : bt l' = tr') (ha : After q bb O m' l' W W') : BPQ N bb wb m' mw tr' lw bx w1 W' := by
  obtain ⟨O', a1, a2, a3⟩ := b1.stepB ha
  refine ⟨q, l', h1, hl, O', D, a1, fun k hk => ?_, b3, b4.step a3 (fun i hi e => by have := b2 i e; omega), fun b hb => ?_⟩
  · rcases Nat.lt_or_ge k W.heap.size with h | h
    · exact b2 k (a2 k hk h)
    · have := b4.size; omega
  · obtain ⟨c1, c2, c3⟩ := b5 b hb
    have hlt := (Array.getElem?_eq_some_iff.1 c1).1
    exact ⟨(a3.block _ hlt c2).trans c1, fun e => c2 (a2 _ e hlt), c3⟩
theorem BPQ.stepD {q O D : Nat → Prop} {l : TL} (hN : N = w1.heap.size) (h1 : ∀ k, k < N → q k) (b1 : BD2 q bb wb O D m mw l lw W) (b2 : ∀ k, O k → N ≤ k) (b3 : ∀ k, D k → N ≤ k) (b4 : Turned (fun _ => False) w1 W) (b5 : ∀ b ∈ bx, W.heap[b.1]? = some b.2 ∧ ¬ O b.1 ∧ ¬ D b.1) (hl : bt l = tr) (ha : AfterD q wb D m' lw' W W') : BPQ N bb wb m m' tr lw' bx w1 W' := by
  obtain ⟨D', a1, a2, a3⟩ := b1.stepD ha
  refine ⟨q, l, h1, hl, O, D', a1, b2, fun k hk => ?_, b4.step a3 (fun i hi e => by have := b3 i e; omega), fun b hb => ?_⟩
  · rcases Nat.lt_or_ge k W.heap.size with h | h
    · exact b3 k (a2 k hk h)
    · have := b4.size; omega
  · obtain ⟨c1, c2, c3⟩ := b5 b hb
    have hlt := (Array.getElem?_eq_some_iff.1 c1).1
    exact ⟨(a3.block _ hlt c3).trans c1, c2, fun e => c3 (a2 _ e hlt)⟩
theorem bpSet (hN : N = w1.heap.size) (h : BPQ N bb wb m mw tr lw bx w1 W) (hx : x.In (fun k => k < N) W) (hs : slim x) (n : Int) (hn : I64 n) :
    Calls Try.prog 88 #[.pointer (some ⟨bb, 0, none⟩), .int .i64 n, .agg #[.int .i64 x.kind, .int .i64 x.n, .string x.name, .slice x.at_.1 x.args.length x.at_.2]] W fun e w' => e = .returned (.int .i64 (Tm.setE m tr n x.bare)) ∧ BPQ N bb wb m mw (if Tm.setE m tr n x.bare = 0 then (n, x.bare) :: tr else tr) lw bx w1 w' := by
  obtain ⟨q, l2, h1, rfl, O, D, b1, b2, b3, b4, b5⟩ := h
  have := setO88 b1.b (hx.mono (fun k _ hk => h1 k hk)) hs n hn
  rw [LT.val_eq] at this
  refine this.mono ?_
  rintro e w' ⟨rfl, l', hl, ha⟩
  exact ⟨rfl, BPQ.stepB hN h1 b1 b2 b3 b4 b5 hl ha⟩
theorem bpOwn {u : LT} {w : World} (hu : u.In (fun _ => True) w) (hs : slim u) : Calls Try.prog 98 #[.agg #[.int .i64 u.kind, .int .i64 u.n, .string u.name, .slice u.at_.1 u.args.length u.at_.2]] w fun e w' => ∃ o : LT, e = .returned (.agg #[.int .i64 o.kind, .int .i64 o.n, .string o.name, .slice o.at_.1 o.args.length o.at_.2]) ∧ o.bare = u.bare ∧ o.In (fun k => w.heap.size ≤ k) w' ∧ Turned (fun _ => False) w w' := by
  have := own98 u.depth u w (Nat.le_refl _) hu hs
  rw [LT.val_eq] at this
  refine this.mono ?_
  rintro e w' ⟨o, rfl, h1, h2, h3⟩
  exact ⟨o, by rw [LT.val_eq], h1, h2, h3⟩
theorem bpKnown {p : Nat → Prop} (h : BPQ N bb wb m mw tr lw bx w1 W) (hX : X.In p W) {b : Bool} (hb : Tm.ownB mw X.bare = b) : Calls Try.prog 99 #[.pointer (some ⟨wb, 0, none⟩), .agg #[.int .i64 X.kind, .int .i64 X.n, .string X.name, .slice X.at_.1 X.args.length X.at_.2]] W fun e w' => e = .returned (.bool b) ∧ Turned (fun _ => False) W w' := by
  obtain ⟨q, l2, h1, rfl, O, D, b1, b2, b3, b4, b5⟩ := h
  have := known99 b1.d hX
  rw [← ownB_bare, hb, LT.val_eq] at this
  exact this
theorem bpHasD {W0 : World} {n most : Int} (h : BPQ N bb wb m mw tr lw bx w1 W0) (T : Turned (fun _ => False) W0 W) (hX : X.In (fun k => W0.heap.size ≤ k) W) (hm : most ≤ 100000) (hm0 : -9223372036854775808 ≤ most) {b : Bool} {c : Nat} (hR : hasR mw lw n X.bare most.toNat = (b, c)) :
    Calls Try.prog 100 #[.pointer (some ⟨wb, 0, none⟩), .int .i64 n, .agg #[.int .i64 X.kind, .int .i64 X.n, .string X.name, .slice X.at_.1 X.args.length X.at_.2], .int .i64 most] W fun e w' => e = .returned (.tuple #[.bool b, .int .i64 c]) ∧ Turned (fun _ => False) W w' := by
  obtain ⟨q, l2, h1, rfl, O, D, b1, b2, b3, b4, b5⟩ := h
  have := has100 (n := n) (most := most) (b1.grown T).d (hX.mono (fun k hk h => .inr ⟨h, hk⟩)) hm hm0
  rw [hR, LT.val_eq] at this
  exact this
theorem bpWholeD {W0 : World} {E : Int} (h : BPQ N bb wb m mw tr lw bx w1 W0) (T : Turned (fun _ => False) W0 W) (hX : X.In (fun k => W0.heap.size ≤ k) W) (hE : wholeE mw lw X.bare = E) :
    Calls Try.prog 105 #[.pointer (some ⟨wb, 0, none⟩), .agg #[.int .i64 X.kind, .int .i64 X.n, .string X.name, .slice X.at_.1 X.args.length X.at_.2]] W fun e w' => ∃ u : LT, e = .returned (.tuple #[.agg #[.int .i64 u.kind, .int .i64 u.n, .string u.name, .slice u.at_.1 u.args.length u.at_.2], .int .i64 E]) ∧ u.bare = wholeT mw lw X.bare ∧ u.In (fun _ => True) w' ∧ Turned (fun _ => False) W w' := by
  obtain ⟨q, l2, h1, rfl, O, D, b1, b2, b3, b4, b5⟩ := h
  have := whole105 (b1.grown T).d (hX.mono (fun k hk h => .inr ⟨h, hk⟩))
  rw [LT.val_eq] at this
  refine this.mono ?_
  rintro e w' ⟨u, rfl, h1, h2, h3⟩
  exact ⟨u, by rw [hE], h1, h2.mono (fun _ _ _ => trivial), h3⟩
theorem bpWhole {E : Int} (h : BPQ N bb wb m mw tr lw bx w1 W) (hx : x.In (fun k => k < N) W) (hs : slim x) (hE : wholeE m tr x.bare = E) :
    Calls Try.prog 89 #[.pointer (some ⟨bb, 0, none⟩), .agg #[.int .i64 x.kind, .int .i64 x.n, .string x.name, .slice x.at_.1 x.args.length x.at_.2]] W fun e w' => ∃ u : LT, e = .returned (.tuple #[.agg #[.int .i64 u.kind, .int .i64 u.n, .string u.name, .slice u.at_.1 u.args.length u.at_.2], .int .i64 E]) ∧ u.bare = wholeT m tr x.bare ∧ u.In (fun _ => True) w' ∧ slim u ∧ Turned (fun _ => False) W w' := by
  obtain ⟨q, l2, h1, rfl, O, D, b1, b2, b3, b4, b5⟩ := h
  refine (wholeVal b1.b (hx.mono (fun k _ hk => h1 k hk)) hs hE).mono ?_
  rintro e w' ⟨u, rfl, hu, hi, T⟩
  exact ⟨u, rfl, hu, hi.mono (fun _ _ _ => trivial), wholeSlim b1.b.ok hu, T⟩
theorem bpHas {n most : Int} (h : BPQ N bb wb m mw tr lw bx w1 W) (hx : x.In (fun k => k < N) W) (hs : slim x) (hm : most ≤ 100000) (hm0 : -9223372036854775808 ≤ most) {b : Bool} {c : Nat} (hR : hasR m tr n x.bare most.toNat = (b, c)) :
    Calls Try.prog 106 #[.pointer (some ⟨bb, 0, none⟩), .int .i64 n, .agg #[.int .i64 x.kind, .int .i64 x.n, .string x.name, .slice x.at_.1 x.args.length x.at_.2], .int .i64 most] W fun e w' => e = .returned (.tuple #[.bool b, .int .i64 c]) ∧ Turned (fun _ => False) W w' := by
  obtain ⟨q, l2, h1, rfl, O, D, b1, b2, b3, b4, b5⟩ := h
  have := has106 (n := n) (most := most) b1.b (hx.mono (fun k _ hk => h1 k hk)) hs hm hm0
  rw [hR, LT.val_eq] at this
  exact this
def undoT (tr : Tm.Trail) (n : Int) : Tm.Trail := if 0 ≤ n ∧ n ≤ tr.length then tr.drop (tr.length - n.toNat) else tr
def undoB (tr : Tm.Trail) (n : Int) : Bool := decide (0 ≤ n ∧ n ≤ (tr.length : Int))
theorem bpUndo (hN : N = w1.heap.size) (h : BPQ N bb wb m mw tr lw bx w1 W) (n : Int) :
    Calls Try.prog 101 #[.pointer (some ⟨bb, 0, none⟩), .int .i64 n] W fun e w' => e = .returned (.bool (undoB tr n)) ∧ BPQ N bb wb m mw (undoT tr n) lw bx w1 w' := by
  obtain ⟨q, l2, h1, rfl, O, D, b1, b2, b3, b4, b5⟩ := h
  have hlen := bt_length l2
  by_cases hn : 0 ≤ n ∧ n ≤ ((bt l2).length : Int)
  · obtain ⟨k, rfl⟩ : ∃ k : Nat, n = k := ⟨n.toNat, by omega⟩
    refine (undoO101 b1.b k (by omega)).mono ?_
    rintro e w' ⟨rfl, ha⟩
    refine ⟨by unfold undoB; rw [decide_eq_true hn], BPQ.stepB hN h1 b1 b2 b3 b4 b5 ?_ ha⟩
    unfold undoT
    rw [if_pos hn, Int.toNat_natCast, hlen]
    unfold bt
    rw [List.map_drop]
  · refine (undoNo101 b1.b n (by omega)).mono ?_
    rintro e w' ⟨rfl, T⟩
    exact ⟨by unfold undoB; rw [decide_eq_false hn], q, l2, h1, by unfold undoT; rw [if_neg hn], O, D, b1.turned0 T, b2, b3, b4.trans T, fun b hb => ⟨(T.block _ (Array.getElem?_eq_some_iff.1 (b5 b hb).1).1 (fun f => f)).trans (b5 b hb).1, (b5 b hb).2⟩⟩
set_option maxRecDepth 100000 in
set_option maxHeartbeats 1600000 in
theorem undoNoD {p O : Nat → Prop} {w : World} (h : DO p wb O m tr w) (n : Int) (hn : n < 0 ∨ (tr.length : Int) < n) :
    Calls Try.prog 102 #[.pointer (some ⟨wb, 0, none⟩), .int .i64 n] w fun e w' => e = .returned (.bool false) ∧ Turned (fun _ => False) w w' := by
  obtain ⟨ta, ia, ra, tc, ic, rc, us, is, D, R, hlu, hli, hO⟩ := h.parts
  obtain ⟨b0, b1, b2, f0, f1, f2⟩ := rec3b D.b
  clear h D R hO
  by_cases h0 : n < 0
  · have d1 : decide (n < 0) = true := decide_eq_true h0
    go_enter Try.func102, Try.ntmps102
    go_wp2_with fail
    go_ret
    exact ⟨rfl, Turned.refl _ _⟩
  · have d1 : decide (n < 0) = false := decide_eq_false h0
    have d2 : decide ((tr.length : Int) < n) = true := decide_eq_true (by omega)
    go_enter Try.func102, Try.ntmps102
    go_wp2_with fail
    go_ret
    exact ⟨rfl, Turned.refl _ _⟩
theorem bpUndoD (hN : N = w1.heap.size) (h : BPQ N bb wb m mw tr lw bx w1 W) (n : Int) :
    Calls Try.prog 102 #[.pointer (some ⟨wb, 0, none⟩), .int .i64 n] W fun e w' => e = .returned (.bool (undoB lw n)) ∧ BPQ N bb wb m mw tr (undoT lw n) bx w1 w' := by
  obtain ⟨q, l2, h1, rfl, O, D, b1, b2, b3, b4, b5⟩ := h
  by_cases hn : 0 ≤ n ∧ n ≤ (lw.length : Int)
  · obtain ⟨k, rfl⟩ : ∃ k : Nat, n = k := ⟨n.toNat, by omega⟩
    refine (undoD b1.d k (by omega)).mono ?_
    rintro e w' ⟨rfl, ha⟩
    refine ⟨by unfold undoB; rw [decide_eq_true hn], ?_⟩
    unfold undoT
    rw [if_pos hn, Int.toNat_natCast]
    exact BPQ.stepD hN h1 b1 b2 b3 b4 b5 rfl ha
  · refine (undoNoD b1.d n (by omega)).mono ?_
    rintro e w' ⟨rfl, T⟩
    exact ⟨by unfold undoB; rw [decide_eq_false hn], by unfold undoT; rw [if_neg hn]; exact ⟨q, l2, h1, rfl, O, D, b1.turned0 T, b2, b3, b4.trans T, fun b hb => ⟨(T.block _ (Array.getElem?_eq_some_iff.1 (b5 b hb).1).1 (fun f => f)).trans (b5 b hb).1, (b5 b hb).2⟩⟩⟩
theorem bpFresh (hN : N = w1.heap.size) (h : BPQ N bb wb m mw tr lw bx w1 W) (hm : m < 65536) :
    Calls Try.prog 87 #[.pointer (some ⟨bb, 0, none⟩)] W fun e w' => e = .returned (.tuple #[.agg #[.int .i64 0, .int .i64 (m : Int), .string ByteArray.empty, .slice none 0 0], .bool true]) ∧ BPQ N bb wb (m + 1) mw tr lw bx w1 w' := by
  obtain ⟨q, l2, h1, rfl, O, D, b1, b2, b3, b4, b5⟩ := h
  refine (freshO87 b1.b hm).mono ?_
  rintro e w' ⟨rfl, ha⟩
  exact ⟨rfl, BPQ.stepB hN h1 b1 b2 b3 b4 b5 rfl ha⟩
theorem bpFreshD (hN : N = w1.heap.size) (h : BPQ N bb wb m mw tr lw bx w1 W) (hm : mw < 65536) :
    Calls Try.prog 103 #[.pointer (some ⟨wb, 0, none⟩)] W fun e w' => e = .returned (.tuple #[.agg #[.int .i64 0, .int .i64 (mw : Int), .string ByteArray.empty, .slice none 0 0], .bool true]) ∧ BPQ N bb wb m (mw + 1) tr lw bx w1 w' := by
  obtain ⟨q, l2, h1, rfl, O, D, b1, b2, b3, b4, b5⟩ := h
  refine (freshD b1.d hm).mono ?_
  rintro e w' ⟨rfl, ha⟩
  exact ⟨rfl, BPQ.stepD hN h1 b1 b2 b3 b4 b5 rfl ha⟩
theorem bpAlike (h : BPQ N bb wb m m tr tr bx w1 W) : Calls Try.prog 104 #[.pointer (some ⟨bb, 0, none⟩), .pointer (some ⟨wb, 0, none⟩), .int .i64 (m : Int)] W fun e w' => e = .returned (.bool true) ∧ Turned (fun _ => False) W w' := by
  have hm := h.most
  obtain ⟨q, l2, g1, rfl, O, D, b1, b2, b3, b4, b5⟩ := h
  exact alike104 b1 m hm
theorem bpBoth (w : World) : Calls Try.prog 97 #[.int .i64 6] w fun e w' => ∃ bb wb, e = .returned (.tuple #[.pointer (some ⟨bb, 0, none⟩), .pointer (some ⟨wb, 0, none⟩)]) ∧ BPQ w.heap.size bb wb 6 6 [] [] [] w w' := by
  refine (both97 6 (by omega) w).mono ?_
  rintro e w' ⟨bb, wb, rfl, hB⟩
  obtain ⟨O, D, b1, b2, b3, b4⟩ := hB
  exact ⟨bb, wb, rfl, fun k => k < w.heap.size, [], fun _ h => h, rfl, O, D, b1, b2, b3, b4, fun b hb => by cases hb⟩
theorem bpDeep (k : Nat) (t : LT) (W : World) (n : Int) (hn : n = (k : Int)) (hk : k ≤ 1000) {p : Nat → Prop} (h : t.In p W) : Calls Try.prog 85 #[.agg #[.int .i64 t.kind, .int .i64 t.n, .string t.name, .slice t.at_.1 t.args.length t.at_.2], .int .i64 n] W fun e w' => e = .returned (.bool (deepB k t)) ∧ Turned (fun _ => False) W w' := by
  subst hn
  have := deep85 p k t W hk h
  rw [LT.val_eq] at this
  exact this
end
theorem bind_db {p : Nat → Prop} {wb gt gi m ct ci N g cap : Nat} {rv : Value} {us : List LT} {is : List Bool} {tr : List Int} {w W : World} {t : LT} (D : DB p wb (.slice (some ⟨gt, 0, none⟩) m ct) (.slice (some ⟨gi, 0, none⟩) m ci) rv us is tr w) (hu : us.length = m) (hi : is.length = m) (ht : t.In p w)
    (T : Turned (fun k => (k = gt ∨ k = gi) ∨ k = wb ∨ rv.ownBlock = some k) w W) (g1 : Row W 41 4 (.slice (some ⟨gt, 0, none⟩) m ct) m ((us.set N t).flatMap LT.cells)) (g2 : Row W 4 1 (.slice (some ⟨gi, 0, none⟩) m ci) m ((is.set N true).map Value.bool)) (g3 : Row W 2 1 (.slice (some ⟨g, 0, none⟩) (tr.length + 1) cap) (tr.length + 1) (tr.map (Value.int .i64) ++ [.int .i64 (N : Int)])) (hg : some g = rv.ownBlock ∨ w.heap.size ≤ g)
    (hb : W.heap[wb]? = some (.cells #[.slice (some ⟨gt, 0, none⟩) m ct, .slice (some ⟨gi, 0, none⟩) m ci, .slice (some ⟨g, 0, none⟩) (tr.length + 1) cap] 113 (0, 0))) :
    DB p wb (.slice (some ⟨gt, 0, none⟩) m ct) (.slice (some ⟨gi, 0, none⟩) m ci) (.slice (some ⟨g, 0, none⟩) (tr.length + 1) cap) (us.set N t) (is.set N true) (tr ++ [(N : Int)]) W := by
  have hne := D.ne
  have hlt := D.own_lt
  have hgl : gt ≠ g ∧ gi ≠ g ∧ wb ≠ g := by
    rcases hg with e | e
    · exact ⟨fun c => (hne.2.2.2.1 gt rfl).2 (by rw [c]; exact e.symm), fun c => hne.2.2.2.2 gi rfl (by rw [c]; exact e.symm), fun c => hne.2.2.1 (by rw [c]; exact e.symm)⟩
    · have h1 := hlt gt (.inr (.inl rfl))
      have h2 := hlt gi (.inr (.inr (.inl rfl)))
      have h3 := hlt wb (.inl rfl)
      omega
  have hgg : gt ≠ gi := fun e => (hne.2.2.2.1 gt rfl).1 (by rw [e]; rfl)
  have hgw : gt ≠ wb := fun e => hne.1 (by rw [e]; rfl)
  have hiw : gi ≠ wb := fun e => hne.2.1 (by rw [e]; rfl)
  refine ⟨hb, by rw [List.length_set, hu]; exact g1, by rw [List.length_set, hi]; exact g2, by rw [List.length_append, List.map_append]; exact g3, by rw [List.length_set, List.length_set]; exact D.same, ?_, by rw [List.length_set]; exact D.most, ?_, ?_⟩
  · have keep : ∀ z : LT, z.In p w → z.In p W := fun z hz => LT.In.turned T (fun k _ hk e => (D.sep k hk).2 (by
      rcases e with (e | e) | e | e
      · exact .inr (.inl (by rw [e]; rfl))
      · exact .inr (.inr (.inl (by rw [e]; rfl)))
      · exact .inl e
      · exact .inr (.inr (.inr e)))) (fun _ _ q => q) _ hz
    rw [LT.ins_iff]
    intro y hy
    rcases List.mem_or_eq_of_mem_set hy with hy | rfl
    · exact keep y ((LT.ins_iff _).1 D.ins y hy)
    · exact keep y ht
  · refine ⟨by simp [Value.ownBlock]; omega, by simp [Value.ownBlock]; omega, by simp [Value.ownBlock]; omega, fun k hk => ?_, fun k hk => ?_⟩
    · simp [Value.ownBlock] at hk ⊢; omega
    · simp [Value.ownBlock] at hk ⊢; omega
  · intro k hk
    obtain ⟨s1, s2⟩ := D.sep k hk
    refine ⟨Nat.lt_of_lt_of_le s1 T.size, ?_⟩
    rintro (e | e | e | e)
    · exact s2 (.inl e)
    · exact s2 (.inr (.inl e))
    · exact s2 (.inr (.inr (.inl e)))
    · simp [Value.ownBlock] at e
      rcases hg with e3 | e3
      · exact s2 (.inr (.inr (.inr (by rw [← e]; exact e3.symm))))
      · omega
theorem bindAfter {p O : Nat → Prop} {wb m gt gi ct ci N : Nat} {l : Tm.Trail} {rv rv' : Value} {us : List LT} {is : List Bool} {w w' : World} {t : LT} (h : DO p wb O m l w) (hO : ∀ k, ownD wb (.slice (some ⟨gt, 0, none⟩) m ct) (.slice (some ⟨gi, 0, none⟩) m ci) rv k → O k) (R : DT m l us is (Tm.dom l).reverse) (hli : is.length = m) (hN : N < m) (hE : Tm.okT m (((N : Int), t.bare) :: l))
    (D' : DB p wb (.slice (some ⟨gt, 0, none⟩) m ct) (.slice (some ⟨gi, 0, none⟩) m ci) rv' (us.set N t) (is.set N true) ((Tm.dom l).reverse ++ [(N : Int)]) w') (T : Turned (fun k => (k = gt ∨ k = gi) ∨ k = wb ∨ rv.ownBlock = some k) w w') (ho : ∀ k, rv'.ownBlock = some k → rv.ownBlock = some k ∨ w.heap.size ≤ k) : AfterD p wb O m (((N : Int), t.bare) :: l) w w' := by
  refine ⟨fun k => ownD wb (.slice (some ⟨gt, 0, none⟩) m ct) (.slice (some ⟨gi, 0, none⟩) m ci) rv' k ∨ (O k ∧ k < w.heap.size), ⟨⟨_, _, rv', _, _, _, D', R.bound rfl hN hli hE, fun k hk => .inl hk⟩, fun k hk => hk.elim (D'.own_lt k) (fun e => Nat.lt_of_lt_of_le e.2 T.size), fun k hk c => ?_⟩, fun k hk hl => ?_, T.mono (fun k _ e => hO k (by
    rcases e with (e | e) | e | e
    · exact .inr (.inl (by rw [e]; rfl))
    · exact .inr (.inr (.inl (by rw [e]; rfl)))
    · exact .inl e
    · exact .inr (.inr (.inr e))))⟩
  · rcases c with c | c
    · exact (D'.sep k hk).2 c
    · exact h.sep k hk c.1
  · rcases hk with hk | hk
    · rcases hk with e | e | e | e
      · exact hO k (.inl e)
      · exact hO k (.inr (.inl e))
      · exact hO k (.inr (.inr (.inl e)))
      · rcases ho k e with e | e
        · exact hO k (.inr (.inr (.inr e)))
        · omega
    · exact hk.1
def AppB (rv : Value) (n : Nat) (xs : List Value) (N : Int) (wb : Nat) (A B : Value) (w0 : World) : List Value → World → Prop
  | [], W => Turned (fun _ => False) w0 W
  | [s], W => Turned (fun _ => False) w0 W ∧ ∃ g0, s = .slice (some ⟨g0, 0, none⟩) 1 1 ∧ W.heap[g0]? = some (.cells #[.int .i64 N] 2 (0, 0))
  | [_, a], W => ∃ g cap, a = .slice (some ⟨g, 0, none⟩) (n + 1) cap ∧ Row W 2 1 (.slice (some ⟨g, 0, none⟩) (n + 1) cap) (n + 1) (xs ++ [.int .i64 N]) ∧ (some g = rv.ownBlock ∨ w0.heap.size ≤ g) ∧ Turned (fun k => rv.ownBlock = some k) w0 W
  | [_, _, _], W => ∃ g cap, Row W 2 1 (.slice (some ⟨g, 0, none⟩) (n + 1) cap) (n + 1) (xs ++ [.int .i64 N]) ∧ (some g = rv.ownBlock ∨ w0.heap.size ≤ g) ∧ Turned (fun k => k = wb ∨ rv.ownBlock = some k) w0 W ∧ W.heap[wb]? = some (.cells #[A, B, .slice (some ⟨g, 0, none⟩) (n + 1) cap] 113 (0, 0))
  | _, _ => False
section
variable {rv A B : Value} {n : Nat} {xs : List Value} {N : Int} {wb : Nat} {w0 : World}
theorem AppB.turned0 : ∀ (hs : List Value) (w w' : World), AppB rv n xs N wb A B w0 hs w → Turned (fun _ => False) w w' → AppB rv n xs N wb A B w0 hs w'
  | [], _, _, h, T => Turned.trans h T
  | [_], _, _, ⟨h1, g0, h2, h3⟩, T => ⟨h1.trans T, g0, h2, (T.block _ (Array.getElem?_eq_some_iff.1 h3).1 (fun f => f)).trans h3⟩
  | [_, _], _, _, ⟨g, cap, h1, h2, h3, h4⟩, T => ⟨g, cap, h1, h2.turned0 T, h3, h4.trans (T.mono (fun _ _ f => f.elim))⟩
  | [_, _, _], _, _, ⟨g, cap, h2, h3, h4, h5⟩, T => ⟨g, cap, h2.turned0 T, h3, h4.trans (T.mono (fun _ _ f => f.elim)), (T.block _ (Array.getElem?_eq_some_iff.1 h5).1 (fun f => f)).trans h5⟩
  | _ :: _ :: _ :: _ :: _, _, _, h, _ => h.elim
theorem AppB.turned : ∀ (hs : List Value) (W : World), hs.length ≤ 2 → AppB rv n xs N wb A B w0 hs W → Turned (fun k => rv.ownBlock = some k) w0 W
  | [], _, _, h => Turned.mono h (fun _ _ f => f.elim)
  | [_], _, _, h => h.1.mono (fun _ _ f => f.elim)
  | [_, _], _, _, ⟨_, _, _, _, _, h⟩ => h
end
def UndS (b1 b2 : Bool) (Q1 Q2 : World → Prop) (w0 : World) : List Value → World → Prop
  | [], W => Turned (fun _ => False) w0 W
  | [a], W => a = .bool b1 ∧ Q1 W
  | [a, b], W => a = .bool b1 ∧ b = .bool b2 ∧ Q2 W
  | _, _ => False
theorem UndS.turned0 {b1 b2 : Bool} {Q1 Q2 : World → Prop} {w0 : World} (h1 : ∀ W W', Q1 W → Turned (fun _ => False) W W' → Q1 W') (h2 : ∀ W W', Q2 W → Turned (fun _ => False) W W' → Q2 W') : ∀ (hs : List Value) (w w' : World), UndS b1 b2 Q1 Q2 w0 hs w → Turned (fun _ => False) w w' → UndS b1 b2 Q1 Q2 w0 hs w'
  | [], _, _, h, T => Turned.trans h T
  | [_], _, _, h, T => ⟨h.1, h1 _ _ h.2 T⟩
  | [_, _], _, _, h, T => ⟨h.1, h.2.1, h2 _ _ h.2.2 T⟩
  | _ :: _ :: _ :: _, _, _, h, _ => h.elim
end Go.Proofs.Ytoihjobdfjajfaa
namespace Go.Proofs.Ytoihjobdfjajfaa
set_option linter.unusedVariables false
set_option linter.unusedSimpArgs false
open Go.RowKit
theorem flat4_at {α : Type} (f : α → List Value) (hf : ∀ x, (f x).length = 4) {l : List α} {i : Nat} {x : α} (h : l[i]? = some x) (j : Nat) (hj : j < 4) : (l.flatMap f)[i * 4 + j]? = (f x)[j]? := by
  induction l generalizing i with
  | nil => simp at h
  | cons y l ih =>
    rw [List.flatMap_cons]
    cases i with
    | zero =>
      simp at h; subst h
      rw [List.getElem?_append_left (by rw [hf]; omega), Nat.zero_mul, Nat.zero_add]
    | succ i =>
      simp at h
      rw [List.getElem?_append_right (by rw [hf]; omega), hf]
      have : (i + 1) * 4 + j - 4 = i * 4 + j := by omega
      rw [this]
      exact ih h
def Key.cells (k : Key) : List Value := [.int .i64 k.kind, .int .i64 k.n, .string k.name, .int .i64 k.arity]
structure KSl (w : World) (a : Option Addr) (c : Nat) (ks : List Key) : Prop where
  none_ : a = none → ks.length = 0 ∧ c = 0
  lies : 0 < ks.length → ∃ b o, a = some ⟨b, o, none⟩ ∧ ∀ j u, (ks.flatMap Key.cells)[j]? = some u → w.cell? ⟨b, o + j, none⟩ = some u
  cap : ks.length ≤ c
  max : c ≤ 9223372036854775807
theorem KSl.turned {S : Nat → Prop} {w w' : World} {a : Option Addr} {c : Nat} {ks : List Key} (h : KSl w a c ks) (ht : Turned S w w') (hS : ∀ b o, a = some ⟨b, o, none⟩ → ¬ S b) : KSl w' a c ks := by
  refine ⟨h.none_, fun hp => ?_, h.cap, h.max⟩
  obtain ⟨b, o, he, hc⟩ := h.lies hp
  exact ⟨b, o, he, fun j u hu => ht.cell (hc j u hu) (hS b o he)⟩
theorem KSl.turned0 {w w' : World} {a : Option Addr} {c : Nat} {ks : List Key} (h : KSl w a c ks) (ht : Turned (fun _ => False) w w') : KSl w' a c ks := h.turned ht (fun _ _ _ f => f)
theorem KSl.at {w : World} {b o c : Nat} {ks : List Key} (h : KSl w (some ⟨b, o, none⟩) c ks) {i : Nat} {x : Key} (hi : ks[i]? = some x) :
    w.cell? ⟨b, o + i * 4, none⟩ = some (.int .i64 x.kind) ∧ w.cell? ⟨b, o + i * 4 + 1, none⟩ = some (.int .i64 x.n) ∧ w.cell? ⟨b, o + i * 4 + 2, none⟩ = some (.string x.name) ∧ w.cell? ⟨b, o + i * 4 + 3, none⟩ = some (.int .i64 x.arity) := by
  obtain ⟨b', o', e, hc⟩ := h.lies (by have := (List.getElem?_eq_some_iff.1 hi).1; omega)
  injection e with e
  injection e with e1 e2
  subst e1 e2
  have hf : ∀ x : Key, x.cells.length = 4 := fun _ => rfl
  refine ⟨hc _ _ ?_, ?_, ?_, ?_⟩
  rotate_left
  all_goals try (rw [Nat.add_assoc]; refine hc _ _ ?_)
  rotate_right
  · have := flat4_at Key.cells hf hi 0 (by omega); rw [Nat.add_zero] at this; rw [this]; rfl
  · rw [flat4_at Key.cells hf hi 1 (by omega)]; rfl
  · rw [flat4_at Key.cells hf hi 2 (by omega)]; rfl
  · rw [flat4_at Key.cells hf hi 3 (by omega)]; rfl
end Go.Proofs.Ytoihjobdfjajfaa
namespace Go.Proofs.Ytoihjobdfjajfaa
set_option linter.unusedVariables false
set_option linter.unusedSimpArgs false
open Go.RowKit Go.Maps
attribute [local go_sem ↓] Go.wp_at_zero Go.wp_at_succ
structure IdxIn (xb mb : Nat) (v : Value) (ks : List Key) (gone : List Int) (w : World) : Prop where
  blk : w.heap[xb]? = some (.cells #[v, .map (some mb)] 147 (0, 0))
  row : Row w 35 4 v ks.length (ks.flatMap Key.cells)
  map : IMap Try.prog 3 w mb gone.length (inSet gone)
  apart : v.ownBlock ≠ some xb
def MineX (xb mb : Nat) (v : Value) (k : Nat) : Prop := k = xb ∨ k = mb ∨ v.ownBlock = some k
section
variable {xb mb : Nat} {v : Value} {ks : List Key} {gone : List Int} {w w' : World}
theorem IdxIn.ne (h : IdxIn xb mb v ks gone w) : mb ≠ xb ∧ v.ownBlock ≠ some mb := by
  obtain ⟨D, ⟨es, clock, hb, _⟩, _⟩ := h.map
  refine ⟨fun e => ?_, fun e => ?_⟩
  · subst e; rw [h.blk] at hb; cases hb
  · rcases h.row.2 with ⟨rfl, _⟩ | ⟨g, cap, cur, rfl, hg, _⟩
    · simp [Value.ownBlock] at e
    · simp [Value.ownBlock] at e; subst e; rw [hg] at hb; cases hb
theorem IdxIn.lt (h : IdxIn xb mb v ks gone w) : ∀ k, MineX xb mb v k → k < w.heap.size := by
  rintro k (rfl | rfl | hk)
  · exact (Array.getElem?_eq_some_iff.1 h.blk).1
  · exact h.map.lt
  · exact h.row.lt k hk
theorem IdxIn.turned {S : Nat → Prop} (h : IdxIn xb mb v ks gone w) (ht : Turned S w w') (hS : ∀ k, k < w.heap.size → S k → ¬ MineX xb mb v k) : IdxIn xb mb v ks gone w' :=
  ⟨(ht.block xb (h.lt xb (.inl rfl)) (fun s => hS _ (h.lt xb (.inl rfl)) s (.inl rfl))).trans h.blk, h.row.turned ht (fun k e s => hS k (h.lt k (.inr (.inr e))) s (.inr (.inr e))),
    h.map.turned ht (fun s => hS _ (h.lt mb (.inr (.inl rfl))) s (.inr (.inl rfl))), h.apart⟩
theorem IdxIn.turned0 (h : IdxIn xb mb v ks gone w) (ht : Turned (fun _ => False) w w') : IdxIn xb mb v ks gone w' := h.turned ht (fun _ _ f => False.elim f)
end
theorem Key.cells_one (k : Key) : ∀ u ∈ k.cells, u.oneCell' = true := by
  intro u hu
  simp only [Key.cells, List.mem_cons, List.not_mem_nil, or_false] at hu
  rcases hu with rfl | rfl | rfl | rfl <;> rfl
end Go.Proofs.Ytoihjobdfjajfaa
namespace Go.Proofs.Ytoihjobdfjajfaa
set_option linter.unusedVariables false
set_option linter.unusedSimpArgs false
open Go.RowKit Go.Maps
attribute [local go_sem ↓] Go.wp_at_zero Go.wp_at_succ
structure ISl (w : World) (a : Option Addr) (c : Nat) (xs : List Int) : Prop where
  none_ : a = none → xs.length = 0 ∧ c = 0
  lies : 0 < xs.length → ∃ b o, a = some ⟨b, o, none⟩ ∧ ∀ (j : Nat) x, xs[j]? = some x → w.cell? ⟨b, o + j, none⟩ = some (.int .i64 x)
  cap : xs.length ≤ c
  max : c ≤ 9223372036854775807
  wf : ∀ x ∈ xs, I64 x
theorem ISl.turned0 {w w' : World} {a : Option Addr} {c : Nat} {xs : List Int} (h : ISl w a c xs) (ht : Turned (fun _ => False) w w') : ISl w' a c xs := by
  refine ⟨h.none_, fun hp => ?_, h.cap, h.max, h.wf⟩
  obtain ⟨b, o, he, hc⟩ := h.lies hp
  exact ⟨b, o, he, fun j u hu => ht.cell (hc j u hu) (fun f => f)⟩
theorem ISl.at {w : World} {b o c : Nat} {xs : List Int} (h : ISl w (some ⟨b, o, none⟩) c xs) {i : Nat} {x : Int} (hi : xs[i]? = some x) : w.cell? ⟨b, o + i, none⟩ = some (.int .i64 x) := by
  obtain ⟨b', o', e, hc⟩ := h.lies (by have := (List.getElem?_eq_some_iff.1 hi).1; omega)
  injection e with e
  injection e with e1 e2
  subst e1 e2
  exact hc _ _ hi
def BIn (lb n : Nat) (f : Nat → Bool) (w : World) : Prop := w.heap[lb]? = some (.cells ((List.range n).map fun i => Value.bool (f i)).toArray 4 (0, 0))
section
variable {lb n : Nat} {f : Nat → Bool} {w w' : World}
theorem BIn.cell (h : BIn lb n f w) {j : Nat} (hj : j < n) : w.cell? ⟨lb, j, none⟩ = some (.bool (f j)) := by
  have c := cell_of_row w lb j _ 4 (0, 0) h
  rw [c]
  simp [hj]
theorem BIn.free (h : BIn lb n f w) (j : Nat) : w.frozen? ⟨lb, j, none⟩ = false := frozen_of_row w lb j _ 4 h
theorem BIn.congr (h : BIn lb n f w) {g : Nat → Bool} (e : ∀ i, i < n → f i = g i) : BIn lb n g w := by
  unfold BIn at h ⊢
  rw [h]
  congr 2
  congr 1
  exact List.map_congr_left fun i hi => by rw [e i (List.mem_range.1 hi)]
theorem BIn.turned {S : Nat → Prop} (h : BIn lb n f w) (ht : Turned S w w') (hS : ¬ S lb) : BIn lb n f w' := (ht.block lb (Array.getElem?_eq_some_iff.1 h).1 hS).trans h
theorem BIn.lt (h : BIn lb n f w) : lb < w.heap.size := (Array.getElem?_eq_some_iff.1 h).1
theorem BIn.set (h : BIn lb n f w) {j : Nat} (hj : j < n) (b : Bool) : BIn lb n (fun i => if i = j then b else f i) (w.setCell ⟨lb, j, none⟩ (.bool b)) := by
  have c := heap_setCell_same w lb j _ 4 (.bool b) h
  unfold BIn
  rw [c]
  congr 2
  apply Array.ext
  · simp
  · intro i h1 h2
    by_cases e : i = j
    · subst e; simp
    · simp [List.getElem_set, e, fun e' : j = i => e e'.symm]
      intro e'; exact absurd e'.symm e
theorem BIn.made (w : World) (n : Nat) : BIn w.heap.size n (fun _ => false) (w.alloc (.cells (madeCells #[.bool false] n) 4)) := by
  have := heap_alloc_new w (.cells (madeCells #[.bool false] n) 4)
  unfold BIn
  rw [this]
  congr 2
  apply Array.toList_inj.1
  rw [toList_madeCells_one, List.map_const', List.length_range]
end
structure AllIn (w0 : World) (xb mb lb n : Nat) (v : Value) (ks : List Key) (gone : List Int) (f : Nat → Bool) (w : World) : Prop where
  idx : IdxIn xb mb v ks gone w
  bools : BIn lb n f w
  apart : ∀ k, MineX xb mb v k → k ≠ lb ∧ w0.heap.size ≤ k
  lbge : w0.heap.size ≤ lb
  turned : Turned (fun _ => False) w0 w
section
variable {w0 : World} {xb mb lb n : Nat} {v v' : Value} {ks ks' : List Key} {gone gone' : List Int} {f : Nat → Bool} {w w' : World}
theorem AllIn.turned0 (h : AllIn w0 xb mb lb n v ks gone f w) (ht : Turned (fun _ => False) w w') : AllIn w0 xb mb lb n v ks gone f w' :=
  ⟨h.idx.turned0 ht, h.bools.turned ht (fun f => f), h.apart, h.lbge, h.turned.trans ht⟩
theorem AllIn.congr (h : AllIn w0 xb mb lb n v ks gone f w) {g : Nat → Bool} (e : ∀ i, i < n → f i = g i) : AllIn w0 xb mb lb n v ks gone g w := ⟨h.idx, h.bools.congr e, h.apart, h.lbge, h.turned⟩
end
end Go.Proofs.Ytoihjobdfjajfaa

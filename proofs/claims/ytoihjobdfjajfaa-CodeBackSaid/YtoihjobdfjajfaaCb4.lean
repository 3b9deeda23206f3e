/- Merged texts: BT3, BU1, BU2, BU3, BU4, MP1, MP2, BL1, MA1, DB1, DB2, DB3, DB4, DB5, DP1, DL1, UB1, UM2, MA2, MA3, MA5, MA6, MA7, MA8, MB2, MB3, MB5, CB9, CB11, MB6, MB7, BB1, CB10, DW1, DW3, DW4, CB12, MC1. -/
import Derived.Test.YtoihjobdfjajfaaCb3
import Derived.Laws.CopyRow
import Derived.Deep.LoopGhost
set_option linter.unusedVariables false
set_option linter.unusedSimpArgs false
namespace Go.Proofs.Ytoihjobdfjajfaa
open Lib (hid)
open Go.RowKit Go.Maps
def remL (l : TL) (todo : List LT) : List (Tm Unit) := todo.reverse.flatMap fun y => (Tm.img (bt l) y.bare).flat
theorem remL_snoc (l : TL) (ys : List LT) (x : LT) : remL l (ys ++ [x]) = (Tm.img (bt l) x.bare).flat ++ remL l ys := by
  unfold remL; rw [List.reverse_append]; rfl
theorem remL_args (l : TL) (ys as_ : List LT) : remL l (ys ++ as_.reverse) = Tm.flats (as_.map fun y => Tm.img (bt l) y.bare) ++ remL l ys := by
  unfold remL; rw [List.reverse_append, List.reverse_reverse, List.flatMap_append]; congr 1
  induction as_ with
  | nil => rfl
  | cons y l ih => simp only [List.flatMap_cons, List.map_cons, Tm.flats, ih]
theorem remL_ne (l : TL) (ys : List LT) (x : LT) : remL l (ys ++ [x]) ≠ [] := by
  rw [remL_snoc, Tm.flat_eq]; simp
structure HasI (p : Nat → Prop) (m : Nat) (w0 : World) (todo : List LT) (v : Value) (w : World) : Prop where
  row : Row w 27 4 v todo.length (todo.flatMap LT.cells)
  own : ∀ g, v.ownBlock = some g → w0.heap.size ≤ g
  mem : ∀ y ∈ todo, y.In p w ∧ given m y
  turned : Turned (fun _ => False) w0 w
  plt : ∀ k, p k → k < w0.heap.size
section
variable {p : Nat → Prop} {m : Nat} {w0 w w' : World} {todo ys : List LT} {x : LT} {v : Value}
theorem HasI.turned0 (h : HasI p m w0 todo v w) (T : Turned (fun _ => False) w w') : HasI p m w0 todo v w' := ⟨h.row.turned0 T, h.own, fun y hy => ⟨(h.mem y hy).1.turned0 T, (h.mem y hy).2⟩, h.turned.trans T, h.plt⟩
theorem HasI.pop {g k cap : Nat} (h : HasI p m w0 (ys ++ [x]) (.slice (some ⟨g, 0, none⟩) k cap) w) : k = ys.length + 1 ∧ HasI p m w0 ys (.slice (some ⟨g, 0, none⟩) ys.length cap) w ∧ ys.length + 1 ≤ cap ∧ cap ≤ maxLen := by
  have hr := h.row
  have hn : k = ys.length + 1 := by
    rcases hr.2 with ⟨e, _⟩ | ⟨g', c', cur, e, _⟩
    · cases e
    · injection e with _ e _; simp at e; exact e
  subst hn
  have hcap : ys.length + 1 ≤ cap ∧ cap ≤ maxLen := by
    rcases hr.2 with ⟨e, _⟩ | ⟨g', c', cur, e, _, h1, h2, _⟩
    · cases e
    · injection e with _ _ e; subst e; simp at h1; omega
  have hr' : Row w 27 4 (.slice (some ⟨g, 0, none⟩) (ys.length + 1) cap) (ys.length + 1) ((ys ++ [x]).flatMap LT.cells) := by simpa using hr
  have ht := hr'.take (m := ys.length) (c := cap) (by omega) (by omega) (Nat.le_refl _); rw [List.flatMap_append, List.take_left' (by rw [LT.flat_length])] at ht; exact ⟨rfl, ⟨ht, fun k hk => h.own k (by simpa [Value.ownBlock] using hk), fun y hy => h.mem y (List.mem_append_left _ hy), h.turned, h.plt⟩, hcap⟩
theorem HasI.top {g k cap : Nat} (h : HasI p m w0 (ys ++ [x]) (.slice (some ⟨g, 0, none⟩) k cap) w) :
    w.cell? ⟨g, ys.length * 4, none⟩ = some (.int .i64 x.kind) ∧ w.cell? ⟨g, ys.length * 4 + 1, none⟩ = some (.int .i64 x.n) ∧ w.cell? ⟨g, ys.length * 4 + 2, none⟩ = some (.string x.name) ∧ w.cell? ⟨g, ys.length * 4 + 3, none⟩ = some (.slice x.at_.1 x.args.length x.at_.2) := by
  have hn := h.pop.1; subst hn
  have hr : Row w 27 4 (.slice (some ⟨g, 0, none⟩) (ys.length + 1) cap) (ys.length + 1) ((ys ++ [x]).flatMap LT.cells) := by simpa using h.row
  have hi : (ys ++ [x])[ys.length]? = some x := by simp
  refine ⟨hr.cells rfl _ _ ?_, hr.cells rfl _ _ ?_, hr.cells rfl _ _ ?_, hr.cells rfl _ _ ?_⟩
  · have := LT.flat_at hi 0 (by omega); rw [Nat.add_zero] at this; rw [this, LT.cells_eq]; rfl
  · rw [LT.flat_at hi 1 (by omega), LT.cells_eq]; rfl
  · rw [LT.flat_at hi 2 (by omega), LT.cells_eq]; rfl
  · rw [LT.flat_at hi 3 (by omega), LT.cells_eq]; rfl
theorem HasI.push {v' : Value} {y : LT} (h : HasI p m w0 ys v w) (hy : y.In p w ∧ given m y) (hr : Row w' 27 4 v' (ys.length + 1) (ys.flatMap LT.cells ++ y.cells)) (T : Turned (fun k => v.ownBlock = some k) w w') (ho : v'.ownBlock = v.ownBlock ∨ ∀ k, v'.ownBlock = some k → w.heap.size ≤ k) : HasI p m w0 (ys ++ [y]) v' w' := by
  refine ⟨by rw [List.flatMap_append, List.length_append]; simpa using hr, fun g e => ?_, fun z hz => ?_, h.turned.step T (fun i hi e => by have := h.own i e; omega), h.plt⟩
  · rcases ho with ho | ho
    · exact h.own g (ho ▸ e)
    · have := ho g e; have := h.turned.size; omega
  · rcases List.mem_append.1 hz with hz | hz
    · exact ⟨LT.In.turned T (fun k _ hk e => by have := h.own k e; have := h.plt k hk; omega) (fun _ _ q => q) _ (h.mem z hz).1, (h.mem z hz).2⟩
    · rw [List.mem_singleton] at hz; rw [hz]; exact ⟨LT.In.turned T (fun k _ hk e => by have := h.own k e; have := h.plt k hk; omega) (fun _ _ q => q) _ hy.1, hy.2⟩
end
theorem has_miss {m most c : Nat} {n : Int} {l : TL} {ys : List LT} {x0 x : LT} (hl : Tm.okT m (bt l)) (hw : Tm.Walked m (bt l) x0.bare x.bare) (hc : c < most) (hn : ¬ (x.kind = 0 ∧ x.n = n)) :
    Tm.hasL most n c (remL l (ys ++ [x0])) = Tm.hasL most n (c + 1) (remL l (ys ++ x.args.reverse)) := by
  rw [remL_snoc, remL_args]
  by_cases hk : x.kind = 0
  · have hkb : x.bare.kind = 0 := by rw [Tm.bare_kind]; exact hk
    rw [hw.flat_var hl hkb]; have hb := Tm.leafy_self hw.leafy hkb
    have ha : x.args = [] := by
      have := congrArg (fun t => (Tm.args t).length) hb; exact List.eq_nil_of_length_eq_zero ((Tm.bare_arity x).symm.trans this)
    rw [ha, List.map_nil, Tm.flats, List.nil_append]; exact Tm.hasL_miss (by rw [Tm.bare_kind, Tm.bare_n]; exact hn) hc
  · have hkb : ¬ x.bare.kind = 0 := by rw [Tm.bare_kind]; exact hk
    obtain ⟨h1, h2⟩ := hw.flat_node hl hkb; rw [h1, List.cons_append, Tm.hasL_node h2 hc, Tm.bare_args, Tm.bares_eq, List.map_map]; rfl
theorem has_hit {m most c : Nat} {n : Int} {l : TL} {ys : List LT} {x0 x : LT} (hl : Tm.okT m (bt l)) (hw : Tm.Walked m (bt l) x0.bare x.bare) (hk : x.kind = 0) (hn : x.n = n) :
    Tm.hasL most n c (remL l (ys ++ [x0])) = (true, c + 1) := by
  rw [remL_snoc, hw.flat_var hl (by rw [Tm.bare_kind]; exact hk)]; exact Tm.hasL_hit (by rw [Tm.bare_kind]; exact hk) (by rw [Tm.bare_n]; exact hn)
theorem given_args' {m : Nat} {x y : LT} (h : given m x) (hy : y ∈ x.args) : given m y := by
  by_cases hk : x.kind = 0
  · have := (given_var h hk).2.2.2.1
    rw [this] at hy
    cases hy
  · exact given_args h hk y hy
def hasR (m : Nat) (l : Tm.Trail) (n : Int) (t : Tm Unit) (most : Nat) : Bool × Nat := if Tm.ownB m t = true then Tm.hasL most n 0 (Tm.img l t).flat else (false, 0)
def HasL (p : Nat → Prop) (m : Nat) (l : TL) (n : Int) (M : Nat) (R : Bool × Nat) (w0 : World) (k : Nat) (v c : Value) (wr : World) : Prop :=
  ∃ (todo : List LT) (j : Nat), Hid (j + k = M) ∧ j ≤ M ∧ c = .int .i64 j ∧ Hid (HasI p m w0 todo v wr) ∧ Hid (Tm.hasL M n j (remL l todo) = R) ∧ Hid (todo.length ≤ 1 + 8 * j)
set_option maxRecDepth 100000 in
set_option maxHeartbeats 6400000 in
theorem has106 {p O : Nat → Prop} {bb m : Nat} {l : TL} {w : World} {t : LT} {n most : Int} (h : BO p bb O m l w) (ht : t.In p w) (hs : slim t) (hm : most ≤ 100000) (hm0 : -9223372036854775808 ≤ most) :
    Calls Try.prog 106 #[.pointer (some ⟨bb, 0, none⟩), .int .i64 n, t.val, .int .i64 most] w fun e w' => e = .returned (.tuple #[.bool (hasR m (bt l) n t.bare most.toNat).1, .int .i64 (hasR m (bt l) n t.bare most.toNat).2]) ∧ Turned (fun _ => False) w w' := by
  obtain ⟨i0, hi0, hz0, hz1, hz2⟩ := info_parts infoT; have T1 : Turned (fun _ => False) w (w.alloc (.cells #[.int .i64 t.kind, .int .i64 t.n, .string t.name, .slice t.at_.1 t.args.length t.at_.2] 27)) := (Turned.refl _ w).alloc _
  have how : Calls Try.prog 144 #[.pointer (some ⟨bb, 0, none⟩), t.val] (w.alloc (.cells #[.int .i64 t.kind, .int .i64 t.n, .string t.name, .slice t.at_.1 t.args.length t.at_.2] 27)) fun e w' => e = .returned (.bool (Tm.ownB m t)) ∧ Turned (fun _ => False) (w.alloc (.cells #[.int .i64 t.kind, .int .i64 t.n, .string t.name, .slice t.at_.1 t.args.length t.at_.2] 27)) w' := by
    obtain ⟨sb, lv, tv, B, _⟩ := h.bi; exact own144 (B.turned0 T1) (ht.turned0 T1) hs
  have hbx := heap_alloc_new w (.cells #[.int .i64 t.kind, .int .i64 t.n, .string t.name, .slice t.at_.1 t.args.length t.at_.2] 27); have HBX := hid hbx; have HT := hid ht; have HH := hid h; have HT1 := hid T1; have hob0 := ownB_bare m t; rw [LT.val_eq] at how ⊢
  cases hob : Tm.ownB m t with
  | false =>
    have hR : hasR m (bt l) n t.bare most.toNat = (false, 0) := by unfold hasR; rw [hob0, hob]; rfl
    rw [hR]; rw [hob] at how; have HOW := hid how; clear how hob hob0 hR h ht hs hbx T1; go_enter Try.func106, Try.ntmps106
    go_wp2_with (go_at_call 144; (with_reducible refine HOW.out.mono ?_); rintro e w4 ⟨rfl, T4⟩)
    go_ret2
    exact ⟨rfl, HT1.out.trans T4⟩
  | true =>
    have hgb := Tm.ownB_iff.1 (show Tm.ownB m t.bare = true by rw [hob0, hob]); have hgv : given m t := ⟨Tm.good_ones' hgb.1, hgb.2⟩
    have hst : ∀ M, Tm.hasL M n 0 (remL l [t]) = hasR m (bt l) n t.bare M := fun M => by
      unfold hasR; rw [hob0, hob, if_pos rfl]; rw [show ([t] : List LT) = [] ++ [t] from rfl, remL_snoc]; show Tm.hasL M n 0 (_ ++ []) = _; rw [List.append_nil]
    rw [hob] at how; have HOW := hid how; have HGV := hid hgv; clear how hob hob0 h ht hs hbx T1 hgv hgb
    by_cases hneg : most < 0
    · have hM0 : most.toNat = 0 := by omega
      rw [hM0]
      have hmx : ¬ (0 : Int) < most := by omega
      obtain ⟨R, hR⟩ : ∃ z, z = hasR m (bt l) n t.bare 0 := ⟨_, rfl⟩; have HST := hid ((hst 0).trans hR.symm); rw [← hR]; clear hR hst hM0; go_enter Try.func106, Try.ntmps106
      go_wp2_with (go_at_call 144; (with_reducible refine HOW.out.mono ?_); rintro e w4 ⟨rfl, T4⟩; obtain ⟨c0, c1, c2, c3, _⟩ := cells4 ((T4.block _ (by simp) (fun f => f)).trans HBX.out); have HT4 := hid (HT1.out.trans T4); clear T4)
      have hinit : Hid (HasI p m w [t] (.slice (some ⟨w4.heap.size, 0, none⟩) 1 1) (w4.alloc (.cells #[.int .i64 t.kind, .int .i64 t.n, .string t.name, .slice t.at_.1 t.args.length t.at_.2] 27))) := by
        refine ⟨?_, fun g e => by (simp [Value.ownBlock] at e; have := HT4.out.size; omega), fun y hy => ?_, HT4.out.alloc _, HH.out.plt⟩
        · have := Row.made w4 27 4 #[.int .i64 t.kind, .int .i64 t.n, .string t.name, .slice t.at_.1 t.args.length t.at_.2] 1 rfl (by unfold maxLen; omega)
          simpa [LT.cells_eq] using this
        · rw [List.mem_singleton] at hy
          rw [hy]; exact ⟨HT.out.turned0 (HT4.out.alloc _), HGV.out⟩
      go_loopg [10, 11] 0 (fun k v c wr => HasL p m l n 0 R w k v c wr)
      case atStart => exact ⟨[t], 0, Nat.zero_add _, Nat.zero_le _, rfl, hinit, HST.out, show _ ≤ _ by simp⟩
      case round =>
        obtain ⟨todo, j, HG, hj, rfl, HI, HR, HL⟩ := hrel; obtain ⟨wo, rfl⟩ : ∃ wo : World, wo = wr := ⟨_, rfl⟩; obtain ⟨go, rfl⟩ : ∃ go : Nat, go = gk := ⟨_, rfl⟩
        rcases List.eq_nil_or_concat todo with rfl | ⟨ys, x0, rfl⟩
        · obtain ⟨a, cap, rfl⟩ := HI.out.row.shape
          have hr : R = (false, j) := HR.out.symm; have HRR := hid hr; clear hr
          go_wp2_with fail
          go_ret2
          rw [HRR.out]; exact ⟨rfl, HI.out.turned⟩
        · rw [List.concat_eq_append] at HI HR HL
          obtain ⟨g, cap, rfl⟩ := HI.out.row.shape_pos (by simp); obtain ⟨hn1, hI1, hc1, hc2⟩ := HI.out.pop; obtain ⟨c0, c1, c2, c3⟩ := HI.out.top
          have hcm : cap ≤ 9223372036854775807 := by unfold maxLen at hc2; exact hc2
          have hys : ys.length ≤ 800001 := by have := HL.out; rw [List.length_append, List.length_singleton] at this; omega
          rw [List.length_append, List.length_singleton]; have HI1 := hid hI1
          by_cases hjm : j = 0
          · have hjb : ((j : Int) == 0) = true := by simp [hjm]
            have hr : R = (true, 0 + 1) := by rw [← HR.out, Tm.hasL_stop (by omega) (remL_ne l ys x0), hjm]
            have HRR := hid hr; clear hr hjm hI1 hn1
            go_wp2_with fail
            go_ret2
            rw [HRR.out]; exact ⟨rfl, HI.out.turned⟩
          · omega
    · obtain ⟨M, rfl⟩ : ∃ M : Nat, most = M := ⟨most.toNat, by omega⟩
      rw [Int.toNat_natCast]; obtain ⟨R, hR⟩ : ∃ z, z = hasR m (bt l) n t.bare M := ⟨_, rfl⟩; have HST := hid ((hst M).trans hR.symm); rw [← hR]; clear hR hst; go_enter Try.func106, Try.ntmps106
      go_wp2_with (go_at_call 144; (with_reducible refine HOW.out.mono ?_); rintro e w4 ⟨rfl, T4⟩; obtain ⟨c0, c1, c2, c3, _⟩ := cells4 ((T4.block _ (by simp) (fun f => f)).trans HBX.out); have HT4 := hid (HT1.out.trans T4); clear T4)
      have hinit : Hid (HasI p m w [t] (.slice (some ⟨w4.heap.size, 0, none⟩) 1 1) (w4.alloc (.cells #[.int .i64 t.kind, .int .i64 t.n, .string t.name, .slice t.at_.1 t.args.length t.at_.2] 27))) := by
        refine ⟨?_, fun g e => by (simp [Value.ownBlock] at e; have := HT4.out.size; omega), fun y hy => ?_, HT4.out.alloc _, HH.out.plt⟩
        · have := Row.made w4 27 4 #[.int .i64 t.kind, .int .i64 t.n, .string t.name, .slice t.at_.1 t.args.length t.at_.2] 1 rfl (by unfold maxLen; omega)
          simpa [LT.cells_eq] using this
        · rw [List.mem_singleton] at hy
          rw [hy]; exact ⟨HT.out.turned0 (HT4.out.alloc _), HGV.out⟩
      go_loopg [10, 11] M (fun k v c wr => HasL p m l n M R w k v c wr)
      case atStart => exact ⟨[t], 0, Nat.zero_add _, Nat.zero_le _, rfl, hinit, HST.out, show _ ≤ _ by simp⟩
      case round =>
        obtain ⟨todo, j, HG, hj, rfl, HI, HR, HL⟩ := hrel; obtain ⟨wo, rfl⟩ : ∃ wo : World, wo = wr := ⟨_, rfl⟩; obtain ⟨go, rfl⟩ : ∃ go : Nat, go = gk := ⟨_, rfl⟩
        rcases List.eq_nil_or_concat todo with rfl | ⟨ys, x0, rfl⟩
        · obtain ⟨a, cap, rfl⟩ := HI.out.row.shape
          have hr : R = (false, j) := HR.out.symm; have HRR := hid hr; clear hr
          go_wp2_with fail
          go_ret2
          rw [HRR.out]; exact ⟨rfl, HI.out.turned⟩
        · rw [List.concat_eq_append] at HI HR HL
          obtain ⟨g, cap, rfl⟩ := HI.out.row.shape_pos (by simp); obtain ⟨hn1, hI1, hc1, hc2⟩ := HI.out.pop; obtain ⟨c0, c1, c2, c3⟩ := HI.out.top
          have hcm : cap ≤ 9223372036854775807 := by unfold maxLen at hc2; exact hc2
          have hys : ys.length ≤ 800001 := by have := HL.out; rw [List.length_append, List.length_singleton] at this; omega
          rw [List.length_append, List.length_singleton]; have HI1 := hid hI1
          by_cases hjm : j = M
          · have hjb : ((j : Int) == (M : Int)) = true := by simp [hjm]
            have hr : R = (true, M + 1) := by rw [← HR.out, Tm.hasL_stop (by omega) (remL_ne l ys x0), hjm]
            have HRR := hid hr; clear hr hjm hI1 hn1
            go_wp2_with fail
            go_ret2
            rw [HRR.out]; exact ⟨rfl, HI.out.turned⟩
          · have hjb : ((j : Int) == (M : Int)) = false := by simp; omega
            have hjl : j < M := by omega
            have hw := Tm.walked HH.out.ok _ x0.bare (Nat.le_refl _) (HI.out.mem x0 (by simp)).2.1; have hwc := walkO90 (HH.out.turned0 HI.out.turned) (HI.out.mem x0 (by simp)).1 (HI.out.mem x0 (by simp)).2.1; have hgx := (HI.out.mem x0 (by simp)).2; rw [LT.val_eq] at hwc; have HWC := hid hwc; have HWD := hid hw; have HGX := hid hgx; clear hw hwc hI1 hn1 hgx; obtain ⟨K, hK⟩ : ∃ z, z = (Tm.walkT (bt l) x0.bare).kind := ⟨_, rfl⟩; obtain ⟨Q, hQ⟩ : ∃ z, z = (Tm.walkT (bt l) x0.bare).n := ⟨_, rfl⟩; have HK := hid hK; have HQ := hid hQ; clear hK hQ
            by_cases hhit : K = 0 ∧ Q = n
            · have hr : ∀ x : LT, x.bare = Tm.walkT (bt l) x0.bare → R = (true, j + 1) ∧ x.kind = 0 ∧ x.n = n := fun x hx => by
                have h1 : x.kind = 0 := by rw [← Tm.bare_kind, hx, ← HK.out]; exact hhit.1
                have h2 : x.n = n := by rw [← Tm.bare_n, hx, ← HQ.out]; exact hhit.2
                exact ⟨by rw [← HR.out]; exact has_hit HH.out.ok (by rw [hx]; exact HWD.out) h1 h2, h1, h2⟩
              have HRR := hid hr; clear hr hhit
              go_wp2_with (go_at_call 90; (with_reducible refine HWC.out.mono ?_); rintro e w6 ⟨x, rfl, hxi, hxb, T6⟩; rw [LT.val_eq]; obtain ⟨r1, r2, r3⟩ := HRR.out x hxb; rw [r2, r3]; have HT6 := hid T6; have HR1 := hid r1; clear hxi hxb T6 r1 r2 r3)
              go_ret2
              rw [HR1.out]; exact ⟨rfl, (HI.out.turned.trans HT6.out).alloc _⟩
            · have hgw : ∀ x : LT, x.bare = Tm.walkT (bt l) x0.bare → given m x := fun x hx => ⟨by rw [hx]; exact HWD.out.ones, by rw [hx]; exact HWD.out.lt HGX.out.2⟩
              have HGW := hid hgw
              have hms : ∀ x : LT, x.bare = Tm.walkT (bt l) x0.bare → Tm.hasL M n (j + 1) (remL l (ys ++ x.args.reverse)) = R := fun x hx => by
                rw [← HR.out]; exact (has_miss HH.out.ok (by rw [hx]; exact HWD.out) hjl (fun c => hhit ⟨by rw [HK.out, ← hx, Tm.bare_kind]; exact c.1, by rw [HQ.out, ← hx, Tm.bare_n]; exact c.2⟩)).symm
              have HMS := hid hms; clear hgw hms
              by_cases hk0 : K = 0
              · have hqn : ∀ x : LT, x.bare = Tm.walkT (bt l) x0.bare → (x.kind == 0) = true ∧ (x.n == n) = false := fun x hx => by
                  have h1 : x.kind = 0 := by rw [← Tm.bare_kind, hx, ← HK.out]; exact hk0
                  have h2 : ¬ x.n = n := fun e => hhit ⟨hk0, by rw [HQ.out, ← hx, Tm.bare_n]; exact e⟩
                  exact ⟨by simp [h1], by simp [h2]⟩
                have HQN := hid hqn; clear hqn hhit hk0
                go_wp2_with (go_at_call 90; (with_reducible refine HWC.out.mono ?_); rintro e w6 ⟨x, rfl, hxi, hxb, T6⟩; rw [LT.val_eq]; obtain ⟨b1, b2⟩ := HQN.out x hxb; have hlen := hxi.len; have hal : x.args.length ≤ 8 := given_arity (HGW.out x hxb); have HXI := hid hxi; have HXB := hid hxb; have hI6 := HI1.out.turned0 T6; have HI6 := hid hI6; have hb6 := heap_alloc_new w6 (.cells #[.int .i64 x.kind, .int .i64 x.n, .string x.name, .slice x.at_.1 x.args.length x.at_.2] 27); have HB6 := hid hb6; clear hxi hxb T6 hI6 hlen hb6)
                have hI7 := HI6.out.turned0 ((Turned.refl (fun _ => False) w6).alloc (.cells #[.int .i64 x.kind, .int .i64 x.n, .string x.name, .slice x.at_.1 x.args.length x.at_.2] 27)); have hx7 := HXI.out.turned0 ((Turned.refl (fun _ => False) w6).alloc (.cells #[.int .i64 x.kind, .int .i64 x.n, .string x.name, .slice x.at_.1 x.args.length x.at_.2] 27))
                have hn7 : g ≠ w6.heap.size := fun e => by have := HI6.out.row.lt g rfl; omega
                have HI7 := hid hI7; have HX7 := hid hx7; have HLI := hid HXI.out.lies; clear hI7 hx7
                try clear b1 b2
                go_loopg [10, 13] x.args.length (fun q v i wr2 => Hid (q ≤ x.args.length) ∧ i = .int .i64 ((q : Int) - 1) ∧ Hid (HasI p m w (ys ++ (x.args.drop q).reverse) v wr2) ∧ wr2.heap[w6.heap.size]? = some (.cells #[.int .i64 x.kind, .int .i64 x.n, .string x.name, .slice x.at_.1 x.args.length x.at_.2] 27 (0, 0)) ∧ Hid (∀ g, v.ownBlock = some g → g ≠ w6.heap.size) ∧ Hid (x.In p wr2))
                case atStart => exact ⟨Nat.le_refl _, rfl, (show HasI _ _ _ _ _ _ by simpa using HI7.out), HB6.out, fun g' hg' => by (simp [Value.ownBlock] at hg'; subst hg'; exact hn7), HX7.out⟩
                case round =>
                  obtain ⟨HJ, hi, HI8, hb8, HO8, HX8⟩ := hrel; obtain ⟨a8, cap8, rfl⟩ := HI8.out.row.shape; obtain ⟨c0, c1, c2, c3, _⟩ := cells4 hb8; have HB8 := hid hb8; clear hb8
                  rcases gk with _ | q
                  · rw [show (((0 : Nat) : Int) - 1) = -1 from rfl] at hi
                    subst hi
                    go_wp2_with fail
                    go_roundg (go - 1)
                    case measure => have := HG.out; omega
                    case rel =>
                      refine ⟨ys ++ x.args.reverse, j + 1, show _ = _ by (have := HG.out; omega), by omega, by go_num, (show HasI _ _ _ _ _ _ by simpa using HI8.out), HMS.out x HXB.out, ?_⟩; show _ ≤ _; have := HL.out; simp at this ⊢; omega
                  · rw [show (((q + 1 : Nat) : Int) - 1) = (q : Int) from by omega] at hi
                    subst hi
                    have hm : q < x.args.length := by have := HJ.out; omega
                    obtain ⟨y, hy⟩ : ∃ y : LT, x.args[q]? = some y := ⟨_, List.getElem?_eq_getElem hm⟩; obtain ⟨b, o, ha, _, d0, d1, d2, d3⟩ := HX8.out.lies.cell hy; rw [ha] at c3; have HY := hid hy; have HAd := hid ha; have hgy := given_args' (HGW.out x HXB.out) (List.mem_of_getElem? hy); have hyi : y.In p wr := (LT.ins_iff _).1 HX8.out.args y (List.mem_of_getElem? hy); have TA : Turned (fun _ => False) wr (wr.alloc (.cells #[.int .i64 y.kind, .int .i64 y.n, .string y.name, .slice y.at_.1 y.args.length y.at_.2] 27)) := (Turned.refl _ wr).alloc _; have hrow := (HI8.out.turned0 TA).row; have hnews := news_block (cs := y.cells) (by rw [LT.cells_eq y]; exact heap_alloc_new wr (.cells #[.int .i64 y.kind, .int .i64 y.n, .string y.name, .slice y.at_.1 y.args.length y.at_.2] 27)); have HN := hid hnews; have HR9 := hid hrow; have HYG := hid (And.intro (hyi.turned0 TA) hgy); have HTA := hid TA
                    have hlen : (ys ++ (x.args.drop (q + 1)).reverse).length ≤ 800200 := by simp; omega
                    clear hy ha hnews hrow TA hgy hyi
                    go_wp2_with (at_builtin; refine append_some _ rfl _ _ 22 rfl 27 i0 zeroT 4 56 Try.underlying22 hi0 hz0 hz1 hz2 rfl (by decide) _ _ _ rfl HR9.out ⟨wr.heap.size, 0, none⟩ 1 1 y.cells rfl (LT.cells_length y) HN.out (LT.cells_one y) (by omega) (by unfold maxLen; omega) (by omega) ?_; intro g5 cap5 w5 hown5 hg5 hloc5)
                    go_roundg q
                    case measure => omega
                    case rel =>
                      have hpush := (HI8.out.turned0 HTA.out).push HYG.out hown5 hg5 (by
                        rcases hloc5 with e | e
                        · exact .inl e
                        · exact .inr (own_new e (by simp)))
                      have hst : ys ++ (x.args.drop (q + 1)).reverse ++ [y] = ys ++ (x.args.drop q).reverse := by
                        rw [List.append_assoc, List.drop_eq_getElem_cons hm, List.reverse_cons]; have hy := HY.out; rw [List.getElem?_eq_getElem hm] at hy
                        injection hy with hy
                        rw [hy]
                      rw [hst] at hpush
                      have hl5 : (ys ++ (x.args.drop (q + 1)).reverse).length = ys.length + (x.args.length - (q + 1)) := by simp
                      rw [hl5] at hpush; refine ⟨by have := HJ.out; show _ ≤ _; omega, rfl, hpush, ?_, ?_, ?_⟩
                      · exact (hg5.block _ (Nat.lt_of_lt_of_le (Array.getElem?_eq_some_iff.1 HB8.out).1 HTA.out.size) (fun e => HO8.out _ e rfl)).trans ((HTA.out.block _ (Array.getElem?_eq_some_iff.1 HB8.out).1 (fun f => f)).trans HB8.out)
                      · show ∀ g', _
                        intro g' hg'
                        rcases hloc5 with e | e
                        · exact HO8.out g' (e.symm.trans hg')
                        · simp [Value.ownBlock] at hg'
                          have h1 := (Array.getElem?_eq_some_iff.1 HB8.out).1; simp at e; omega
                      · exact LT.In.turned hg5 (fun k _ hk e => by have := HI8.out.own k e; have := HI8.out.plt k hk; omega) (fun _ _ q => q) _ (HX8.out.turned0 HTA.out)
              · have hqn : ∀ x : LT, x.bare = Tm.walkT (bt l) x0.bare → (x.kind == 0) = false ∧ True := fun x hx => by
                  have h1 : ¬ x.kind = 0 := by rw [← Tm.bare_kind, hx, ← HK.out]; exact hk0
                  exact ⟨by simp [h1], trivial⟩
                have HQN := hid hqn; clear hqn hhit hk0
                go_wp2_with (go_at_call 90; (with_reducible refine HWC.out.mono ?_); rintro e w6 ⟨x, rfl, hxi, hxb, T6⟩; rw [LT.val_eq]; obtain ⟨b1, b2⟩ := HQN.out x hxb; have hlen := hxi.len; have hal : x.args.length ≤ 8 := given_arity (HGW.out x hxb); have HXI := hid hxi; have HXB := hid hxb; have hI6 := HI1.out.turned0 T6; have HI6 := hid hI6; have hb6 := heap_alloc_new w6 (.cells #[.int .i64 x.kind, .int .i64 x.n, .string x.name, .slice x.at_.1 x.args.length x.at_.2] 27); have HB6 := hid hb6; clear hxi hxb T6 hI6 hlen hb6)
                have hI7 := HI6.out.turned0 ((Turned.refl (fun _ => False) w6).alloc (.cells #[.int .i64 x.kind, .int .i64 x.n, .string x.name, .slice x.at_.1 x.args.length x.at_.2] 27)); have hx7 := HXI.out.turned0 ((Turned.refl (fun _ => False) w6).alloc (.cells #[.int .i64 x.kind, .int .i64 x.n, .string x.name, .slice x.at_.1 x.args.length x.at_.2] 27))
                have hn7 : g ≠ w6.heap.size := fun e => by have := HI6.out.row.lt g rfl; omega
                have HI7 := hid hI7; have HX7 := hid hx7; have HLI := hid HXI.out.lies; clear hI7 hx7
                try clear b1 b2
                go_loopg [10, 13] x.args.length (fun q v i wr2 => Hid (q ≤ x.args.length) ∧ i = .int .i64 ((q : Int) - 1) ∧ Hid (HasI p m w (ys ++ (x.args.drop q).reverse) v wr2) ∧ wr2.heap[w6.heap.size]? = some (.cells #[.int .i64 x.kind, .int .i64 x.n, .string x.name, .slice x.at_.1 x.args.length x.at_.2] 27 (0, 0)) ∧ Hid (∀ g, v.ownBlock = some g → g ≠ w6.heap.size) ∧ Hid (x.In p wr2))
                case atStart => exact ⟨Nat.le_refl _, rfl, (show HasI _ _ _ _ _ _ by simpa using HI7.out), HB6.out, fun g' hg' => by (simp [Value.ownBlock] at hg'; subst hg'; exact hn7), HX7.out⟩
                case round =>
                  obtain ⟨HJ, hi, HI8, hb8, HO8, HX8⟩ := hrel; obtain ⟨a8, cap8, rfl⟩ := HI8.out.row.shape; obtain ⟨c0, c1, c2, c3, _⟩ := cells4 hb8; have HB8 := hid hb8; clear hb8
                  rcases gk with _ | q
                  · rw [show (((0 : Nat) : Int) - 1) = -1 from rfl] at hi
                    subst hi
                    go_wp2_with fail
                    go_roundg (go - 1)
                    case measure => have := HG.out; omega
                    case rel =>
                      refine ⟨ys ++ x.args.reverse, j + 1, show _ = _ by (have := HG.out; omega), by omega, by go_num, (show HasI _ _ _ _ _ _ by simpa using HI8.out), HMS.out x HXB.out, ?_⟩; show _ ≤ _; have := HL.out; simp at this ⊢; omega
                  · rw [show (((q + 1 : Nat) : Int) - 1) = (q : Int) from by omega] at hi
                    subst hi
                    have hm : q < x.args.length := by have := HJ.out; omega
                    obtain ⟨y, hy⟩ : ∃ y : LT, x.args[q]? = some y := ⟨_, List.getElem?_eq_getElem hm⟩; obtain ⟨b, o, ha, _, d0, d1, d2, d3⟩ := HX8.out.lies.cell hy; rw [ha] at c3; have HY := hid hy; have HAd := hid ha; have hgy := given_args' (HGW.out x HXB.out) (List.mem_of_getElem? hy); have hyi : y.In p wr := (LT.ins_iff _).1 HX8.out.args y (List.mem_of_getElem? hy); have TA : Turned (fun _ => False) wr (wr.alloc (.cells #[.int .i64 y.kind, .int .i64 y.n, .string y.name, .slice y.at_.1 y.args.length y.at_.2] 27)) := (Turned.refl _ wr).alloc _; have hrow := (HI8.out.turned0 TA).row; have hnews := news_block (cs := y.cells) (by rw [LT.cells_eq y]; exact heap_alloc_new wr (.cells #[.int .i64 y.kind, .int .i64 y.n, .string y.name, .slice y.at_.1 y.args.length y.at_.2] 27)); have HN := hid hnews; have HR9 := hid hrow; have HYG := hid (And.intro (hyi.turned0 TA) hgy); have HTA := hid TA
                    have hlen : (ys ++ (x.args.drop (q + 1)).reverse).length ≤ 800200 := by simp; omega
                    clear hy ha hnews hrow TA hgy hyi
                    go_wp2_with (at_builtin; refine append_some _ rfl _ _ 22 rfl 27 i0 zeroT 4 56 Try.underlying22 hi0 hz0 hz1 hz2 rfl (by decide) _ _ _ rfl HR9.out ⟨wr.heap.size, 0, none⟩ 1 1 y.cells rfl (LT.cells_length y) HN.out (LT.cells_one y) (by omega) (by unfold maxLen; omega) (by omega) ?_; intro g5 cap5 w5 hown5 hg5 hloc5)
                    go_roundg q
                    case measure => omega
                    case rel =>
                      have hpush := (HI8.out.turned0 HTA.out).push HYG.out hown5 hg5 (by
                        rcases hloc5 with e | e
                        · exact .inl e
                        · exact .inr (own_new e (by simp)))
                      have hst : ys ++ (x.args.drop (q + 1)).reverse ++ [y] = ys ++ (x.args.drop q).reverse := by
                        rw [List.append_assoc, List.drop_eq_getElem_cons hm, List.reverse_cons]; have hy := HY.out; rw [List.getElem?_eq_getElem hm] at hy
                        injection hy with hy
                        rw [hy]
                      rw [hst] at hpush
                      have hl5 : (ys ++ (x.args.drop (q + 1)).reverse).length = ys.length + (x.args.length - (q + 1)) := by simp
                      rw [hl5] at hpush; refine ⟨by have := HJ.out; show _ ≤ _; omega, rfl, hpush, ?_, ?_, ?_⟩
                      · exact (hg5.block _ (Nat.lt_of_lt_of_le (Array.getElem?_eq_some_iff.1 HB8.out).1 HTA.out.size) (fun e => HO8.out _ e rfl)).trans ((HTA.out.block _ (Array.getElem?_eq_some_iff.1 HB8.out).1 (fun f => f)).trans HB8.out)
                      · show ∀ g', _
                        intro g' hg'
                        rcases hloc5 with e | e
                        · exact HO8.out g' (e.symm.trans hg')
                        · simp [Value.ownBlock] at hg'
                          have h1 := (Array.getElem?_eq_some_iff.1 HB8.out).1; simp at e; omega
                      · exact LT.In.turned hg5 (fun k _ hk e => by have := HI8.out.own k e; have := HI8.out.plt k hk; omega) (fun _ _ q => q) _ (HX8.out.turned0 HTA.out)
end Go.Proofs.Ytoihjobdfjajfaa
namespace Go.Proofs.Ytoihjobdfjajfaa
open Go.RowKit Go.Maps
abbrev PT := LT × LT
def PT.cells (q : PT) : List Value := q.1.cells ++ q.2.cells
theorem PT.cells_length (q : PT) : (PT.cells q).length = 8 := by unfold PT.cells; rw [List.length_append, LT.cells_length, LT.cells_length]
theorem PT.cells_one (q : PT) : ∀ u ∈ PT.cells q, u.oneCell' = true := by
  intro u hu
  rcases List.mem_append.1 hu with h | h
  · exact LT.cells_one _ u h
  · exact LT.cells_one _ u h
theorem PT.flat_length (l : List PT) : (l.flatMap PT.cells).length = l.length * 8 := by
  induction l with
  | nil => rfl
  | cons x l ih => rw [List.flatMap_cons, List.length_append, PT.cells_length, ih, List.length_cons]; omega
structure UK (p : Nat → Prop) (bb K : Nat) (v : Value) (st : List PT) (c : Int) (O : Nat → Prop) (m : Nat) (l : TL) (w : World) : Prop where
  bo : BO p bb O m l w
  k : w.heap[K]? = some (.cells #[.pointer (some ⟨bb, 0, none⟩), v, .int .i64 c] 190 (0, 0))
  row : Row w 187 8 v st.length (st.flatMap PT.cells)
  mem : ∀ q ∈ st, (q.1.In p w ∧ Tm.ownB m q.1.bare = true) ∧ q.2.In p w ∧ Tm.ownB m q.2.bare = true
  kO : ¬ O K ∧ ¬ p K
  vO : ∀ g, v.ownBlock = some g → ¬ O g ∧ ¬ p g ∧ g ≠ K
def ownU (K : Nat) (v : Value) (O : Nat → Prop) (k : Nat) : Prop := k = K ∨ v.ownBlock = some k ∨ O k
section
variable {p O : Nat → Prop} {bb K m : Nat} {v : Value} {st : List PT} {c : Int} {l : TL} {w w' : World}
theorem UK.turned0 (h : UK p bb K v st c O m l w) (T : Turned (fun _ => False) w w') : UK p bb K v st c O m l w' :=
  ⟨h.bo.turned0 T, (T.block _ (Array.getElem?_eq_some_iff.1 h.k).1 (fun f => f)).trans h.k, h.row.turned0 T, fun q hq => ⟨⟨(h.mem q hq).1.1.turned0 T, (h.mem q hq).1.2⟩, (h.mem q hq).2.1.turned0 T, (h.mem q hq).2.2⟩, h.kO, h.vO⟩
theorem UK.own_lt (h : UK p bb K v st c O m l w) : ∀ k, ownU K v O k → k < w.heap.size := by
  rintro k (rfl | e | e)
  · exact (Array.getElem?_eq_some_iff.1 h.k).1
  · exact h.row.lt k e
  · exact h.bo.lt k e
end
def UA (p : Nat → Prop) (bb K : Nat) (v : Value) (st : List PT) (c' : Int) (O : Nat → Prop) (m : Nat) (l' : Tm.Trail) (w w' : World) : Prop :=
  ∃ (l2 : TL) (O' : Nat → Prop), bt l2 = l' ∧ UK p bb K v st c' O' m l2 w' ∧ (∀ k, O' k → k < w.heap.size → O k) ∧ Turned (ownU K v O) w w'
theorem UA.same {p O : Nat → Prop} {bb K m : Nat} {v : Value} {st : List PT} {c : Int} {l : TL} {w w' : World} (h : UK p bb K v st c O m l w') (T : Turned (ownU K v O) w w') : UA p bb K v st c O m (bt l) w w' := ⟨l, O, rfl, h, fun _ hk _ => hk, T⟩
theorem UK.after {p O : Nat → Prop} {bb K m : Nat} {v : Value} {st : List PT} {c : Int} {l l2 : TL} {w w' : World} (h : UK p bb K v st c O m l w) (A : After p bb O m l2 w w') : ∃ O', UK p bb K v st c O' m l2 w' ∧ (∀ k, O' k → k < w.heap.size → O k) ∧ Turned O w w' := by
  obtain ⟨O', a1, a2, a3⟩ := A; have hkl := (Array.getElem?_eq_some_iff.1 h.k).1
  have hp : ∀ q : LT, q.In p w → q.In p w' := fun q hq => LT.In.turned a3 (fun k _ hk e => h.bo.sep k hk e) (fun _ _ hk => hk) q hq
  exact ⟨O', ⟨a1, (a3.block K hkl h.kO.1).trans h.k, h.row.turned a3 (fun k hk e => (h.vO k hk).1 e), fun q hq => ⟨⟨hp _ (h.mem q hq).1.1, (h.mem q hq).1.2⟩, hp _ (h.mem q hq).2.1, (h.mem q hq).2.2⟩, ⟨fun e => h.kO.1 (a2 K e hkl), h.kO.2⟩, fun g hg => ⟨fun e => (h.vO g hg).1 (a2 g e (h.row.lt g hg)), (h.vO g hg).2⟩⟩, a2, a3⟩
end Go.Proofs.Ytoihjobdfjajfaa
namespace Go.Proofs.Ytoihjobdfjajfaa
open Go.RowKit Go.Maps
def WkS (p : Nat → Prop) (X0 Y0 : Tm Unit) (N : Nat) (w2 : World) : List Value → World → Prop
  | [], W => Turned (fun _ => False) w2 W
  | [a], W => Turned (fun _ => False) w2 W ∧ ∃ X : LT, a = .agg #[.int .i64 X.kind, .int .i64 X.n, .string X.name, .slice X.at_.1 X.args.length X.at_.2] ∧ X.In p W ∧ X.bare = X0
  | [a, b], W => Turned (fun _ => False) w2 W ∧ (∃ X : LT, a = .agg #[.int .i64 X.kind, .int .i64 X.n, .string X.name, .slice X.at_.1 X.args.length X.at_.2] ∧ X.In p W ∧ X.bare = X0) ∧ ∃ Y : LT, b = .agg #[.int .i64 Y.kind, .int .i64 Y.n, .string Y.name, .slice Y.at_.1 Y.args.length Y.at_.2] ∧ Y.In p W ∧ Y.bare = Y0
  | [_, b, _], W => Turned (fun k => k = N) w2 W ∧ (∃ X : LT, W.heap[N]? = some (.cells #[.int .i64 X.kind, .int .i64 X.n, .string X.name, .slice X.at_.1 X.args.length X.at_.2] 27 (0, 0)) ∧ X.In p W ∧ X.bare = X0) ∧ ∃ Y : LT, b = .agg #[.int .i64 Y.kind, .int .i64 Y.n, .string Y.name, .slice Y.at_.1 Y.args.length Y.at_.2] ∧ Y.In p W ∧ Y.bare = Y0
  | [_, _, _, _], W => Turned (fun k => k = N ∨ k = N + 1) w2 W ∧ (∃ X : LT, W.heap[N]? = some (.cells #[.int .i64 X.kind, .int .i64 X.n, .string X.name, .slice X.at_.1 X.args.length X.at_.2] 27 (0, 0)) ∧ X.In p W ∧ X.bare = X0) ∧ ∃ Y : LT, W.heap[N + 1]? = some (.cells #[.int .i64 Y.kind, .int .i64 Y.n, .string Y.name, .slice Y.at_.1 Y.args.length Y.at_.2] 27 (0, 0)) ∧ Y.In p W ∧ Y.bare = Y0
  | _, _ => False
section
variable {p : Nat → Prop} {X0 Y0 : Tm Unit} {N : Nat} {w2 W W' : World}
theorem WkS.turned0 : ∀ (hs : List Value) (w w' : World), WkS p X0 Y0 N w2 hs w → Turned (fun _ => False) w w' → WkS p X0 Y0 N w2 hs w'
  | [], _, _, h, T => Turned.trans h T
  | [_], _, _, h, T => by obtain ⟨h1, X, x1, x2, x3⟩ := h; exact ⟨h1.trans T, X, x1, x2.turned0 T, x3⟩
  | [_, _], _, _, h, T => by obtain ⟨h1, ⟨X, x1, x2, x3⟩, Y, y1, y2, y3⟩ := h; exact ⟨h1.trans T, ⟨X, x1, x2.turned0 T, x3⟩, Y, y1, y2.turned0 T, y3⟩
  | [_, _, _], _, _, h, T => by obtain ⟨h1, ⟨X, x1, x2, x3⟩, Y, y1, y2, y3⟩ := h; exact ⟨h1.trans (T.mono (fun _ _ f => f.elim)), ⟨X, (T.block _ (Array.getElem?_eq_some_iff.1 x1).1 (fun f => f)).trans x1, x2.turned0 T, x3⟩, Y, y1, y2.turned0 T, y3⟩
  | [_, _, _, _], _, _, h, T => by obtain ⟨h1, ⟨X, x1, x2, x3⟩, Y, y1, y2, y3⟩ := h; exact ⟨h1.trans (T.mono (fun _ _ f => f.elim)), ⟨X, (T.block _ (Array.getElem?_eq_some_iff.1 x1).1 (fun f => f)).trans x1, x2.turned0 T, x3⟩, Y, (T.block _ (Array.getElem?_eq_some_iff.1 y1).1 (fun f => f)).trans y1, y2.turned0 T, y3⟩
  | _ :: _ :: _ :: _ :: _ :: _, _, _, h, _ => h.elim
theorem WkS.turned : ∀ (hs : List Value) (W : World), WkS p X0 Y0 N w2 hs W → Turned (fun k => k = N ∨ k = N + 1) w2 W
  | [], _, h => Turned.mono h (fun _ _ f => f.elim)
  | [_], _, h => h.1.mono (fun _ _ f => f.elim)
  | [_, _], _, h => h.1.mono (fun _ _ f => f.elim)
  | [_, _, _], _, h => h.1.mono (fun _ _ e => .inl e)
  | [_, _, _, _], _, h => h.1
  | _ :: _ :: _ :: _ :: _ :: _, _, h => h.elim
theorem WkS.early : ∀ (hs : List Value) (W : World), hs.length ≤ 2 → WkS p X0 Y0 N w2 hs W → Turned (fun _ => False) w2 W
  | [], _, _, h => h
  | [_], _, _, h => h.1
  | [_, _], _, _, h => h.1
end
theorem UA.from {p O : Nat → Prop} {bb K m : Nat} {v : Value} {st : List PT} {c : Int} {l' : Tm.Trail} {w w3 w' : World} (T : Turned (fun _ => False) w w3) (h : UA p bb K v st c O m l' w3 w') : UA p bb K v st c O m l' w w' := by
  obtain ⟨l2, O', h1, h2, h3, h4⟩ := h; exact ⟨l2, O', h1, h2, fun k hk hl => h3 k hk (Nat.lt_of_lt_of_le hl T.size), (T.mono (fun _ _ f => f.elim)).trans h4⟩
def VarS (p : Nat → Prop) (bb : Nat) (O : Nat → Prop) (m : Nat) (l : TL) (n k : Int) (w3 : World) : List Value → World → Prop
  | [], W => Turned (fun _ => False) w3 W
  | [a], W => Turned (fun _ => False) w3 W ∧ a = .agg #[.int .i64 0, .int .i64 k, .string ByteArray.empty, .slice none 0 0]
  | [_, b], W => b = .int .i64 0 ∧ ∃ l', bt l' = (n, Tm.V k) :: bt l ∧ After p bb O m l' w3 W
  | _, _ => False
section
variable {p O : Nat → Prop} {bb m : Nat} {l : TL} {n k : Int} {w3 : World}
theorem VarS.turned0 : ∀ (hs : List Value) (w w' : World), VarS p bb O m l n k w3 hs w → Turned (fun _ => False) w w' → VarS p bb O m l n k w3 hs w'
  | [], _, _, h, T => Turned.trans h T
  | [_], _, _, h, T => ⟨h.1.trans T, h.2⟩
  | [_, _], _, _, ⟨h1, l', h2, h3⟩, T => ⟨h1, l', h2, h3.turned0 T⟩
  | _ :: _ :: _ :: _, _, _, h, _ => h.elim
theorem VarS.turned : ∀ (hs : List Value) (W : World), hs.length ≤ 1 → VarS p bb O m l n k w3 hs W → Turned (fun _ => False) w3 W
  | [], _, _, h => h
  | [_], _, _, h => h.1
theorem VarS.val : ∀ (hs : List Value) (W : World) {x : Value}, VarS p bb O m l n k w3 hs W → hs[1]? = some x → x = .int .i64 0
  | [], _, _, _, e => by simp at e
  | [_], _, _, _, e => by simp at e
  | [_, _], _, _, h, e => by simp at e; rw [← e]; exact h.1
  | _ :: _ :: _ :: _, _, _, h, _ => h.elim
end
def PsS (bb K : Nat) (v : Value) (n : Nat) (xs : List Value) (c : Int) (X Y : LT) (wr : World) : List Value → World → Prop
  | [], W => Turned (fun _ => False) wr W
  | [s], W => Turned (fun _ => False) wr W ∧ ∃ g0, s = .slice (some ⟨g0, 0, none⟩) 1 1 ∧ W.heap[g0]? = some (.cells #[.int .i64 X.kind, .int .i64 X.n, .string X.name, .slice X.at_.1 X.args.length X.at_.2, .int .i64 Y.kind, .int .i64 Y.n, .string Y.name, .slice Y.at_.1 Y.args.length Y.at_.2] 187 (0, 0))
  | [_, a], W => Row W 187 8 a (n + 1) (xs ++ PT.cells (X, Y)) ∧ (a.ownBlock = v.ownBlock ∨ ∀ g, a.ownBlock = some g → wr.heap.size ≤ g) ∧ Turned (fun k => v.ownBlock = some k) wr W
  | [_, a, _], W => Row W 187 8 a (n + 1) (xs ++ PT.cells (X, Y)) ∧ (a.ownBlock = v.ownBlock ∨ ∀ g, a.ownBlock = some g → wr.heap.size ≤ g) ∧ Turned (fun k => k = K ∨ v.ownBlock = some k) wr W ∧ W.heap[K]? = some (.cells #[.pointer (some ⟨bb, 0, none⟩), a, .int .i64 c] 190 (0, 0))
  | _, _ => False
section
variable {bb K n : Nat} {v : Value} {xs : List Value} {c : Int} {X Y : LT} {wr W W' : World}
theorem PsS.turned0 : ∀ (hs : List Value) (w w' : World), PsS bb K v n xs c X Y wr hs w → Turned (fun _ => False) w w' → PsS bb K v n xs c X Y wr hs w'
  | [], _, _, h, T => Turned.trans h T
  | [_], _, _, ⟨h1, g0, h2, h3⟩, T => ⟨h1.trans T, g0, h2, (T.block _ (Array.getElem?_eq_some_iff.1 h3).1 (fun f => f)).trans h3⟩
  | [_, _], _, _, ⟨h1, h2, h3⟩, T => ⟨h1.turned0 T, h2, h3.trans (T.mono (fun _ _ f => f.elim))⟩
  | [_, _, _], _, _, ⟨h1, h2, h3, h4⟩, T => ⟨h1.turned0 T, h2, h3.trans (T.mono (fun _ _ f => f.elim)), (T.block _ (Array.getElem?_eq_some_iff.1 h4).1 (fun f => f)).trans h4⟩
  | _ :: _ :: _ :: _ :: _, _, _, h, _ => h.elim
theorem PsS.turned : ∀ (hs : List Value) (W : World), hs.length ≤ 2 → PsS bb K v n xs c X Y wr hs W → Turned (fun k => v.ownBlock = some k) wr W
  | [], _, _, h => Turned.mono h (fun _ _ f => f.elim)
  | [_], _, _, h => h.1.mono (fun _ _ f => f.elim)
  | [_, _], _, _, h => h.2.2
end
theorem UK.push {p O : Nat → Prop} {bb K m : Nat} {v a : Value} {st : List PT} {c : Int} {l : TL} {wr W : World} {X Y : LT} (h : UK p bb K v st c O m l wr) (hX : X.In p wr ∧ Tm.ownB m X.bare = true) (hY : Y.In p wr ∧ Tm.ownB m Y.bare = true) (hr : Row W 187 8 a (st.length + 1) (st.flatMap PT.cells ++ PT.cells (X, Y))) (ho : a.ownBlock = v.ownBlock ∨ ∀ g, a.ownBlock = some g → wr.heap.size ≤ g) (T : Turned (fun k => k = K ∨ v.ownBlock = some k) wr W) (hk : W.heap[K]? = some (.cells #[.pointer (some ⟨bb, 0, none⟩), a, .int .i64 c] 190 (0, 0))) :
    UK p bb K a (st ++ [(X, Y)]) c O m l W := by
  have hS : ∀ k, k < wr.heap.size → (k = K ∨ v.ownBlock = some k) → ¬ O k ∧ ¬ p k := fun k _ e => by
    rcases e with e | e
    · rw [e]; exact h.kO
    · exact ⟨(h.vO k e).1, (h.vO k e).2.1⟩
  have hp : ∀ q : LT, q.In p wr → q.In p W := fun q hq => LT.In.turned T (fun k hl hk e => (hS k hl e).2 hk) (fun _ _ hk => hk) q hq
  refine ⟨h.bo.turned T hS, hk, by simpa using hr, fun q hq => ?_, h.kO, fun g hg => ?_⟩
  · rcases List.mem_append.1 hq with hq | hq
    · exact ⟨⟨hp _ (h.mem q hq).1.1, (h.mem q hq).1.2⟩, hp _ (h.mem q hq).2.1, (h.mem q hq).2.2⟩
    · rw [List.mem_singleton] at hq
      rw [hq]; exact ⟨⟨hp _ hX.1, hX.2⟩, hp _ hY.1, hY.2⟩
  · rcases ho with e | e
    · exact h.vO g (e ▸ hg)
    · have h1 := e g hg
      exact ⟨fun c => by have := h.bo.lt g c; omega, fun c => by have := h.bo.plt g c; omega, fun c => by have := (Array.getElem?_eq_some_iff.1 h.k).1; omega⟩
end Go.Proofs.Ytoihjobdfjajfaa
namespace Go.Proofs.Ytoihjobdfjajfaa
open Go.RowKit Go.Maps
theorem PT.flat_at {l : List PT} {i : Nat} {q : PT} (h : l[i]? = some q) (j : Nat) (hj : j < 8) : (l.flatMap PT.cells)[i * 8 + j]? = (PT.cells q)[j]? := by
  induction l generalizing i with
  | nil => simp at h
  | cons y l ih =>
    rw [List.flatMap_cons]
    cases i with
    | zero =>
      simp at h; subst h; rw [List.getElem?_append_left (by rw [PT.cells_length]; omega), Nat.zero_mul, Nat.zero_add]
    | succ i =>
      simp at h; rw [List.getElem?_append_right (by rw [PT.cells_length]; omega), PT.cells_length]
      have : (i + 1) * 8 + j - 8 = i * 8 + j := by omega
      rw [this]; exact ih h
theorem PT.cells_eq (q : PT) : PT.cells q = [.int .i64 q.1.kind, .int .i64 q.1.n, .string q.1.name, .slice q.1.at_.1 q.1.args.length q.1.at_.2, .int .i64 q.2.kind, .int .i64 q.2.n, .string q.2.name, .slice q.2.at_.1 q.2.args.length q.2.at_.2] := by unfold PT.cells; rw [LT.cells_eq, LT.cells_eq]; rfl
theorem UK.last {p O : Nat → Prop} {bb K m g n cap : Nat} {ss : List PT} {q : PT} {c : Int} {l : TL} {w : World} (h : UK p bb K (.slice (some ⟨g, 0, none⟩) n cap) (ss ++ [q]) c O m l w) :
    n = ss.length + 1 ∧ ss.length + 1 ≤ cap ∧ cap ≤ maxLen ∧ (w.cell? ⟨g, ss.length * 8, none⟩ = some (.int .i64 q.1.kind) ∧ w.cell? ⟨g, ss.length * 8 + 1, none⟩ = some (.int .i64 q.1.n) ∧ w.cell? ⟨g, ss.length * 8 + 2, none⟩ = some (.string q.1.name) ∧ w.cell? ⟨g, ss.length * 8 + 3, none⟩ = some (.slice q.1.at_.1 q.1.args.length q.1.at_.2)) ∧
    w.cell? ⟨g, ss.length * 8 + 4, none⟩ = some (.int .i64 q.2.kind) ∧ w.cell? ⟨g, ss.length * 8 + 5, none⟩ = some (.int .i64 q.2.n) ∧ w.cell? ⟨g, ss.length * 8 + 6, none⟩ = some (.string q.2.name) ∧ w.cell? ⟨g, ss.length * 8 + 7, none⟩ = some (.slice q.2.at_.1 q.2.args.length q.2.at_.2) := by
  have hr := h.row
  have hn : n = ss.length + 1 := by
    rcases hr.2 with ⟨e, _⟩ | ⟨g', c', cur, e, _⟩
    · cases e
    · injection e with _ e _; simp at e; exact e
  subst hn
  have hcap : ss.length + 1 ≤ cap ∧ cap ≤ maxLen := by
    rcases hr.2 with ⟨e, _⟩ | ⟨g', c', cur, e, _, h1, h2, _⟩
    · cases e
    · injection e with _ _ e; subst e; simp at h1; omega
  have hr' : Row w 187 8 (.slice (some ⟨g, 0, none⟩) (ss.length + 1) cap) (ss.length + 1) ((ss ++ [q]).flatMap PT.cells) := by simpa using hr
  have hi : (ss ++ [q])[ss.length]? = some q := by simp
  refine ⟨rfl, hcap.1, hcap.2, ⟨hr'.cells rfl _ _ ?_, hr'.cells rfl _ _ ?_, hr'.cells rfl _ _ ?_, hr'.cells rfl _ _ ?_⟩, hr'.cells rfl _ _ ?_, hr'.cells rfl _ _ ?_, hr'.cells rfl _ _ ?_, hr'.cells rfl _ _ ?_⟩
  · have := PT.flat_at hi 0 (by omega); rw [Nat.add_zero] at this; rw [this, PT.cells_eq]; rfl
  all_goals (rw [PT.flat_at hi _ (by omega), PT.cells_eq]; rfl)
def BxS (q : PT) (wr : World) : List Value → World → Prop
  | [], W => Turned (fun _ => False) wr W
  | [b], W => Turned (fun _ => False) wr W ∧ ∃ B a0 a1 a2 a3 a4 a5 a6 a7, b = .pointer (some ⟨B, 0, none⟩) ∧ wr.heap.size ≤ B ∧ W.heap[B]? = some (.cells #[a0, a1, a2, a3, a4, a5, a6, a7] 187 (0, 0))
  | [b, _], W => Turned (fun _ => False) wr W ∧ ∃ B, b = .pointer (some ⟨B, 0, none⟩) ∧ wr.heap.size ≤ B ∧ W.heap[B]? = some (.cells #[.int .i64 q.1.kind, .int .i64 q.1.n, .string q.1.name, .slice q.1.at_.1 q.1.args.length q.1.at_.2, .int .i64 q.2.kind, .int .i64 q.2.n, .string q.2.name, .slice q.2.at_.1 q.2.args.length q.2.at_.2] 187 (0, 0))
  | _, _ => False
theorem BxS.turned0 {q : PT} {wr : World} : ∀ (hs : List Value) (w w' : World), BxS q wr hs w → Turned (fun _ => False) w w' → BxS q wr hs w'
  | [], _, _, h, T => Turned.trans h T
  | [_], _, _, ⟨h1, B, a0, a1, a2, a3, a4, a5, a6, a7, h2, h3, h4⟩, T => ⟨h1.trans T, B, a0, a1, a2, a3, a4, a5, a6, a7, h2, h3, (T.block _ (Array.getElem?_eq_some_iff.1 h4).1 (fun f => f)).trans h4⟩
  | [_, _], _, _, ⟨h1, B, h2, h3, h4⟩, T => ⟨h1.trans T, B, h2, h3, (T.block _ (Array.getElem?_eq_some_iff.1 h4).1 (fun f => f)).trans h4⟩
  | _ :: _ :: _ :: _, _, _, h, _ => h.elim
theorem BxS.turned {q : PT} {wr : World} : ∀ (hs : List Value) (W : World), BxS q wr hs W → Turned (fun _ => False) wr W
  | [], _, h => h
  | [_], _, h => h.1
  | [_, _], _, h => h.1
  | _ :: _ :: _ :: _, _, h => h.elim
end Go.Proofs.Ytoihjobdfjajfaa
namespace Go.Proofs.Ytoihjobdfjajfaa
open Go.RowKit Go.Maps
theorem UK.new {p O : Nat → Prop} {bb m : Nat} {l : TL} {w : World} {x y : LT} (h : BO p bb O m l w) (hx : x.In p w) (gx : Tm.ownB m x.bare = true) (hy : y.In p w) (gy : Tm.ownB m y.bare = true) :
    UK p bb (w.heap.size + 1) (.slice (some ⟨w.heap.size, 0, none⟩) 1 1) [(x, y)] 0 O m l ((w.alloc (.cells #[.int .i64 x.kind, .int .i64 x.n, .string x.name, .slice x.at_.1 x.args.length x.at_.2, .int .i64 y.kind, .int .i64 y.n, .string y.name, .slice y.at_.1 y.args.length y.at_.2] 187)).alloc (.cells #[.pointer (some ⟨bb, 0, none⟩), .slice (some ⟨w.heap.size, 0, none⟩) 1 1, .int .i64 0] 190)) := by
  have T : Turned (fun _ => False) w ((w.alloc (.cells #[.int .i64 x.kind, .int .i64 x.n, .string x.name, .slice x.at_.1 x.args.length x.at_.2, .int .i64 y.kind, .int .i64 y.n, .string y.name, .slice y.at_.1 y.args.length y.at_.2] 187)).alloc (.cells #[.pointer (some ⟨bb, 0, none⟩), .slice (some ⟨w.heap.size, 0, none⟩) 1 1, .int .i64 0] 190)) := ((Turned.refl _ w).alloc _).alloc _; refine ⟨h.turned0 T, heap_alloc2_new w _ _, ?_, fun q hq => ?_, ⟨fun e => by have := h.lt _ e; omega, fun e => by have := h.plt _ e; omega⟩, fun g hg => ?_⟩
  · have := Row.made w 187 8 #[.int .i64 x.kind, .int .i64 x.n, .string x.name, .slice x.at_.1 x.args.length x.at_.2, .int .i64 y.kind, .int .i64 y.n, .string y.name, .slice y.at_.1 y.args.length y.at_.2] 1 rfl (by unfold maxLen; omega)
    have := this.turned0 ((Turned.refl (fun _ => False) _).alloc (.cells #[.pointer (some ⟨bb, 0, none⟩), .slice (some ⟨w.heap.size, 0, none⟩) 1 1, .int .i64 0] 190)); simpa [PT.cells_eq] using this
  · rw [List.mem_singleton] at hq
    rw [hq]; exact ⟨⟨hx.turned0 T, gx⟩, hy.turned0 T, gy⟩
  · simp [Value.ownBlock] at hg
    subst hg; exact ⟨fun e => by have := h.lt _ e; omega, fun e => by have := h.plt _ e; omega, by omega⟩
end Go.Proofs.Ytoihjobdfjajfaa
namespace Go.Proofs.Ytoihjobdfjajfaa
namespace Tm
structure MS where
  m : Nat
  l : Trail
  rs : List (Tm Unit)
  ss : List (Tm Unit)
inductive MR where
  | go (st : MS)
  | stop (e : Int) (m : Nat)
def news (m k : Nat) : List (Tm Unit) := (List.range k).map fun i => V ((m + i : Nat) : Int)
structure MInv {α : Type} (t : Tm α) (i : Nat) (st : MS) : Prop where
  ok : okT st.m st.l
  most : st.m ≤ 65536
  rl : st.rs.length = sizes t.args
  sl : st.ss.length = t.vars.length
  own : ∀ j y, j < cb t.args i → st.rs[j]? = some y → ownB st.m y = true
  slots : ∀ v ∈ met t.args i, ∀ y, st.ss[posOf t.vars v]? = some y → ownB st.m y = true
structure MSol {α : Type} (t : Tm α) (ρ : Int → Tm Unit) (i : Nat) (st : MS) (θ : Int → Tm Unit) : Prop where
  sol : solves θ st.l
  regs : ∀ j y r, j < cb t.args i → st.rs[j]? = some y → (Tm.regs t.args)[j]? = some r → subT θ y = subT ρ r.bare
  slots : ∀ v ∈ met t.args i, ∀ y, st.ss[posOf t.vars v]? = some y → subT θ y = ρ v
structure MNext {α : Type} (t : Tm α) (i : Nat) (x : Tm α) (st st' : MS) : Prop where
  inv : MInv t (i + 1) st'
  le : st.m ≤ st'.m
  pre : ∃ a, st'.l = a ++ st.l
  rs : ∀ j, j < cb t.args i → st'.rs[j]? = st.rs[j]?
  ss : ∀ v ∈ met t.args i, st'.ss[posOf t.vars v]? = st.ss[posOf t.vars v]?
  snd : ∀ θ ρ, solves θ st'.l → (∀ j, j < x.args.length → ∀ y r, st'.rs[cb t.args i + j]? = some y → x.args[j]? = some r → subT θ y = subT ρ r.bare) → (x.kind = 0 → ∀ y, st'.ss[posOf t.vars x.n]? = some y → subT θ y = ρ x.n) → ∀ y, st.rs[i]? = some y → subT θ y = subT ρ x.bare
  cpl : ∀ θ ρ, MSol t ρ i st θ → ∃ θ', (∀ v, v < (st.m : Int) → θ' v = θ v) ∧ MSol t ρ (i + 1) st' θ'
section
variable {α : Type} {t : Tm α} {i : Nat} {x : Tm α} {st : MS}
theorem cb_le {l : List (Tm α)} {i : Nat} (h : i ≤ sizes l) : cb l i ≤ sizes l := by
  have h1 := reg_le l h; have h2 := regs_length l; unfold regs at h2; unfold cb; omega
theorem MNext.trail {l' : Trail} (hx : (regs t.args)[i]? = some x) (ha : x.args.length = 0) (hm : x.kind ≠ 0 ∨ x.n ∈ met t.args i) (I : MInv t i st) (hok : okT st.m l') (hpre : ∃ a, l' = a ++ st.l)
    (hsnd : ∀ θ ρ, solves θ l' → (x.kind = 0 → ∀ y, st.ss[posOf t.vars x.n]? = some y → subT θ y = ρ x.n) → ∀ y, st.rs[i]? = some y → subT θ y = subT ρ x.bare)
    (hcpl : ∀ θ ρ, MSol t ρ i st θ → solves θ l') : MNext t i x st ⟨st.m, l', st.rs, st.ss⟩ := by
  have hc : cb t.args (i + 1) = cb t.args i := by have := (cb_next hx).1; omega
  have hmet : met t.args (i + 1) = met t.args i := by
    rw [met_succ hx]; unfold addVar
    rcases hm with h | h
    · rw [if_neg (fun c => h c.1)]
    · rw [if_neg (fun c => c.2 h)]
  exact ⟨⟨hok, I.most, I.rl, I.sl, by rw [hc]; exact I.own, by rw [hmet]; exact I.slots⟩, Nat.le_refl _, hpre, fun _ _ => rfl, fun _ _ => rfl, fun θ ρ hs _ h3 => hsnd θ ρ hs h3, fun θ ρ S => ⟨θ, fun _ _ => rfl, hcpl θ ρ S, by rw [hc]; exact S.regs, by rw [hmet]; exact S.slots⟩⟩
end
end Tm
end Go.Proofs.Ytoihjobdfjajfaa
namespace Go.Proofs.Ytoihjobdfjajfaa
namespace Tm
section
variable {α : Type} {t : Tm α} {m : Nat} {a : List (Tm Unit)}
theorem lens_le (l : List (Tm α)) : l.length ≤ sizes l := by
  have := cb_le (l := l) (Nat.zero_le _); rw [cb_zero] at this; exact this
end
end Tm
end Go.Proofs.Ytoihjobdfjajfaa
namespace Go.Proofs.Ytoihjobdfjajfaa
open Go.RowKit Go.Maps
theorem wholeE_ok {m : Nat} {l : Tm.Trail} {t : Tm Unit} (h : wholeE m l t = 0) : Tm.ownB m t = true ∧ Tm.wholeB l t = true := by
  unfold wholeE at h
  split at h
  · rename_i h1
    split at h
    · rename_i h2; exact ⟨h1, h2⟩
    · cases h
  · cases h
theorem good_slimB {t : LT} (h : goodB t.bare = true) : slim t := by
  intro x hx; have h1 := Tm.good_ones' h x.bare (by rw [Tm.flat_bare]; exact List.mem_map_of_mem hx); rw [goodOneB_bare] at h1
  by_cases ha : x.args = []
  · rw [ha]; exact Nat.zero_le _
  · have := (Tm.one_args h1 ha).2.2; omega
theorem wholeVal {p O : Nat → Prop} {bb m : Nat} {l : TL} {w : World} {t : LT} {E : Int} (h : BO p bb O m l w) (ht : t.In p w) (hs : slim t) (hE : wholeE m (bt l) t.bare = E) :
    Calls Try.prog 89 #[.pointer (some ⟨bb, 0, none⟩), .agg #[.int .i64 t.kind, .int .i64 t.n, .string t.name, .slice t.at_.1 t.args.length t.at_.2]] w fun e w' => ∃ u : LT, e = .returned (.tuple #[.agg #[.int .i64 u.kind, .int .i64 u.n, .string u.name, .slice u.at_.1 u.args.length u.at_.2], .int .i64 E]) ∧ u.bare = wholeT m (bt l) t.bare ∧ u.In (fun k => p k ∨ w.heap.size ≤ k) w' ∧ Turned (fun _ => False) w w' := by
  have := wholeO89 h ht hs; rw [LT.val_eq, hE] at this
  exact this.mono fun e w' ⟨u, h1, h2⟩ => ⟨u, by rw [h1, LT.val_eq], h2⟩
theorem varsVal {p : Nat → Prop} {w : World} {u : LT} (hu : u.In p w) (hg : goodB u.bare = true) :
    Calls Try.prog 34 #[.agg #[.int .i64 u.kind, .int .i64 u.n, .string u.name, .slice u.at_.1 u.args.length u.at_.2]] w fun e w' => ∃ (va : Option Addr) (vc : Nat), e = .returned (.slice va u.vars.length vc) ∧ Row w' 2 1 (.slice va u.vars.length vc) u.vars.length (u.vars.map (Value.int .i64)) ∧ Turned (fun _ => False) w w' := by
  have hg' : goodB u = true := by rw [← goodB_bare]; exact hg
  have := vars34 hu (good_slimB hg); rw [LT.val_eq] at this; refine this.mono ?_
  rintro e w' ⟨v, rfl, hr, _, T⟩
  rw [show varsB u = u.vars from by unfold varsB; rw [if_pos hg']] at hr; obtain ⟨va, vc, rfl⟩ := hr.shape; exact ⟨va, vc, rfl, hr, T⟩
def BLoop (N bb m : Nat) (l : TL) (w1 wr : World) : Prop :=
  ∃ O, BO (fun k => k < N) bb O m l wr ∧ (∀ k, O k → N ≤ k) ∧ Turned (fun _ => False) w1 wr
theorem BLoop.step {N bb m m' : Nat} {l l' : TL} {w1 wr w' : World} {O : Nat → Prop} (hN : N = w1.heap.size) (h : BO (fun k => k < N) bb O m l wr) (hO : ∀ k, O k → N ≤ k) (T : Turned (fun _ => False) w1 wr) (ha : After (fun k => k < N) bb O m' l' wr w') : BLoop N bb m' l' w1 w' := by
  obtain ⟨O', a1, a2, a3⟩ := ha; refine ⟨O', a1, fun k hk => ?_, T.step a3 (fun i hi e => by have := hO i e; omega)⟩
  rcases Nat.lt_or_ge k wr.heap.size with h1 | h1
  · exact hO k (a2 k hk h1)
  · have := T.size; omega
end Go.Proofs.Ytoihjobdfjajfaa
namespace Go.Proofs.Ytoihjobdfjajfaa
open Go.RowKit Go.Maps
def MK (N bb mb gr gs R S : Nat) (bx : List (Nat × Obj)) (ts : List LT) (w1 : World) (st : Tm.MS) (W : World) : Prop :=
  ∃ (q : Nat → Prop) (l : TL) (O : Nat → Prop) (rs ss : List LT), (∀ k, k < N → q k) ∧ bt l = st.l ∧ BO q bb O st.m l W ∧ (∀ k, O k → N ≤ k) ∧ Turned (fun _ => False) w1 W ∧
    W.heap[mb]? = some (.cells #[.pointer (some ⟨bb, 0, none⟩), .slice (some ⟨gr, 0, none⟩) R R, .slice (some ⟨gs, 0, none⟩) S S] 197 (0, 0)) ∧
    (Row W 27 4 (.slice (some ⟨gr, 0, none⟩) R R) R (rs.flatMap LT.cells) ∧ rs.map Tm.bare = st.rs ∧ ∀ x ∈ rs, x.In q W) ∧ (Row W 27 4 (.slice (some ⟨gs, 0, none⟩) S S) S (ss.flatMap LT.cells) ∧ ss.map Tm.bare = st.ss ∧ ∀ x ∈ ss, x.In q W) ∧
    (∀ g, g = mb ∨ g = gr ∨ g = gs → N ≤ g ∧ ¬ O g ∧ ¬ q g) ∧ (mb ≠ gr ∧ mb ≠ gs ∧ gr ≠ gs) ∧ (∀ b ∈ bx, W.heap[b.1]? = some b.2 ∧ ¬ O b.1 ∧ b.1 ≠ mb ∧ b.1 ≠ gr ∧ b.1 ≠ gs ∧ ¬ q b.1) ∧ ∀ x ∈ ts, x.In q W
section
variable {N bb mb gr gs R S : Nat} {bx : List (Nat × Obj)} {ts : List LT} {w1 W W' W0 : World} {st st' : Tm.MS} {x t : LT}
theorem MK.turned0 (h : MK N bb mb gr gs R S bx ts w1 st W) (T : Turned (fun _ => False) W W') : MK N bb mb gr gs R S bx ts w1 st W' := by
  obtain ⟨q, l, O, rs, ss, h1, h2, h3, h4, h5, h6, ⟨r1, r2, r3⟩, ⟨s1, s2, s3⟩, h9, h10, h11, h12⟩ := h; exact ⟨q, l, O, rs, ss, h1, h2, h3.turned0 T, h4, h5.trans T, (T.block _ (Array.getElem?_eq_some_iff.1 h6).1 (fun f => f)).trans h6, ⟨r1.turned0 T, r2, fun x hx => (r3 x hx).turned0 T⟩, ⟨s1.turned0 T, s2, fun x hx => (s3 x hx).turned0 T⟩, h9, h10, fun b hb => ⟨(T.block _ (Array.getElem?_eq_some_iff.1 (h11 b hb).1).1 (fun f => f)).trans (h11 b hb).1, (h11 b hb).2⟩, fun x hx => (h12 x hx).turned0 T⟩
theorem MK.old (h : MK N bb mb gr gs R S bx ts w1 st W) : Turned (fun _ => False) w1 W := by
  obtain ⟨q, l, O, rs, ss, h1, h2, h3, h4, h5, _⟩ := h; exact h5
theorem MK.boxes (h : MK N bb mb gr gs R S bx ts w1 st W) : ∀ b ∈ bx, W.heap[b.1]? = some b.2 := by
  obtain ⟨q, l, O, rs, ss, h1, h2, h3, h4, h5, h6, h7, h8, h9, h10, h11, h12⟩ := h
  exact fun b hb => (h11 b hb).1
theorem MK.terms (h : MK N bb mb gr gs R S bx ts w1 st W) : ∀ x ∈ ts, x.In (fun _ => True) W := by
  obtain ⟨q, l, O, rs, ss, h1, h2, h3, h4, h5, h6, h7, h8, h9, h10, h11, h12⟩ := h
  exact fun x hx => (h12 x hx).mono (fun _ _ _ => trivial)
theorem MK.drop (h : MK N bb mb gr gs R S bx ts w1 st W) : MK N bb mb gr gs R S [] [] w1 st W := by
  obtain ⟨q, l, O, rs, ss, h1, h2, h3, h4, h5, h6, h7, h8, h9, h10, h11, h12⟩ := h; exact ⟨q, l, O, rs, ss, h1, h2, h3, h4, h5, h6, h7, h8, h9, h10, (fun b hb => by cases hb), fun b hb => by cases hb⟩
theorem MK.ok (h : MK N bb mb gr gs R S bx ts w1 st W) : Tm.okT st.m st.l := by
  obtain ⟨q, l, O, rs, ss, h1, h2, h3, _⟩ := h; rw [← h2]; exact h3.ok
theorem MK.most (h : MK N bb mb gr gs R S bx ts w1 st W) : st.m ≤ 65536 := by
  obtain ⟨q, l, O, rs, ss, h1, h2, h3, _⟩ := h; exact h3.most
theorem MK.box (h : MK N bb mb gr gs R S bx ts w1 st W) (o : Obj) : MK N bb mb gr gs R S ((W.heap.size, o) :: bx) ts w1 st (W.alloc o) := by
  have T := (Turned.refl (fun _ => False) W).alloc o; obtain ⟨q, l, O, rs, ss, h1, h2, h3, h4, h5, h6, ⟨r1, r2, r3⟩, ⟨s1, s2, s3⟩, h9, h10, h11, h12⟩ := h; have l1 := (Array.getElem?_eq_some_iff.1 h6).1; have l2 := r1.lt gr rfl; have l3 := s1.lt gs rfl; refine ⟨q, l, O, rs, ss, h1, h2, h3.turned0 T, h4, h5.trans T, (T.block _ l1 (fun f => f)).trans h6, ⟨r1.turned0 T, r2, fun x hx => (r3 x hx).turned0 T⟩, ⟨s1.turned0 T, s2, fun x hx => (s3 x hx).turned0 T⟩, h9, h10, fun b hb => ?_, fun x hx => (h12 x hx).turned0 T⟩
  rcases List.mem_cons.1 hb with rfl | hb
  · exact ⟨heap_alloc_new W o, fun c => Nat.lt_irrefl _ (h3.lt _ c), fun e => by simp only [] at e; omega, fun e => by simp only [] at e; omega, fun e => by simp only [] at e; omega, fun c => Nat.lt_irrefl _ (h3.plt _ c)⟩
  · exact ⟨(T.block _ (Array.getElem?_eq_some_iff.1 (h11 b hb).1).1 (fun f => f)).trans (h11 b hb).1, (h11 b hb).2⟩
theorem MK.keep (h : MK N bb mb gr gs R S bx ts w1 st W0) (T : Turned (fun _ => False) W0 W) (hx : x.In (fun k => k < N ∨ W0.heap.size ≤ k) W) : MK N bb mb gr gs R S bx (x :: ts) w1 st W := by
  obtain ⟨q, l, O, rs, ss, h1, h2, h3, h4, h5, h6, ⟨r1, r2, r3⟩, ⟨s1, s2, s3⟩, h9, h10, h11, h12⟩ := h; have l1 := (Array.getElem?_eq_some_iff.1 h6).1; have l2 := r1.lt gr rfl; have l3 := s1.lt gs rfl
  have up : ∀ {y : LT}, y.In q W0 → y.In (fun k => q k ∨ (W0.heap.size ≤ k ∧ k < W.heap.size)) W := fun hy => (hy.turned0 T).mono (fun _ _ h => .inl h)
  refine ⟨fun k => q k ∨ (W0.heap.size ≤ k ∧ k < W.heap.size), l, O, rs, ss, fun k hk => .inl (h1 k hk), h2, (h3.turned0 T).wide (fun k hk => .inl hk) (fun k hk => ?_), h4, h5.trans T, (T.block _ l1 (fun f => f)).trans h6, ⟨r1.turned0 T, r2, fun x hx => up (r3 x hx)⟩, ⟨s1.turned0 T, s2, fun x hx => up (s3 x hx)⟩, fun g hg => ⟨(h9 g hg).1, (h9 g hg).2.1, fun c => ?_⟩, h10, fun b hb => ⟨(T.block _ (Array.getElem?_eq_some_iff.1 (h11 b hb).1).1 (fun f => f)).trans (h11 b hb).1, (h11 b hb).2.1, (h11 b hb).2.2.1, (h11 b hb).2.2.2.1, (h11 b hb).2.2.2.2.1, fun c => c.elim (h11 b hb).2.2.2.2.2 (fun c => by have := (Array.getElem?_eq_some_iff.1 (h11 b hb).1).1; omega)⟩, fun y hy => ?_⟩
  · rcases hk with hk | hk
    · exact ⟨Nat.lt_of_lt_of_le (h3.plt k hk) T.size, h3.sep k hk⟩
    · exact ⟨hk.2, fun c => by have := h3.lt k c; omega⟩
  · rcases c with c | c
    · exact (h9 g hg).2.2 c
    · rcases hg with rfl | rfl | rfl <;> omega
  · rcases List.mem_cons.1 hy with rfl | hy
    · exact hx.mono (fun k hk h => h.elim (fun h => .inl (h1 k h)) (fun h => .inr ⟨h, hk⟩))
    · exact up (h12 y hy)
theorem MK.call (hN : N = w1.heap.size) (h : MK N bb mb gr gs R S bx ts w1 st W) : ∃ (q O : Nat → Prop) (l : TL), BO q bb O st.m l W ∧ bt l = st.l ∧ (∀ k, k < N → q k) ∧ (∀ x ∈ ts, x.In q W) ∧ ∀ m' l' w', After q bb O m' l' W w' → MK N bb mb gr gs R S bx ts w1 ⟨m', bt l', st.rs, st.ss⟩ w' := by
  obtain ⟨q, l, O, rs, ss, h1, h2, h3, h4, h5, h6, ⟨r1, r2, r3⟩, ⟨s1, s2, s3⟩, h9, h10, h11, h12⟩ := h; refine ⟨q, O, l, h3, h2, h1, h12, fun m' l' w' ha => ?_⟩; obtain ⟨O', a1, a2, a3⟩ := ha; have l1 := (Array.getElem?_eq_some_iff.1 h6).1; have l2 := r1.lt gr rfl; have l3 := s1.lt gs rfl
  have up : ∀ {y : LT}, y.In q W → y.In q w' := fun hy => LT.In.turned a3 (fun k _ hk e => h3.sep k hk e) (fun _ _ q => q) _ hy
  refine ⟨q, l', O', rs, ss, h1, rfl, a1, fun k hk => ?_, h5.step a3 (fun i hi e => by have := h4 i e; omega), (a3.block mb l1 (h9 mb (.inl rfl)).2.1).trans h6, ⟨r1.turned a3 (fun k hk e => ?_), r2, fun x hx => up (r3 x hx)⟩, ⟨s1.turned a3 (fun k hk e => ?_), s2, fun x hx => up (s3 x hx)⟩, fun g hg => ⟨(h9 g hg).1, fun c => (h9 g hg).2.1 (a2 g c (by rcases hg with rfl | rfl | rfl <;> assumption)), (h9 g hg).2.2⟩, h10, fun b hb => ?_, fun x hx => up (h12 x hx)⟩
  · rcases Nat.lt_or_ge k W.heap.size with hh | hh
    · exact h4 k (a2 k hk hh)
    · have := h5.size; omega
  · simp [Value.ownBlock] at hk
    exact (h9 gr (.inr (.inl rfl))).2.1 (hk ▸ e)
  · simp [Value.ownBlock] at hk
    exact (h9 gs (.inr (.inr rfl))).2.1 (hk ▸ e)
  · obtain ⟨c1, c2, c3⟩ := h11 b hb
    have hlt := (Array.getElem?_eq_some_iff.1 c1).1; exact ⟨(a3.block _ hlt c2).trans c1, fun e => c2 (a2 _ e hlt), c3⟩
theorem MK.reg (h : MK N bb mb gr gs R S bx ts w1 st W) {i : Nat} {y : Tm Unit} (hy : st.rs[i]? = some y) : ∃ r : LT, r.bare = y ∧ (W.cell? ⟨gr, i * 4, none⟩ = some (.int .i64 r.kind) ∧ W.cell? ⟨gr, i * 4 + 1, none⟩ = some (.int .i64 r.n) ∧ W.cell? ⟨gr, i * 4 + 2, none⟩ = some (.string r.name) ∧ W.cell? ⟨gr, i * 4 + 3, none⟩ = some (.slice r.at_.1 r.args.length r.at_.2)) ∧ MK N bb mb gr gs R S bx (r :: ts) w1 st W := by
  obtain ⟨q, l, O, rs, ss, h1, h2, h3, h4, h5, h6, ⟨r1, r2, r3⟩, h8, h9, h10, h11, h12⟩ := h; rw [← r2, List.getElem?_map] at hy; obtain ⟨r, hr, rfl⟩ := Option.map_eq_some_iff.1 hy; obtain ⟨g, hg, c0, c1, c2, c3⟩ := row_at r1 hr
  injection hg with hg
  injection hg with hg
  subst hg; exact ⟨r, rfl, ⟨c0, c1, c2, c3⟩, q, l, O, rs, ss, h1, h2, h3, h4, h5, h6, ⟨r1, r2, r3⟩, h8, h9, h10, h11, fun x hx => (List.mem_cons.1 hx).elim (fun e => e ▸ r3 r (List.mem_of_getElem? hr)) (h12 x)⟩
end
end Go.Proofs.Ytoihjobdfjajfaa
namespace Go.Proofs.Ytoihjobdfjajfaa
open Go.RowKit Go.Maps
def ownD (wb : Nat) (tv iv rv : Value) (k : Nat) : Prop := k = wb ∨ tv.ownBlock = some k ∨ iv.ownBlock = some k ∨ rv.ownBlock = some k
structure DB (p : Nat → Prop) (wb : Nat) (tv iv rv : Value) (us : List LT) (is : List Bool) (tr : List Int) (w : World) : Prop where
  b : w.heap[wb]? = some (.cells #[tv, iv, rv] 113 (0, 0))
  row : Row w 41 4 tv us.length (us.flatMap LT.cells)
  bools : Row w 4 1 iv is.length (is.map Value.bool)
  trail : Row w 2 1 rv tr.length (tr.map (Value.int .i64))
  same : is.length = us.length
  ins : LT.Ins p w us
  most : us.length ≤ 65536
  ne : tv.ownBlock ≠ some wb ∧ iv.ownBlock ≠ some wb ∧ rv.ownBlock ≠ some wb ∧ (∀ k, tv.ownBlock = some k → iv.ownBlock ≠ some k ∧ rv.ownBlock ≠ some k) ∧ ∀ k, iv.ownBlock = some k → rv.ownBlock ≠ some k
  sep : ∀ k, p k → k < w.heap.size ∧ ¬ ownD wb tv iv rv k
section
variable {p : Nat → Prop} {wb : Nat} {tv iv rv : Value} {us : List LT} {is : List Bool} {tr : List Int} {w w' : World}
theorem DB.own_lt (h : DB p wb tv iv rv us is tr w) : ∀ k, ownD wb tv iv rv k → k < w.heap.size := by
  rintro k (rfl | hk | hk | hk)
  · exact (Array.getElem?_eq_some_iff.1 h.b).1
  · exact h.row.lt k hk
  · exact h.bools.lt k hk
  · exact h.trail.lt k hk
theorem DB.turned {S : Nat → Prop} (h : DB p wb tv iv rv us is tr w) (ht : Turned S w w') (hS : ∀ k, k < w.heap.size → S k → ¬ ownD wb tv iv rv k ∧ ¬ p k) : DB p wb tv iv rv us is tr w' := by
  have hb := (Array.getElem?_eq_some_iff.1 h.b).1
  exact ⟨(ht.block _ hb (fun f => (hS _ hb f).1 (.inl rfl))).trans h.b,
    h.row.turned ht (fun k hk f => (hS _ (h.row.lt k hk) f).1 (.inr (.inl hk))),
    h.bools.turned ht (fun k hk f => (hS _ (h.bools.lt k hk) f).1 (.inr (.inr (.inl hk)))),
    h.trail.turned ht (fun k hk f => (hS _ (h.trail.lt k hk) f).1 (.inr (.inr (.inr hk)))), h.same,
    LT.Ins.turned ht (fun k hk hq f => (hS k hk f).2 hq) (fun _ _ q => q) _ h.ins, h.most, h.ne, fun k hk => ⟨Nat.lt_of_lt_of_le (h.sep k hk).1 ht.size, (h.sep k hk).2⟩⟩
theorem DB.turned0 (h : DB p wb tv iv rv us is tr w) (ht : Turned (fun _ => False) w w') : DB p wb tv iv rv us is tr w' :=
  h.turned ht (fun _ _ f => f.elim)
theorem DB.none {w : World} (hp : ∀ k, p k → k < w.heap.size) : DB p w.heap.size (.slice none 0 0) (.slice none 0 0) (.slice none 0 0) [] [] [] (w.alloc (.cells #[.slice none 0 0, .slice none 0 0, .slice none 0 0] 113)) := by
  refine ⟨heap_alloc_new w _, Row.nil _ _ _, Row.nil _ _ _, Row.nil _ _ _, rfl, trivial, Nat.zero_le _, ⟨by simp [Value.ownBlock], by simp [Value.ownBlock], by simp [Value.ownBlock], fun k hk => by simp [Value.ownBlock] at hk, fun k hk => by simp [Value.ownBlock] at hk⟩, fun k hk => ?_⟩; have := hp k hk; refine ⟨by simp; omega, ?_⟩
  rintro (e | e | e | e)
  · omega
  · simp [Value.ownBlock] at e
  · simp [Value.ownBlock] at e
  · simp [Value.ownBlock] at e
end
end Go.Proofs.Ytoihjobdfjajfaa
namespace Go.Proofs.Ytoihjobdfjajfaa
open Go.RowKit Go.Maps
section
variable {p : Nat → Prop} {wb : Nat} {tv iv rv tv' iv' : Value} {us : List LT} {is : List Bool} {tr : List Int} {w w' : World}
theorem DB.fresh (h : DB p wb tv iv rv us is tr w) (hm : us.length < 65536) (ht : Turned (fun k => k = wb ∨ tv.ownBlock = some k ∨ iv.ownBlock = some k) w w') (hb : w'.heap[wb]? = some (.cells #[tv', iv', rv] 113 (0, 0)))
    (hr : Row w' 41 4 tv' (us.length + 1) (us.flatMap LT.cells ++ (leaf 0 0 ByteArray.empty : LT).cells)) (hi : Row w' 4 1 iv' (is.length + 1) (is.map Value.bool ++ [.bool false]))
    (ho : tv'.ownBlock = tv.ownBlock ∨ ∀ k, tv'.ownBlock = some k → w.heap.size ≤ k) (ho2 : iv'.ownBlock = iv.ownBlock ∨ ∀ k, iv'.ownBlock = some k → w.heap.size ≤ k) (hd : ∀ k, tv'.ownBlock = some k → iv'.ownBlock ≠ some k) :
    DB p wb tv' iv' rv (us ++ [leaf 0 0 ByteArray.empty]) (is ++ [false]) tr w' := by
  obtain ⟨n1, n2, n3, n4, n5⟩ := h.ne; have hbl := (Array.getElem?_eq_some_iff.1 h.b).1
  have old : ∀ {a a' : Value}, (a'.ownBlock = a.ownBlock ∨ ∀ k, a'.ownBlock = some k → w.heap.size ≤ k) → ∀ q, q < w.heap.size → a'.ownBlock = some q → a.ownBlock = some q := fun ho q hq e => by
    rcases ho with ho | ho
    · exact ho ▸ e
    · have := ho q e; omega
  have hown : ∀ k, k < w.heap.size → ownD wb tv' iv' rv k → ownD wb tv iv rv k := by
    rintro k hk (rfl | hq | hq | hq)
    · exact .inl rfl
    · exact .inr (.inl (old ho k hk hq))
    · exact .inr (.inr (.inl (old ho2 k hk hq)))
    · exact .inr (.inr (.inr hq))
  refine ⟨hb, ?_, ?_, h.trail.turned ht (fun k hk e => ?_), by simp [h.same], (LT.ins_append _ _).2 ⟨LT.Ins.turned ht (fun k hk hq e => ?_) (fun _ _ q => q) _ h.ins, ?_⟩, by simp; omega, ⟨fun e => n1 (old ho _ hbl e), fun e => n2 (old ho2 _ hbl e), n3, fun k hk => ⟨hd k hk, fun e => ?_⟩, fun k hk e => ?_⟩, fun k hk => ⟨Nat.lt_of_lt_of_le (h.sep k hk).1 ht.size, fun c => (h.sep k hk).2 (hown k (h.sep k hk).1 c)⟩⟩
  · rw [List.length_append, List.flatMap_append]
    simpa using hr
  · rw [List.length_append, List.map_append]
    simpa using hi
  · rcases e with e | e | e
    · exact n3 (e ▸ hk)
    · exact (n4 k e).2 hk
    · exact n5 k e hk
  · refine (h.sep k hq).2 ?_
    rcases e with e | e | e
    · exact .inl e
    · exact .inr (.inl e)
    · exact .inr (.inr (.inl e))
  · exact ⟨var_in (i64_lit 0 (by omega)), trivial⟩
  · have hl := h.trail.lt k e
    exact (n4 k (old ho k hl hk)).2 e
  · have hl := h.trail.lt k e
    exact n5 k (old ho2 k hl hk) e
end
end Go.Proofs.Ytoihjobdfjajfaa
namespace Go.Proofs.Ytoihjobdfjajfaa
open Go.RowKit Go.Maps
structure Chain (e : TypeId) (size : Nat) (tv : Value) (n : Nat) (xs news : List Value) (i j : Nat) (w0 : World) (hs : Hist) (W : World) : Prop where
  old : (∀ v, (j, v) ∉ hs) → Row W e size tv n xs
  one : ∀ v, (i, v) ∈ hs → (∀ x, (j, x) ∉ hs) → ∃ S, v = .slice (some ⟨S, 0, none⟩) 1 1 ∧ w0.heap.size ≤ S ∧ W.heap[S]? = some (.cells news.toArray e (0, 0))
  new : ∀ v, (j, v) ∈ hs → ∃ g cap, v = .slice (some ⟨g, 0, none⟩) (n + 1) cap ∧ Row W e size v (n + 1) (xs ++ news) ∧ (some g = tv.ownBlock ∨ w0.heap.size ≤ g)
section
variable {e : TypeId} {size : Nat} {tv : Value} {n : Nat} {xs news : List Value} {i j : Nat} {w0 W W' : World} {hs : Hist}
theorem Chain.start (h : Row w0 e size tv n xs) (T : Turned (fun _ => False) w0 W) : Chain e size tv n xs news i j w0 [] W :=
  ⟨fun _ => h.turned0 T, fun v h => (List.not_mem_nil h).elim, fun v h => (List.not_mem_nil h).elim⟩
theorem Chain.turned {S : Nat → Prop} (h : Chain e size tv n xs news i j w0 hs W) (T : Turned S W W') (hS : ∀ k, S k → k < w0.heap.size ∧ tv.ownBlock ≠ some k) : Chain e size tv n xs news i j w0 hs W' := by
  refine ⟨fun hn => (h.old hn).turned T (fun k hk c => (hS k c).2 hk), fun v hv hn => ?_, fun v hv => ?_⟩
  · obtain ⟨B, h1, h2, h3⟩ := h.one v hv hn
    exact ⟨B, h1, h2, (T.block B (Array.getElem?_eq_some_iff.1 h3).1 (fun c => by have := (hS B c).1; omega)).trans h3⟩
  · obtain ⟨g, cap, h1, h2, h3⟩ := h.new v hv
    refine ⟨g, cap, h1, h2.turned T (fun k hk c => ?_), h3⟩; rw [h1] at hk; simp only [Value.ownBlock, Option.some.injEq] at hk; subst hk
    rcases h3 with h3 | h3
    · exact (hS _ c).2 h3.symm
    · have := (hS _ c).1; omega
theorem Chain.turned0 (h : Chain e size tv n xs news i j w0 hs W) (T : Turned (fun _ => False) W W') : Chain e size tv n xs news i j w0 hs W' := h.turned T (fun _ f => f.elim)
theorem Chain.other {q : Nat} {x : Value} (h : Chain e size tv n xs news i j w0 hs W) (hi : q ≠ i) (hj : q ≠ j) : Chain e size tv n xs news i j w0 (hs ++ [(q, x)]) W := by
  have ne : ∀ {a : Nat} {v : Value}, a ≠ q → (a, v) ∈ hs ++ [(q, x)] → (a, v) ∈ hs := fun ha hm => by
    rcases mem_snoc hm with hm | ⟨c, _⟩
    · exact hm
    · exact absurd c ha
  exact ⟨fun hn => h.old (fun v c => hn v (List.mem_append_left _ c)), fun v hv hn => h.one v (ne hi.symm hv) (fun x c => hn x (List.mem_append_left _ c)), fun v hv => h.new v (ne hj.symm hv)⟩
theorem Chain.laid (h : Chain e size tv n xs news i j w0 hs W) (hw : w0.heap.size ≤ W.heap.size) (hij : i ≠ j) (hno : ∀ v, (i, v) ∉ hs) : Chain e size tv n xs news i j w0 (hs ++ [(i, .slice (some ⟨W.heap.size, 0, none⟩) 1 1)]) (W.alloc (.cells news.toArray e)) := by
  have T : Turned (fun _ => False) W (W.alloc (.cells news.toArray e)) := (Turned.refl _ W).alloc _; have hk := h.turned0 T; refine ⟨fun hn => hk.old (fun v c => hn v (List.mem_append_left _ c)), fun v hv hn => ?_, fun v hv => ?_⟩
  · rcases mem_snoc hv with hm | ⟨_, c⟩
    · exact absurd hm (hno v)
    · exact ⟨_, c, hw, heap_alloc_new W _⟩
  · rcases mem_snoc hv with hm | ⟨c, _⟩
    · exact hk.new v hm
    · exact absurd c.symm hij
end
end Go.Proofs.Ytoihjobdfjajfaa
namespace Go.Proofs.Ytoihjobdfjajfaa
open Go.RowKit Go.Maps
abbrev zc : List Value := (leaf 0 0 ByteArray.empty : LT).cells
structure FsR (wb : Nat) (tv iv rv : Value) (us : List LT) (is : List Bool) (w0 : World) (hs : Hist) (W : World) : Prop where
  t : Turned (fun k => k = wb ∨ tv.ownBlock = some k ∨ iv.ownBlock = some k) w0 W
  ct : Chain 41 4 tv us.length (us.flatMap LT.cells) zc 7 8 w0 hs W
  ci : Chain 4 1 iv is.length (is.map Value.bool) [.bool false] 13 14 w0 hs W
  blk : ∃ a b, W.heap[wb]? = some (.cells #[a, b, rv] 113 (0, 0)) ∧ ((∀ q, (17, q) ∉ hs) → a = tv) ∧ (∀ q, (17, q) ∈ hs → (8, a) ∈ hs) ∧ ((∀ q, (20, q) ∉ hs) → b = iv) ∧ ∀ q, (20, q) ∈ hs → (14, b) ∈ hs
section
variable {p : Nat → Prop} {wb : Nat} {tv iv rv : Value} {us : List LT} {is : List Bool} {tr : List Int} {w0 W W' : World} {hs : Hist}
theorem FsR.start (h : DB p wb tv iv rv us is tr w0) (T : Turned (fun _ => False) w0 W) : FsR wb tv iv rv us is w0 [] W := by
  have h' := h.turned0 T; exact ⟨T.mono (fun _ _ f => f.elim), Chain.start h.row T, Chain.start h.bools T, tv, iv, h'.b, fun _ => rfl, fun q hq => (List.not_mem_nil hq).elim, fun _ => rfl, fun q hq => (List.not_mem_nil hq).elim⟩
theorem FsR.turned0 (h : FsR wb tv iv rv us is w0 hs W) (T : Turned (fun _ => False) W W') : FsR wb tv iv rv us is w0 hs W' := by
  obtain ⟨a, b, h1, h2, h3, h4, h5⟩ := h.blk; exact ⟨h.t.trans (T.mono (fun _ _ f => f.elim)), h.ct.turned0 T, h.ci.turned0 T, a, b, (T.block wb (Array.getElem?_eq_some_iff.1 h1).1 (fun f => f)).trans h1, h2, h3, h4, h5⟩
end
end Go.Proofs.Ytoihjobdfjajfaa
namespace Go.Proofs.Ytoihjobdfjajfaa
open Go.RowKit Go.Maps
section
variable {p : Nat → Prop} {wb : Nat} {tv iv rv : Value} {us : List LT} {is : List Bool} {tr : List Int} {w0 W W' : World} {hs : Hist}
theorem FsR.done (hd : DB p wb tv iv rv us is tr w0) (hm : us.length < 65536) (h : FsR wb tv iv rv us is w0 hs W) (hall : ∀ i ∈ [7, 8, 13, 14, 17, 20], ∃ v, (i, v) ∈ hs) : ∃ tv' iv', DB p wb tv' iv' rv (us ++ [leaf 0 0 ByteArray.empty]) (is ++ [false]) tr W ∧ Turned (fun k => k = wb ∨ tv.ownBlock = some k ∨ iv.ownBlock = some k) w0 W ∧ (tv'.ownBlock = tv.ownBlock ∨ ∀ k, tv'.ownBlock = some k → w0.heap.size ≤ k) ∧ (iv'.ownBlock = iv.ownBlock ∨ ∀ k, iv'.ownBlock = some k → w0.heap.size ≤ k) := by
  obtain ⟨a, b, h1, h2, h3, h4, h5⟩ := h.blk; obtain ⟨q, hq⟩ := hall 17 (by simp); obtain ⟨r, hr⟩ := hall 20 (by simp); obtain ⟨g, cap, rfl, r1, g1⟩ := h.ct.new _ (h3 q hq); obtain ⟨g', cap', rfl, r2, g2⟩ := h.ci.new _ (h5 r hr)
  have o1 : (Value.slice (some ⟨g, 0, none⟩) (us.length + 1) cap).ownBlock = tv.ownBlock ∨ ∀ k, (Value.slice (some ⟨g, 0, none⟩) (us.length + 1) cap).ownBlock = some k → w0.heap.size ≤ k := by
    rcases g1 with g1 | g1
    · exact .inl (by simpa [Value.ownBlock] using g1)
    · exact .inr (fun k hk => by simp [Value.ownBlock] at hk; omega)
  have o2 : (Value.slice (some ⟨g', 0, none⟩) (is.length + 1) cap').ownBlock = iv.ownBlock ∨ ∀ k, (Value.slice (some ⟨g', 0, none⟩) (is.length + 1) cap').ownBlock = some k → w0.heap.size ≤ k := by
    rcases g2 with g2 | g2
    · exact .inl (by simpa [Value.ownBlock] using g2)
    · exact .inr (fun k hk => by simp [Value.ownBlock] at hk; omega)
  refine ⟨_, _, hd.fresh hm h.t h1 r1 r2 o1 o2 (fun k k1 k2 => ?_), h.t, o1, o2⟩; simp only [Value.ownBlock, Option.some.injEq] at k1 k2; subst k1; subst k2
  rcases r1.2 with ⟨c, _⟩ | ⟨x, xc, cur, e1, e2, _⟩
  · cases c
  rcases r2.2 with ⟨c, _⟩ | ⟨y, yc, cur', f1, f2, _⟩
  · cases c
  injection e1 with e1; injection e1 with e1; injection e1 with e1
  injection f1 with f1; injection f1 with f1; injection f1 with f1
  subst e1; rw [← f1, e2] at f2
  injection f2 with f2
  injection f2 with _ f2
  cases f2
end
end Go.Proofs.Ytoihjobdfjajfaa
namespace Go.Proofs.Ytoihjobdfjajfaa
namespace Tm
noncomputable def UR.andThen (r : UR) (b : List (Tm Unit × Tm Unit)) : UR :=
  match r with
  | .ok l left => unify l left b
  | .no q => .no q
  | .over => .over
end Tm
end Go.Proofs.Ytoihjobdfjajfaa
namespace Go.Proofs.Ytoihjobdfjajfaa
open Go.RowKit Go.Maps
structure DT (m : Nat) (l : Tm.Trail) (us : List LT) (is : List Bool) (tr : List Int) : Prop where
  ok : Tm.okT m l
  len : us.length = m
  set : ∀ i : Nat, i < m → is[i]? = some (decide ((i : Int) ∈ Tm.dom l))
  val : ∀ (i : Int) (t : Tm Unit), Tm.look l i = some t → ∃ u : LT, us[i.toNat]? = some u ∧ u.bare = t
  tr : tr = (Tm.dom l).reverse
structure DO (p : Nat → Prop) (wb : Nat) (O : Nat → Prop) (m : Nat) (l : Tm.Trail) (w : World) : Prop where
  db : ∃ tv iv rv us is tr, DB p wb tv iv rv us is tr w ∧ DT m l us is tr ∧ ∀ k, ownD wb tv iv rv k → O k
  lt : ∀ k, O k → k < w.heap.size
  sep : ∀ k, p k → ¬ O k
section
variable {p q O O' S : Nat → Prop} {wb m : Nat} {l : Tm.Trail} {w w' : World} {t : LT}
theorem DO.ok (h : DO p wb O m l w) : Tm.okT m l := by obtain ⟨_, _, _, _, _, _, _, T, _⟩ := h.db; exact T.ok
theorem DO.most (h : DO p wb O m l w) : m ≤ 65536 := by obtain ⟨_, _, _, _, _, _, D, T, _⟩ := h.db; have := D.most; have := T.len; omega
theorem DO.plt (h : DO p wb O m l w) : ∀ k, p k → k < w.heap.size := by obtain ⟨_, _, _, _, _, _, D, _⟩ := h.db; exact fun k hk => (D.sep k hk).1
theorem DO.turned (h : DO p wb O m l w) (T : Turned S w w') (hS : ∀ k, k < w.heap.size → S k → ¬ O k ∧ ¬ p k) : DO p wb O m l w' := by
  obtain ⟨tv, iv, rv, us, is, tr, D, R, hO⟩ := h.db; exact ⟨⟨tv, iv, rv, us, is, tr, D.turned T (fun k hk e => ⟨fun c => (hS k hk e).1 (hO k c), (hS k hk e).2⟩), R, hO⟩, fun k hk => Nat.lt_of_lt_of_le (h.lt k hk) T.size, h.sep⟩
theorem DO.turned0 (h : DO p wb O m l w) (T : Turned (fun _ => False) w w') : DO p wb O m l w' := h.turned T (fun _ _ f => f.elim)
theorem DO.more (h : DO p wb O m l w) (hO : ∀ k, O k → O' k) (hl : ∀ k, O' k → k < w.heap.size) (hs : ∀ k, p k → ¬ O' k) : DO p wb O' m l w := by
  obtain ⟨tv, iv, rv, us, is, tr, D, R, h1⟩ := h.db; exact ⟨⟨tv, iv, rv, us, is, tr, D, R, fun k hk => hO k (h1 k hk)⟩, hl, hs⟩
theorem DB.wide {tv iv rv : Value} {us : List LT} {is : List Bool} {tr : List Int} (h : DB p wb tv iv rv us is tr w) (hp : ∀ k, p k → q k) (hq : ∀ k, q k → k < w.heap.size ∧ ¬ ownD wb tv iv rv k) : DB q wb tv iv rv us is tr w :=
  ⟨h.b, h.row, h.bools, h.trail, h.same, (LT.ins_iff _).2 (fun x hx => ((LT.ins_iff _).1 h.ins x hx).mono (fun k _ hk => hp k hk)), h.most, h.ne, hq⟩
theorem DO.wide (h : DO p wb O m l w) (hp : ∀ k, p k → q k) (hq : ∀ k, q k → k < w.heap.size ∧ ¬ O k) : DO q wb O m l w := by
  obtain ⟨tv, iv, rv, us, is, tr, D, R, h1⟩ := h.db; exact ⟨⟨tv, iv, rv, us, is, tr, D.wide hp (fun k hk => ⟨(hq k hk).1, fun c => (hq k hk).2 (h1 k c)⟩), R, h1⟩, h.lt, fun k hk => (hq k hk).2⟩
def AfterD (p : Nat → Prop) (wb : Nat) (O : Nat → Prop) (m : Nat) (l : Tm.Trail) (w w' : World) : Prop :=
  ∃ O' : Nat → Prop, DO p wb O' m l w' ∧ (∀ k, O' k → k < w.heap.size → O k) ∧ Turned O w w'
theorem AfterD.turned0 {w2 : World} (h : AfterD p wb O m l w w') (T : Turned (fun _ => False) w' w2) : AfterD p wb O m l w w2 := by
  obtain ⟨O', h1, h2, h3⟩ := h; exact ⟨O', h1.turned0 T, h2, h3.trans (T.mono (fun _ _ f => f.elim))⟩
theorem AfterD.trans {m' m2 : Nat} {l' l2 : Tm.Trail} {w2 : World} (h : AfterD p wb O m' l' w w') (h2 : ∀ O', DO p wb O' m' l' w' → AfterD p wb O' m2 l2 w' w2) : AfterD p wb O m2 l2 w w2 := by
  obtain ⟨O', a1, a2, a3⟩ := h; obtain ⟨O2, b1, b2, b3⟩ := h2 O' a1; refine ⟨O2, b1, fun k hk hl => a2 k (b2 k hk (Nat.lt_of_lt_of_le hl a3.size)) hl, a3.step b3 (fun i hi e => a2 i e hi)⟩
theorem newD (w : World) (hp : ∀ k, p k → k < w.heap.size) : DO p w.heap.size (fun k => w.heap.size ≤ k ∧ k < w.heap.size + 1) 0 [] (w.alloc (.cells #[.slice none 0 0, .slice none 0 0, .slice none 0 0] 113)) := by
  refine ⟨⟨_, _, _, [], [], [], DB.none hp, ⟨trivial, rfl, fun i hi => absurd hi (Nat.not_lt_zero _), fun i t h => (by cases h), rfl⟩, fun k hk => ?_⟩, fun k hk => (by simp; omega), fun k hk c => by have := hp k hk; omega⟩
  rcases hk with e | e | e | e
  · omega
  · simp [Value.ownBlock] at e
  · simp [Value.ownBlock] at e
  · simp [Value.ownBlock] at e
end
end Go.Proofs.Ytoihjobdfjajfaa
namespace Go.Proofs.Ytoihjobdfjajfaa
open Go.RowKit Go.Maps
structure BD2 (q : Nat → Prop) (bb wb : Nat) (O D : Nat → Prop) (m mw : Nat) (l : TL) (lw : Tm.Trail) (w : World) : Prop where
  b : BO q bb O m l w
  d : DO q wb D mw lw w
  dis : ∀ k, O k → ¬ D k
section
variable {q q' O D : Nat → Prop} {bb wb m mw m' : Nat} {l l' : TL} {lw lw' : Tm.Trail} {w w' : World} {N : Nat} {w1 wr : World}
theorem BD2.turned0 (h : BD2 q bb wb O D m mw l lw w) (T : Turned (fun _ => False) w w') : BD2 q bb wb O D m mw l lw w' :=
  ⟨h.b.turned0 T, h.d.turned0 T, h.dis⟩
theorem BD2.stepB (h : BD2 q bb wb O D m mw l lw w) (ha : After q bb O m' l' w w') : ∃ O', BD2 q bb wb O' D m' mw l' lw w' ∧ (∀ k, O' k → k < w.heap.size → O k) ∧ Turned O w w' := by
  obtain ⟨O', a1, a2, a3⟩ := ha; refine ⟨O', ⟨a1, h.d.turned a3 (fun k hk e => ⟨h.dis k e, fun c => h.b.sep k c e⟩), fun k hk c => h.dis k (a2 k hk (h.d.lt k c)) c⟩, a2, a3⟩
theorem BD2.wide (h : BD2 q bb wb O D m mw l lw w) (hp : ∀ k, q k → q' k) (hq : ∀ k, q' k → k < w.heap.size ∧ ¬ O k ∧ ¬ D k) : BD2 q' bb wb O D m mw l lw w :=
  ⟨h.b.wide hp (fun k hk => ⟨(hq k hk).1, (hq k hk).2.1⟩), h.d.wide hp (fun k hk => ⟨(hq k hk).1, (hq k hk).2.2⟩), h.dis⟩
theorem BD2.grown (h : BD2 q bb wb O D m mw l lw w) (T : Turned (fun _ => False) w w') : BD2 (fun k => q k ∨ (w.heap.size ≤ k ∧ k < w'.heap.size)) bb wb O D m mw l lw w' := by
  refine (h.turned0 T).wide (fun k hk => .inl hk) (fun k hk => ?_)
  rcases hk with hk | hk
  · exact ⟨Nat.lt_of_lt_of_le (h.b.plt k hk) T.size, h.b.sep k hk, h.d.sep k hk⟩
  · exact ⟨hk.2, fun c => by have := h.b.lt k c; omega, fun c => by have := h.d.lt k c; omega⟩
def BDq (q : Nat → Prop) (N bb wb m mw : Nat) (l : TL) (lw : Tm.Trail) (w1 wr : World) : Prop :=
  ∃ O D, BD2 q bb wb O D m mw l lw wr ∧ (∀ k, O k → N ≤ k) ∧ (∀ k, D k → N ≤ k) ∧ Turned (fun _ => False) w1 wr
theorem BDq.stepB (hN : N ≤ w1.heap.size) (h : BD2 q bb wb O D m mw l lw wr) (hO : ∀ k, O k → N ≤ k) (hD : ∀ k, D k → N ≤ k) (hO1 : ∀ k, O k → w1.heap.size ≤ k) (T : Turned (fun _ => False) w1 wr) (ha : After q bb O m' l' wr w') : BDq q N bb wb m' mw l' lw w1 w' := by
  obtain ⟨O', a1, a2, a3⟩ := h.stepB ha; refine ⟨O', D, a1, fun k hk => ?_, hD, T.step a3 (fun i hi e => by have := hO1 i e; omega)⟩
  rcases Nat.lt_or_ge k wr.heap.size with h1 | h1
  · exact hO k (a2 k hk h1)
  · have := T.size; omega
theorem BDq.turned0 (h : BDq q N bb wb m mw l lw w1 wr) (T : Turned (fun _ => False) wr w') : BDq q N bb wb m mw l lw w1 w' := by
  obtain ⟨O, D, h1, h3, h4, h5⟩ := h; exact ⟨O, D, h1.turned0 T, h3, h4, h5.trans T⟩
theorem BDq.old (h : BDq q N bb wb m mw l lw w1 wr) : Turned (fun _ => False) w1 wr := by
  obtain ⟨O, D, h1, h3, h4, h5⟩ := h; exact h5
theorem BDq.binds (h : BDq (fun k => k < N) N bb wb m mw l lw w1 wr) : BLoop N bb m l w1 wr := by
  obtain ⟨O, D, h1, h3, h4, h5⟩ := h; exact ⟨O, h1.b, h3, h5⟩
end
end Go.Proofs.Ytoihjobdfjajfaa
namespace Go.Proofs.Ytoihjobdfjajfaa
open Go.RowKit Go.Maps
theorem BLoop.grown {N bb m : Nat} {l : TL} {w1 wr w' : World} (h : BLoop N bb m l w1 wr) (hN : N = w1.heap.size) (T : Turned (fun _ => False) wr w') : ∃ O, BO (fun k => k < N ∨ (wr.heap.size ≤ k ∧ k < w'.heap.size)) bb O m l w' ∧ (∀ k, O k → N ≤ k) ∧ Turned (fun _ => False) w1 w' := by
  obtain ⟨O, B, hO, T1⟩ := h; have s1 := T1.size; have s2 := T.size; refine ⟨O, (B.turned0 T).wide (fun k hk => .inl hk) (fun k hk => ?_), hO, T1.trans T⟩
  rcases hk with hk | hk
  · exact ⟨by omega, fun c => by have := hO k c; omega⟩
  · exact ⟨hk.2, fun c => by have := B.lt k c; omega⟩
end Go.Proofs.Ytoihjobdfjajfaa
namespace Go.Proofs.Ytoihjobdfjajfaa
open Go.RowKit Go.Maps
def MRQ (mk : Tm.MS → World → Prop) (st : Tm.MS) : Tm.MR → Ending → World → Prop
  | .go st', e, w' => e = .returned (.tuple #[.bool true, .int .i64 0]) ∧ mk st' w'
  | .stop E m', e, w' => ∃ (b : Bool) (st2 : Tm.MS), e = .returned (.tuple #[.bool b, .int .i64 E]) ∧ (b = true → ¬ E = 0) ∧ st2.m = m' ∧ (∃ a, st2.l = a ++ st.l) ∧ mk st2 w'
end Go.Proofs.Ytoihjobdfjajfaa
namespace Go.Proofs.Ytoihjobdfjajfaa
open Go.RowKit Go.Maps
theorem flat_take (l : List LT) (c : Nat) (hc : c ≤ l.length) : (l.take c).flatMap LT.cells = (l.flatMap LT.cells).take (c * 4) ∧ (l.drop c).flatMap LT.cells = (l.flatMap LT.cells).drop (c * 4) := by
  have h := List.take_append_drop c l
  have hl : ((l.take c).flatMap LT.cells).length = c * 4 := by rw [LT.flat_length, List.length_take]; omega
  constructor
  · conv => rhs; rw [← h, List.flatMap_append]
    rw [List.take_left' hl]
  · conv => rhs; rw [← h, List.flatMap_append]
    rw [List.drop_left' hl]
end Go.Proofs.Ytoihjobdfjajfaa
namespace Go.Proofs.Ytoihjobdfjajfaa
open Lib (hid)
open Go.RowKit Go.Maps
theorem comp37q {p q : Nat → Prop} {w : World} {a : Option Addr} {c : Nat} {l : List LT} (s : ByteArray) (hs : s.size ≤ maxLen) (h : LT.Sl p w a c l) (hi : LT.Ins q w l) (hn : l.length ≤ 65536) :
    Calls Try.prog 37 #[.string s, .slice a l.length c] w fun e w' => ∃ d, e = .returned (LT.val (.mk 2 0 s d l)) ∧ LT.In (fun k => q k ∨ w.heap.size ≤ k) w' (.mk 2 0 s d l) ∧ Turned (fun _ => False) w w' := by
  have hcl : ∀ o, Calls Try.prog 128 #[.slice a l.length c] (w.alloc o) _ := fun o => clone128 (h.turned0 ((Turned.refl _ w).alloc o)) hn
  have HCL := hid hcl; clear hcl; go_enter Try.func37, Try.ntmps37
  go_wp2_with (go_at_call 128; refine (HCL.out _).mono ?_; rintro e w2 ⟨a', c', rfl, hv, hl, ht⟩; obtain ⟨hbox, hlt⟩ := box4 ht; obtain ⟨c0, c1, c2, c3, f0, f1, f2, f3⟩ := cells4 hbox; have HB := hid hbox; clear hbox)
  have T0 := ((Turned.refl (fun _ => False) w).alloc (.cells #[.int .i64 0, .int .i64 0, .string ⟨#[]⟩, .slice none 0 0] 27)).trans ht
  have hsz : w.heap.size ≤ (w.alloc (.cells #[.int .i64 0, .int .i64 0, .string ⟨#[]⟩, .slice none 0 0] 27)).heap.size := by simp
  have hset := set4 (a' := .int .i64 2) (b' := .int .i64 0) (c' := .string s) (d' := .slice a' l.length c') HB.out; have T4 := turned4 (a := .int .i64 2) (b := .int .i64 0) (c := .string s) (d := .slice a' l.length c') T0 (Nat.le_refl _)
  have hrow : Row ((((w2.setCell ⟨w.heap.size, 0, none⟩ (.int .i64 2)).setCell ⟨w.heap.size, 1, none⟩ (.int .i64 0)).setCell ⟨w.heap.size, 2, none⟩ (.string s)).setCell ⟨w.heap.size, 3, none⟩ (.slice a' l.length c')) 27 4 (.slice a' l.length c') l.length (l.flatMap LT.cells) := by
    have hne : ∀ j, (Value.slice a' l.length c').ownBlock ≠ some (Addr.block ⟨w.heap.size, j, none⟩) := fun j e => by
      have := hl _ e; simp at this; omega
    exact (((hv.setCell (hne 0) _).setCell (hne 1) _).setCell (hne 2) _).setCell (hne 3) _
  refine bodyPost_ret (v := .agg #[.int .i64 2, .int .i64 0, .string s, .slice a' l.length c']) (results_cell_row Try.results37 _ _ w.heap.size 27 _ (0, 0) _ rfl hset Try.underlying27 rfl (by kernel_rfl)) rfl ⟨(a', c'), rfl, ?_, T4⟩; have hi4 : LT.Ins q _ l := (LT.ins_iff _).2 (fun x hx => ((LT.ins_iff _).1 hi x hx).turned0 T4); obtain ⟨_, hsl⟩ := LT.Sl.of_row (p := fun k => q k ∨ w.heap.size ≤ k) hrow (fun k hk => .inr (Nat.le_trans hsz (hl k hk))) (LT.Ins.mono hi4 (fun _ _ hk => .inl hk)); exact hsl.in_ (i64_lit 2 (by omega)) (i64_lit 0 (by omega)) hs
theorem LT.In.none {p q : Nat → Prop} {W W' : World} {x : LT} (h : x.In p W) (hx : x.args = []) : x.In q W' := by
  obtain ⟨k, n, s, d, aa⟩ := x; simp only [Tm.args] at hx; subst hx; obtain ⟨h1, h2, h3, h4, h5, h6, h7, h8⟩ := h; exact ⟨h1, h2, h3, h4, h5, h6, fun hp => absurd hp (by simp), trivial⟩
section
variable {N bb mb gr gs R S : Nat} {bx bx' : List (Nat × Obj)} {ts ts' : List LT} {w1 W W' W0 : World} {st st' : Tm.MS} {x t : LT}
theorem MK.sub (h : MK N bb mb gr gs R S bx ts w1 st W) (hb : ∀ b ∈ bx', b ∈ bx) (ht : ∀ x ∈ ts', x ∈ ts) : MK N bb mb gr gs R S bx' ts' w1 st W := by
  obtain ⟨q, l, O, rs, ss, h1, h2, h3, h4, h5, h6, h7, h8, h9, h10, h11, h12⟩ := h; exact ⟨q, l, O, rs, ss, h1, h2, h3, h4, h5, h6, h7, h8, h9, h10, fun b hb' => h11 b (hb b hb'), fun x hx => h12 x (ht x hx)⟩
theorem MK.leaf (h : MK N bb mb gr gs R S bx ts w1 st W) (hx : ∀ (p : Nat → Prop) (w : World), x.In p w) : MK N bb mb gr gs R S bx (x :: ts) w1 st W :=
  h.keep (Turned.refl _ _) (hx _ _)
theorem MK.comp37 (hN : N = w1.heap.size) (h : MK N bb mb gr gs R S bx ts w1 st W) (s : ByteArray) (hs : s.size ≤ maxLen) {b c : Nat} (hc : c + b ≤ R) (hR : R ≤ 2000) (h0 : ∀ y ∈ (st.rs.drop c).take b, y.args = []) :
    Calls Try.prog 37 #[.string s, .slice (some ⟨gr, c * 4, none⟩) b (R - c)] W fun e w' => ∃ y : LT, e = .returned y.val ∧ y.bare = .mk 2 0 s () ((st.rs.drop c).take b) ∧ Turned (fun _ => False) W w' ∧ MK N bb mb gr gs R S bx (y :: ts) w1 st w' := by
  have hk := h; obtain ⟨q, l, O, rs, ss, h1, h2, h3, h4, h5, h6, ⟨r1, r2, r3⟩, ⟨s1, s2, s3⟩, h9, h10, h11, h12⟩ := h; have e2 := r1.1; rw [LT.flat_length] at e2
  have hL : ((rs.drop c).take b).map Tm.bare = (st.rs.drop c).take b := by rw [List.map_take, List.map_drop, r2]
  have hlen : ((rs.drop c).take b).length = b := by rw [List.length_take, List.length_drop]; omega
  have hno : ∀ y ∈ (rs.drop c).take b, y.args = [] := fun y hy => by
    have := h0 y.bare (by rw [← hL]; exact List.mem_map_of_mem hy); rw [Tm.bare_args, Tm.bares_eq] at this; exact List.map_eq_nil_iff.1 this
  have hin : LT.Ins (fun _ => False) W ((rs.drop c).take b) := (LT.ins_iff _).2 (fun y hy => (r3 y (List.mem_of_mem_drop (List.mem_of_mem_take hy))).none (hno y hy))
  have hsl : LT.Sl (fun _ => True) W (some ⟨gr, c * 4, none⟩) (R - c) ((rs.drop c).take b) := by
    refine ⟨fun e => (by cases e), fun _ => ⟨gr, c * 4, rfl, trivial, fun j v hv => r1.cells rfl _ _ ?_⟩, LT.Ins.mono hin (fun _ _ f => f.elim), by rw [hlen]; omega, by unfold maxLen; omega⟩
    have hj : j < b * 4 := by
      have := (List.getElem?_eq_some_iff.1 hv).1; rw [LT.flat_length, hlen] at this; exact this
    have hf := (flat_take (rs.drop c) b (by rw [List.length_drop]; omega)).1; rw [hf, List.getElem?_take, if_pos hj, (flat_take rs c (by omega)).2, List.getElem?_drop] at hv; exact hv
  have hcl := comp37q (q := fun _ => False) s hs hsl hin (by rw [hlen]; omega); rw [hlen] at hcl; refine hcl.mono ?_
  rintro e w' ⟨d, rfl, hy, T⟩
  refine ⟨_, rfl, ?_, T, hk.keep T (hy.mono (fun k _ h => h.elim (fun f => f.elim) (fun h => .inr h)))⟩; rw [Tm.bare, Tm.bares_eq, hL]
end
end Go.Proofs.Ytoihjobdfjajfaa
namespace Go.Proofs.Ytoihjobdfjajfaa
open Go.RowKit Go.Maps
def CompS (mk : LT → World → Prop) (nt : Tm Unit) (E : Int) (Q : World → Prop) (w0 : World) : List Value → World → Prop
  | [], W => Turned (fun _ => False) w0 W
  | [a], W => Turned (fun _ => False) w0 W ∧ ∃ y : LT, a = .agg #[.int .i64 y.kind, .int .i64 y.n, .string y.name, .slice y.at_.1 y.args.length y.at_.2] ∧ y.bare = nt ∧ mk y W
  | [_, b], W => b = .int .i64 E ∧ Q W
  | _, _ => False
section
variable {mk : LT → World → Prop} {nt : Tm Unit} {E : Int} {Q : World → Prop} {w0 : World}
theorem CompS.turned0 (hm : ∀ y W W', mk y W → Turned (fun _ => False) W W' → mk y W') (hQ : ∀ W W', Q W → Turned (fun _ => False) W W' → Q W') : ∀ (hs : List Value) (w w' : World), CompS mk nt E Q w0 hs w → Turned (fun _ => False) w w' → CompS mk nt E Q w0 hs w'
  | [], _, _, h, T => Turned.trans h T
  | [_], _, _, ⟨h, y, h1, h2, h3⟩, T => ⟨h.trans T, y, h1, h2, hm _ _ _ h3 T⟩
  | [_, _], _, _, h, T => ⟨h.1, hQ _ _ h.2 T⟩
  | _ :: _ :: _ :: _, _, _, h, _ => h.elim
theorem CompS.early : ∀ (hs : List Value) (W : World), hs.length ≤ 1 → CompS mk nt E Q w0 hs W → Turned (fun _ => False) w0 W
  | [], _, _, h => h
  | [_], _, _, h => h.1
  | _ :: _ :: _, _, h, _ => absurd h (by simp)
theorem CompS.val : ∀ (hs : List Value) (W : World) {x : Value}, CompS mk nt E Q w0 hs W → hs[1]? = some x → x = .int .i64 E
  | [], _, _, _, e => by simp at e
  | [_], _, _, _, e => by simp at e
  | [_, _], _, _, h, e => by simp at e; rw [← e]; exact h.1
  | _ :: _ :: _ :: _, _, _, h, _ => h.elim
end
end Go.Proofs.Ytoihjobdfjajfaa
namespace Go.Proofs.Ytoihjobdfjajfaa
open Go.RowKit Go.Maps
def aggM (u : LT) : Value := .agg #[.int .i64 u.kind, .int .i64 u.n, .string u.name, .slice u.at_.1 u.args.length u.at_.2]
section
variable {N bb mb gr gs R S : Nat} {bx bx' : List (Nat × Obj)} {ts ts' : List LT} {w1 W W' w0 : World} {st st' : Tm.MS} {x t : LT}
theorem MK.setBox {B : Nat} {c0 c1 c2 c3 a b c d : Value} (h : MK N bb mb gr gs R S ((B, .cells #[c0, c1, c2, c3] 27 (0, 0)) :: bx) ts w1 st W) (hB : ∀ e ∈ bx, e.1 ≠ B) (hN : w1.heap.size ≤ B) :
    MK N bb mb gr gs R S ((B, .cells #[a, b, c, d] 27 (0, 0)) :: bx) ts w1 st ((((W.setCell ⟨B, 0, none⟩ a).setCell ⟨B, 1, none⟩ b).setCell ⟨B, 2, none⟩ c).setCell ⟨B, 3, none⟩ d) := by
  obtain ⟨q, l, O, rs, ss, h1, h2, h3, h4, h5, h6, ⟨r1, r2, r3⟩, ⟨s1, s2, s3⟩, h9, h10, h11, h12⟩ := h
  have Tq : Turned (fun k => k = B) W ((((W.setCell ⟨B, 0, none⟩ a).setCell ⟨B, 1, none⟩ b).setCell ⟨B, 2, none⟩ c).setCell ⟨B, 3, none⟩ d) :=
    ((((Turned.refl (fun k => k = B) W).setCell (p := ⟨B, 0, none⟩) (.inr rfl) _).setCell (p := ⟨B, 1, none⟩) (.inr rfl) _).setCell (p := ⟨B, 2, none⟩) (.inr rfl) _).setCell (p := ⟨B, 3, none⟩) (.inr rfl) _
  obtain ⟨k1, k2, k3, k4, k5, k6⟩ := h11 _ (List.mem_cons_self ..); simp only [] at k1 k2 k3 k4 k5 k6
  have up : ∀ {y : LT}, y.In q W → y.In q _ := fun {y} hy => LT.In.turned Tq (fun k _ hk e => k6 (e ▸ hk)) (fun _ _ q => q) y hy
  refine ⟨q, l, O, rs, ss, h1, h2, h3.turned Tq (fun k hk e => ⟨fun c => k2 (e ▸ c), fun c => k6 (e ▸ c)⟩), h4, h5.step Tq (fun k hk e => by omega), (Tq.block mb (Array.getElem?_eq_some_iff.1 h6).1 (fun e => k3 e.symm)).trans h6, ⟨r1.turned Tq (fun k hk e => by simp [Value.ownBlock] at hk; exact k4 (e.symm.trans hk.symm)), r2, fun y hy => up (r3 y hy)⟩, ⟨s1.turned Tq (fun k hk e => by simp [Value.ownBlock] at hk; exact k5 (e.symm.trans hk.symm)), s2, fun y hy => up (s3 y hy)⟩, h9, h10, fun e he => ?_, fun y hy => up (h12 y hy)⟩
  rcases List.mem_cons.1 he with rfl | he
  · exact ⟨set4 k1, k2, k3, k4, k5, k6⟩
  · obtain ⟨j1, j2⟩ := h11 e (List.mem_cons_of_mem _ he)
    exact ⟨(Tq.block _ (Array.getElem?_eq_some_iff.1 j1).1 (hB e he)).trans j1, j2⟩
theorem MK.walk (hN : N = w1.heap.size) (h : MK N bb mb gr gs R S bx ts w1 st W) (ht : t ∈ ts) (hg : ∀ z ∈ t.bare.flat, goodOneB z = true) :
    Calls Try.prog 90 #[.pointer (some ⟨bb, 0, none⟩), .agg #[.int .i64 t.kind, .int .i64 t.n, .string t.name, .slice t.at_.1 t.args.length t.at_.2]] W fun e w' => ∃ u : LT, e = .returned (aggM u) ∧ u.bare = Tm.walkT st.l t.bare ∧ Turned (fun _ => False) W w' ∧ MK N bb mb gr gs R S bx (u :: ts) w1 st w' := by
  have hk := h; obtain ⟨q, l, O, rs, ss, h1, h2, h3, h4, h5, h6, ⟨r1, r2, r3⟩, ⟨s1, s2, s3⟩, h9, h10, h11, h12⟩ := h; have := walkO90 h3 (h12 t ht) hg; rw [LT.val_eq, h2] at this; refine this.mono ?_
  rintro e w' ⟨u, rfl, g1, g2, T⟩
  refine ⟨u, by rw [LT.val_eq]; rfl, g2, T, ?_⟩; have hk' := hk.turned0 T; exact ⟨q, l, O, rs, ss, h1, h2, h3.turned0 T, h4, h5.trans T, (T.block _ (Array.getElem?_eq_some_iff.1 h6).1 (fun f => f)).trans h6, ⟨r1.turned0 T, r2, fun x hx => (r3 x hx).turned0 T⟩, ⟨s1.turned0 T, s2, fun x hx => (s3 x hx).turned0 T⟩, h9, h10, fun b hb => ⟨(T.block _ (Array.getElem?_eq_some_iff.1 (h11 b hb).1).1 (fun f => f)).trans (h11 b hb).1, (h11 b hb).2⟩, fun x hx => (List.mem_cons.1 hx).elim (fun e => e ▸ g1) (fun hx => (h12 x hx).turned0 T)⟩
structure WkR (mk : List (Nat × Obj) → List LT → World → Prop) (w0 : World) (Q : Tm Unit) (hs : Hist) (W : World) : Prop where
  t : Turned (fun _ => False) w0 W
  it : ∃ (bs : List (Nat × Obj)) (us : List LT), mk bs us W ∧ (∀ v, (12, v) ∈ hs → ∃ u ∈ us, v = aggM u ∧ u.bare = Q) ∧ ((∀ v, (13, v) ∉ hs) → bs = []) ∧ ∀ v, (13, v) ∈ hs → ∃ B c0 c1 c2 c3, v = ptr B ∧ w0.heap.size ≤ B ∧ bs = [(B, .cells #[c0, c1, c2, c3] 27 (0, 0))] ∧ ∀ q, (14, q) ∈ hs → (12, .agg #[c0, c1, c2, c3]) ∈ hs
def MKx (N bb mb gr gs R S : Nat) (bx : List (Nat × Obj)) (ts : List LT) (w1 : World) (st : Tm.MS) (bs : List (Nat × Obj)) (us : List LT) (W : World) : Prop := MK N bb mb gr gs R S (bs ++ bx) (us ++ ts) w1 st W
variable {Q : Tm Unit} {hs : Hist}
theorem WkR.start (h : MK N bb mb gr gs R S bx ts w1 st w0) (T : Turned (fun _ => False) w0 W) : WkR (MKx N bb mb gr gs R S bx ts w1 st) w0 Q [] W :=
  ⟨T, [], [], h.turned0 T, fun v h => (List.not_mem_nil h).elim, fun _ => rfl, fun v h => (List.not_mem_nil h).elim⟩
theorem WkR.turned0 (h : WkR (MKx N bb mb gr gs R S bx ts w1 st) w0 Q hs W) (T : Turned (fun _ => False) W W') : WkR (MKx N bb mb gr gs R S bx ts w1 st) w0 Q hs W' := by
  obtain ⟨t, bs, us, h1, h2⟩ := h; exact ⟨t.trans T, bs, us, MK.turned0 h1 T, h2⟩
theorem WkR.called (hN : N = w1.heap.size) (h : WkR (MKx N bb mb gr gs R S bx ts w1 st) w0 (Tm.walkT st.l t.bare) hs W) (ht : t ∈ ts) (hg : ∀ z ∈ t.bare.flat, goodOneB z = true) (hno : ∀ v, (12, v) ∉ hs) (hst : ∀ q, (14, q) ∉ hs) :
    Calls Try.prog 90 #[.pointer (some ⟨bb, 0, none⟩), .agg #[.int .i64 t.kind, .int .i64 t.n, .string t.name, .slice t.at_.1 t.args.length t.at_.2]] W fun e w' => ∃ v, e = .returned v ∧ WkR (MKx N bb mb gr gs R S bx ts w1 st) w0 (Tm.walkT st.l t.bare) (hs ++ [(12, v)]) w' := by
  obtain ⟨T, bs, us, h1, h2, h3, h4⟩ := h; refine (MK.walk hN (show MK _ _ _ _ _ _ _ _ _ _ _ _ from h1) (List.mem_append_right _ ht) hg).mono ?_
  rintro e w' ⟨u, rfl, g1, T', g2⟩
  refine ⟨_, rfl, T.trans T', bs, u :: us, g2, fun v hv => ?_, fun hn => h3 (fun v hv => hn v (List.mem_append_left _ hv)), fun v hv => ?_⟩
  · rcases mem_snoc hv with hv | ⟨_, e⟩
    · exact absurd hv (hno v)
    · exact ⟨u, List.mem_cons_self .., e, g1⟩
  · rcases mem_snoc hv with hv | ⟨e, _⟩
    · obtain ⟨B, c0, c1, c2, c3, k1, k2, k3, k4⟩ := h4 v hv
      refine ⟨B, c0, c1, c2, c3, k1, k2, k3, fun q hq => ?_⟩
      rcases mem_snoc hq with hq | ⟨e, _⟩
      · exact absurd hq (hst q)
      · cases e
    · cases e
theorem WkR.laid {c0 c1 c2 c3 : Value} (h : WkR (MKx N bb mb gr gs R S bx ts w1 st) w0 Q hs W) (hno : ∀ v, (13, v) ∉ hs) (hst : ∀ q, (14, q) ∉ hs) : WkR (MKx N bb mb gr gs R S bx ts w1 st) w0 Q (hs ++ [(13, ptr W.heap.size)]) (W.alloc (.cells #[c0, c1, c2, c3] 27)) := by
  obtain ⟨T, bs, us, h1, h2, h3, h4⟩ := h; obtain rfl := h3 hno; refine ⟨T.trans ((Turned.refl _ W).alloc _), [(W.heap.size, .cells #[c0, c1, c2, c3] 27 (0, 0))], us, MK.box h1 _, fun v hv => ?_, fun hn => absurd (List.mem_append_right _ (List.mem_singleton.2 rfl)) (hn (ptr W.heap.size)), fun v hv => ?_⟩
  · rcases mem_snoc hv with hv | ⟨e, _⟩
    · exact h2 v hv
    · cases e
  · rcases mem_snoc hv with hv | ⟨_, e⟩
    · exact absurd hv (hno v)
    · refine ⟨W.heap.size, c0, c1, c2, c3, e, T.size, rfl, fun q hq => ?_⟩
      rcases mem_snoc hq with hq | ⟨e, _⟩
      · exact absurd hq (hst q)
      · cases e
theorem WkR.cell {v : Value} (h : WkR (MKx N bb mb gr gs R S bx ts w1 st) w0 Q hs W) (h9 : (13, v) ∈ hs) : ∃ B c0 c1 c2 c3, v = .pointer (some ⟨B, 0, none⟩) ∧ W.heap[B]? = some (.cells #[c0, c1, c2, c3] 27 (0, 0)) := by
  obtain ⟨T, bs, us, h1, h2, h3, h4⟩ := h; obtain ⟨B, c0, c1, c2, c3, k1, k2, rfl, k4⟩ := h4 v h9; exact ⟨B, c0, c1, c2, c3, k1, MK.boxes h1 _ (List.mem_cons_self ..)⟩
theorem WkR.val {v : Value} (h : WkR (MKx N bb mb gr gs R S bx ts w1 st) w0 Q hs W) (h9 : (12, v) ∈ hs) : ∃ u : LT, v = .agg #[.int .i64 u.kind, .int .i64 u.n, .string u.name, .slice u.at_.1 u.args.length u.at_.2] := by
  obtain ⟨T, bs, us, h1, h2, h3, h4⟩ := h; obtain ⟨u, _, e, _⟩ := h2 v h9; exact ⟨u, e⟩
theorem WkR.stored {B : Nat} {u : LT} {q : Value} (h : WkR (MKx N bb mb gr gs R S bx ts w1 st) w0 Q hs W) (hw0 : w1.heap.size ≤ w0.heap.size) (hbx : ∀ e ∈ bx, e.1 < w0.heap.size) (h13 : (13, ptr B) ∈ hs) (h12 : (12, .agg #[.int .i64 u.kind, .int .i64 u.n, .string u.name, .slice u.at_.1 u.args.length u.at_.2]) ∈ hs) :
    WkR (MKx N bb mb gr gs R S bx ts w1 st) w0 Q (hs ++ [(14, q)]) ((((W.setCell ⟨B, 0, none⟩ (.int .i64 u.kind)).setCell ⟨B, 1, none⟩ (.int .i64 u.n)).setCell ⟨B, 2, none⟩ (.string u.name)).setCell ⟨B, 3, none⟩ (.slice u.at_.1 u.args.length u.at_.2)) := by
  obtain ⟨T, bs, us, h1, h2, h3, h4⟩ := h; obtain ⟨B', c0, c1, c2, c3, k1, k2, rfl, k4⟩ := h4 _ h13; obtain rfl := ptr_inj k1; have Ts := turned_store4 W B (.int .i64 u.kind) (.int .i64 u.n) (.string u.name) (.slice u.at_.1 u.args.length u.at_.2); have hs1 := MK.setBox (a := .int .i64 u.kind) (b := .int .i64 u.n) (c := .string u.name) (d := .slice u.at_.1 u.args.length u.at_.2) (show MK N bb mb gr gs R S ((B, .cells #[c0, c1, c2, c3] 27 (0, 0)) :: bx) (us ++ ts) w1 st W from h1) (fun e he => by have := hbx e he; omega) (by omega); refine ⟨T.step Ts (fun i hi e => by omega), [(B, .cells #[.int .i64 u.kind, .int .i64 u.n, .string u.name, .slice u.at_.1 u.args.length u.at_.2] 27 (0, 0))], us, hs1, fun v hv => ?_, fun hn => absurd (List.mem_append_left _ h13) (hn _), fun v hv => ?_⟩
  · rcases mem_snoc hv with hv | ⟨e, _⟩
    · exact h2 v hv
    · cases e
  · rcases mem_snoc hv with hv | ⟨e, _⟩
    · obtain ⟨B2, _, _, _, _, e1, _, e2, _⟩ := h4 _ hv
      have e3 : B = B2 := by injection e2 with e2; injection e2
      exact ⟨B, _, _, _, _, by rw [e1, e3], k2, rfl, fun q _ => List.mem_append_left _ h12⟩
    · cases e
theorem WkR.done {v : Value} (h : WkR (MKx N bb mb gr gs R S bx ts w1 st) w0 Q hs W) (hall : ∀ i ∈ [12, 13, 14], ∃ v, (i, v) ∈ hs) (h13 : (13, v) ∈ hs) :
    ∃ B, ∃ u : LT, v = .pointer (some ⟨B, 0, none⟩) ∧ u.bare = Q ∧ MK N bb mb gr gs R S ((B, .cells #[.int .i64 u.kind, .int .i64 u.n, .string u.name, .slice u.at_.1 u.args.length u.at_.2] 27 (0, 0)) :: bx) (u :: ts) w1 st W := by
  obtain ⟨T, bs, us, h1, h2, h3, h4⟩ := h; obtain ⟨B, c0, c1, c2, c3, k1, k2, rfl, k4⟩ := h4 _ h13; obtain ⟨q, hq⟩ := hall 14 (by simp); obtain ⟨u, hu, e, hb⟩ := h2 _ (k4 q hq)
  have e1 : c0 = .int .i64 u.kind ∧ c1 = .int .i64 u.n ∧ c2 = .string u.name ∧ c3 = .slice u.at_.1 u.args.length u.at_.2 := by
    unfold aggM at e; simpa using e
  obtain ⟨rfl, rfl, rfl, rfl⟩ := e1; refine ⟨B, u, k1, hb, MK.sub h1 (fun b h => h) (fun x hx => ?_)⟩
  rcases List.mem_cons.1 hx with rfl | hx
  · exact List.mem_append_left _ hu
  · exact List.mem_append_right _ hx
end
end Go.Proofs.Ytoihjobdfjajfaa
namespace Go.Proofs.Ytoihjobdfjajfaa
open Go.RowKit Go.Maps
theorem MRQ.mono {mk mk' : Tm.MS → World → Prop} {st : Tm.MS} {r : Tm.MR} {e : Ending} {w : World} (hm : ∀ s W, mk s W → mk' s W) (h : MRQ mk st r e w) : MRQ mk' st r e w := by
  cases r with
  | go s => exact ⟨h.1, hm _ _ h.2⟩
  | stop E m => obtain ⟨b, s2, h1, h2, h3, h4, h5⟩ := h; exact ⟨b, s2, h1, h2, h3, h4, hm _ _ h5⟩
theorem MRQ.turned0 {mk : Tm.MS → World → Prop} {st : Tm.MS} {r : Tm.MR} {e : Ending} {w w' : World} (hm : ∀ s W W', mk s W → Turned (fun _ => False) W W' → mk s W') (h : MRQ mk st r e w) (T : Turned (fun _ => False) w w') : MRQ mk st r e w' := by
  cases r with
  | go s => exact ⟨h.1, hm _ _ _ h.2 T⟩
  | stop E m => obtain ⟨b, s2, h1, h2, h3, h4, h5⟩ := h; exact ⟨b, s2, h1, h2, h3, h4, hm _ _ _ h5 T⟩
theorem MRQ.shape {mk : Tm.MS → World → Prop} {st : Tm.MS} {r : Tm.MR} {e : Ending} {w : World} (h : MRQ mk st r e w) : ∃ (b : Bool) (E : Int), e = .returned (.tuple #[.bool b, .int .i64 E]) := by
  cases r with
  | go s => exact ⟨_, _, h.1⟩
  | stop E m => obtain ⟨b, s2, h1, _⟩ := h; exact ⟨_, _, h1⟩
def OneM (V : Value) (Q : World → Prop) (w0 : World) : List Value → World → Prop
  | [], W => Turned (fun _ => False) w0 W
  | [a], W => a = V ∧ Q W
  | _, _ => False
section
variable {V : Value} {Q : World → Prop} {w0 : World}
theorem OneM.turned0 (hQ : ∀ W W', Q W → Turned (fun _ => False) W W' → Q W') : ∀ (hs : List Value) (w w' : World), OneM V Q w0 hs w → Turned (fun _ => False) w w' → OneM V Q w0 hs w'
  | [], _, _, h, T => Turned.trans h T
  | [_], _, _, h, T => ⟨h.1, hQ _ _ h.2 T⟩
  | _ :: _ :: _, _, _, h, _ => h.elim
theorem OneM.early : ∀ (hs : List Value) (W : World), hs.length ≤ 0 → OneM V Q w0 hs W → Turned (fun _ => False) w0 W
  | [], _, _, h => h
theorem OneM.val : ∀ (hs : List Value) (W : World) {x : Value}, OneM V Q w0 hs W → hs[0]? = some x → x = V
  | [], _, _, _, e => by simp at e
  | [_], _, _, h, e => by simp at e; rw [← e]; exact h.1
  | _ :: _ :: _, _, _, h, _ => h.elim
end
def TieS (t : LT) (b : Bool) (E : Int) (mk : Tm.MS → World → Prop) (st : Tm.MS) (MR : Tm.MR) (w0 : World) : List Value → World → Prop
  | [], W => Turned (fun _ => False) w0 W
  | [v], W => Turned (fun _ => False) w0 W ∧ v = .agg #[.int .i64 t.kind, .int .i64 t.n, .string t.name, .slice t.at_.1 t.args.length t.at_.2]
  | [_, v], W => v = .tuple #[.bool b, .int .i64 E] ∧ MRQ mk st MR (.returned (.tuple #[.bool b, .int .i64 E])) W
  | _, _ => False
section
variable {t : LT} {b : Bool} {E : Int} {mk : Tm.MS → World → Prop} {st : Tm.MS} {MR : Tm.MR} {w0 : World}
theorem TieS.turned0 (hm : ∀ s W W', mk s W → Turned (fun _ => False) W W' → mk s W') : ∀ (hs : List Value) (w w' : World), TieS t b E mk st MR w0 hs w → Turned (fun _ => False) w w' → TieS t b E mk st MR w0 hs w'
  | [], _, _, h, T => Turned.trans h T
  | [_], _, _, h, T => ⟨h.1.trans T, h.2⟩
  | [_, _], _, _, h, T => ⟨h.1, h.2.turned0 hm T⟩
  | _ :: _ :: _ :: _, _, _, h, _ => h.elim
theorem TieS.early : ∀ (hs : List Value) (W : World), hs.length ≤ 1 → TieS t b E mk st MR w0 hs W → Turned (fun _ => False) w0 W
  | [], _, _, h => h
  | [_], _, _, h => h.1
  | _ :: _ :: _, _, h, _ => absurd h (by simp)
theorem TieS.val : ∀ (hs : List Value) (W : World) {x : Value}, TieS t b E mk st MR w0 hs W → hs[1]? = some x → x = .tuple #[.bool b, .int .i64 E]
  | [], _, _, _, e => by simp at e
  | [_], _, _, _, e => by simp at e
  | [_, _], _, _, h, e => by simp at e; rw [← e]; exact h.1
  | _ :: _ :: _ :: _, _, _, h, _ => h.elim
end
end Go.Proofs.Ytoihjobdfjajfaa
namespace Go.Proofs.Ytoihjobdfjajfaa
open Go.RowKit Go.Maps
def BM (N bb : Nat) (bx : List (Nat × Obj)) (ts : List LT) (w1 : World) (m : Nat) (tr : Tm.Trail) (W : World) : Prop :=
  ∃ (q : Nat → Prop) (l : TL) (O : Nat → Prop), (∀ k, k < N → q k) ∧ bt l = tr ∧ BO q bb O m l W ∧ (∀ k, O k → N ≤ k) ∧ Turned (fun _ => False) w1 W ∧ (∀ b ∈ bx, W.heap[b.1]? = some b.2 ∧ ¬ O b.1 ∧ ¬ q b.1) ∧ ∀ x ∈ ts, x.In q W
section
variable {N bb mb gr gs R S m : Nat} {bx bx' : List (Nat × Obj)} {ts ts' : List LT} {w1 w0 W W' : World} {tr : Tm.Trail} {st : Tm.MS} {x : LT}
theorem BM.turned0 (h : BM N bb bx ts w1 m tr W) (T : Turned (fun _ => False) W W') : BM N bb bx ts w1 m tr W' := by
  obtain ⟨q, l, O, h1, h2, h3, h4, h5, h6, h7⟩ := h; exact ⟨q, l, O, h1, h2, h3.turned0 T, h4, h5.trans T, fun b hb => ⟨(T.block _ (Array.getElem?_eq_some_iff.1 (h6 b hb).1).1 (fun f => f)).trans (h6 b hb).1, (h6 b hb).2⟩, fun x hx => (h7 x hx).turned0 T⟩
theorem BM.old (h : BM N bb bx ts w1 m tr W) : Turned (fun _ => False) w1 W := by
  obtain ⟨q, l, O, h1, h2, h3, h4, h5, h6, h7⟩ := h; exact h5
theorem BM.boxes (h : BM N bb bx ts w1 m tr W) : ∀ b ∈ bx, W.heap[b.1]? = some b.2 := by
  obtain ⟨q, l, O, h1, h2, h3, h4, h5, h6, h7⟩ := h
  exact fun b hb => (h6 b hb).1
theorem BM.terms (h : BM N bb bx ts w1 m tr W) : ∀ x ∈ ts, x.In (fun _ => True) W := by
  obtain ⟨q, l, O, h1, h2, h3, h4, h5, h6, h7⟩ := h
  exact fun x hx => (h7 x hx).mono (fun _ _ _ => trivial)
theorem BM.ok (h : BM N bb bx ts w1 m tr W) : Tm.okT m tr := by
  obtain ⟨q, l, O, h1, rfl, h3, _⟩ := h; exact h3.ok
theorem BM.most (h : BM N bb bx ts w1 m tr W) : m ≤ 65536 := by
  obtain ⟨q, l, O, h1, rfl, h3, _⟩ := h; exact h3.most
theorem BM.sub (h : BM N bb bx ts w1 m tr W) (hb : ∀ b ∈ bx', b ∈ bx) (ht : ∀ x ∈ ts', x ∈ ts) : BM N bb bx' ts' w1 m tr W := by
  obtain ⟨q, l, O, h1, h2, h3, h4, h5, h6, h7⟩ := h; exact ⟨q, l, O, h1, h2, h3, h4, h5, fun b hb' => h6 b (hb b hb'), fun x hx => h7 x (ht x hx)⟩
theorem BM.box (h : BM N bb bx ts w1 m tr W) (o : Obj) : BM N bb ((W.heap.size, o) :: bx) ts w1 m tr (W.alloc o) := by
  have T := (Turned.refl (fun _ => False) W).alloc o; have h' := h.turned0 T; obtain ⟨q, l, O, h1, h2, h3, h4, h5, h6, h7⟩ := h; refine ⟨q, l, O, h1, h2, h3.turned0 T, h4, h5.trans T, fun b hb => ?_, fun x hx => (h7 x hx).turned0 T⟩
  rcases List.mem_cons.1 hb with rfl | hb
  · exact ⟨heap_alloc_new W o, fun c => Nat.lt_irrefl _ (h3.lt _ c), fun c => Nat.lt_irrefl _ (h3.plt _ c)⟩
  · exact ⟨(T.block _ (Array.getElem?_eq_some_iff.1 (h6 b hb).1).1 (fun f => f)).trans (h6 b hb).1, (h6 b hb).2⟩
theorem BM.keepBox (h : BM N bb bx ts w1 m tr w0) (T : Turned (fun _ => False) w0 W) {g : Nat} {o : Obj} (hg : w0.heap.size ≤ g) (ho : W.heap[g]? = some o) : BM N bb ((g, o) :: bx) ts w1 m tr W := by
  have h' := h.turned0 T; obtain ⟨q, l, O, h1, h2, h3, h4, h5, h6, h7⟩ := h; refine ⟨q, l, O, h1, h2, h3.turned0 T, h4, h5.trans T, fun b hb => ?_, fun x hx => (h7 x hx).turned0 T⟩
  rcases List.mem_cons.1 hb with rfl | hb
  · exact ⟨ho, fun c => by have := h3.lt _ c; simp only [] at this; omega, fun c => by have := h3.plt _ c; simp only [] at this; omega⟩
  · exact ⟨(T.block _ (Array.getElem?_eq_some_iff.1 (h6 b hb).1).1 (fun f => f)).trans (h6 b hb).1, (h6 b hb).2⟩
theorem BM.call (hN : N = w1.heap.size) (h : BM N bb bx ts w1 m tr W) : ∃ (q O : Nat → Prop) (l : TL), BO q bb O m l W ∧ bt l = tr ∧ (∀ k, k < N → q k) ∧ (∀ x ∈ ts, x.In q W) ∧ ∀ m' l' w', After q bb O m' l' W w' → BM N bb bx ts w1 m' (bt l') w' := by
  obtain ⟨q, l, O, h1, h2, h3, h4, h5, h6, h7⟩ := h; refine ⟨q, O, l, h3, h2, h1, h7, fun m' l' w' ha => ?_⟩; obtain ⟨O', a1, a2, a3⟩ := ha; refine ⟨q, l', O', h1, rfl, a1, fun k hk => ?_, h5.step a3 (fun i hi e => by have := h4 i e; omega), fun b hb => ?_, fun x hx => LT.In.turned a3 (fun k hk hq e => h3.sep k hq e) (fun _ _ q => q) _ (h7 x hx)⟩
  · rcases Nat.lt_or_ge k W.heap.size with hh | hh
    · exact h4 k (a2 k hk hh)
    · have := h5.size; omega
  · obtain ⟨c1, c2, c3⟩ := h6 b hb
    have hlt := (Array.getElem?_eq_some_iff.1 c1).1; exact ⟨(a3.block _ hlt c2).trans c1, fun e => c2 (a2 _ e hlt), c3⟩
theorem blanks_leaf (n : Nat) : ∀ x ∈ blanks n, ∀ (p : Nat → Prop) (w : World), x.In p w := by
  intro x hx p w; obtain rfl := List.eq_of_mem_replicate hx; exact leafIn' (i64_lit 0 (by omega)) (i64_lit 0 (by omega)) (by unfold maxLen; decide)
theorem MK.done (h : MK N bb mb gr gs R S bx ts w1 st W) : ∃ (ss : List LT) (cur : Array Value), ss.map Tm.bare = st.ss ∧ Row W 27 4 (.slice (some ⟨gs, 0, none⟩) S S) S (ss.flatMap LT.cells) ∧ BM N bb ((gs, .cells cur 27 (0, 0)) :: bx) (ss ++ ts) w1 st.m st.l W := by
  obtain ⟨q, l, O, rs, ss, h1, h2, h3, h4, h5, h6, ⟨r1, r2, r3⟩, ⟨s1, s2, s3⟩, h9, h10, h11, h12⟩ := h; have s1' := s1
  rcases s1'.2 with ⟨he, _⟩ | ⟨g', cap', cur, he, hg, _⟩
  · cases he
  injection he with e1 _ e3
  injection e1 with e1
  injection e1 with e1
  subst e1 e3; refine ⟨ss, cur, s2, s1, q, l, O, h1, h2, h3, h4, h5, fun b hb => ?_, fun x hx => ?_⟩
  · rcases List.mem_cons.1 hb with rfl | hb
    · exact ⟨hg, (h9 gs (.inr (.inr rfl))).2.1, (h9 gs (.inr (.inr rfl))).2.2⟩
    · exact ⟨(h11 b hb).1, (h11 b hb).2.1, (h11 b hb).2.2.2.2.2⟩
  · rcases List.mem_append.1 hx with hx | hx
    · exact s3 x hx
    · exact h12 x hx
end
end Go.Proofs.Ytoihjobdfjajfaa
namespace Go.Proofs.Ytoihjobdfjajfaa
open Go.RowKit Go.Maps
def sl (g n : Nat) : Value := .slice (some ⟨g, 0, none⟩) n n
structure MtS (w0 : World) (bb R S : Nat) (hs : Hist) (W : World) : Prop where
  t : Turned (fun _ => False) w0 W
  r : ∀ v, (3, v) ∈ hs → ∃ g, v = sl g R ∧ w0.heap.size ≤ g ∧ Row W 27 4 (sl g R) R ((blanks R).flatMap LT.cells)
  s : ∀ v, (6, v) ∈ hs → ∃ g, v = sl g S ∧ w0.heap.size ≤ g ∧ Row W 27 4 (sl g S) S ((blanks S).flatMap LT.cells)
  ne : ∀ g g', (3, sl g R) ∈ hs → (6, sl g' S) ∈ hs → g ≠ g'
  b : ∀ v, (7, v) ∈ hs → ∃ g g', (3, sl g R) ∈ hs ∧ (6, sl g' S) ∈ hs ∧ v = .agg #[.pointer (some ⟨bb, 0, none⟩), sl g R, sl g' S]
  x : ∀ v, (8, v) ∈ hs → ∃ mb g g', v = ptr mb ∧ (3, sl g R) ∈ hs ∧ (6, sl g' S) ∈ hs ∧ w0.heap.size ≤ mb ∧ mb ≠ g ∧ mb ≠ g' ∧ W.heap[mb]? = some (.cells #[.pointer (some ⟨bb, 0, none⟩), sl g R, sl g' S] 197 (0, 0))
  a : ∀ v, (9, v) ∈ hs → (8, v) ∈ hs
section
variable {w0 W W' : World} {bb R S : Nat} {hs : Hist}
theorem sl_inj {g g' n : Nat} (h : sl g n = sl g' n) : g = g' := by
  unfold sl at h
  injection h with h
  injection h with h
  injection h
theorem MtS.start (T : Turned (fun _ => False) w0 W) : MtS w0 bb R S [] W :=
  ⟨T, fun v h => (List.not_mem_nil h).elim, fun v h => (List.not_mem_nil h).elim, fun g g' h => (List.not_mem_nil h).elim, fun v h => (List.not_mem_nil h).elim, fun v h => (List.not_mem_nil h).elim, fun v h => (List.not_mem_nil h).elim⟩
theorem MtS.turned0 (h : MtS w0 bb R S hs W) (T : Turned (fun _ => False) W W') : MtS w0 bb R S hs W' := by
  refine ⟨h.t.trans T, fun v hv => ?_, fun v hv => ?_, h.ne, h.b, fun v hv => ?_, h.a⟩
  · obtain ⟨g, h1, h2, h3⟩ := h.r v hv
    exact ⟨g, h1, h2, h3.turned0 T⟩
  · obtain ⟨g, h1, h2, h3⟩ := h.s v hv
    exact ⟨g, h1, h2, h3.turned0 T⟩
  · obtain ⟨mb, g, g', h1, h2, h3, h4, h5, h6, h7⟩ := h.x v hv
    exact ⟨mb, g, g', h1, h2, h3, h4, h5, h6, (T.block _ (Array.getElem?_eq_some_iff.1 h7).1 (fun f => f)).trans h7⟩
theorem MtS.regs (h : MtS w0 bb R S hs W) (hno : ∀ v, (3, v) ∉ hs) (hR : R ≤ 1000) :
    MtS w0 bb R S (hs ++ [(3, sl W.heap.size R)]) (W.alloc (.cells (madeCells zeroT.cells (R * 4)) 27)) := by
  have T := (Turned.refl (fun _ => False) W).alloc (.cells (madeCells zeroT.cells (R * 4)) 27); have h' := h.turned0 T; refine ⟨h'.t, fun v hv => ?_, fun v hv => ?_, fun g g' hg hg' => ?_, fun v hv => ?_, fun v hv => ?_, fun v hv => List.mem_append_left _ (h.a v ((mem_snoc hv).elim id (fun e => absurd e.1 (by decide))))⟩
  · rcases mem_snoc hv with hv | ⟨_, e⟩
    · exact absurd hv (hno v)
    · exact ⟨_, e, h.t.size, (make_blanksT R hR W).2⟩
  · rcases mem_snoc hv with hv | ⟨e, _⟩
    · exact h'.s v hv
    · cases e
  · rcases mem_snoc hg' with hg' | ⟨e, _⟩
    · obtain ⟨k, e1, _, e3⟩ := h.s _ hg'
      have := sl_inj e1; have := e3.lt k rfl
      rcases mem_snoc hg with hg | ⟨_, e⟩
      · exact absurd hg (hno _)
      · have := sl_inj e
        omega
    · cases e
  · rcases mem_snoc hv with hv | ⟨e, _⟩
    · obtain ⟨g, g', h1, h2, h3⟩ := h'.b v hv
      exact ⟨g, g', List.mem_append_left _ h1, List.mem_append_left _ h2, h3⟩
    · cases e
  · rcases mem_snoc hv with hv | ⟨e, _⟩
    · obtain ⟨mb, g, g', h1, h2, h3, h4⟩ := h'.x v hv
      exact ⟨mb, g, g', h1, List.mem_append_left _ h2, List.mem_append_left _ h3, h4⟩
    · cases e
theorem MtS.slots (h : MtS w0 bb R S hs W) (hno : ∀ v, (6, v) ∉ hs) (hS : S ≤ 1000) :
    MtS w0 bb R S (hs ++ [(6, sl W.heap.size S)]) (W.alloc (.cells (madeCells zeroT.cells (S * 4)) 27)) := by
  have T := (Turned.refl (fun _ => False) W).alloc (.cells (madeCells zeroT.cells (S * 4)) 27); have h' := h.turned0 T; refine ⟨h'.t, fun v hv => ?_, fun v hv => ?_, fun g g' hg hg' => ?_, fun v hv => ?_, fun v hv => ?_, fun v hv => List.mem_append_left _ (h.a v ((mem_snoc hv).elim id (fun e => absurd e.1 (by decide))))⟩
  · rcases mem_snoc hv with hv | ⟨e, _⟩
    · exact h'.r v hv
    · cases e
  · rcases mem_snoc hv with hv | ⟨_, e⟩
    · exact absurd hv (hno v)
    · exact ⟨_, e, h.t.size, (make_blanksT S hS W).2⟩
  · rcases mem_snoc hg with hg | ⟨e, _⟩
    · obtain ⟨k, e1, _, e3⟩ := h.r _ hg
      have := sl_inj e1; have := e3.lt k rfl
      rcases mem_snoc hg' with hg' | ⟨_, e⟩
      · exact absurd hg' (hno _)
      · have := sl_inj e
        omega
    · cases e
  · rcases mem_snoc hv with hv | ⟨e, _⟩
    · obtain ⟨g, g', h1, h2, h3⟩ := h'.b v hv
      exact ⟨g, g', List.mem_append_left _ h1, List.mem_append_left _ h2, h3⟩
    · cases e
  · rcases mem_snoc hv with hv | ⟨e, _⟩
    · obtain ⟨mb, g, g', h1, h2, h3, h4⟩ := h'.x v hv
      exact ⟨mb, g, g', h1, List.mem_append_left _ h2, List.mem_append_left _ h3, h4⟩
    · cases e
theorem MtS.built {g g' : Nat} (h : MtS w0 bb R S hs W) (h3 : (3, sl g R) ∈ hs) (h6 : (6, sl g' S) ∈ hs) : MtS w0 bb R S (hs ++ [(7, .agg #[.pointer (some ⟨bb, 0, none⟩), sl g R, sl g' S])]) W := by
  have ne : ∀ {j : Nat} {v u : Value}, j ≠ 7 → (j, v) ∈ hs ++ [(7, u)] → (j, v) ∈ hs := fun hj hm => by
    rcases mem_snoc hm with hm | ⟨e, _⟩
    · exact hm
    · exact absurd e hj
  refine ⟨h.t, fun v hv => h.r v (ne (by decide) hv), fun v hv => h.s v (ne (by decide) hv), fun a b ha hb => h.ne a b (ne (by decide) ha) (ne (by decide) hb), fun v hv => ?_, fun v hv => ?_, fun v hv => List.mem_append_left _ (h.a v ((mem_snoc hv).elim id (fun e => absurd e.1 (by decide))))⟩
  · rcases mem_snoc hv with hv | ⟨_, e⟩
    · obtain ⟨k, k', h1, h2, h3⟩ := h.b v hv
      exact ⟨k, k', List.mem_append_left _ h1, List.mem_append_left _ h2, h3⟩
    · exact ⟨g, g', List.mem_append_left _ h3, List.mem_append_left _ h6, e⟩
  · obtain ⟨mb, k, k', h1, h2, h3, h4⟩ := h.x v (ne (by decide) hv)
    exact ⟨mb, k, k', h1, List.mem_append_left _ h2, List.mem_append_left _ h3, h4⟩
theorem MtS.boxed {g g' : Nat} (h : MtS w0 bb R S hs W) (hno : ∀ v, (8, v) ∉ hs) (h3 : (3, sl g R) ∈ hs) (h6 : (6, sl g' S) ∈ hs) : MtS w0 bb R S (hs ++ [(8, ptr W.heap.size)]) (W.alloc (.cells #[.pointer (some ⟨bb, 0, none⟩), sl g R, sl g' S] 197)) := by
  have T := (Turned.refl (fun _ => False) W).alloc (.cells #[.pointer (some ⟨bb, 0, none⟩), sl g R, sl g' S] 197); have h' := h.turned0 T
  have ne : ∀ {j : Nat} {v u : Value}, j ≠ 8 → (j, v) ∈ hs ++ [(8, u)] → (j, v) ∈ hs := fun hj hm => by
    rcases mem_snoc hm with hm | ⟨e, _⟩
    · exact hm
    · exact absurd e hj
  refine ⟨h'.t, fun v hv => h'.r v (ne (by decide) hv), fun v hv => h'.s v (ne (by decide) hv), fun a b ha hb => h.ne a b (ne (by decide) ha) (ne (by decide) hb), fun v hv => ?_, fun v hv => ?_, fun v hv => List.mem_append_left _ (h.a v ((mem_snoc hv).elim id (fun e => absurd e.1 (by decide))))⟩
  · obtain ⟨k, k', h1, h2, h3⟩ := h.b v (ne (by decide) hv)
    exact ⟨k, k', List.mem_append_left _ h1, List.mem_append_left _ h2, h3⟩
  · rcases mem_snoc hv with hv | ⟨_, e⟩
    · exact absurd hv (hno v)
    · obtain ⟨a, a1, _, a3⟩ := h.r _ h3
      obtain ⟨b, b1, _, b3⟩ := h.s _ h6; have e1 := sl_inj a1; have e2 := sl_inj b1; have l1 := a3.lt a rfl; have l2 := b3.lt b rfl; exact ⟨_, g, g', e, List.mem_append_left _ h3, List.mem_append_left _ h6, h.t.size, by omega, by omega, heap_alloc_new W _⟩
theorem MtS.done {v : Value} (h : MtS w0 bb R S hs W) (hv9 : (9, v) ∈ hs) : ∃ mb gr gs, v = .pointer (some ⟨mb, 0, none⟩) ∧ W.heap[mb]? = some (.cells #[.pointer (some ⟨bb, 0, none⟩), .slice (some ⟨gr, 0, none⟩) R R, .slice (some ⟨gs, 0, none⟩) S S] 197 (0, 0)) ∧
    Row W 27 4 (.slice (some ⟨gr, 0, none⟩) R R) R ((blanks R).flatMap LT.cells) ∧ Row W 27 4 (.slice (some ⟨gs, 0, none⟩) S S) S ((blanks S).flatMap LT.cells) ∧ (w0.heap.size ≤ mb ∧ w0.heap.size ≤ gr ∧ w0.heap.size ≤ gs) ∧ (mb ≠ gr ∧ mb ≠ gs ∧ gr ≠ gs) ∧ Turned (fun _ => False) w0 W := by
  have hv := h.a v hv9; obtain ⟨mb, g, g', h1, h2, h3, h4, h5, h6, h7⟩ := h.x v hv; obtain ⟨a, a1, a2, a3⟩ := h.r _ h2; obtain ⟨b, b1, b2, b3⟩ := h.s _ h3; obtain rfl := sl_inj a1; obtain rfl := sl_inj b1; exact ⟨mb, g, g', h1, h7, a3, b3, ⟨h4, a2, b2⟩, ⟨h5, h6, h.ne _ _ h2 h3⟩, h.t⟩
end
end Go.Proofs.Ytoihjobdfjajfaa
namespace Go.Proofs.Ytoihjobdfjajfaa
open Go.RowKit Go.Maps
theorem steps_at {t : LT} {i : Nat} {s : Tm.Stp} (h : (Tm.steps t.vars t.args (Tm.sizes t.args))[i]? = some s) : ∃ x : LT, (Tm.regs t.args)[i]? = some x ∧ s = Tm.stepX t.vars t.args i x := by
  unfold Tm.steps at h; rw [List.getElem?_map] at h; obtain ⟨k, hk, hs⟩ := Option.map_eq_some_iff.1 h; have hi := (List.getElem?_eq_some_iff.1 hk).1; rw [List.length_range] at hi; rw [List.getElem?_range hi] at hk; obtain rfl := Option.some.inj hk; obtain ⟨x, hx⟩ : ∃ x, (Tm.regs t.args)[i]? = some x := ⟨_, List.getElem?_eq_getElem (by rw [Tm.regs_length]; exact hi)⟩; refine ⟨x, hx, ?_⟩; rw [← hs]; unfold Tm.stepAt; rw [hx]
end Go.Proofs.Ytoihjobdfjajfaa
namespace Go.Proofs.Ytoihjobdfjajfaa
open Go.RowKit Go.Maps
open Tm (Stp sVar sVal sInt sAtom sComp cb met steps stepX reg)
theorem turned_cell' (W : World) (g j : Nat) (v : Value) : Turned (fun k => k = g) W (W.setCell ⟨g, j, none⟩ v) :=
  (Turned.refl (fun k => k = g) W).setCell (p := ⟨g, j, none⟩) (.inr rfl) v
def slotF (vs : List Int) : Int → Option Value := fun n => if n ∈ vs then some (.int .i64 (Tm.posOf vs n)) else none
theorem slotF_nil : slotF [] = fun _ => none := by funext i; unfold slotF; simp
theorem slotF_snoc {vs : List Int} {v : Int} (h : v ∉ vs) : upd (slotF vs) v (.int .i64 vs.length) = slotF (vs ++ [v]) := by
  funext n
  unfold upd slotF Tm.posOf
  by_cases e : n = v
  · subst e
    rw [if_pos rfl, if_pos (by simp), List.idxOf_append, if_neg h]; simp
  · rw [if_neg e]
    by_cases hm : n ∈ vs
    · rw [if_pos hm, if_pos (List.mem_append_left _ hm), List.idxOf_append, if_pos hm]
    · rw [if_neg hm, if_neg (by simp [hm, e])]
theorem slotF_none {vs : List Int} {v : Int} (h : v ∉ vs) : (slotF vs v).isSome = false := by unfold slotF; rw [if_neg h]; rfl
theorem slotF_get {vs : List Int} {v : Int} (h : v ∈ vs) : (slotF vs v).getD (.int .i64 0) = .int .i64 (Tm.posOf vs v) := by unfold slotF; rw [if_pos h]; rfl
theorem zero3 (w : World) : (zeroValue 3).run Try.prog w = .ok (.int .i64 0) w := by kernel_rfl
theorem slotLook {w : World} {mb n : Nat} {vs : List Int} {v : Int} (h : IMap Try.prog 2 w mb n (slotF vs)) (hv : v ∈ vs) (h64 : I64 v) : (Instr.lookup 172 (.map (some mb)) (.int .i64 v) false).run Try.prog w = .ok (.int .i64 (Tm.posOf vs v)) w := by
  rw [h.look law2 Try.underlying172 (zero3 _) (key2 h64), slotF_get hv]
theorem term_cells {w : World} {l : List LT} {n g cap i : Nat} {x : LT} (h : Row w 27 4 (.slice (some ⟨g, 0, none⟩) n cap) n (l.flatMap LT.cells)) (hi : l[i]? = some x) :
    w.cell? ⟨g, i * 4, none⟩ = some (.int .i64 x.kind) ∧ w.cell? ⟨g, i * 4 + 1, none⟩ = some (.int .i64 x.n) ∧ w.cell? ⟨g, i * 4 + 2, none⟩ = some (.string x.name) ∧ w.cell? ⟨g, i * 4 + 3, none⟩ = some (.slice x.at_.1 x.args.length x.at_.2) := by
  have hc := h.cells rfl; refine ⟨hc _ _ (by have := LT.flat_at hi 0 (by omega); rw [Nat.add_zero] at this; rw [this, LT.cells_eq]; rfl), hc _ _ (by rw [LT.flat_at hi 1 (by omega), LT.cells_eq]; rfl), hc _ _ (by rw [LT.flat_at hi 2 (by omega), LT.cells_eq]; rfl), hc _ _ (by rw [LT.flat_at hi 3 (by omega), LT.cells_eq]; rfl)⟩
def metS (t : LT) (i : Nat) : List Int := (met t.args i).map fun n => (Tm.posOf t.vars n : Int)
structure HeadI (t : LT) (cbk mb hb i : Nat) (sv : Value) (w wr : World) : Prop where
  slots : IMap Try.prog 2 wr mb t.vars.length (slotF t.vars)
  had : IMap Try.prog 3 wr hb (metS t i).length (hadF (metS t i))
  regs : Row wr 27 4 sv (cb t.args i) ((reg t.args i).flatMap LT.cells)
  ins : t.In (fun k => k < w.heap.size) wr
  code : ∃ lv, wr.heap[cbk]? = some (.cells #[.int .i64 t.args.length, .int .i64 t.vars.length, .int .i64 0, lv] 104 (0, 0)) ∧ Row wr 139 6 lv i ((steps t.vars t.args i).flatMap stC) ∧ ∀ k, lv.ownBlock = some k → w.heap.size ≤ k ∧ k ≠ cbk ∧ k ≠ mb ∧ k ≠ hb ∧ sv.ownBlock ≠ some k
  own : ∀ k, sv.ownBlock = some k → w.heap.size ≤ k ∧ k ≠ cbk ∧ k ≠ mb ∧ k ≠ hb
  ne : w.heap.size ≤ cbk ∧ w.heap.size ≤ mb ∧ w.heap.size ≤ hb ∧ cbk ≠ mb ∧ cbk ≠ hb ∧ mb ≠ hb
  t : Turned (fun _ => False) w wr
theorem HeadI.turned0 {t : LT} {cbk mb hb i : Nat} {sv : Value} {w wr w' : World} (h : HeadI t cbk mb hb i sv w wr) (T : Turned (fun _ => False) wr w') : HeadI t cbk mb hb i sv w w' := by
  obtain ⟨lv, h1, h2, h3⟩ := h.code; exact ⟨h.slots.turned T (fun f => f), h.had.turned T (fun f => f), h.regs.turned0 T, h.ins.turned0 T, ⟨lv, (T.block _ (Array.getElem?_eq_some_iff.1 h1).1 (fun f => f)).trans h1, h2.turned0 T, h3⟩, h.own, h.ne, h.t.trans T⟩
theorem Tm.cb_le' {α : Type} {l : List (Tm α)} {i : Nat} (h : i ≤ Tm.sizes l) : Tm.cb l i ≤ Tm.sizes l := by
  have h1 := Tm.reg_le l h; have h2 := Tm.regs_length l; unfold Tm.regs at h2; unfold Tm.cb; omega
structure HeadM (t : LT) (cbk mb hb i : Nat) (sv lv : Value) (w wr : World) : Prop where
  slots : IMap Try.prog 2 wr mb t.vars.length (slotF t.vars)
  had : IMap Try.prog 3 wr hb (metS t (i + 1)).length (hadF (metS t (i + 1)))
  regs : Row wr 27 4 sv (cb t.args (i + 1)) ((reg t.args (i + 1)).flatMap LT.cells)
  ins : t.In (fun k => k < w.heap.size) wr
  c : wr.heap[cbk]? = some (.cells #[.int .i64 t.args.length, .int .i64 t.vars.length, .int .i64 0, lv] 104 (0, 0))
  row : Row wr 139 6 lv i ((steps t.vars t.args i).flatMap stC)
  lvo : ∀ k, lv.ownBlock = some k → w.heap.size ≤ k ∧ k ≠ cbk ∧ k ≠ mb ∧ k ≠ hb ∧ sv.ownBlock ≠ some k
  own : ∀ k, sv.ownBlock = some k → w.heap.size ≤ k ∧ k ≠ cbk ∧ k ≠ mb ∧ k ≠ hb
  ne : w.heap.size ≤ cbk ∧ w.heap.size ≤ mb ∧ w.heap.size ≤ hb ∧ cbk ≠ mb ∧ cbk ≠ hb ∧ mb ≠ hb
  t : Turned (fun _ => False) w wr
section
variable {t : LT} {cbk mb hb i : Nat} {sv sv' lv lv' : Value} {w wr W W' : World}
theorem HeadM.turned0 (h : HeadM t cbk mb hb i sv lv w wr) (T : Turned (fun _ => False) wr W) : HeadM t cbk mb hb i sv lv w W :=
  ⟨h.slots.turned T (fun f => f), h.had.turned T (fun f => f), h.regs.turned0 T, h.ins.turned0 T, (T.block _ (Array.getElem?_eq_some_iff.1 h.c).1 (fun f => f)).trans h.c, h.row.turned0 T, h.lvo, h.own, h.ne, h.t.trans T⟩
theorem HeadI.mid (h : HeadI t cbk mb hb i sv w wr) (hc : wr.heap[cbk]? = some (.cells #[.int .i64 t.args.length, .int .i64 t.vars.length, .int .i64 0, lv] 104 (0, 0))) (hl : Row wr 139 6 lv i ((steps t.vars t.args i).flatMap stC)) (hlo : ∀ k, lv.ownBlock = some k → w.heap.size ≤ k ∧ k ≠ cbk ∧ k ≠ mb ∧ k ≠ hb ∧ sv.ownBlock ≠ some k)
    (T : Turned (fun k => k = hb ∨ sv.ownBlock = some k) wr W) (hhad : IMap Try.prog 3 W hb (metS t (i + 1)).length (hadF (metS t (i + 1)))) (hregs : Row W 27 4 sv' (cb t.args (i + 1)) ((reg t.args (i + 1)).flatMap LT.cells)) (ho : sv'.ownBlock = sv.ownBlock ∨ ∀ k, sv'.ownBlock = some k → wr.heap.size ≤ k) : HeadM t cbk mb hb i sv' lv w W := by
  obtain ⟨n1, n2, n3, n4, n5, n6⟩ := h.ne; have lc := (Array.getElem?_eq_some_iff.1 hc).1; have lm := h.slots.lt; have lh := h.had.lt; refine ⟨h.slots.turned T (fun c => c.elim n6 (fun c => (h.own _ c).2.2.1 rfl)), hhad, hregs, ?_, (T.block _ lc (fun c => c.elim n5 (fun c => (h.own _ c).2.1 rfl))).trans hc, hl.turned T (fun k hk c => c.elim (fun c => (hlo k hk).2.2.2.1 c) (fun c => (hlo k hk).2.2.2.2 c)), fun k hk => ⟨(hlo k hk).1, (hlo k hk).2.1, (hlo k hk).2.2.1, (hlo k hk).2.2.2.1, fun c => ?_⟩, fun k hk => ?_, h.ne, h.t.step T (fun k hk c => c.elim (fun c => by omega) (fun c => by have := (h.own k c).1; omega))⟩
  · refine LT.In.turned T (fun k hk hp c => ?_) (fun k hk hp => hp) t h.ins
    rcases c with c | c
    · omega
    · have := (h.own k c).1; omega
  · rcases ho with ho | ho
    · exact (hlo k hk).2.2.2.2 (ho ▸ c)
    · have := ho k c; have := hl.lt k hk; omega
  · rcases ho with ho | ho
    · exact h.own k (ho ▸ hk)
    · have := ho k hk
      exact ⟨by have := h.t.size; omega, by omega, by omega, by omega⟩
theorem HeadM.next (h : HeadM t cbk mb hb i sv lv w wr) {s : Stp} (hs : steps t.vars t.args (i + 1) = steps t.vars t.args i ++ [s]) (T : Turned (fun k => lv.ownBlock = some k) wr W) (hr : Row W 139 6 lv' (i + 1) ((steps t.vars t.args i).flatMap stC ++ stC s)) (ho : lv'.ownBlock = lv.ownBlock ∨ ∀ k, lv'.ownBlock = some k → wr.heap.size ≤ k)
    (T' : Turned (fun k => k = cbk) W W') (hc : W'.heap[cbk]? = some (.cells #[.int .i64 t.args.length, .int .i64 t.vars.length, .int .i64 0, lv'] 104 (0, 0))) : HeadI t cbk mb hb (i + 1) sv w W' := by
  obtain ⟨n1, n2, n3, n4, n5, n6⟩ := h.ne; have lc := (Array.getElem?_eq_some_iff.1 h.c).1; have lm := h.slots.lt; have lh := h.had.lt
  have hlo' : ∀ k, lv'.ownBlock = some k → w.heap.size ≤ k ∧ k ≠ cbk ∧ k ≠ mb ∧ k ≠ hb ∧ sv.ownBlock ≠ some k := by
    intro k hk
    rcases ho with ho | ho
    · exact h.lvo k (ho ▸ hk)
    · have := ho k hk
      exact ⟨by have := h.t.size; omega, by omega, by omega, by omega, fun c => by have := h.regs.lt k c; omega⟩
  have TT : Turned (fun k => k = cbk ∨ lv.ownBlock = some k) wr W' := (T.mono (fun k _ c => .inr c)).trans (T'.mono (fun k _ c => .inl c)); refine ⟨h.slots.turned TT (fun c => c.elim (fun c => n4 c.symm) (fun c => (h.lvo _ c).2.2.1 rfl)), h.had.turned TT (fun c => c.elim (fun c => n5 c.symm) (fun c => (h.lvo _ c).2.2.2.1 rfl)), h.regs.turned TT (fun k hk c => c.elim (fun c => (h.own k hk).2.1 c) (fun c => (h.lvo k c).2.2.2.2 hk)), ?_, ⟨lv', hc, ?_, hlo'⟩, h.own, h.ne, h.t.step TT (fun k hk c => c.elim (fun c => by omega) (fun c => by have := (h.lvo k c).1; omega))⟩
  · refine LT.In.turned TT (fun k hk hp c => ?_) (fun k hk hp => hp) t h.ins
    rcases c with c | c
    · omega
    · have := (h.lvo k c).1; omega
  · rw [hs, List.flatMap_append]
    have : Row W' 139 6 lv' (i + 1) ((steps t.vars t.args i).flatMap stC ++ stC s) := hr.turned T' (fun k hk c => (hlo' k hk).2.1 c); simpa using this
end
theorem reg_facts {t x : LT} {i : Nat} {w : World} {p : Nat → Prop} (ht : t.In p w) (hg : goodB t = true) (hi : i < Tm.sizes t.args) (hx : (reg t.args i)[i]? = some x) :
    x.In p w ∧ goodOneB x = true ∧ (Tm.regs t.args)[i]? = some x ∧ reg t.args (i + 1) = reg t.args i ++ x.args ∧ cb t.args (i + 1) = cb t.args i + x.args.length ∧ (x.kind = 0 → x.n ∈ t.vars) ∧ cb t.args i ≤ 2000 ∧ x.args.length ≤ 8 := by
  obtain ⟨y, h1, h2, h3⟩ := Tm.regs_some hi
  rw [hx] at h2; injection h2 with h2; subst h2
  have hm : x ∈ t.flat := by rw [Tm.flat_eq]; exact List.mem_cons_of_mem _ (Tm.regs_flats x (List.mem_of_getElem? h1))
  have h := hg; unfold goodB at h; simp only [Bool.and_eq_true, decide_eq_true_eq, List.all_eq_true] at h; have hs := h.1; rw [Tm.size_eq] at hs; have hc := Tm.cb_le' (l := t.args) (i := i) (by omega); refine ⟨LT.In.flat t ht x hm, h.2.2 x hm, h1, h3, (Tm.cb_next h1).1, fun h0 => (Tm.mem_fold _ _ _).2 (.inr ⟨x, hm, h0, rfl⟩), by omega, ?_⟩
  by_cases ha : x.args = []
  · rw [ha]; exact Nat.zero_le _
  · exact (Tm.one_args (h.2.2 x hm) ha).2.2
theorem vars_few {t : LT} (hg : goodB t = true) : t.vars.length ≤ 2000 := by
  have h := hg; unfold goodB at h; simp only [Bool.and_eq_true, decide_eq_true_eq, List.all_eq_true] at h; have hs := h.1
  have : ∀ (l : List LT) (vs : List Int), (l.foldl Tm.addVar vs).length ≤ vs.length + l.length := by
    intro l
    induction l with
    | nil => intro vs; simp
    | cons y l ih =>
      intro vs; rw [List.foldl_cons, List.length_cons]; have := ih (Tm.addVar vs y)
      have h2 : (Tm.addVar vs y).length ≤ vs.length + 1 := by unfold Tm.addVar; split <;> simp
      omega
  have h3 := this t.flat []; rw [Tm.flat_length] at h3; unfold Tm.vars; simp at h3; omega
theorem metS_mem {t : LT} {i : Nat} {v : Int} (hv : v ∈ t.vars) : (Tm.posOf t.vars v : Int) ∈ metS t i ↔ v ∈ met t.args i := by
  unfold metS; constructor
  · intro h
    obtain ⟨u, hu, e⟩ := List.mem_map.1 h; have e' : Tm.posOf t.vars u = Tm.posOf t.vars v := Int.ofNat.inj e
    have huv : u ∈ t.vars := by
      obtain ⟨y, hy, h0, rfl⟩ := Tm.mem_met hu; exact (Tm.mem_fold _ _ _).2 (.inr ⟨_, by rw [Tm.flat_eq]; exact List.mem_cons_of_mem _ hy, h0, rfl⟩)
    have p1 := Tm.posOf_mem huv; have p2 := Tm.posOf_mem hv; rw [e', p2] at p1
    injection p1 with p1
    rw [p1]; exact hu
  · exact fun h => List.mem_map.2 ⟨_, h, rfl⟩
theorem metS_next {t x : LT} {i : Nat} (hx : (Tm.regs t.args)[i]? = some x) : metS t (i + 1) = if x.kind = 0 ∧ x.n ∉ met t.args i then metS t i ++ [(Tm.posOf t.vars x.n : Int)] else metS t i := by
  unfold metS; rw [Tm.met_succ hx]; unfold Tm.addVar
  split
  · rw [List.map_append]; rfl
  · rfl
theorem metS_few {t : LT} {i : Nat} (hg : goodB t = true) (hi : i ≤ Tm.sizes t.args) : (metS t i).length ≤ 2000 := by
  unfold metS; rw [List.length_map]; unfold met
  have : ∀ (l : List LT) (vs : List Int), (l.foldl Tm.addVar vs).length ≤ vs.length + l.length := by
    intro l
    induction l with
    | nil => intro vs; simp
    | cons y l ih =>
      intro vs; rw [List.foldl_cons, List.length_cons]; have := ih (Tm.addVar vs y)
      have h2 : (Tm.addVar vs y).length ≤ vs.length + 1 := by unfold Tm.addVar; split <;> simp
      omega
  have h3 := this ((Tm.regs t.args).take i) []; have h4 : ((Tm.regs t.args).take i).length ≤ i := List.length_take_le _ _; have h := hg; unfold goodB at h; simp only [Bool.and_eq_true, decide_eq_true_eq, List.all_eq_true] at h; have hs := h.1; rw [Tm.size_eq] at hs; simp at h3; simp at h4; omega
end Go.Proofs.Ytoihjobdfjajfaa
namespace Go.Proofs.Ytoihjobdfjajfaa
open Go.RowKit Go.Maps
open Tm (Stp sVar sVal sInt sAtom sComp cb met steps stepX stepAt goodC)
theorem small_ops : sVar.size ≤ maxLen ∧ sVal.size ≤ maxLen ∧ sInt.size ≤ maxLen ∧ sAtom.size ≤ maxLen ∧ sComp.size ≤ maxLen := by
  unfold maxLen; decide
theorem step_ok {t x : LT} {p : Nat → Prop} {w : World} {i : Nat} (ht : t.In p w) (hg : goodB t = true) (hx : (Tm.regs t.args)[i]? = some x) : stOk (stepX t.vars t.args i x) ∧ opOk (stepX t.vars t.args i x) := by
  have hm : x ∈ t.flat := by rw [Tm.flat_eq]; exact List.mem_cons_of_mem _ (Tm.regs_flats x (List.mem_of_getElem? hx))
  have hxin := LT.In.flat t ht x hm; have h := hg; unfold goodB at h; simp only [Bool.and_eq_true, decide_eq_true_eq, List.all_eq_true] at h; have hone := h.2.2 x hm; have hs := h.1; rw [Tm.size_eq] at hs
  have hi : i < Tm.sizes t.args := by have := (List.getElem?_eq_some_iff.1 hx).1; rw [Tm.regs_length] at this; exact this
  have hcb := Tm.cb_le' (l := t.args) (i := i) (by omega); have hvf := vars_few hg; obtain ⟨z1, z2, z3, z4, z5⟩ := small_ops; obtain ⟨n1, n2, n3, n4, n5, n6, n7, n8, n9, n10⟩ := Tm.ne_ops
  have he : ByteArray.empty.size ≤ maxLen := by unfold maxLen; decide
  unfold stepX
  by_cases h0 : x.kind = 0
  · have hv : x.n ∈ t.vars := (Tm.mem_fold _ _ _).2 (.inr ⟨x, hm, h0, rfl⟩)
    have hp := List.idxOf_lt_length_of_mem hv; rw [if_pos h0]; refine ⟨⟨?_, by simp only []; unfold I64; omega, by simp only []; unfold I64 Tm.posOf; omega, by simp only []; unfold I64; omega, by simp only []; unfold I64; omega, he⟩, ?_, fun c => ?_⟩
    · simp only []; split <;> assumption
    · simp only []; split <;> simp
    · simp only [] at c
      split at c
      · exact absurd c.symm n8
      · exact absurd c.symm n7
  · rw [if_neg h0]
    by_cases h1 : x.kind = 1
    · rw [if_pos h1]
      exact ⟨⟨z3, by simp only []; unfold I64; omega, by simp only []; unfold I64; omega, by simp only []; unfold I64; omega, hxin.n, he⟩, .inr (.inr (.inl rfl)), fun c => absurd c.symm n9⟩
    · have h2 : x.kind = 2 := by
        by_cases h2 : x.kind = 2
        · exact h2
        · rw [goodOneB_3 x h0 h1 h2] at hone; cases hone
      rw [goodOneB_2 x h2] at hone; simp only [Bool.and_eq_true, decide_eq_true_eq] at hone; rw [if_neg h1]
      by_cases ha : x.args.length = 0
      · rw [if_pos ha]
        exact ⟨⟨z4, by simp only []; unfold I64; omega, by simp only []; unfold I64; omega, by simp only []; unfold I64; omega, by simp only []; unfold I64; omega, hxin.name⟩, .inr (.inr (.inr (.inl rfl))), fun c => absurd c.symm n10⟩
      · rw [if_neg ha]
        exact ⟨⟨z5, by simp only []; unfold I64; omega, by simp only []; unfold I64; omega, by simp only []; unfold I64; omega, by simp only []; unfold I64; omega, hxin.name⟩, .inr (.inr (.inr (.inr rfl))), fun _ => ⟨by simp only []; omega, by simp only []; omega⟩⟩
theorem steps_ok {t : LT} {p : Nat → Prop} {w : World} {k : Nat} (ht : t.In p w) (hg : goodB t = true) (hk : k ≤ Tm.sizes t.args) : ∀ s ∈ steps t.vars t.args k, stOk s ∧ opOk s := by
  intro s hs; unfold steps at hs; obtain ⟨i, hi, rfl⟩ := List.mem_map.1 hs; rw [List.mem_range] at hi; obtain ⟨x, hx, _, _⟩ := Tm.regs_some (l := t.args) (i := i) (by omega); unfold stepAt; rw [hx]; exact step_ok ht hg hx
theorem goodHead95 {t : LT} {p : Nat → Prop} {w : World} {lv : Value} (ht : t.In p w) (hg : goodB t = true) (hk : t.kind = 2) (hr : Row w 139 6 lv (Tm.sizes t.args) ((steps t.vars t.args (Tm.sizes t.args)).flatMap stC)) :
    Calls Try.prog 95 #[.agg #[.int .i64 t.args.length, .int .i64 t.vars.length, .int .i64 (Tm.sizes t.args), lv]] w fun e w' => e = .returned (.bool true) ∧ Turned (fun _ => False) w w' := by
  have hl := Tm.steps_length t.vars t.args (Tm.sizes t.args); have h := hg; unfold goodB at h; simp only [Bool.and_eq_true, decide_eq_true_eq, List.all_eq_true] at h; have hs := h.1; rw [Tm.size_eq] at hs; have := codeGoodT95 (ar := t.args.length) (sl := t.vars.length) (rg := (Tm.sizes t.args : Int)) (lv := lv) (Ls := steps t.vars t.args (Tm.sizes t.args)) (w := w) (by rw [hl]; exact hr) (steps_ok ht hg (Nat.le_refl _)) (by rw [hl]; omega) (Tm.head_good hg hk); exact this
end Go.Proofs.Ytoihjobdfjajfaa
namespace Go.Proofs.Ytoihjobdfjajfaa
open Go.RowKit Go.Maps
theorem Row.moved {w W : World} {e : TypeId} {size n : Nat} {v : Value} {xs : List Value} (h : Row w e size v n xs) (hb : ∀ g o, v.ownBlock = some g → w.heap[g]? = some o → W.heap[g]? = some o) : Row W e size v n xs := by
  refine ⟨h.1, ?_⟩
  rcases h.2 with h2 | ⟨g, cap, cur, rfl, hg, h2⟩
  · exact .inl h2
  · exact .inr ⟨g, cap, cur, rfl, hb g _ rfl hg, h2⟩
section
variable {N bb m : Nat} {bx : List (Nat × Obj)} {ts : List LT} {w1 w0 W : World} {tr : Tm.Trail}
theorem BM.row {e : TypeId} {size n : Nat} {v : Value} {xs : List Value} (h : BM N bb bx ts w1 m tr w0) (T : Turned (fun _ => False) w0 W) (hr : Row W e size v n xs) (hn : ∀ k, v.ownBlock = some k → w0.heap.size ≤ k) :
    ∃ bx', BM N bb (bx' ++ bx) ts w1 m tr W ∧ ∀ W', (∀ b ∈ bx' ++ bx, W'.heap[b.1]? = some b.2) → Row W' e size v n xs := by
  cases hv : v.ownBlock with
  | none => exact ⟨[], h.turned0 T, fun W' _ => hr.moved (fun g o hg => by rw [hv] at hg; cases hg)⟩
  | some g =>
    obtain ⟨o, ho⟩ : ∃ o, W.heap[g]? = some o := by
      rcases hr.2 with ⟨rfl, _⟩ | ⟨g', cap, cur, rfl, hg, _⟩
      · cases hv
      · have : g' = g := by simpa [Value.ownBlock] using hv
        exact ⟨_, this ▸ hg⟩
    refine ⟨[(g, o)], h.keepBox T (hn g hv) ho, fun W' hW => hr.moved (fun g' o' hg' ho' => ?_)⟩; rw [hv] at hg'; obtain rfl := Option.some.inj hg'; rw [ho] at ho'; obtain rfl := Option.some.inj ho'; exact hW (g, o) (List.mem_cons_self ..)
end
theorem blanks_V (n : Nat) : (blanks n).map Tm.bare = List.replicate n (Tm.V 0) := by
  unfold blanks; rw [List.map_replicate]; rfl
end Go.Proofs.Ytoihjobdfjajfaa
namespace Go.Proofs.Ytoihjobdfjajfaa
open Go.RowKit Go.Maps
theorem goodHead95' {t : LT} {p : Nat → Prop} {w w' : World} {lv : Value} (ht : t.In p w') (hg : goodB t = true) (hk : t.kind = 2) (hr : Row w 139 6 lv (Tm.sizes t.args) ((Tm.steps t.vars t.args (Tm.sizes t.args)).flatMap stC)) :
    Calls Try.prog 95 #[.agg #[.int .i64 t.args.length, .int .i64 t.vars.length, .int .i64 (Tm.sizes t.args), lv]] w fun e w' => e = .returned (.bool true) ∧ Turned (fun _ => False) w w' := by
  have hl := Tm.steps_length t.vars t.args (Tm.sizes t.args); have h := hg; unfold goodB at h; simp only [Bool.and_eq_true, decide_eq_true_eq, List.all_eq_true] at h; have hs := h.1; rw [Tm.size_eq] at hs; have := codeGoodT95 (ar := t.args.length) (sl := t.vars.length) (rg := (Tm.sizes t.args : Int)) (lv := lv) (Ls := Tm.steps t.vars t.args (Tm.sizes t.args)) (w := w) (by rw [hl]; exact hr) (steps_ok ht hg (Nat.le_refl _)) (by rw [hl]; omega) (Tm.head_good hg hk); exact this
end Go.Proofs.Ytoihjobdfjajfaa
namespace Go.Proofs.Ytoihjobdfjajfaa
open Lib (hid)
open Go.RowKit Go.Shelf
attribute [local go_sem] Oper.semAt_some
def noS : Tm.Stp := ⟨ByteArray.empty, 0, 0, 0, 0, ByteArray.empty⟩
def idx (n q : Nat) : Nat := min q (n - 1)
theorem idx_lt {n q : Nat} (h : 0 < n) : idx n q < n := by unfold idx; omega
theorem idx_of {n q : Nat} (h : q < n) : idx n q = q := by unfold idx; omega
def stW (s : Tm.Stp) : Value := .agg #[.string s.op, .int .i64 s.a, .int .i64 s.b, .int .i64 s.c, .int .i64 s.n, .string s.name]
set_option maxRecDepth 100000 in
set_option maxHeartbeats 1000000 in
theorem bk169 (F : Fence) (n : Nat) (hf : F.fn 169) (hro : F.round = none) (hn : 1 ≤ n) (lp Bn n₀ b3 : Nat) {a : Option Addr} {c : Nat} {l : List Tm.Stp} (J Jx : List Nat → World → Prop)
    (hY : ∀ (pre : List Nat) (x : Nat) W, J pre W → pre.length < l.length → YieldAt F (n - 1) Try.prog lp #[.int .i64 (idx l.length x), stW (l.getD (idx l.length x) noS)] W fun e W' =>
      (e = .returned (.bool true) ∧ J (pre ++ [x]) W' ∧ KpB n₀ b3 W W') ∨ (e = .returned (.bool false) ∧ Jx (pre ++ [x]) W'))
    (W : World) (hBn : W.cell? ⟨Bn, 0, none⟩ = some (.slice a l.length c)) (hBl : Bn < n₀ ∧ Bn ≠ b3) (hL : Row W 139 6 (.slice a l.length c) l.length (l.flatMap stC)) (hown : ∀ k, (Value.slice a l.length c).ownBlock = some k → k < n₀ ∧ k ≠ b3) (hc1 : l.length ≤ c) (hc2 : c ≤ maxLen) (h0 : J [] W) :
    CallsIn F n Try.prog 169 #[.func (.yield lp) #[] #[], .pointer (some ⟨Bn, 0, none⟩)] W fun e W' => (∃ v, e = .returned v) ∧
      ((∃ ys, ys = (List.range l.length).reverse ∧ J ys W') ∨ (∃ pre, True ∧ Jx pre W')) := by
  unfold maxLen at hc2; refine callsIn_of_wp Try.func169 rfl hf ?_ hro; simp only [Try.ntmps169, List.size_toArray, List.length_cons, List.length_nil, Nat.reduceAdd, Nat.reduceSub, Array.replicate_succ, Array.replicate_zero, List.push_toArray, List.append_toArray, List.nil_append, List.cons_append]; gi_wp2
  gi_loopw [3] (fun i wr => ∃ r : Nat, r ≤ l.length ∧ i = .int .i64 ((r : Int) - 1) ∧ Hid (J ((List.range l.length).reverse.take (l.length - r)) wr ∧ wr.cell? ⟨Bn, 0, none⟩ = some (.slice a l.length c) ∧ Row wr 139 6 (.slice a l.length c) l.length (l.flatMap stC)))
    (fun i wr => match i with | .int _ k => (k + 1).toNat | _ => 0)
  case atStart =>
    exact ⟨l.length, Nat.le_refl _, rfl, by rw [Nat.sub_self]; exact h0, hBn, hL⟩
  case round =>
    obtain ⟨r, hr, rfl, HR⟩ := hrel; obtain ⟨HJ, hb, hs⟩ := HR.out
    cases r with
    | zero =>
      have hneg : decide ((0 : Int) ≤ ((0 : Nat) : Int) - 1) = false := by decide
      gi_wp2; go_end0; refine ⟨⟨_, rfl⟩, .inl ⟨_, rfl, ?_⟩⟩; rw [Nat.sub_zero, show ((List.range l.length).reverse.take l.length) = (List.range l.length).reverse from List.take_of_length_le (by rw [List.length_reverse, List.length_range]; omega)] at HJ; exact HJ
    | succ q =>
      have e : (((q + 1 : Nat)) : Int) - 1 = (q : Int) := by omega
      rw [e]
      have hql : q < l.length := by omega
      have hx : l[q]? = some l[q] := List.getElem?_eq_getElem hql; obtain ⟨x, hxe⟩ : ∃ x, x = l[q] := ⟨_, rfl⟩; rw [← hxe] at hx; clear hxe e; obtain ⟨b, q2, hbq⟩ := hs.shape_pos (by omega)
      have ha : a = some ⟨b, 0, none⟩ := by injection hbq
      subst ha; obtain ⟨c0, c1, c2, c3, c4, c5⟩ := step_cells hs hx
      have hlen : ((List.range l.length).reverse.take (l.length - (q + 1))).length < l.length := by rw [List.length_take, List.length_reverse, List.length_range]; omega
      obtain ⟨fn, tmps, assign, body, hy, hR⟩ := hY _ q wr HJ hlen
      have hg : l.getD q noS = x := by rw [List.getD_eq_getElem?_getD, hx]; rfl
      rw [idx_of hql, hg] at hy; unfold stW at hy; have HX := hid hx; have HS := hid hs; clear hx hlen hg HR hs hbq; gi_wp2; refine hR.mono ?_
      rintro e W3 (⟨rfl, hJ3, hk3⟩ | ⟨rfl, hJx3⟩)
      · gi_wp2
        go_roundw
        case rel =>
          refine ⟨q, by omega, by go_num, ?_, ?_, ?_⟩
          · rw [back_take hql]; exact hJ3
          · exact Turned.cell hk3 hb (fun h => h.elim (fun h1 => by have h2 : n₀ ≤ Bn := h1; omega) hBl.2)
          · exact HS.out.turned hk3 (fun k hp h => h.elim (fun h1 => by have := (hown k hp).1; omega) (hown k hp).2)
        case measure => simp
      · gi_wp2
        refine bodyPost_ret (results_none rfl _ _ _) rfl ?_; exact ⟨⟨_, rfl⟩, .inr ⟨_, trivial, hJx3⟩⟩
set_option maxHeartbeats 1000000 in
theorem back148 (F : Fence) (n : Nat) (h5 : F.fn 148) (hro : F.round = none) (a : Option Addr) (m c : Nat) (w : World) :
    CallsIn F n Try.prog 148 #[.slice a m c] w fun e w' => e = .returned (.func (.func 169) #[] #[.pointer (some ⟨w.heap.size, 0, none⟩)]) ∧ w' = w.alloc (.cells #[.slice a m c] 102) := by
  have hmf : ∀ (fn : Fn) (first cap : Array Value) (w : World), (Instr.makeFunc fn first cap).run Try.prog w = .ok (.func fn first cap) w := fun _ _ _ _ => rfl
  refine callsIn_of_wp Try.func148 rfl h5 ?_ hro; simp only [Try.ntmps148, List.size_toArray, List.length_cons, List.length_nil, Nat.reduceAdd, Nat.reduceSub, Array.replicate_succ, Array.replicate_zero, List.push_toArray, List.append_toArray, List.nil_append, List.cons_append]; gi_wp2; go_ret; exact ⟨rfl, rfl⟩
theorem row_below {w W : World} {e : TypeId} {size n : Nat} {v : Value} {xs : List Value} (h : Row w e size v n xs) (T : Below w.heap.size w W) : Row W e size v n xs :=
  h.moved (fun g o hg ho => by
    have hl := (Array.getElem?_eq_some_iff.1 ho).1
    exact (T.block g hl).trans ho)
theorem back_stops169 (F : Fence) (n : Nat) (h6 : F.fn 169) (hro : F.round = none) (hn : 1 ≤ n) (Bn n₀ b3 : Nat) {a : Option Addr} {c : Nat} {l : List Tm.Stp} (w : World) (hBn : Bn < w.heap.size) (hB : Bn < n₀ ∧ Bn ≠ b3)
    (hc : w.cell? ⟨Bn, 0, none⟩ = some (.slice a l.length c)) (hL : Row w 139 6 (.slice a l.length c) l.length (l.flatMap stC)) (hown : ∀ k, (Value.slice a l.length c).ownBlock = some k → k < n₀ ∧ k ≠ b3) (hc1 : l.length ≤ c) (hc2 : c ≤ maxLen) :
    SeqStopsK F n Try.prog 169 #[.pointer (some ⟨Bn, 0, none⟩)] (fun q : Nat => #[Value.int .i64 (idx l.length q), stW (l.getD (idx l.length q) noS)]) (KpB n₀ b3) (fun ys => ys = (List.range l.length).reverse) (fun _ => True) l.length w :=
  fun lp J Jx W hW _ _ hY h0 => bk169 F n h6 hro hn lp Bn n₀ b3 J Jx hY W (below_cells hW _ _ hc) hB (row_below hL hW) hown hc1 hc2 h0
end Go.Proofs.Ytoihjobdfjajfaa
namespace Go.Proofs.Ytoihjobdfjajfaa
open Lib (hid)
open Go.RowKit Go.Maps
open Tm (Stp sVar sVal sInt sAtom sComp cb met steps stepX reg)
theorem infoS : (Try.prog.info? 139).map (fun i => (i.zero, i.size, i.bytes)) = some (some (.agg #[.string ⟨#[]⟩, .int .i64 0, .int .i64 0, .int .i64 0, .int .i64 0, .string ⟨#[]⟩]), 6, 64) := by kernel_rfl
theorem row_ne_map {P : Program} {kt : TypeId} {w : World} {e : TypeId} {size n m b : Nat} {v : Value} {xs : List Value} {f : Int → Option Value} (h : Row w e size v n xs) (hm : IMap P kt w b m f) : v.ownBlock ≠ some b := by
  intro hv; obtain ⟨D, ⟨es, clock, hb, _⟩, _⟩ := hm
  rcases h.2 with ⟨rfl, _⟩ | ⟨g, cap, cur, rfl, hg, _⟩
  · simp [Value.ownBlock] at hv
  · simp [Value.ownBlock] at hv
    subst hv; rw [hb] at hg
    injection hg with hg
    cases hg
set_option maxRecDepth 100000 in
set_option maxHeartbeats 6400000 in
theorem head93_no {t : LT} {w : World} (ht : t.In (fun _ => True) w) (hs : slim t) (hn : ¬ (goodB t = true ∧ 2 ≤ t.kind)) :
    Calls Try.prog 93 #[.agg #[.int .i64 t.kind, .int .i64 t.n, .string t.name, .slice t.at_.1 t.args.length t.at_.2]] w fun e w' => e = .returned (.tuple #[.agg #[.int .i64 0, .int .i64 0, .int .i64 0, .slice none 0 0], .int .i64 1]) ∧ Turned (fun _ => False) w w' := by
  have h2 := twoBox w (.cells #[.int .i64 t.kind, .int .i64 t.n, .string t.name, .slice t.at_.1 t.args.length t.at_.2] 27) (.cells #[.int .i64 0, .int .i64 0, .int .i64 0, .slice none 0 0] 104); obtain ⟨w2, hw2⟩ : ∃ z, z = (w.alloc (.cells #[.int .i64 t.kind, .int .i64 t.n, .string t.name, .slice t.at_.1 t.args.length t.at_.2] 27)).alloc (.cells #[.int .i64 0, .int .i64 0, .int .i64 0, .slice none 0 0] 104) := ⟨_, rfl⟩; rw [← hw2] at h2; have HT2 := hid h2.1; have HB := hid (fun W (T : Turned (fun _ => False) w2 W) => (T.block _ (by have := h2.2.1; omega) (fun f => f)).trans h2.2.2.1); have HR := hid (fun W (T : Turned (fun _ => False) w2 W) => (T.block _ (by have := h2.2.1; omega) (fun f => f)).trans h2.2.2.2); have HX := hid (ht.turned0 h2.1); have HW2 := hid hw2; have HSL := hid hs; clear h2 ht hs hw2
  cases hg : goodB t with
  | false =>
    have HG := hid hg; clear hg hn; go_enter Try.func93, Try.ntmps93
    go_wp2_with (go_at_call 38; rw [← HW2.out]; (with_reducible refine (goodVal' HX.out HSL.out HG.out).mono ?_); rintro e w3 ⟨rfl, T3⟩; obtain ⟨r0, r1, r2, r3, f0, f1, f2, f3⟩ := cells4 (HR.out w3 T3))
    refine bodyPost_ret (results_cell_tmp1 Try.results93 _ _ (w.heap.size + 1) 104 _ (0, 0) _ rfl (set4 (a' := .int .i64 0) (b' := .int .i64 0) (c' := .int .i64 0) (d' := .slice none 0 0) (HR.out w3 T3)) Try.underlying104 rfl (by kernel_rfl)) rfl ⟨rfl, (HT2.out.trans T3).step (turned_store4 w3 (w.heap.size + 1) _ _ _ _) (fun i hi e => by omega)⟩
  | true =>
    have HG := hid hg
    have hk : t.kind ≤ 1 := by
      rcases Int.lt_or_le t.kind 2 with h | h
      · omega
      · exact absurd ⟨hg, h⟩ hn
    have dk : decide (t.kind ≤ 1) = true := decide_eq_true hk; clear hg hn hk; go_enter Try.func93, Try.ntmps93
    go_wp2_with (go_at_call 38; rw [← HW2.out]; (with_reducible refine (goodVal' HX.out HSL.out HG.out).mono ?_); rintro e w3 ⟨rfl, T3⟩; obtain ⟨r0, r1, r2, r3, f0, f1, f2, f3⟩ := cells4 (HR.out w3 T3); obtain ⟨b0, b1, b2, b3, _⟩ := cells4 (HB.out w3 T3))
    refine bodyPost_ret (results_cell_tmp1 Try.results93 _ _ (w.heap.size + 1) 104 _ (0, 0) _ rfl (set4 (a' := .int .i64 0) (b' := .int .i64 0) (c' := .int .i64 0) (d' := .slice none 0 0) (HR.out w3 T3)) Try.underlying104 rfl (by kernel_rfl)) rfl ⟨rfl, (HT2.out.trans T3).step (turned_store4 w3 (w.heap.size + 1) _ _ _ _) (fun i hi e => by omega)⟩
set_option maxRecDepth 100000 in
set_option maxHeartbeats 25600000 in
theorem head93 {t : LT} {w : World} (ht : t.In (fun _ => True) w) (hg : goodB t = true) (hk : t.kind = 2) :
    Calls Try.prog 93 #[.agg #[.int .i64 t.kind, .int .i64 t.n, .string t.name, .slice t.at_.1 t.args.length t.at_.2]] w fun e w' => ∃ lv : Value, e = .returned (.tuple #[.agg #[.int .i64 t.args.length, .int .i64 t.vars.length, .int .i64 (Tm.sizes t.args), lv], .int .i64 0]) ∧ Row w' 139 6 lv (Tm.sizes t.args) ((steps t.vars t.args (Tm.sizes t.args)).flatMap stC) ∧ (∀ k, lv.ownBlock = some k → w.heap.size ≤ k) ∧ Turned (fun _ => False) w w' := by
  have hs : slim t := good_slimB (by rw [goodB_bare]; exact hg); have h2 := twoBox w (.cells #[.int .i64 t.kind, .int .i64 t.n, .string t.name, .slice t.at_.1 t.args.length t.at_.2] 27) (.cells #[.int .i64 0, .int .i64 0, .int .i64 0, .slice none 0 0] 104); obtain ⟨w2, hw2⟩ : ∃ z, z = (w.alloc (.cells #[.int .i64 t.kind, .int .i64 t.n, .string t.name, .slice t.at_.1 t.args.length t.at_.2] 27)).alloc (.cells #[.int .i64 0, .int .i64 0, .int .i64 0, .slice none 0 0] 104) := ⟨_, rfl⟩; rw [← hw2] at h2; have HT2 := hid h2.1; have HB := hid (fun W (T : Turned (fun _ => False) w2 W) => (T.block _ (by have := h2.2.1; omega) (fun f => f)).trans h2.2.2.1); have HR := hid (fun W (T : Turned (fun _ => False) w2 W) => (T.block _ (by have := h2.2.1; omega) (fun f => f)).trans h2.2.2.2); have HX := hid (ht.turned0 h2.1); have HW2 := hid hw2; have HSL := hid hs; have HG := hid hg; have HGB := hid (show goodB t.bare = true by rw [goodB_bare]; exact hg); have HZ := hid h2.2.1; have dk : decide (t.kind ≤ 1) = false := decide_eq_false (by omega); have HK := hid hk; clear h2 ht hs hw2 hg hk; have hmm := @run_makeMap Try.prog; go_enter Try.func93, Try.ntmps93
  go_wp2_with (first
    | (go_at_call 38; rw [← HW2.out]; (with_reducible refine (goodVal' HX.out HSL.out HG.out).mono ?_); rintro e w3 ⟨rfl, T3⟩; obtain ⟨b0, b1, b2, b3, _⟩ := cells4 (HB.out w3 T3); obtain ⟨bm0, bm1, bm2, bm3, _⟩ := cells4 (HB.out (w3.alloc (.map #[] 0)) (T3.trans ((Turned.refl _ w3).alloc _))); have HT3 := hid T3; clear T3)
    | (go_at_call 34; have T4 := HT3.out.trans ((Turned.refl _ w3).alloc (.map #[] 0)); (with_reducible refine (varsVal (HX.out.turned0 T4) HGB.out).mono ?_); rintro e w5 ⟨va, vc, rfl, hvr, T5⟩; have HVR := hid hvr; have HT5 := hid (T4.trans T5); have HM5 := hid ((IMap.made w3 Try.prog 2).turned T5 (fun f => f)); clear T4 T5 hvr))
  obtain ⟨n, hn⟩ : ∃ n, n = t.vars.length := ⟨_, rfl⟩; obtain ⟨mb, hmb⟩ : ∃ b, b = w3.heap.size := ⟨_, rfl⟩; rw [← hn, ← hmb]; have HN := hid hn; have HF := hid (show n ≤ 2000 by rw [hn]; exact vars_few HG.out)
  have HVR2 : Hid (Row w5 2 1 (.slice va n vc) n (t.vars.map (Value.int .i64))) := by have := HVR.out; rw [← hn] at this; exact this
  have HM52 : Hid (IMap Try.prog 2 w5 mb 0 (slotF (t.vars.take 0))) := by show IMap _ _ _ _ _ _; rw [List.take_zero, slotF_nil, hmb]; exact HM5.out
  have HMB := hid (show w2.heap.size ≤ mb by rw [hmb]; exact HT3.out.size); have HVN := hid (row_ne_map HVR2.out HM52.out); clear hn hmb HVR HM5 b0 b1 b2 b3 bm0 bm1 bm2 bm3
  go_loopg [26] n (fun q i wr => ∃ j : Nat, Hid (j + q = n) ∧ j ≤ n ∧ i = .int .i64 j ∧ Hid (IMap Try.prog 2 wr mb j (slotF (t.vars.take j))) ∧ Hid (Turned (fun k => k = mb) w5 wr))
  case atStart => exact ⟨0, Nat.zero_add _, Nat.zero_le _, rfl, HM52, Turned.refl _ _⟩
  case round =>
    obtain ⟨j, HJ, hj, rfl, HM, HT⟩ := hrel
    by_cases hjn : j < n
    · have dj : decide ((j : Int) < (n : Int)) = true := decide_eq_true (by omega)
      have HJN := hid hjn; have hn2 : n ≤ 2000 := HF.out; obtain ⟨v, hv⟩ : ∃ v, t.vars[j]? = some v := ⟨_, List.getElem?_eq_getElem (by have := HN.out; omega)⟩; obtain ⟨g, cap', hcv⟩ := HVR2.out.shape_pos (by omega)
      injection hcv with e1 _ e2
      subst e1 e2; have hrw := HVR2.out.turned HT.out (fun q hq e => HVN.out (by rw [← e]; exact hq)); have hcell := hrw.cells rfl j (.int .i64 v) (by rw [List.getElem?_map, hv]; rfl); have hvm : v ∈ t.vars := List.mem_of_getElem? hv
      have h64 : I64 v := by
        obtain ⟨x, hx, h0, rfl⟩ := (Tm.vars_mem (t := t.bare) v).1 (by rw [Tm.vars_bare]; exact hvm); have hone := Tm.good_ones' HGB.out x hx; rw [goodOneB_0 x h0] at hone; simp only [Bool.and_eq_true, decide_eq_true_eq] at hone; unfold I64; omega
      have hnew : v ∉ t.vars.take j := by
        intro c; obtain ⟨q, hq⟩ := List.mem_iff_getElem?.1 c; rw [List.getElem?_take] at hq
        split at hq
        · have h1 := Tm.posOf_at (Tm.vars_nodup t) hq
          have h2 := Tm.posOf_at (Tm.vars_nodup t) hv; omega
        · cases hq
      have HTK : Hid (upd (slotF (t.vars.take j)) v (.int .i64 j) = slotF (t.vars.take (j + 1))) := by
        show _ = _; obtain ⟨hl, he⟩ := List.getElem?_eq_some_iff.1 hv; rw [List.take_succ_eq_append_getElem hl, he, ← slotF_snoc hnew, List.length_take, Nat.min_eq_left (by omega)]
      have HNO := hid (slotF_none hnew); have hkey := key2 h64; clear hrw hv hvm h64 hnew
      go_wp2_with (at_mapUpdate; refine wpList_put rfl _ _ _ 172 rfl law2 Try.underlying172 rfl HM.out (by unfold maxLen; have := HF.out; omega) rfl rfl hkey trivial ?_; intro w6 hm6 T6; have HM6 : Hid (IMap Try.prog 2 w6 mb (j + 1) (slotF (t.vars.take (j + 1)))) := (by have q := hm6; rw [HNO.out] at q; rw [← HTK.out]; exact q); have HT6 := hid (HT.out.trans T6); clear hm6 T6)
      go_roundg (gk - 1)
      case measure => have := HJ.out; omega
      case rel => exact ⟨j + 1, show _ = _ by have := HJ.out; have := HJN.out; omega, by have := HJN.out; omega, by go_num, HM6, HT6⟩
    · obtain rfl : n = j := by omega
      have hnv := HN.out; clear HJ HN hj hjn; subst hnv; have dj : decide ((t.vars.length : Int) < (t.vars.length : Int)) = false := decide_eq_false (by omega); obtain ⟨wo, hwo⟩ : ∃ z, z = wr := ⟨_, rfl⟩; subst hwo
      have HMS : Hid (IMap Try.prog 2 wo mb t.vars.length (slotF t.vars)) := by have := HM.out; rw [List.take_of_length_le (Nat.le_refl _)] at this; exact this
      have HT6 : Hid (Turned (fun _ => False) w2 wo) := HT5.out.step HT.out (fun i hi e => by have := HMB.out; omega); obtain ⟨b0, b1, b2, b3, _⟩ := cells4 (HB.out wo HT6.out)
      have hln := fun ty => HMS.out.len Try.underlying172 ty
      clear HM HT; have TM := ((Turned.refl (fun _ => False) wo).alloc (.cells #[.int .i64 t.args.length, .int .i64 t.vars.length, .int .i64 0, .slice none 0 0] 104)).alloc (.map #[] 0); have h7 := twoBox wo (.cells #[.int .i64 t.args.length, .int .i64 t.vars.length, .int .i64 0, .slice none 0 0] 104) (.map #[] 0); obtain ⟨w7, hw7⟩ : ∃ z, z = (wo.alloc (.cells #[.int .i64 t.args.length, .int .i64 t.vars.length, .int .i64 0, .slice none 0 0] 104)).alloc (.map #[] 0) := ⟨_, rfl⟩
      have HHM : Hid (IMap Try.prog 3 w7 (wo.heap.size + 1) 0 (fun _ => none)) := by
        have := IMap.made (wo.alloc (.cells #[.int .i64 t.args.length, .int .i64 t.vars.length, .int .i64 0, .slice none 0 0] 104)) Try.prog 3; rw [show (wo.alloc (.cells #[.int .i64 t.args.length, .int .i64 t.vars.length, .int .i64 0, .slice none 0 0] 104)).heap.size = wo.heap.size + 1 from by simp] at this; rw [hw7]; exact this
      rw [← hw7] at h7 TM; obtain ⟨m0, m1, m2, m3, _⟩ := cells4 (HB.out w7 (HT6.out.trans TM)); rw [hw7] at m0 m1 m2 m3; have HTM := hid TM; have H7 := hid h7; have HW7 := hid hw7; have hcl := clone128 (p := fun _ => True) (LT.In.sl (HX.out.turned0 (HT6.out.trans TM))) (by have h := HG.out; unfold goodB at h; simp only [Bool.and_eq_true, decide_eq_true_eq, List.all_eq_true] at h; have := h.1; rw [Tm.size_eq] at this; have := Tm.cb_le' (l := t.args) (Nat.zero_le _); rw [Tm.cb_zero] at this; omega); have HCL := hid hcl; clear h7 TM hw7 hcl
      go_wp2_with (go_at_call 128; rw [← HW7.out]; (with_reducible refine HCL.out.mono ?_); rintro e w8 ⟨a8, c8, rfl, hr8, ho8, T8⟩; have HR8 := hid hr8; have HO8 := hid ho8; have HT8 := hid T8; clear hr8 ho8 T8)
      clear m0 m1 m2 m3 b0 b1 b2 b3 hln
      have HI0 : Hid (HeadI t wo.heap.size mb (wo.heap.size + 1) 0 (.slice a8 t.args.length c8) w2 w8) := by
        have hz := H7.out.2.1; have hzo := HT6.out.size; have h78 := HT8.out.size; have TZ := (HT6.out.trans HTM.out).trans HT8.out; have hlm := HMS.out.lt; refine ⟨HMS.out.turned (HTM.out.trans HT8.out) (fun f => f), ?_, HR8.out, ?_, ⟨.slice none 0 0, (HT8.out.block _ (by omega) (fun f => f)).trans H7.out.2.2.1, Row.nil _ _ _, fun k hk => by simp [Value.ownBlock] at hk⟩, fun k hk => ?_, ⟨hzo, HMB.out, by omega, by omega, by omega, by omega⟩, TZ⟩
        · have := HHM.out.turned HT8.out (fun f => f)
          rw [← hadF_nil] at this; exact this
        · exact (HX.out.mono (fun k hk _ => hk)).turned0 TZ
        · have := HO8.out k hk
          omega
      obtain ⟨S, hS⟩ : ∃ S, S = Tm.sizes t.args := ⟨_, rfl⟩; have HS := hid hS
      have HSL2 : Hid (S ≤ 2000) := by
        have h := HG.out; unfold goodB at h; simp only [Bool.and_eq_true, decide_eq_true_eq, List.all_eq_true] at h; have := h.1; rw [Tm.size_eq] at this; show S ≤ 2000; omega
      have HRB := hid (fun W (T : Turned (fun _ => False) w2 W) => HR.out W T); clear hS HR8 HO8 HHM H7 HW7
      go_loopg [9, 10] S (fun q sv i wr => ∃ j : Nat, Hid (j + q = S) ∧ j ≤ S ∧ i = .int .i64 j ∧ ∃ sa sc, sv = .slice sa (cb t.args j) sc ∧ Hid (HeadI t wo.heap.size mb (wo.heap.size + 1) j sv w2 wr))
      case atStart => exact ⟨0, Nat.zero_add _, Nat.zero_le _, rfl, a8, c8, rfl, HI0⟩
      case round =>
        obtain ⟨j, HJ, hj, rfl, sa, sc, rfl, HI⟩ := hrel
        by_cases hjn : j < S
        · have hjs : j < Tm.sizes t.args := by have := HS.out; omega
          have hlt := Tm.reg_lt hjs; obtain ⟨x, hx⟩ : ∃ x : LT, (reg t.args j)[j]? = some x := ⟨_, List.getElem?_eq_getElem hlt⟩; obtain ⟨xin, xone, xreg, xnext, xcb, xvar, xfew, x8⟩ := reg_facts HI.out.ins HG.out hjs hx; have hcbj : j < cb t.args j := hlt; have dj : decide ((j : Int) < (cb t.args j : Int)) = true := decide_eq_true (by omega)
          have hneg : ¬ ((j : Int) < 0) := by omega
          obtain ⟨g, cap', hcv⟩ := HI.out.regs.shape_pos (by omega)
          injection hcv with e1 _ e2
          subst e1 e2; obtain ⟨lv, hcc, hlr, hlo⟩ := HI.out.code; obtain ⟨c0, c1, c2, c3⟩ := term_cells HI.out.regs hx; have HJN := hid hjn; have HXI := hid xin; have HXR := hid xreg; have HXN := hid xnext; have HXC := hid xcb; have HXF := hid (And.intro xfew x8); have HXV := hid xvar; have HCC := hid hcc; have HLR := hid hlr; have HLO := hid hlo; have HX1 := hid xone; have HST := hid (Tm.steps_succ (vs := t.vars) xreg); have HCBJ := hid hcbj; have hb2 := twoBox wr (.cells #[.int .i64 x.kind, .int .i64 x.n, .string x.name, .slice x.at_.1 x.args.length x.at_.2] 27) (.cells #[.string ⟨#[]⟩, .int .i64 j, .int .i64 0, .int .i64 0, .int .i64 0, .string ⟨#[]⟩] 139); obtain ⟨W2, hW2⟩ : ∃ z, z = (wr.alloc (.cells #[.int .i64 x.kind, .int .i64 x.n, .string x.name, .slice x.at_.1 x.args.length x.at_.2] 27)).alloc (.cells #[.string ⟨#[]⟩, .int .i64 j, .int .i64 0, .int .i64 0, .int .i64 0, .string ⟨#[]⟩] 139) := ⟨_, rfl⟩; rw [← hW2] at hb2; have HTW := hid hb2.1; have HBX := hid hb2.2.2.1; have HBS := hid hb2.2.2.2; have HZ2 := hid hb2.2.1; have HW2e := hid hW2; clear xin xreg xnext xcb xfew x8 xvar hcc hlr hlo xone hb2 hW2 hlt hjs hx hcbj; have hS2 : S ≤ 2000 := HSL2.out
          by_cases h0 : x.kind = 0
          · have k0 : (x.kind == 0) = true := by simp [h0]
            have HK0 := hid h0; clear h0; have HKX := hid (fun W (T : Turned (fun k => k = wr.heap.size + 1) W2 W) => (T.block _ (Array.getElem?_eq_some_iff.1 HBX.out).1 (by omega)).trans HBX.out); have HLKS := hid (fun W (T : Turned (fun k => k = wr.heap.size + 1) W2 W) => slotLook ((HI.out.slots.turned HTW.out (fun f => f)).turned T (fun e => by have := HI.out.slots.lt; omega)) (HXV.out HK0.out) HXI.out.n)
            have HPO : Hid (Tm.posOf t.vars x.n < 2001) := by
              have h1 := List.idxOf_lt_length_of_mem (HXV.out HK0.out); have h2 := vars_few HG.out; show t.vars.idxOf x.n < 2001; omega
            go_wp2_with fail
            rw [← HW2e.out]; refine wp_region_k [76, 77, 78, 79, 80, 81] [5, 7] [] (fun dd vv => (match dd with | 76 => vv = .map (some mb) | 77 => vv = .pointer (some ⟨wr.heap.size, 1, none⟩) | 78 => vv = .int .i64 x.n | 79 => vv = .int .i64 (Tm.posOf t.vars x.n) | 80 => vv = .pointer (some ⟨wr.heap.size + 1, 0, none⟩) | 81 => vv = .pointer (some ⟨wr.heap.size + 1, 2, none⟩) | _ => True : Prop)) (BoxR (wr.heap.size + 1) 139 [.string ⟨#[]⟩, .int .i64 j, .int .i64 0, .int .i64 0, .int .i64 0, .string ⟨#[]⟩] [.string sVar, .int .i64 j, .int .i64 (Tm.posOf t.vars x.n), .int .i64 0, .int .i64 0, .string ⟨#[]⟩] [(5, 0), (7, 2)] W2) (by kernel_rfl) rfl (by kernel_rfl) (by kernel_rfl) (fun w h => BoxR.start HBS.out h) (fun hs w w' h ht => h.turned0 ht) ?hs ?hQ
            case hs =>
              refine ⟨?s0, ?s1, ?s2, ?s3, ?s4, ?s5, ?s6, ?s7, trivial⟩
              case s0 =>
                refine fun hs hl => stepG_free [] [4] (by kernel_rfl) rfl ?_
                intro ac W hT hI hO; have h4 : ac.tmps.getD 4 undef = .map (some mb) := hO 4 (by simp); show Brings _ (fun v _ => _ ∧ v = _) _; simp only [execOp, Act.eval, h4]; go_simp
                try exact tq
              case s1 =>
                refine fun hs hl => stepG_free [] [11] (by kernel_rfl) rfl ?_
                intro ac W hT hI hO; have h11 : ac.tmps.getD 11 undef = .pointer (some ⟨wr.heap.size, 0, none⟩) := hO 11 (by simp); show Brings _ (fun v _ => _ ∧ v = _) _; simp only [execOp, Act.eval, h11]; go_simp
                try exact tq
              case s2 =>
                refine fun hs hl => stepG_free [77] [] (by kernel_rfl) rfl ?_
                intro ac W hT hI hO; have h77 : ac.tmps.getD 77 undef = _ := hI 77 (by simp); show Brings _ (fun v _ => _ ∧ v = _) _; obtain ⟨x0, x1, x2, x3, _⟩ := cells4 (HKX.out W hT.t); simp only [execOp, Act.eval, h77]; go_simp
                try exact tq
              case s3 =>
                refine fun hs hl => stepG_free [76, 78] [] (by kernel_rfl) rfl ?_
                intro ac W hT hI hO; have h76 : ac.tmps.getD 76 undef = _ := hI 76 (by simp); have h78 : ac.tmps.getD 78 undef = _ := hI 78 (by simp); show Brings _ (fun v _ => _ ∧ v = _) _; have hlk := HLKS.out W hT.t; simp only [execOp, Act.eval, h76, h78]; go_simp
                try exact tq
              case s4 =>
                refine fun hs hl => stepG_free [] [12] (by kernel_rfl) rfl ?_
                intro ac W hT hI hO; have h12 : ac.tmps.getD 12 undef = .pointer (some ⟨wr.heap.size + 1, 0, none⟩) := hO 12 (by simp); show Brings _ (fun v _ => _ ∧ v = _) _; simp only [execOp, Act.eval, h12]; go_simp
                try exact tq
              case s5 =>
                refine fun hs hno hl => stepG_free [80] [] (by kernel_rfl) rfl ?_
                intro ac W hT hI hO; have h80 : ac.tmps.getD 80 undef = _ := hI 80 (by simp); show Brings Try.prog (fun vv w' => BoxR (wr.heap.size + 1) 139 [.string ⟨#[]⟩, .int .i64 j, .int .i64 0, .int .i64 0, .int .i64 0, .string ⟨#[]⟩] [.string sVar, .int .i64 j, .int .i64 (Tm.posOf t.vars x.n), .int .i64 0, .int .i64 0, .string ⟨#[]⟩] [(5, 0), (7, 2)] W2 (hs ++ [(5, vv)]) w') _; obtain ⟨⟨z, hz⟩, hf⟩ := hT.at (c := 0) (by simp); simp only [execOp, Act.eval, h80]; go_simp; exact hT.store (by kernel_rfl) (by simp) (by simp) rfl
              case s6 =>
                refine fun hs hl => stepG_free [] [12] (by kernel_rfl) rfl ?_
                intro ac W hT hI hO; have h12 : ac.tmps.getD 12 undef = .pointer (some ⟨wr.heap.size + 1, 0, none⟩) := hO 12 (by simp); show Brings _ (fun v _ => _ ∧ v = _) _; simp only [execOp, Act.eval, h12]; go_simp
                try exact tq
              case s7 =>
                refine fun hs hno hl => stepG_free [81, 79] [] (by kernel_rfl) rfl ?_
                intro ac W hT hI hO; have h81 : ac.tmps.getD 81 undef = _ := hI 81 (by simp); have h79 : ac.tmps.getD 79 undef = _ := hI 79 (by simp); show Brings Try.prog (fun vv w' => BoxR (wr.heap.size + 1) 139 [.string ⟨#[]⟩, .int .i64 j, .int .i64 0, .int .i64 0, .int .i64 0, .string ⟨#[]⟩] [.string sVar, .int .i64 j, .int .i64 (Tm.posOf t.vars x.n), .int .i64 0, .int .i64 0, .string ⟨#[]⟩] [(5, 0), (7, 2)] W2 (hs ++ [(7, vv)]) w') _; obtain ⟨⟨z, hz⟩, hf⟩ := hT.at (c := 2) (by simp); simp only [execOp, Act.eval, h81, h79]; go_simp; exact hT.store (by kernel_rfl) (by simp) (by simp) rfl
            case hQ =>
              intro hs3 vs3 W3 hall huniq hR hV; simp only [List.foldl_cons, List.foldl_nil, List.setIfInBounds_toArray, List.set_cons_zero, List.set_cons_succ]; have HS3 := hid (hR.done rfl (by intro a ha; simp only [List.mem_cons, List.not_mem_nil, or_false] at ha; rcases ha with rfl | rfl <;> exact hall _ (by simp)) (by intro c hc hn; simp only [List.length_cons, List.length_nil] at hc; simp only [List.map_cons, List.map_nil, List.mem_cons, List.not_mem_nil, or_false, not_or] at hn; have hcs : c = 0 ∨ c = 1 ∨ c = 2 ∨ c = 3 ∨ c = 4 ∨ c = 5 := (by omega); rcases hcs with rfl | rfl | rfl | rfl | rfl | rfl <;> first | rfl | omega)); have HT3w := hid hR.t; have HTR : Hid (Turned (fun _ => False) wr W3) := HTW.out.step hR.t (fun i hi e => by omega); obtain ⟨s0, s1, s2, s3, s4, s5⟩ := cells6 HS3.out; have hfs := free6 HS3.out; obtain ⟨z0, z1, z2, z3, _⟩ := cells4 (HKX.out W3 hR.t); obtain ⟨q0, q1, q2, q3, g0, g1, g2, g3⟩ := cells4 ((HTR.out.block _ (Array.getElem?_eq_some_iff.1 HCC.out).1 (fun f => f)).trans HCC.out); clear hR hV hall huniq
              by_cases hm : x.n ∈ met t.args j
              · have HMT := hid hm
                clear hm
                have hlk : (Instr.lookup 145 (.map (some (wo.heap.size + 1))) (.int .i64 (Tm.posOf t.vars x.n)) false).run Try.prog W3 = .ok (.bool true) W3 := by
                  rw [hadLook (HI.out.had.turned HTR.out (fun f => f)) (by unfold I64; have := HPO.out; omega), decide_eq_true ((metS_mem (HXV.out HK0.out)).2 HMT.out)]
                have hkey := key3 (n := (Tm.posOf t.vars x.n : Int)) (by unfold I64; have := HPO.out; omega); have hn3 : (metS t j).length ≤ 2000 := metS_few HG.out (by have := HS.out; omega); have T4 : Turned (fun _ => False) wr (W3.setCell ⟨wr.heap.size + 1, 0, none⟩ (.string sVal)) := HTR.out.setCell (.inl (show wr.heap.size ≤ wr.heap.size + 1 by omega)) _
                have HS4 : Hid ((W3.setCell ⟨wr.heap.size + 1, 0, none⟩ (.string sVal)).heap[wr.heap.size + 1]? = some (.cells #[.string sVal, .int .i64 j, .int .i64 (Tm.posOf t.vars x.n), .int .i64 0, .int .i64 0, .string ⟨#[]⟩] 139 (0, 0))) := by show _ = _; simpa using heap_setCell_same W3 (wr.heap.size + 1) 0 _ 139 (.string sVal) HS3.out
                have HT4 := hid T4; have HHD4 := hid (HI.out.had.turned T4 (fun f => f)); clear T4
                have HA0 : Hid (x.args.length = 0) := by have h := HX1.out; rw [goodOneB_0 x HK0.out] at h; simp only [Bool.and_eq_true, decide_eq_true_eq] at h; exact h.2.2.2
                have HCBE : Hid (cb t.args (j + 1) = cb t.args j) := by show _ = _; rw [HXC.out, HA0.out]; rfl
                have HREG : Hid (reg t.args (j + 1) = reg t.args j) := by show _ = _; rw [HXN.out, List.eq_nil_of_length_eq_zero HA0.out, List.append_nil]
                have HST2 : Hid (steps t.vars t.args (j + 1) = steps t.vars t.args j ++ [⟨sVal, j, (Tm.posOf t.vars x.n : Int), 0, 0, ByteArray.empty⟩]) := by
                  show _ = _; rw [HST.out]; unfold stepX; rw [if_pos HK0.out, if_pos HMT.out]
                go_wp2_with (first
                  | (at_builtin; have HMID : Hid (HeadM t wo.heap.size mb (wo.heap.size + 1) j (.slice (some ⟨g, 0, none⟩) (cb t.args j) sc) lv w2 W5) := HI.out.mid HCC.out HLR.out HLO.out ((HT4.out.mono (fun _ _ f => f.elim)).trans (HT5.out.mono (fun k _ e => .inl e))) (by rw [metS_next HXR.out, if_neg (fun c => c.2 HMT.out)]; have q : IMap Try.prog 3 W5 (wo.heap.size + 1) (if (hadF (metS t j) (Tm.posOf t.vars x.n : Int)).isSome then (metS t j).length else (metS t j).length + 1) (upd (hadF (metS t j)) (Tm.posOf t.vars x.n : Int) (.bool true)) := HM5.out; rw [hadF_same ((metS_mem (HXV.out HK0.out)).2 HMT.out)] at q; have e : (hadF (metS t j) (Tm.posOf t.vars x.n : Int)).isSome = true := (by unfold hadF; rw [if_pos ((metS_mem (HXV.out HK0.out)).2 HMT.out)]; rfl); rw [e] at q; exact q) (by rw [HCBE.out, HREG.out]; exact HI.out.regs.turned ((HT4.out.mono (fun _ _ f => f.elim)).trans HT5.out) (fun k hk c => (HI.out.own k hk).2.2.2 c)) (.inl rfl); obtain ⟨i0, hi0, hz0, hz1, hz2⟩ := info_parts infoS; have HMA := hid (HMID.out.turned0 ((Turned.refl (fun _ => False) W5).alloc (.cells #[.string sVal, .int .i64 j, .int .i64 (Tm.posOf t.vars x.n), .int .i64 0, .int .i64 0, .string ⟨#[]⟩] 139))); have HNB := hid (World.news_of_block (heap_alloc_new W5 (.cells #[.string sVal, .int .i64 j, .int .i64 (Tm.posOf t.vars x.n), .int .i64 0, .int .i64 0, .string ⟨#[]⟩] 139))); refine append_some _ rfl _ _ 102 rfl 139 i0 _ 6 64 Try.underlying102 hi0 hz0 hz1 hz2 rfl (by decide) lv j ((steps t.vars t.args j).flatMap stC) rfl HMA.out.row ⟨W5.heap.size, 0, none⟩ 1 1 (stC ⟨sVal, j, (Tm.posOf t.vars x.n : Int), 0, 0, ByteArray.empty⟩) rfl rfl HNB.out (stC_one _) (by omega) (by unfold maxLen; omega) (by omega) ?_; intro g9 cap9 W9 hr9 T9 ho9; have hc9 := (T9.block _ (Array.getElem?_eq_some_iff.1 HMA.out.c).1 (fun c => (HMA.out.lvo _ c).2.1 rfl)).trans HMA.out.c; obtain ⟨y0, y1, y2, y3, f0, f1, f2, f3⟩ := cells4 hc9; have HR9 := hid hr9; have HT9 := hid T9; have HO9 := hid ho9; have HC9 := hid hc9; clear hr9 T9 ho9 hc9)
                  | (at_mapUpdate; refine wpList_put rfl _ _ _ 145 rfl law3 Try.underlying145 rfl HHD4.out (by unfold maxLen; omega) rfl rfl hkey trivial ?_; intro W5 hm5 T5; have HM5 := hid hm5; have HT5 := hid T5; have hs5 := (T5.block _ (Array.getElem?_eq_some_iff.1 HS4.out).1 (fun e => by have := HI.out.had.lt; omega)).trans HS4.out; obtain ⟨s0, s1, s2, s3, s4, s5⟩ := cells6 hs5; have hc4 := (HT4.out.block _ (Array.getElem?_eq_some_iff.1 HCC.out).1 (fun f => f)).trans HCC.out; have hc5 := (T5.block _ (Array.getElem?_eq_some_iff.1 hc4).1 (by omega)).trans hc4; obtain ⟨q0, q1, q2, q3, g0, g1, g2, g3⟩ := cells4 hc5; clear hm5 T5 hs5 hc5 hc4))
                have HNX : Hid (HeadI t wo.heap.size mb (wo.heap.size + 1) (j + 1) (.slice (some ⟨g, 0, none⟩) (cb t.args j) sc) w2 (W9.setCell ⟨wo.heap.size, 3, none⟩ (.slice (some ⟨g9, 0, none⟩) (j + 1) cap9))) := HMA.out.next HST2.out HT9.out HR9.out (HO9.out.imp (fun c => by simpa [Value.ownBlock] using c) (fun c k hk => by simp [Value.ownBlock] at hk; omega)) (turned_cell' _ _ _ _) (by simpa using heap_setCell_same W9 wo.heap.size 3 _ 104 (.slice (some ⟨g9, 0, none⟩) (j + 1) cap9) HC9.out); go_roundg (gk - 1)
                case measure => have := HJ.out; omega
                case rel => exact ⟨j + 1, show _ = _ by have := HJ.out; omega, by omega, by go_num, some ⟨g, 0, none⟩, sc, by rw [HCBE.out], HNX⟩
              · have HMT := hid hm
                clear hm
                have hlk : (Instr.lookup 145 (.map (some (wo.heap.size + 1))) (.int .i64 (Tm.posOf t.vars x.n)) false).run Try.prog W3 = .ok (.bool false) W3 := by
                  rw [hadLook (HI.out.had.turned HTR.out (fun f => f)) (by unfold I64; have := HPO.out; omega), decide_eq_false (fun c => HMT.out ((metS_mem (HXV.out HK0.out)).1 c))]
                have hkey := key3 (n := (Tm.posOf t.vars x.n : Int)) (by unfold I64; have := HPO.out; omega); have hn3 : (metS t j).length ≤ 2000 := metS_few HG.out (by have := HS.out; omega); have T4 : Turned (fun _ => False) wr W3 := HTR.out; have HS4 := HS3; have HT4 := hid T4; have HHD4 := hid (HI.out.had.turned T4 (fun f => f)); clear T4
                have HA0 : Hid (x.args.length = 0) := by have h := HX1.out; rw [goodOneB_0 x HK0.out] at h; simp only [Bool.and_eq_true, decide_eq_true_eq] at h; exact h.2.2.2
                have HCBE : Hid (cb t.args (j + 1) = cb t.args j) := by show _ = _; rw [HXC.out, HA0.out]; rfl
                have HREG : Hid (reg t.args (j + 1) = reg t.args j) := by show _ = _; rw [HXN.out, List.eq_nil_of_length_eq_zero HA0.out, List.append_nil]
                have HST2 : Hid (steps t.vars t.args (j + 1) = steps t.vars t.args j ++ [⟨sVar, j, (Tm.posOf t.vars x.n : Int), 0, 0, ByteArray.empty⟩]) := by
                  show _ = _; rw [HST.out]; unfold stepX; rw [if_pos HK0.out, if_neg HMT.out]
                go_wp2_with (first
                  | (at_builtin; have HMID : Hid (HeadM t wo.heap.size mb (wo.heap.size + 1) j (.slice (some ⟨g, 0, none⟩) (cb t.args j) sc) lv w2 W5) := HI.out.mid HCC.out HLR.out HLO.out ((HT4.out.mono (fun _ _ f => f.elim)).trans (HT5.out.mono (fun k _ e => .inl e))) (by rw [metS_next HXR.out, if_pos ⟨HK0.out, HMT.out⟩, List.length_append]; have q : IMap Try.prog 3 W5 (wo.heap.size + 1) (if (hadF (metS t j) (Tm.posOf t.vars x.n : Int)).isSome then (metS t j).length else (metS t j).length + 1) (upd (hadF (metS t j)) (Tm.posOf t.vars x.n : Int) (.bool true)) := HM5.out; rw [hadF_put] at q; have e : (hadF (metS t j) (Tm.posOf t.vars x.n : Int)).isSome = false := (by unfold hadF; rw [if_neg (fun c => HMT.out ((metS_mem (HXV.out HK0.out)).1 c))]; rfl); rw [e] at q; exact q) (by rw [HCBE.out, HREG.out]; exact HI.out.regs.turned ((HT4.out.mono (fun _ _ f => f.elim)).trans HT5.out) (fun k hk c => (HI.out.own k hk).2.2.2 c)) (.inl rfl); obtain ⟨i0, hi0, hz0, hz1, hz2⟩ := info_parts infoS; have HMA := hid (HMID.out.turned0 ((Turned.refl (fun _ => False) W5).alloc (.cells #[.string sVar, .int .i64 j, .int .i64 (Tm.posOf t.vars x.n), .int .i64 0, .int .i64 0, .string ⟨#[]⟩] 139))); have HNB := hid (World.news_of_block (heap_alloc_new W5 (.cells #[.string sVar, .int .i64 j, .int .i64 (Tm.posOf t.vars x.n), .int .i64 0, .int .i64 0, .string ⟨#[]⟩] 139))); refine append_some _ rfl _ _ 102 rfl 139 i0 _ 6 64 Try.underlying102 hi0 hz0 hz1 hz2 rfl (by decide) lv j ((steps t.vars t.args j).flatMap stC) rfl HMA.out.row ⟨W5.heap.size, 0, none⟩ 1 1 (stC ⟨sVar, j, (Tm.posOf t.vars x.n : Int), 0, 0, ByteArray.empty⟩) rfl rfl HNB.out (stC_one _) (by omega) (by unfold maxLen; omega) (by omega) ?_; intro g9 cap9 W9 hr9 T9 ho9; have hc9 := (T9.block _ (Array.getElem?_eq_some_iff.1 HMA.out.c).1 (fun c => (HMA.out.lvo _ c).2.1 rfl)).trans HMA.out.c; obtain ⟨y0, y1, y2, y3, f0, f1, f2, f3⟩ := cells4 hc9; have HR9 := hid hr9; have HT9 := hid T9; have HO9 := hid ho9; have HC9 := hid hc9; clear hr9 T9 ho9 hc9)
                  | (at_mapUpdate; refine wpList_put rfl _ _ _ 145 rfl law3 Try.underlying145 rfl HHD4.out (by unfold maxLen; omega) rfl rfl hkey trivial ?_; intro W5 hm5 T5; have HM5 := hid hm5; have HT5 := hid T5; have hs5 := (T5.block _ (Array.getElem?_eq_some_iff.1 HS4.out).1 (fun e => by have := HI.out.had.lt; omega)).trans HS4.out; obtain ⟨s0, s1, s2, s3, s4, s5⟩ := cells6 hs5; have hc4 := (HT4.out.block _ (Array.getElem?_eq_some_iff.1 HCC.out).1 (fun f => f)).trans HCC.out; have hc5 := (T5.block _ (Array.getElem?_eq_some_iff.1 hc4).1 (by omega)).trans hc4; obtain ⟨q0, q1, q2, q3, g0, g1, g2, g3⟩ := cells4 hc5; clear hm5 T5 hs5 hc5 hc4))
                have HNX : Hid (HeadI t wo.heap.size mb (wo.heap.size + 1) (j + 1) (.slice (some ⟨g, 0, none⟩) (cb t.args j) sc) w2 (W9.setCell ⟨wo.heap.size, 3, none⟩ (.slice (some ⟨g9, 0, none⟩) (j + 1) cap9))) := HMA.out.next HST2.out HT9.out HR9.out (HO9.out.imp (fun c => by simpa [Value.ownBlock] using c) (fun c k hk => by simp [Value.ownBlock] at hk; omega)) (turned_cell' _ _ _ _) (by simpa using heap_setCell_same W9 wo.heap.size 3 _ 104 (.slice (some ⟨g9, 0, none⟩) (j + 1) cap9) HC9.out); go_roundg (gk - 1)
                case measure => have := HJ.out; omega
                case rel => exact ⟨j + 1, show _ = _ by have := HJ.out; omega, by omega, by go_num, some ⟨g, 0, none⟩, sc, by rw [HCBE.out], HNX⟩
          · have k0 : (x.kind == 0) = false := by simp [h0]
            have HK0 := hid h0; clear h0; have HKX := hid (fun W (T : Turned (fun k => k = wr.heap.size + 1) W2 W) => (T.block _ (Array.getElem?_eq_some_iff.1 HBX.out).1 (by omega)).trans HBX.out)
            by_cases h1 : x.kind = 1
            · have k1 : (x.kind == 1) = true := by simp [h1]
              have HK1 := hid h1; clear h1
              go_wp2_with fail
              rw [← HW2e.out]; refine wp_region_k [94, 95, 96, 97] [3, 5] [] (fun dd vv => (match dd with | 94 => vv = .pointer (some ⟨wr.heap.size, 1, none⟩) | 95 => vv = .int .i64 x.n | 96 => vv = .pointer (some ⟨wr.heap.size + 1, 0, none⟩) | 97 => vv = .pointer (some ⟨wr.heap.size + 1, 4, none⟩) | _ => True : Prop)) (BoxR (wr.heap.size + 1) 139 [.string ⟨#[]⟩, .int .i64 j, .int .i64 0, .int .i64 0, .int .i64 0, .string ⟨#[]⟩] [.string sInt, .int .i64 j, .int .i64 0, .int .i64 0, .int .i64 x.n, .string ⟨#[]⟩] [(3, 0), (5, 4)] W2) (by kernel_rfl) rfl (by kernel_rfl) (by kernel_rfl) (fun w h => BoxR.start HBS.out h) (fun hs w w' h ht => h.turned0 ht) ?hs ?hQ
              case hs =>
                refine ⟨?s0, ?s1, ?s2, ?s3, ?s4, ?s5, trivial⟩
                case s0 =>
                  refine fun hs hl => stepG_free [] [11] (by kernel_rfl) rfl ?_
                  intro ac W hT hI hO; have h11 : ac.tmps.getD 11 undef = .pointer (some ⟨wr.heap.size, 0, none⟩) := hO 11 (by simp); show Brings _ (fun v _ => _ ∧ v = _) _; simp only [execOp, Act.eval, h11]; go_simp
                  try exact tq
                case s1 =>
                  refine fun hs hl => stepG_free [94] [] (by kernel_rfl) rfl ?_
                  intro ac W hT hI hO; have h94 : ac.tmps.getD 94 undef = _ := hI 94 (by simp); show Brings _ (fun v _ => _ ∧ v = _) _; obtain ⟨x0, x1, x2, x3, _⟩ := cells4 (HKX.out W hT.t); simp only [execOp, Act.eval, h94]; go_simp
                  try exact tq
                case s2 =>
                  refine fun hs hl => stepG_free [] [12] (by kernel_rfl) rfl ?_
                  intro ac W hT hI hO; have h12 : ac.tmps.getD 12 undef = .pointer (some ⟨wr.heap.size + 1, 0, none⟩) := hO 12 (by simp); show Brings _ (fun v _ => _ ∧ v = _) _; simp only [execOp, Act.eval, h12]; go_simp
                  try exact tq
                case s3 =>
                  refine fun hs hno hl => stepG_free [96] [] (by kernel_rfl) rfl ?_
                  intro ac W hT hI hO; have h96 : ac.tmps.getD 96 undef = _ := hI 96 (by simp); show Brings Try.prog (fun vv w' => BoxR (wr.heap.size + 1) 139 [.string ⟨#[]⟩, .int .i64 j, .int .i64 0, .int .i64 0, .int .i64 0, .string ⟨#[]⟩] [.string sInt, .int .i64 j, .int .i64 0, .int .i64 0, .int .i64 x.n, .string ⟨#[]⟩] [(3, 0), (5, 4)] W2 (hs ++ [(3, vv)]) w') _; obtain ⟨⟨z, hz⟩, hf⟩ := hT.at (c := 0) (by simp); simp only [execOp, Act.eval, h96]; go_simp; exact hT.store (by kernel_rfl) (by simp) (by simp) rfl
                case s4 =>
                  refine fun hs hl => stepG_free [] [12] (by kernel_rfl) rfl ?_
                  intro ac W hT hI hO; have h12 : ac.tmps.getD 12 undef = .pointer (some ⟨wr.heap.size + 1, 0, none⟩) := hO 12 (by simp); show Brings _ (fun v _ => _ ∧ v = _) _; simp only [execOp, Act.eval, h12]; go_simp
                  try exact tq
                case s5 =>
                  refine fun hs hno hl => stepG_free [97, 95] [] (by kernel_rfl) rfl ?_
                  intro ac W hT hI hO; have h97 : ac.tmps.getD 97 undef = _ := hI 97 (by simp); have h95 : ac.tmps.getD 95 undef = _ := hI 95 (by simp); show Brings Try.prog (fun vv w' => BoxR (wr.heap.size + 1) 139 [.string ⟨#[]⟩, .int .i64 j, .int .i64 0, .int .i64 0, .int .i64 0, .string ⟨#[]⟩] [.string sInt, .int .i64 j, .int .i64 0, .int .i64 0, .int .i64 x.n, .string ⟨#[]⟩] [(3, 0), (5, 4)] W2 (hs ++ [(5, vv)]) w') _; obtain ⟨⟨z, hz⟩, hf⟩ := hT.at (c := 4) (by simp); simp only [execOp, Act.eval, h97, h95]; go_simp; exact hT.store (by kernel_rfl) (by simp) (by simp) rfl
              case hQ =>
                intro hs3 vs3 W3 hall huniq hR hV; simp only [List.foldl_cons, List.foldl_nil, List.setIfInBounds_toArray, List.set_cons_zero, List.set_cons_succ]; have HS3 := hid (hR.done rfl (by intro a ha; simp only [List.mem_cons, List.not_mem_nil, or_false] at ha; rcases ha with rfl | rfl <;> exact hall _ (by simp)) (by intro c hc hn; simp only [List.length_cons, List.length_nil] at hc; simp only [List.map_cons, List.map_nil, List.mem_cons, List.not_mem_nil, or_false, not_or] at hn; have hcs : c = 0 ∨ c = 1 ∨ c = 2 ∨ c = 3 ∨ c = 4 ∨ c = 5 := (by omega); rcases hcs with rfl | rfl | rfl | rfl | rfl | rfl <;> first | rfl | omega)); have HT3w := hid hR.t; have HTR : Hid (Turned (fun _ => False) wr W3) := HTW.out.step hR.t (fun i hi e => by omega); obtain ⟨s0, s1, s2, s3, s4, s5⟩ := cells6 HS3.out; have hfs := free6 HS3.out; obtain ⟨z0, z1, z2, z3, _⟩ := cells4 (HKX.out W3 hR.t); obtain ⟨q0, q1, q2, q3, g0, g1, g2, g3⟩ := cells4 ((HTR.out.block _ (Array.getElem?_eq_some_iff.1 HCC.out).1 (fun f => f)).trans HCC.out); clear hR hV hall huniq
                have HA0 : Hid (x.args.length = 0) := by have h := HX1.out; rw [goodOneB_1 x HK1.out] at h; simp only [Bool.and_eq_true, decide_eq_true_eq] at h; exact h.2
                have HCBE : Hid (cb t.args (j + 1) = cb t.args j) := by show _ = _; rw [HXC.out, HA0.out]; rfl
                have HREG : Hid (reg t.args (j + 1) = reg t.args j) := by show _ = _; rw [HXN.out, List.eq_nil_of_length_eq_zero HA0.out, List.append_nil]
                have hn3 : (metS t j).length ≤ 2000 := metS_few HG.out (by have := HS.out; omega)
                have HST2 : Hid (steps t.vars t.args (j + 1) = steps t.vars t.args j ++ [⟨sInt, j, 0, 0, x.n, ByteArray.empty⟩]) := by
                  show _ = _; rw [HST.out]; unfold stepX; rw [if_neg HK0.out, if_pos HK1.out]
                go_wp2_with (at_builtin; have HMID : Hid (HeadM t wo.heap.size mb (wo.heap.size + 1) j (.slice (some ⟨g, 0, none⟩) (cb t.args j) sc) lv w2 W3) := HI.out.mid HCC.out HLR.out HLO.out (HTR.out.mono (fun _ _ f => f.elim)) (by rw [metS_next HXR.out, if_neg (fun c => HK0.out c.1)]; exact HI.out.had.turned HTR.out (fun f => f)) (by rw [HCBE.out, HREG.out]; exact HI.out.regs.turned0 HTR.out) (.inl rfl); obtain ⟨i0, hi0, hz0, hz1, hz2⟩ := info_parts infoS; have HMA := hid (HMID.out.turned0 ((Turned.refl (fun _ => False) W3).alloc (.cells #[.string sInt, .int .i64 j, .int .i64 0, .int .i64 0, .int .i64 x.n, .string ⟨#[]⟩] 139))); have HNB := hid (World.news_of_block (heap_alloc_new W3 (.cells #[.string sInt, .int .i64 j, .int .i64 0, .int .i64 0, .int .i64 x.n, .string ⟨#[]⟩] 139))); refine append_some _ rfl _ _ 102 rfl 139 i0 _ 6 64 Try.underlying102 hi0 hz0 hz1 hz2 rfl (by decide) lv j ((steps t.vars t.args j).flatMap stC) rfl HMA.out.row ⟨W3.heap.size, 0, none⟩ 1 1 (stC ⟨sInt, j, 0, 0, x.n, ByteArray.empty⟩) rfl rfl HNB.out (stC_one _) (by omega) (by unfold maxLen; omega) (by omega) ?_; intro g9 cap9 W9 hr9 T9 ho9; have hc9 := (T9.block _ (Array.getElem?_eq_some_iff.1 HMA.out.c).1 (fun c => (HMA.out.lvo _ c).2.1 rfl)).trans HMA.out.c; obtain ⟨y0, y1, y2, y3, f0, f1, f2, f3⟩ := cells4 hc9; have HR9 := hid hr9; have HT9 := hid T9; have HO9 := hid ho9; have HC9 := hid hc9; clear hr9 T9 ho9 hc9)
                have HNX : Hid (HeadI t wo.heap.size mb (wo.heap.size + 1) (j + 1) (.slice (some ⟨g, 0, none⟩) (cb t.args j) sc) w2 (W9.setCell ⟨wo.heap.size, 3, none⟩ (.slice (some ⟨g9, 0, none⟩) (j + 1) cap9))) := HMA.out.next HST2.out HT9.out HR9.out (HO9.out.imp (fun c => by simpa [Value.ownBlock] using c) (fun c k hk => by simp [Value.ownBlock] at hk; omega)) (turned_cell' _ _ _ _) (by simpa using heap_setCell_same W9 wo.heap.size 3 _ 104 (.slice (some ⟨g9, 0, none⟩) (j + 1) cap9) HC9.out); go_roundg (gk - 1)
                case measure => have := HJ.out; omega
                case rel => exact ⟨j + 1, show _ = _ by have := HJ.out; omega, by omega, by go_num, some ⟨g, 0, none⟩, sc, by rw [HCBE.out], HNX⟩
            · have k1 : (x.kind == 1) = false := by simp [h1]
              have HK1 := hid h1; clear h1
              by_cases h2 : x.args.length = 0
              · have k2 : ((x.args.length : Int) == 0) = true := by simp [h2]
                have HA2 := hid h2; clear h2
                go_wp2_with fail
                rw [← HW2e.out]; refine wp_region_k [103, 104, 105, 106] [3, 5] [] (fun dd vv => (match dd with | 103 => vv = .pointer (some ⟨wr.heap.size, 2, none⟩) | 104 => vv = .string x.name | 105 => vv = .pointer (some ⟨wr.heap.size + 1, 0, none⟩) | 106 => vv = .pointer (some ⟨wr.heap.size + 1, 5, none⟩) | _ => True : Prop)) (BoxR (wr.heap.size + 1) 139 [.string ⟨#[]⟩, .int .i64 j, .int .i64 0, .int .i64 0, .int .i64 0, .string ⟨#[]⟩] [.string sAtom, .int .i64 j, .int .i64 0, .int .i64 0, .int .i64 0, .string x.name] [(3, 0), (5, 5)] W2) (by kernel_rfl) rfl (by kernel_rfl) (by kernel_rfl) (fun w h => BoxR.start HBS.out h) (fun hs w w' h ht => h.turned0 ht) ?hs ?hQ
                case hs =>
                  refine ⟨?s0, ?s1, ?s2, ?s3, ?s4, ?s5, trivial⟩
                  case s0 =>
                    refine fun hs hl => stepG_free [] [11] (by kernel_rfl) rfl ?_
                    intro ac W hT hI hO; have h11 : ac.tmps.getD 11 undef = .pointer (some ⟨wr.heap.size, 0, none⟩) := hO 11 (by simp); show Brings _ (fun v _ => _ ∧ v = _) _; simp only [execOp, Act.eval, h11]; go_simp
                    try exact tq
                  case s1 =>
                    refine fun hs hl => stepG_free [103] [] (by kernel_rfl) rfl ?_
                    intro ac W hT hI hO; have h103 : ac.tmps.getD 103 undef = _ := hI 103 (by simp); show Brings _ (fun v _ => _ ∧ v = _) _; obtain ⟨x0, x1, x2, x3, _⟩ := cells4 (HKX.out W hT.t); simp only [execOp, Act.eval, h103]; go_simp
                    try exact tq
                  case s2 =>
                    refine fun hs hl => stepG_free [] [12] (by kernel_rfl) rfl ?_
                    intro ac W hT hI hO; have h12 : ac.tmps.getD 12 undef = .pointer (some ⟨wr.heap.size + 1, 0, none⟩) := hO 12 (by simp); show Brings _ (fun v _ => _ ∧ v = _) _; simp only [execOp, Act.eval, h12]; go_simp
                    try exact tq
                  case s3 =>
                    refine fun hs hno hl => stepG_free [105] [] (by kernel_rfl) rfl ?_
                    intro ac W hT hI hO; have h105 : ac.tmps.getD 105 undef = _ := hI 105 (by simp); show Brings Try.prog (fun vv w' => BoxR (wr.heap.size + 1) 139 [.string ⟨#[]⟩, .int .i64 j, .int .i64 0, .int .i64 0, .int .i64 0, .string ⟨#[]⟩] [.string sAtom, .int .i64 j, .int .i64 0, .int .i64 0, .int .i64 0, .string x.name] [(3, 0), (5, 5)] W2 (hs ++ [(3, vv)]) w') _; obtain ⟨⟨z, hz⟩, hf⟩ := hT.at (c := 0) (by simp); simp only [execOp, Act.eval, h105]; go_simp; exact hT.store (by kernel_rfl) (by simp) (by simp) rfl
                  case s4 =>
                    refine fun hs hl => stepG_free [] [12] (by kernel_rfl) rfl ?_
                    intro ac W hT hI hO; have h12 : ac.tmps.getD 12 undef = .pointer (some ⟨wr.heap.size + 1, 0, none⟩) := hO 12 (by simp); show Brings _ (fun v _ => _ ∧ v = _) _; simp only [execOp, Act.eval, h12]; go_simp
                    try exact tq
                  case s5 =>
                    refine fun hs hno hl => stepG_free [106, 104] [] (by kernel_rfl) rfl ?_
                    intro ac W hT hI hO; have h106 : ac.tmps.getD 106 undef = _ := hI 106 (by simp); have h104 : ac.tmps.getD 104 undef = _ := hI 104 (by simp); show Brings Try.prog (fun vv w' => BoxR (wr.heap.size + 1) 139 [.string ⟨#[]⟩, .int .i64 j, .int .i64 0, .int .i64 0, .int .i64 0, .string ⟨#[]⟩] [.string sAtom, .int .i64 j, .int .i64 0, .int .i64 0, .int .i64 0, .string x.name] [(3, 0), (5, 5)] W2 (hs ++ [(5, vv)]) w') _; obtain ⟨⟨z, hz⟩, hf⟩ := hT.at (c := 5) (by simp); simp only [execOp, Act.eval, h106, h104]; go_simp; exact hT.store (by kernel_rfl) (by simp) (by simp) rfl
                case hQ =>
                  intro hs3 vs3 W3 hall huniq hR hV; simp only [List.foldl_cons, List.foldl_nil, List.setIfInBounds_toArray, List.set_cons_zero, List.set_cons_succ]; have HS3 := hid (hR.done rfl (by intro a ha; simp only [List.mem_cons, List.not_mem_nil, or_false] at ha; rcases ha with rfl | rfl <;> exact hall _ (by simp)) (by intro c hc hn; simp only [List.length_cons, List.length_nil] at hc; simp only [List.map_cons, List.map_nil, List.mem_cons, List.not_mem_nil, or_false, not_or] at hn; have hcs : c = 0 ∨ c = 1 ∨ c = 2 ∨ c = 3 ∨ c = 4 ∨ c = 5 := (by omega); rcases hcs with rfl | rfl | rfl | rfl | rfl | rfl <;> first | rfl | omega)); have HT3w := hid hR.t; have HTR : Hid (Turned (fun _ => False) wr W3) := HTW.out.step hR.t (fun i hi e => by omega); obtain ⟨s0, s1, s2, s3, s4, s5⟩ := cells6 HS3.out; have hfs := free6 HS3.out; obtain ⟨z0, z1, z2, z3, _⟩ := cells4 (HKX.out W3 hR.t); obtain ⟨q0, q1, q2, q3, g0, g1, g2, g3⟩ := cells4 ((HTR.out.block _ (Array.getElem?_eq_some_iff.1 HCC.out).1 (fun f => f)).trans HCC.out); clear hR hV hall huniq; have HA0 : Hid (x.args.length = 0) := HA2.out
                  have HCBE : Hid (cb t.args (j + 1) = cb t.args j) := by show _ = _; rw [HXC.out, HA0.out]; rfl
                  have HREG : Hid (reg t.args (j + 1) = reg t.args j) := by show _ = _; rw [HXN.out, List.eq_nil_of_length_eq_zero HA0.out, List.append_nil]
                  have hn3 : (metS t j).length ≤ 2000 := metS_few HG.out (by have := HS.out; omega)
                  have HST2 : Hid (steps t.vars t.args (j + 1) = steps t.vars t.args j ++ [⟨sAtom, j, 0, 0, 0, x.name⟩]) := by
                    show _ = _; rw [HST.out]; unfold stepX; rw [if_neg HK0.out, if_neg HK1.out, if_pos HA2.out]
                  go_wp2_with (at_builtin; have HMID : Hid (HeadM t wo.heap.size mb (wo.heap.size + 1) j (.slice (some ⟨g, 0, none⟩) (cb t.args j) sc) lv w2 W3) := HI.out.mid HCC.out HLR.out HLO.out (HTR.out.mono (fun _ _ f => f.elim)) (by rw [metS_next HXR.out, if_neg (fun c => HK0.out c.1)]; exact HI.out.had.turned HTR.out (fun f => f)) (by rw [HCBE.out, HREG.out]; exact HI.out.regs.turned0 HTR.out) (.inl rfl); obtain ⟨i0, hi0, hz0, hz1, hz2⟩ := info_parts infoS; have HMA := hid (HMID.out.turned0 ((Turned.refl (fun _ => False) W3).alloc (.cells #[.string sAtom, .int .i64 j, .int .i64 0, .int .i64 0, .int .i64 0, .string x.name] 139))); have HNB := hid (World.news_of_block (heap_alloc_new W3 (.cells #[.string sAtom, .int .i64 j, .int .i64 0, .int .i64 0, .int .i64 0, .string x.name] 139))); refine append_some _ rfl _ _ 102 rfl 139 i0 _ 6 64 Try.underlying102 hi0 hz0 hz1 hz2 rfl (by decide) lv j ((steps t.vars t.args j).flatMap stC) rfl HMA.out.row ⟨W3.heap.size, 0, none⟩ 1 1 (stC ⟨sAtom, j, 0, 0, 0, x.name⟩) rfl rfl HNB.out (stC_one _) (by omega) (by unfold maxLen; omega) (by omega) ?_; intro g9 cap9 W9 hr9 T9 ho9; have hc9 := (T9.block _ (Array.getElem?_eq_some_iff.1 HMA.out.c).1 (fun c => (HMA.out.lvo _ c).2.1 rfl)).trans HMA.out.c; obtain ⟨y0, y1, y2, y3, f0, f1, f2, f3⟩ := cells4 hc9; have HR9 := hid hr9; have HT9 := hid T9; have HO9 := hid ho9; have HC9 := hid hc9; clear hr9 T9 ho9 hc9)
                  have HNX : Hid (HeadI t wo.heap.size mb (wo.heap.size + 1) (j + 1) (.slice (some ⟨g, 0, none⟩) (cb t.args j) sc) w2 (W9.setCell ⟨wo.heap.size, 3, none⟩ (.slice (some ⟨g9, 0, none⟩) (j + 1) cap9))) := HMA.out.next HST2.out HT9.out HR9.out (HO9.out.imp (fun c => by simpa [Value.ownBlock] using c) (fun c k hk => by simp [Value.ownBlock] at hk; omega)) (turned_cell' _ _ _ _) (by simpa using heap_setCell_same W9 wo.heap.size 3 _ 104 (.slice (some ⟨g9, 0, none⟩) (j + 1) cap9) HC9.out); go_roundg (gk - 1)
                  case measure => have := HJ.out; omega
                  case rel => exact ⟨j + 1, show _ = _ by have := HJ.out; omega, by omega, by go_num, some ⟨g, 0, none⟩, sc, by rw [HCBE.out], HNX⟩
              · have k2 : ((x.args.length : Int) == 0) = false := by simp [h2]
                have HA2 := hid h2; clear h2
                go_wp2_with fail
                rw [← HW2e.out]; refine wp_region_k [57, 58, 59, 60, 61, 62, 63, 64, 65, 66, 67] [8, 10, 12, 14] [] (fun dd vv => (match dd with | 57 => vv = .pointer (some ⟨wr.heap.size, 2, none⟩) | 58 => vv = .string x.name | 59 => vv = .pointer (some ⟨wr.heap.size, 3, none⟩) | 60 => vv = .slice x.at_.1 x.args.length x.at_.2 | 61 => vv = .int .i64 x.args.length | 62 => vv = .slice (some ⟨g, 0, none⟩) (cb t.args j) sc | 63 => vv = .int .i64 (cb t.args j) | 64 => vv = .pointer (some ⟨wr.heap.size + 1, 0, none⟩) | 65 => vv = .pointer (some ⟨wr.heap.size + 1, 5, none⟩) | 66 => vv = .pointer (some ⟨wr.heap.size + 1, 2, none⟩) | 67 => vv = .pointer (some ⟨wr.heap.size + 1, 3, none⟩) | _ => True : Prop)) (BoxR (wr.heap.size + 1) 139 [.string ⟨#[]⟩, .int .i64 j, .int .i64 0, .int .i64 0, .int .i64 0, .string ⟨#[]⟩] [.string sComp, .int .i64 j, .int .i64 x.args.length, .int .i64 (cb t.args j), .int .i64 0, .string x.name] [(8, 0), (10, 5), (12, 2), (14, 3)] W2) (by kernel_rfl) rfl (by kernel_rfl) (by kernel_rfl) (fun w h => BoxR.start HBS.out h) (fun hs w w' h ht => h.turned0 ht) ?hs ?hQ
                case hs =>
                  refine ⟨?s0, ?s1, ?s2, ?s3, ?s4, ?s5, ?s6, ?s7, ?s8, ?s9, ?s10, ?s11, ?s12, ?s13, ?s14, trivial⟩
                  case s0 =>
                    refine fun hs hl => stepG_free [] [11] (by kernel_rfl) rfl ?_
                    intro ac W hT hI hO; have h11 : ac.tmps.getD 11 undef = .pointer (some ⟨wr.heap.size, 0, none⟩) := hO 11 (by simp); show Brings _ (fun v _ => _ ∧ v = _) _; simp only [execOp, Act.eval, h11]; go_simp
                    try exact tq
                  case s1 =>
                    refine fun hs hl => stepG_free [57] [] (by kernel_rfl) rfl ?_
                    intro ac W hT hI hO; have h57 : ac.tmps.getD 57 undef = _ := hI 57 (by simp); show Brings _ (fun v _ => _ ∧ v = _) _; obtain ⟨x0, x1, x2, x3, _⟩ := cells4 (HKX.out W hT.t); simp only [execOp, Act.eval, h57]; go_simp
                    try exact tq
                  case s2 =>
                    refine fun hs hl => stepG_free [] [11] (by kernel_rfl) rfl ?_
                    intro ac W hT hI hO; have h11 : ac.tmps.getD 11 undef = .pointer (some ⟨wr.heap.size, 0, none⟩) := hO 11 (by simp); show Brings _ (fun v _ => _ ∧ v = _) _; simp only [execOp, Act.eval, h11]; go_simp
                    try exact tq
                  case s3 =>
                    refine fun hs hl => stepG_free [59] [] (by kernel_rfl) rfl ?_
                    intro ac W hT hI hO; have h59 : ac.tmps.getD 59 undef = _ := hI 59 (by simp); show Brings _ (fun v _ => _ ∧ v = _) _; obtain ⟨x0, x1, x2, x3, _⟩ := cells4 (HKX.out W hT.t); simp only [execOp, Act.eval, h59]; go_simp
                    try exact tq
                  case s4 =>
                    refine fun hs hl => stepG_free [60] [] (by kernel_rfl) rfl ?_
                    intro ac W hT hI hO; have h60 : ac.tmps.getD 60 undef = _ := hI 60 (by simp); show Brings _ (fun v _ => _ ∧ v = _) _; simp only [execOp, Act.eval, h60]; go_simp
                    try exact tq
                  case s5 =>
                    refine fun hs hl => stepG_free [] [9] (by kernel_rfl) rfl ?_
                    intro ac W hT hI hO; have h9 : ac.tmps.getD 9 undef = .slice (some ⟨g, 0, none⟩) (cb t.args j) sc := hO 9 (by simp); show Brings _ (fun v _ => _ ∧ v = _) _; simp only [execOp, Act.eval, h9]; go_simp
                    try exact tq
                  case s6 =>
                    refine fun hs hl => stepG_free [62] [] (by kernel_rfl) rfl ?_
                    intro ac W hT hI hO; have h62 : ac.tmps.getD 62 undef = _ := hI 62 (by simp); show Brings _ (fun v _ => _ ∧ v = _) _; simp only [execOp, Act.eval, h62]; go_simp
                    try exact tq
                  case s7 =>
                    refine fun hs hl => stepG_free [] [12] (by kernel_rfl) rfl ?_
                    intro ac W hT hI hO; have h12 : ac.tmps.getD 12 undef = .pointer (some ⟨wr.heap.size + 1, 0, none⟩) := hO 12 (by simp); show Brings _ (fun v _ => _ ∧ v = _) _; simp only [execOp, Act.eval, h12]; go_simp
                    try exact tq
                  case s8 =>
                    refine fun hs hno hl => stepG_free [64] [] (by kernel_rfl) rfl ?_
                    intro ac W hT hI hO; have h64 : ac.tmps.getD 64 undef = _ := hI 64 (by simp); show Brings Try.prog (fun vv w' => BoxR (wr.heap.size + 1) 139 [.string ⟨#[]⟩, .int .i64 j, .int .i64 0, .int .i64 0, .int .i64 0, .string ⟨#[]⟩] [.string sComp, .int .i64 j, .int .i64 x.args.length, .int .i64 (cb t.args j), .int .i64 0, .string x.name] [(8, 0), (10, 5), (12, 2), (14, 3)] W2 (hs ++ [(8, vv)]) w') _; obtain ⟨⟨z, hz⟩, hf⟩ := hT.at (c := 0) (by simp); simp only [execOp, Act.eval, h64]; go_simp; exact hT.store (by kernel_rfl) (by simp) (by simp) rfl
                  case s9 =>
                    refine fun hs hl => stepG_free [] [12] (by kernel_rfl) rfl ?_
                    intro ac W hT hI hO; have h12 : ac.tmps.getD 12 undef = .pointer (some ⟨wr.heap.size + 1, 0, none⟩) := hO 12 (by simp); show Brings _ (fun v _ => _ ∧ v = _) _; simp only [execOp, Act.eval, h12]; go_simp
                    try exact tq
                  case s10 =>
                    refine fun hs hno hl => stepG_free [65, 58] [] (by kernel_rfl) rfl ?_
                    intro ac W hT hI hO; have h65 : ac.tmps.getD 65 undef = _ := hI 65 (by simp); have h58 : ac.tmps.getD 58 undef = _ := hI 58 (by simp); show Brings Try.prog (fun vv w' => BoxR (wr.heap.size + 1) 139 [.string ⟨#[]⟩, .int .i64 j, .int .i64 0, .int .i64 0, .int .i64 0, .string ⟨#[]⟩] [.string sComp, .int .i64 j, .int .i64 x.args.length, .int .i64 (cb t.args j), .int .i64 0, .string x.name] [(8, 0), (10, 5), (12, 2), (14, 3)] W2 (hs ++ [(10, vv)]) w') _; obtain ⟨⟨z, hz⟩, hf⟩ := hT.at (c := 5) (by simp); simp only [execOp, Act.eval, h65, h58]; go_simp; exact hT.store (by kernel_rfl) (by simp) (by simp) rfl
                  case s11 =>
                    refine fun hs hl => stepG_free [] [12] (by kernel_rfl) rfl ?_
                    intro ac W hT hI hO; have h12 : ac.tmps.getD 12 undef = .pointer (some ⟨wr.heap.size + 1, 0, none⟩) := hO 12 (by simp); show Brings _ (fun v _ => _ ∧ v = _) _; simp only [execOp, Act.eval, h12]; go_simp
                    try exact tq
                  case s12 =>
                    refine fun hs hno hl => stepG_free [66, 61] [] (by kernel_rfl) rfl ?_
                    intro ac W hT hI hO; have h66 : ac.tmps.getD 66 undef = _ := hI 66 (by simp); have h61 : ac.tmps.getD 61 undef = _ := hI 61 (by simp); show Brings Try.prog (fun vv w' => BoxR (wr.heap.size + 1) 139 [.string ⟨#[]⟩, .int .i64 j, .int .i64 0, .int .i64 0, .int .i64 0, .string ⟨#[]⟩] [.string sComp, .int .i64 j, .int .i64 x.args.length, .int .i64 (cb t.args j), .int .i64 0, .string x.name] [(8, 0), (10, 5), (12, 2), (14, 3)] W2 (hs ++ [(12, vv)]) w') _; obtain ⟨⟨z, hz⟩, hf⟩ := hT.at (c := 2) (by simp); simp only [execOp, Act.eval, h66, h61]; go_simp; exact hT.store (by kernel_rfl) (by simp) (by simp) rfl
                  case s13 =>
                    refine fun hs hl => stepG_free [] [12] (by kernel_rfl) rfl ?_
                    intro ac W hT hI hO; have h12 : ac.tmps.getD 12 undef = .pointer (some ⟨wr.heap.size + 1, 0, none⟩) := hO 12 (by simp); show Brings _ (fun v _ => _ ∧ v = _) _; simp only [execOp, Act.eval, h12]; go_simp
                    try exact tq
                  case s14 =>
                    refine fun hs hno hl => stepG_free [67, 63] [] (by kernel_rfl) rfl ?_
                    intro ac W hT hI hO; have h67 : ac.tmps.getD 67 undef = _ := hI 67 (by simp); have h63 : ac.tmps.getD 63 undef = _ := hI 63 (by simp); show Brings Try.prog (fun vv w' => BoxR (wr.heap.size + 1) 139 [.string ⟨#[]⟩, .int .i64 j, .int .i64 0, .int .i64 0, .int .i64 0, .string ⟨#[]⟩] [.string sComp, .int .i64 j, .int .i64 x.args.length, .int .i64 (cb t.args j), .int .i64 0, .string x.name] [(8, 0), (10, 5), (12, 2), (14, 3)] W2 (hs ++ [(14, vv)]) w') _; obtain ⟨⟨z, hz⟩, hf⟩ := hT.at (c := 3) (by simp); simp only [execOp, Act.eval, h67, h63]; go_simp; exact hT.store (by kernel_rfl) (by simp) (by simp) rfl
                case hQ =>
                  intro hs3 vs3 W3 hall huniq hR hV; simp only [List.foldl_cons, List.foldl_nil, List.setIfInBounds_toArray, List.set_cons_zero, List.set_cons_succ]; have HS3 := hid (hR.done rfl (by intro a ha; simp only [List.mem_cons, List.not_mem_nil, or_false] at ha; rcases ha with rfl | rfl | rfl | rfl <;> exact hall _ (by simp)) (by intro c hc hn; simp only [List.length_cons, List.length_nil] at hc; simp only [List.map_cons, List.map_nil, List.mem_cons, List.not_mem_nil, or_false, not_or] at hn; have hcs : c = 0 ∨ c = 1 ∨ c = 2 ∨ c = 3 ∨ c = 4 ∨ c = 5 := (by omega); rcases hcs with rfl | rfl | rfl | rfl | rfl | rfl <;> first | rfl | omega)); have HT3w := hid hR.t; have HTR : Hid (Turned (fun _ => False) wr W3) := HTW.out.step hR.t (fun i hi e => by omega); obtain ⟨s0, s1, s2, s3, s4, s5⟩ := cells6 HS3.out; have hfs := free6 HS3.out; obtain ⟨z0, z1, z2, z3, _⟩ := cells4 (HKX.out W3 hR.t); obtain ⟨q0, q1, q2, q3, g0, g1, g2, g3⟩ := cells4 ((HTR.out.block _ (Array.getElem?_eq_some_iff.1 HCC.out).1 (fun f => f)).trans HCC.out); clear hR hV hall huniq; have hn3 : (metS t j).length ≤ 2000 := metS_few HG.out (by have := HS.out; omega)
                  have hpos : 0 < x.args.length := by have := HA2.out; omega
                  obtain ⟨bb, bo, hat, _, hnews⟩ := (LT.In.lies (HXI.out.turned0 HTR.out)) hpos; obtain ⟨i1, hi1, hy0, hy1, hy2⟩ := info_parts infoT; rw [hat] at z3; have hx8 := HXF.out; have HNW := hid hnews; have HRG := hid (HI.out.regs.turned0 HTR.out); clear hnews
                  have HST2 : Hid (steps t.vars t.args (j + 1) = steps t.vars t.args j ++ [⟨sComp, j, (x.args.length : Int), (cb t.args j : Int), 0, x.name⟩]) := by
                    show _ = _; rw [HST.out]; unfold stepX; rw [if_neg HK0.out, if_neg HK1.out, if_neg HA2.out]
                  go_wp2_with (first
                    | (at_builtin; have HMID : Hid (HeadM t wo.heap.size mb (wo.heap.size + 1) j (.slice (some ⟨g7, 0, none⟩) (cb t.args j + x.args.length) cap7) lv w2 W7) := HI.out.mid HCC.out HLR.out HLO.out ((HTR.out.mono (fun _ _ f => f.elim)).trans (HT7.out.mono (fun k _ e => .inr e))) (by rw [metS_next HXR.out, if_neg (fun c => HK0.out c.1)]; exact (HI.out.had.turned HTR.out (fun f => f)).turned HT7.out (fun c => (HI.out.own _ c).2.2.2 rfl)) (by rw [HXC.out, HXN.out, List.flatMap_append]; exact HR7.out) (HO7.out.imp (fun c => by simpa [Value.ownBlock] using c) (fun c k hk => by simp [Value.ownBlock] at hk; have := HTR.out.size; omega)); obtain ⟨i0, hi0, hz0, hz1, hz2⟩ := info_parts infoS; have HMA := hid (HMID.out.turned0 ((Turned.refl (fun _ => False) W7).alloc (.cells #[.string sComp, .int .i64 j, .int .i64 x.args.length, .int .i64 (cb t.args j), .int .i64 0, .string x.name] 139))); have HNB := hid (World.news_of_block (heap_alloc_new W7 (.cells #[.string sComp, .int .i64 j, .int .i64 x.args.length, .int .i64 (cb t.args j), .int .i64 0, .string x.name] 139))); refine append_some _ rfl _ _ 102 rfl 139 i0 _ 6 64 Try.underlying102 hi0 hz0 hz1 hz2 rfl (by decide) lv j ((steps t.vars t.args j).flatMap stC) rfl HMA.out.row ⟨W7.heap.size, 0, none⟩ 1 1 (stC ⟨sComp, j, (x.args.length : Int), (cb t.args j : Int), 0, x.name⟩) rfl rfl HNB.out (stC_one _) (by omega) (by unfold maxLen; omega) (by omega) ?_; intro g9 cap9 W9 hr9 T9 ho9; have hc9 := (T9.block _ (Array.getElem?_eq_some_iff.1 HMA.out.c).1 (fun c => (HMA.out.lvo _ c).2.1 rfl)).trans HMA.out.c; obtain ⟨y0, y1, y2, y3, f0, f1, f2, f3⟩ := cells4 hc9; have HR9 := hid hr9; have HT9 := hid T9; have HO9 := hid ho9; have HC9 := hid hc9; clear hr9 T9 ho9 hc9)
                    | (at_builtin; refine append_some _ rfl _ _ 22 rfl 27 i1 zeroT 4 56 Try.underlying22 hi1 hy0 hy1 hy2 rfl (by decide) (.slice (some ⟨g, 0, none⟩) (cb t.args j) sc) (cb t.args j) ((reg t.args j).flatMap LT.cells) rfl HRG.out ⟨bb, bo, none⟩ x.args.length x.at_.2 (x.args.flatMap LT.cells) rfl (LT.flat_length _) (fun j u hu => by rw [Addr.add_lit]; exact HNW.out j u hu) (LT.flat_one _) hpos (by unfold maxLen; omega) (by omega) ?_; intro g7 cap7 W7 hr7 T7 ho7; have HR7 := hid hr7; have HT7 := hid T7; have HO7 := hid ho7; have hs7 := (T7.block _ (Array.getElem?_eq_some_iff.1 HS3.out).1 (fun c => by have := HI.out.regs.lt _ c; omega)).trans HS3.out; obtain ⟨s0, s1, s2, s3, s4, s5⟩ := cells6 hs7; have hc7 := (T7.block _ (Nat.lt_of_lt_of_le (Array.getElem?_eq_some_iff.1 HCC.out).1 HTR.out.size) (fun c => (HI.out.own _ c).2.1 rfl)).trans ((HTR.out.block _ (Array.getElem?_eq_some_iff.1 HCC.out).1 (fun f => f)).trans HCC.out); obtain ⟨q0, q1, q2, q3, g0, g1, g2, g3⟩ := cells4 hc7; clear hr7 T7 ho7 hs7 hc7))
                  have HNX : Hid (HeadI t wo.heap.size mb (wo.heap.size + 1) (j + 1) (.slice (some ⟨g7, 0, none⟩) (cb t.args j + x.args.length) cap7) w2 (W9.setCell ⟨wo.heap.size, 3, none⟩ (.slice (some ⟨g9, 0, none⟩) (j + 1) cap9))) := HMA.out.next HST2.out HT9.out HR9.out (HO9.out.imp (fun c => by simpa [Value.ownBlock] using c) (fun c k hk => by simp [Value.ownBlock] at hk; omega)) (turned_cell' _ _ _ _) (by simpa using heap_setCell_same W9 wo.heap.size 3 _ 104 (.slice (some ⟨g9, 0, none⟩) (j + 1) cap9) HC9.out); go_roundg (gk - 1)
                  case measure => have := HJ.out; omega
                  case rel => exact ⟨j + 1, show _ = _ by have := HJ.out; omega, by omega, by go_num, some ⟨g7, 0, none⟩, cap7, by rw [HXC.out], HNX⟩
        · obtain rfl : S = j := by omega
          have hcb : cb t.args S = S := by rw [HS.out]; exact Tm.cb_end _
          have dj : decide ((S : Int) < (cb t.args S : Int)) = false := decide_eq_false (by omega); have dj2 : decide (S < cb t.args S) = false := decide_eq_false (by omega)
          have dj3 : ¬ S < cb t.args S := by omega
          obtain ⟨lv, hcc, hlr, hlo⟩ := HI.out.code; obtain ⟨la, lc, rfl⟩ := hlr.shape; have T1 : Turned (fun k => k = wo.heap.size) wr (wr.setCell ⟨wo.heap.size, 2, none⟩ (.int .i64 (cb t.args S))) := turned_cell' _ _ _ _
          have hc1 : (wr.setCell ⟨wo.heap.size, 2, none⟩ (.int .i64 (cb t.args S))).heap[wo.heap.size]? = some (.cells #[.int .i64 t.args.length, .int .i64 t.vars.length, .int .i64 (cb t.args S), .slice la S lc] 104 (0, 0)) := by simpa using heap_setCell_same wr wo.heap.size 2 _ 104 (.int .i64 (cb t.args S)) hcc
          have T2w : Turned (fun _ => False) w2 (wr.setCell ⟨wo.heap.size, 2, none⟩ (.int .i64 (cb t.args S))) := HI.out.t.step T1 (fun i hi e => by have := HI.out.ne.1; omega); have hrow := hlr.turned T1 (fun k hk e => (hlo k hk).2.1 e); obtain ⟨W1, hW1⟩ : ∃ z, z = wr.setCell ⟨wo.heap.size, 2, none⟩ (.int .i64 (cb t.args S)) := ⟨_, rfl⟩; rw [← hW1] at hc1 T2w hrow; obtain ⟨q0, q1, q2, q3, g0, g1, g2, g3⟩ := cells4 hcc; obtain ⟨r0, r1, r2, r3, f0, f1, f2, f3⟩ := cells4 (HRB.out W1 T2w); obtain ⟨p0, p1, p2, p3, _⟩ := cells4 hc1; rw [hW1] at p0 p1 p2 p3 r0 r1 r2 r3 f0 f1 f2 f3; have HRR := hid (HRB.out W1 T2w); have HROW := hid hrow; have HLO := hid hlo; have HT2w := hid T2w; have HCBE := hid hcb; have HW1 := hid hW1; clear hcc hlr hlo T1 hc1 T2w hrow hW1 hcb
          go_wp2_with fail
          rw [← HW1.out]; have hz := HZ.out; refine bodyPost_ret (results_cell_tmp1 Try.results93 _ _ (w.heap.size + 1) 104 _ (0, 0) _ rfl (set4 (a' := .int .i64 t.args.length) (b' := .int .i64 t.vars.length) (c' := .int .i64 (cb t.args S)) (d' := .slice la S lc) HRR.out) Try.underlying104 rfl (by kernel_rfl)) rfl ⟨.slice la S lc, by rw [HCBE.out, HS.out]; rfl, ?_, fun k hk => by have := (HLO.out k hk).1; omega, (HT2.out.trans HT2w.out).step (turned_store4 W1 (w.heap.size + 1) _ _ _ _) (fun i hi e => by omega)⟩; have hq := HROW.out.turned (turned_store4 W1 (w.heap.size + 1) (.int .i64 t.args.length) (.int .i64 t.vars.length) (.int .i64 (cb t.args S)) (.slice la S lc)) (fun k hk e => by have := (HLO.out k hk).1; omega); rw [← HS.out]; exact hq
end Go.Proofs.Ytoihjobdfjajfaa
namespace Go.Proofs.Ytoihjobdfjajfaa
open Go.RowKit Go.Maps
structure WalkD (p : Nat → Prop) (l : Tm.Trail) (t : LT) (w0 : World) (x : LT) : Prop where
  inn : x.In p w0
  ones : ∀ z ∈ x.bare.flat, goodOneB z = true
  on : Tm.walkT l x.bare = Tm.walkT l t.bare
theorem WalkD.step {p : Nat → Prop} {m : Nat} {l : Tm.Trail} {w : World} {t x y : LT} {b : Tm Unit} (ho : Tm.okT m l) (h : WalkD p l t w x) (hk : x.kind = 0) (hl : Tm.look l x.n = some b) (hy : y.In p w) (hb : y.bare = b) : WalkD p l t w y ∧ Tm.walkG l y.bare < Tm.walkG l x.bare := by
  subst hb; have hm := Tm.okT_mem ho (Tm.look_mem hl); rw [← Tm.bare_n x] at hl
  have hk' : x.bare.kind = 0 := by rw [Tm.bare_kind]; exact hk
  exact ⟨⟨hy, Tm.good_ones' hm.2.2.1, by rw [← Tm.walkT_step ho hk' hl]; exact h.on⟩, Tm.walkG_lt ho hk' hl⟩
theorem WalkD.done {p : Nat → Prop} {l : Tm.Trail} {w : World} {t x : LT} (h : WalkD p l t w x) (hk : x.kind = 0 → x.n ∉ Tm.dom l) : x.bare = Tm.walkT l t.bare := by
  rw [← h.on, Tm.walkT_stop (fun e => ?_)]; rw [Tm.bare_kind] at e; rw [Tm.bare_n]; exact Tm.look_none.2 (hk e)
end Go.Proofs.Ytoihjobdfjajfaa
namespace Go.Proofs.Ytoihjobdfjajfaa
open Go.RowKit Go.Maps
theorem DO.alloc {p O : Nat → Prop} {wb m : Nat} {l : Tm.Trail} {w w' : World} (h : DO p wb O m l w) (T : Turned (fun _ => False) w w') : ¬ O w'.heap.size ∧ ¬ p w'.heap.size :=
  ⟨fun o => by have := h.lt _ o; have := T.size; omega, fun o => by have := h.plt _ o; have := T.size; omega⟩
end Go.Proofs.Ytoihjobdfjajfaa
namespace Go.Proofs.Ytoihjobdfjajfaa
open Go.RowKit Go.Maps
structure MakD (p : Nat → Prop) (σ : Tm Unit → Tm Unit) (G K : Nat) (t : LT) (w3 : World) (j : Nat) (us : List LT) (W : World) : Prop where
  len : us.length = t.args.length
  bares : (us.take j).map Tm.bare = (t.args.take j).map fun x => σ x.bare
  row : Row W 41 4 (.slice (some ⟨G, 0, none⟩) t.args.length t.args.length) t.args.length (us.flatMap LT.cells)
  ins : LT.Ins (fun k => p k ∨ G + 1 ≤ k) W us
  turned : Turned (fun k => k = G ∨ k = K) w3 W
theorem MakD.put {p : Nat → Prop} {σ : Tm Unit → Tm Unit} {G K : Nat} {t x u : LT} {w3 W W7 : World} {j : Nat} {us : List LT} (h : MakD p σ G K t w3 j us W) (hp : ∀ k, p k → k < G ∧ k ≠ K) (hKG : K < G) (hG : G < W.heap.size) (hx : t.args[j]? = some x) (hb : u.bare = σ x.bare) (hu : u.In (fun k => p k ∨ W.heap.size ≤ k) W7) (hT : Turned (fun k => k = K) W W7) :
    MakD p σ G K t w3 (j + 1) (us.set j u) ((((W7.setCell ⟨G, j * 4, none⟩ (.int .i64 u.kind)).setCell ⟨G, j * 4 + 1, none⟩ (.int .i64 u.n)).setCell ⟨G, j * 4 + 2, none⟩ (.string u.name)).setCell ⟨G, j * 4 + 3, none⟩ (.slice u.at_.1 u.args.length u.at_.2)) := by
  have hjl : j < t.args.length := (List.getElem?_eq_some_iff.1 hx).1
  have hju : j < us.length := by rw [h.len]; exact hjl
  have Tq : Turned (fun k => k = G) W7 ((((W7.setCell ⟨G, j * 4, none⟩ (.int .i64 u.kind)).setCell ⟨G, j * 4 + 1, none⟩ (.int .i64 u.n)).setCell ⟨G, j * 4 + 2, none⟩ (.string u.name)).setCell ⟨G, j * 4 + 3, none⟩ (.slice u.at_.1 u.args.length u.at_.2)) :=
    ((((Turned.refl (fun k => k = G) W7).setCell (p := ⟨G, j * 4, none⟩) (.inr rfl) _).setCell (p := ⟨G, j * 4 + 1, none⟩) (.inr rfl) _).setCell (p := ⟨G, j * 4 + 2, none⟩) (.inr rfl) _).setCell (p := ⟨G, j * 4 + 3, none⟩) (.inr rfl) _
  refine ⟨by rw [List.length_set]; exact h.len, ?_, ?_, ?_, (h.turned.trans (hT.mono (fun _ _ e => .inr e))).trans (Tq.mono (fun _ _ e => .inl e))⟩
  · have e1 : (us.set j u).take (j + 1) = us.take j ++ [u] := by
      rw [List.take_add_one, List.take_set, List.getElem?_set_self hju]; rw [List.set_eq_of_length_le (by rw [List.length_take]; omega)]; rfl
    have e2 : t.args.take (j + 1) = t.args.take j ++ [x] := by rw [List.take_add_one, hx]; rfl
    rw [e1, e2, List.map_append, List.map_append, h.bares]; simp [hb]
  · have hr := h.row.turned hT (fun k hk e => by simp [Value.ownBlock] at hk; omega)
    have r1 := hr.setAt (off := j * 4) (by omega) (.int .i64 u.kind); have r2 := r1.setAt (off := j * 4 + 1) (by omega) (.int .i64 u.n); have r3 := r2.setAt (off := j * 4 + 2) (by omega) (.string u.name); have r4 := r3.setAt (off := j * 4 + 3) (by omega) (.slice u.at_.1 u.args.length u.at_.2); rw [flat_set hju] at r4; exact r4
  · rw [LT.ins_iff]
    intro y hy
    have keep : ∀ z : LT, z.In (fun k => p k ∨ G + 1 ≤ k) W7 → z.In (fun k => p k ∨ G + 1 ≤ k) _ := fun z hz => LT.In.turned Tq (fun k _ hk e => by
      rcases hk with hk | hk
      · have := hp k hk; omega
      · omega) (fun _ _ hk => hk) z hz
    refine keep y ?_
    rcases List.mem_or_eq_of_mem_set hy with hy | rfl
    · exact LT.In.turned hT (fun k _ hk e => by
        rcases hk with hk | hk
        · exact (hp k hk).2 e
        · omega) (fun _ _ hk => hk) y ((LT.ins_iff _).1 h.ins y hy)
    · exact hu.mono (fun k _ hk => hk.elim .inl (fun hk => .inr (by omega)))
def WhQ (p : Nat → Prop) (l : Tm.Trail) (C : Nat) (t : LT) (s d : Nat) (w : World) (e : Ending) (w' : World) : Prop :=
  ∃ (u : LT) (L' : Int), e = .returned (.tuple #[.agg #[.int .i64 u.kind, .int .i64 u.n, .string u.name, .slice u.at_.1 u.args.length u.at_.2], .bool (Tm.makeOk s d (Tm.img l t.bare))]) ∧ (Tm.makeOk s d (Tm.img l t.bare) = true → u.bare = Tm.img l t.bare ∧ L' + ((s + (Tm.img l t.bare).size : Nat) : Int) = 2000) ∧
    w'.heap[C]? = some (.cells #[.int .i64 L'] 3 (0, 0)) ∧ u.In (fun k => p k ∨ w.heap.size ≤ k) w' ∧ Turned (fun k => k = C) w w'
theorem WhQ.no {p : Nat → Prop} {l : Tm.Trail} {C : Nat} {t x : LT} {s d : Nat} {w w' : World} {L' : Int} (hno : Tm.makeOk s d (Tm.img l t.bare) = false) (hC : w'.heap[C]? = some (.cells #[.int .i64 L'] 3 (0, 0))) (hx : x.In p w') (T : Turned (fun k => k = C) w w') :
    WhQ p l C t s d w (.returned (.tuple #[.agg #[.int .i64 x.kind, .int .i64 x.n, .string x.name, .slice x.at_.1 x.args.length x.at_.2], .bool false])) w' :=
  ⟨x, L', by rw [hno], (fun e => by rw [hno] at e; cases e), hC, hx.mono (fun _ _ h => .inl h), T⟩
theorem WhQ.yes {p : Nat → Prop} {l : Tm.Trail} {C : Nat} {t u : LT} {s d : Nat} {w w' : World} {L' : Int} (hok : Tm.makeOk s d (Tm.img l t.bare) = true) (hb : u.bare = Tm.img l t.bare) (hC : w'.heap[C]? = some (.cells #[.int .i64 L'] 3 (0, 0))) (hL : L' + ((s + (Tm.img l t.bare).size : Nat) : Int) = 2000) (hu : u.In (fun k => p k ∨ w.heap.size ≤ k) w') (T : Turned (fun k => k = C) w w') :
    WhQ p l C t s d w (.returned (.tuple #[.agg #[.int .i64 u.kind, .int .i64 u.n, .string u.name, .slice u.at_.1 u.args.length u.at_.2], .bool true])) w' :=
  ⟨u, L', by rw [hok], fun _ => ⟨hb, hL⟩, hC, hu, T⟩
theorem turned_store4g (W : World) (G j : Nat) (a b c d : Value) : Turned (fun k => k = G) W ((((W.setCell ⟨G, j * 4, none⟩ a).setCell ⟨G, j * 4 + 1, none⟩ b).setCell ⟨G, j * 4 + 2, none⟩ c).setCell ⟨G, j * 4 + 3, none⟩ d) :=
  ((((Turned.refl (fun k => k = G) W).setCell (p := ⟨G, j * 4, none⟩) (.inr rfl) _).setCell (p := ⟨G, j * 4 + 1, none⟩) (.inr rfl) _).setCell (p := ⟨G, j * 4 + 2, none⟩) (.inr rfl) _).setCell (p := ⟨G, j * 4 + 3, none⟩) (.inr rfl) _
end Go.Proofs.Ytoihjobdfjajfaa
namespace Go.Proofs.Ytoihjobdfjajfaa
open Lib (hid)
open Go.RowKit Go.Maps
open Tm (Stp sVar sVal sInt sAtom sComp cb met steps stepX stepAt goodC)
abbrev hdT (a : Option Addr) (c : Nat) (a' : Option Addr) (c' : Nat) : LT := .mk 2 0 ⟨#[112]⟩ (a, c) [leaf 0 9 ByteArray.empty, .mk 2 0 ⟨#[102]⟩ (a', c') [leaf 0 9 ByteArray.empty]]
abbrev st0 : Stp := ⟨⟨#[118, 97, 114]⟩, 0, 0, 0, 0, ⟨#[]⟩⟩
abbrev st1 : Stp := ⟨⟨#[99, 111, 109, 112]⟩, 1, 1, 2, 0, ⟨#[102]⟩⟩
abbrev st2 : Stp := ⟨⟨#[118, 97, 108]⟩, 2, 0, 0, 0, ⟨#[]⟩⟩
section
variable {a a' : Option Addr} {c c' : Nat} {w : World}
theorem hd_good : goodB (hdT a c a' c') = true := by kernel_rfl
theorem hd_vars : (hdT a c a' c').vars.length = 1 := by kernel_rfl
theorem hd_sizes : Tm.sizes (hdT a c a' c').args = 3 := by kernel_rfl
theorem hd_steps : steps (hdT a c a' c').vars (hdT a c a' c').args 3 = [st0, st1, st2] := by kernel_rfl
theorem hdHead (h : (hdT a c a' c').In (fun _ => True) w) : Calls Try.prog 93 #[.agg #[.int .i64 2, .int .i64 0, .string ⟨#[112]⟩, .slice a 2 c]] w fun e w' => ∃ lv : Value, e = .returned (.tuple #[.agg #[.int .i64 2, .int .i64 1, .int .i64 3, lv], .int .i64 0]) ∧ Row w' 139 6 lv 3 ([st0, st1, st2].flatMap stC) ∧ (∀ k, lv.ownBlock = some k → w.heap.size ≤ k) ∧ Turned (fun _ => False) w w' := by
  have := head93 h hd_good rfl; rw [hd_vars, hd_sizes, hd_steps] at this; exact this
theorem hdGood {lv : Value} {w' : World} (h : (hdT a c a' c').In (fun _ => True) w') (hr : Row w' 139 6 lv 3 ([st0, st1, st2].flatMap stC)) : Calls Try.prog 95 #[.agg #[.int .i64 2, .int .i64 1, .int .i64 3, lv]] w' fun e w2 => e = .returned (.bool true) ∧ Turned (fun _ => False) w' w2 := by
  have := goodHead95 (lv := lv) h hd_good rfl (by rw [hd_sizes, hd_steps]; exact hr); rw [hd_vars, hd_sizes] at this; exact this
end
theorem lit_ops : ((⟨#[118, 97, 114]⟩ : ByteArray).toList == [118, 97, 114]) = true ∧ ((⟨#[118, 97, 108]⟩ : ByteArray).toList == [118, 97, 108]) = true ∧ ((⟨#[99, 111, 109, 112]⟩ : ByteArray).toList == [99, 111, 109, 112]) = true ∧ ((⟨#[102]⟩ : ByteArray).toList == [102]) = true ∧ ((⟨#[]⟩ : ByteArray).toList == []) = true := by
  refine ⟨?_, ?_, ?_, ?_, ?_⟩ <;> (rw [ByteArray.toList_eq]; rfl)
set_option maxRecDepth 100000 in
set_option maxHeartbeats 6400000 in
theorem awake91 (w : World) : Calls Try.prog 91 #[] w fun e w' => e = .returned (.bool true) ∧ Turned (fun _ => False) w w' := by
  obtain ⟨l0, l1, l2, l3, l4⟩ := lit_ops; go_enter Try.func91, Try.ntmps91
  go_wp2_with (first
    | (go_at_call 95; have HC6 := HC6; (refine (hdGood HI6.out HR6.out).mono ?_); rintro e w7 ⟨rfl, T7⟩; have HT7 := hid T7; clear T7)
    | (go_at_call 93; refine (hdHead i4).mono ?_; rintro e w5 ⟨lv, rfl, hr5, ho5, T5⟩; obtain ⟨g5, cap5, rfl⟩ := hr5.shape_pos (by omega); have TA := (Turned.refl (fun _ => False) w5).alloc (.cells #[.int .i64 2, .int .i64 1, .int .i64 3, .slice (some ⟨g5, 0, none⟩) 3 cap5] 104); have HR6 := hid (hr5.turned0 TA); have HI6 := hid ((i4.turned0 T5).turned0 TA); obtain ⟨a0, a1, a2, a3, a4, a5⟩ := step_cells (L := [st0, st1, st2]) (i := 0) (s := st0) HR6.out rfl; obtain ⟨b0, b1, b2, b3, b4, b5⟩ := step_cells (L := [st0, st1, st2]) (i := 1) (s := st1) HR6.out rfl; obtain ⟨d0, d1, d2, d3, d4, d5⟩ := step_cells (L := [st0, st1, st2]) (i := 2) (s := st2) HR6.out rfl; simp only [Nat.zero_mul, Nat.one_mul, Nat.zero_add, Nat.reduceMul, Nat.reduceAdd] at a0 a1 a2 a3 a4 a5 b0 b1 b2 b3 b4 b5 d0 d1 d2 d3 d4 d5; have HT6 := hid ((((T1.trans T2).trans T3).trans T4).trans (T5.trans TA)); have HC6 := HT6; clear T1 T2 T3 T4 T5 TA hr5 ho5 i1 i2 i3 i4)
    | (go_at_call 37; have := T3; refine (compV ⟨#[112]⟩ (by unfold maxLen; decide) 2 (by decide) rfl (sl_made (l := [leaf 0 9 ByteArray.empty, .mk 2 0 ⟨#[102]⟩ (a3, c3) [leaf 0 9 ByteArray.empty]]) ⟨i1.turned0 (T2.trans T3), i3, trivial⟩ 2 (by decide) rfl _ rfl)).mono ?_; rintro e w4 ⟨a4, c4, rfl, i4, T4'⟩; have T4 := ((Turned.refl (fun _ => False) w3).alloc _).trans T4'; clear T4')
    | (go_at_call 37; have := T2; refine (compV ⟨#[102]⟩ (by unfold maxLen; decide) 1 (by decide) rfl (sl_made (l := [leaf 0 9 ByteArray.empty]) ⟨i2, trivial⟩ 1 (by decide) rfl _ rfl)).mono ?_; rintro e w3 ⟨a3, c3, rfl, i3, T3'⟩; have T3 := ((Turned.refl (fun _ => False) w2).alloc _).trans T3'; clear T3')
    | (go_at_call 62; have := T1; refine (varV 9 (i64_lit _ (by omega)) _).mono ?_; rintro e w2 ⟨rfl, i2, T2⟩)
    | (go_at_call 62; refine (varV 9 (i64_lit _ (by omega)) _).mono ?_; rintro e w1 ⟨rfl, i1, T1⟩))
  go_ret; exact ⟨rfl, HT6.out.trans HT7.out⟩
end Go.Proofs.Ytoihjobdfjajfaa
namespace Go.Proofs.Ytoihjobdfjajfaa
open Go.RowKit Go.Maps
theorem deepVal92 (k : Nat) (t : LT) (W : World) (n : Int) (hn : n = (k : Int)) (hk : k ≤ 1000) {p : Nat → Prop} (h : t.In p W) : Calls Try.prog 92 #[.agg #[.int .i64 t.kind, .int .i64 t.n, .string t.name, .slice t.at_.1 t.args.length t.at_.2], .int .i64 n] W fun e w' => e = .returned (.bool (deepB k t)) ∧ Turned (fun _ => False) W w' := by
  subst hn; have := deep92 p k t W hk h; rw [LT.val_eq] at this; exact this
theorem BM.fresh {N bb m : Nat} {bx : List (Nat × Obj)} {ts : List LT} {w1 W : World} {tr : Tm.Trail} (hN : N = w1.heap.size) (h : BM N bb bx ts w1 m tr W) (hm : m < 65536) :
    Calls Try.prog 87 #[.pointer (some ⟨bb, 0, none⟩)] W fun e w' => e = .returned (.tuple #[.agg #[.int .i64 0, .int .i64 (m : Int), .string ByteArray.empty, .slice none 0 0], .bool true]) ∧ BM N bb bx ts w1 (m + 1) tr w' := by
  obtain ⟨q, O, l, h3, rfl, _, _, hk⟩ := h.call hN; refine (freshO87 h3 hm).mono ?_
  rintro e w' ⟨rfl, ha⟩
  exact ⟨rfl, hk _ _ w' ha⟩
theorem vars_le (t : LT) : t.vars.length ≤ t.size := by
  have h1 := addVar_le t.flat []; rw [Tm.flat_length] at h1; simp at h1; unfold Tm.vars; omega
theorem row_slice {w : World} {ty : TypeId} {size n : Nat} {v : Value} {xs : List Value} (h : Row w ty size v n xs) : ∃ a c, v = .slice a n c := by
  rcases h.2 with ⟨rfl, rfl⟩ | ⟨g, cap, cur, rfl, _⟩
  · exact ⟨_, _, rfl⟩
  · exact ⟨_, _, rfl⟩
theorem sizeV35 {p : Nat → Prop} {t : LT} {w : World} {d : Int} (ht : t.In p w) (hs : slim t) (hd : ((min t.size 2001 : Nat) : Int) = d) : Calls Try.prog 35 #[.agg #[.int .i64 t.kind, .int .i64 t.n, .string t.name, .slice t.at_.1 t.args.length t.at_.2]] w fun e w' => e = .returned (.int .i64 d) ∧ Turned (fun _ => False) w w' := by
  have h := size35 ht hs; rw [LT.val_eq, hd] at h; exact h
end Go.Proofs.Ytoihjobdfjajfaa

/- term.Items. -/
import Derived.Test.YtoihjobdfjajfaaItems0
namespace Go.Proofs.Ytoihjobdfjajfaa
set_option linter.unusedVariables false
set_option linter.unusedSimpArgs false
open Go.RowKit

set_option maxRecDepth 100000 in
set_option maxHeartbeats 3200000 in
theorem items46 {p : Nat → Prop} {t : LT} {w : World} (ht : t.In p w) (hsl : slim t) (hsz : True) :
    Calls Try.prog 46 #[t.val] w fun e w' => ∃ (v : Value) (us : List LT) (y : LT), e = .returned (.tuple #[v, y.val]) ∧ (us, y) = (if goodB t then Tm.items t else ([], t)) ∧ Row w' 27 4 v us.length (us.flatMap LT.cells) ∧ (∀ b, v.ownBlock = some b → w.heap.size ≤ b) ∧ Turned (fun _ => False) w w' := by
  obtain ⟨i0, hi0, hz0, hz1, hz2⟩ := info_parts infoT
  have HIN := Lib.hid ht
  have HSZ := Lib.hid hsz
  have h2 := two w (.cells #[.int .i64 t.kind, .int .i64 t.n, .string t.name, .slice t.at_.1 t.args.length t.at_.2] 27) (.cells #[.int .i64 0, .int .i64 0, .string ⟨#[]⟩, .slice none 0 0] 27)
  obtain ⟨RS, HRS⟩ : ∃ z, Hid (z = if goodB t then Tm.items t else ([], t)) := ⟨_, rfl⟩
  rw [← HRS.out]
  have hg0 := good38 (ht.turned0 h2.1) hsl
  have HG := Lib.hid hg0
  rw [LT.val_eq] at HG ⊢
  clear hg0
  have H2 := Lib.hid h2
  clear h2 ht hsz
  cases hg : goodB t with
  | false =>
    rw [hg] at HG
    have HGF := Lib.hid hg
    clear hg
    go_enter Try.func46, Try.ntmps46
    go_wp2_with (go_at_call 38; refine HG.out.mono ?_; rintro e w1 ⟨rfl, T1⟩)
    have HB0 : Hid (w1.heap[w.heap.size]? = some (.cells #[.int .i64 t.kind, .int .i64 t.n, .string t.name, .slice t.at_.1 t.args.length t.at_.2] 27 (0, 0))) := (T1.block _ (by have := H2.out.2.1; omega) (fun f => f)).trans H2.out.2.2.1
    have HB1 : Hid (w1.heap[w.heap.size + 1]? = some (.cells #[.int .i64 0, .int .i64 0, .string ⟨#[]⟩, .slice none 0 0] 27 (0, 0))) := (T1.block _ (by have := H2.out.2.1; omega) (fun f => f)).trans H2.out.2.2.2
    have HT1 := Lib.hid (H2.out.1.trans T1)
    clear T1 H2
    obtain ⟨B0, hB0⟩ : ∃ z, z = w.heap.size := ⟨_, rfl⟩
    obtain ⟨B1, hB1⟩ : ∃ z, z = w.heap.size + 1 := ⟨_, rfl⟩
    rw [← hB1] at HB1
    rw [← hB0] at HB0
    have HE := Lib.hid (And.intro hB0 hB1)
    try rw [← hB1]
    try rw [← hB0]
    clear hB0 hB1
    refine wp_region_hs [7, 2] [2] [0, 1, 1] [100002] (fun d v => (match d with | 7 => v = .agg #[.int .i64 t.kind, .int .i64 t.n, .string t.name, .slice t.at_.1 t.args.length t.at_.2] | 2 => v = .slice none 0 0 | _ => True : Prop)) (EndS B1 27 t w1) (by kernel_rfl) rfl (by kernel_rfl) (by kernel_rfl) (by kernel_rfl) (by kernel_rfl) (fun _ h => h) (fun hs w w' h ht => EndS.turned0 hs w w' h ht) ?hs ?hQ
    case hs =>
      refine ⟨?s0, ?s1, ?s2, trivial⟩
      case s0 =>
        refine fun hs hle => stepG_free [] [1] (by kernel_rfl) rfl ?_
        · intro ac W hT hI hO
          have hle : hs.length ≤ 0 := hle
          have h1 : ac.tmps.getD 1 undef = .pointer (some ⟨B0, 0, none⟩) := hO 1 (by simp)
          show Brings Try.prog (fun v w' => Turned (fun _ => False) W w' ∧ v = .agg #[.int .i64 t.kind, .int .i64 t.n, .string t.name, .slice t.at_.1 t.args.length t.at_.2]) _
          have hT0 := end_nil (by omega) hT; obtain ⟨e0, e1, e2, e3, _⟩ := cells4 ((hT0.block B0 (Array.getElem?_eq_some_iff.1 HB0.out).1 (fun f => f)).trans HB0.out)
          simp only [execOp, Act.eval, h1]
          go_simp
          exact ⟨Turned.refl _ _, rfl⟩
      case s1 =>
        refine fun hs hle => stepG_free [] [] (by kernel_rfl) rfl ?_
        · intro ac W hT hI hO
          show Brings Try.prog (fun v w' => Turned (fun _ => False) W w' ∧ v = .slice none 0 0) _
          simp only [execOp, Act.eval]
          go_simp
          try exact ⟨Turned.refl _ _, rfl⟩
      case s2 =>
        refine fun hs hlen => stepG_free [7] [3] (by kernel_rfl) rfl ?_
        · intro ac W hT hI hO
          have h7 : ac.tmps.getD 7 undef = .agg #[.int .i64 t.kind, .int .i64 t.n, .string t.name, .slice t.at_.1 t.args.length t.at_.2] := hI 7 (by simp)
          have h3 : ac.tmps.getD 3 undef = .pointer (some ⟨B1, 0, none⟩) := hO 3 (by simp)
          show Brings Try.prog (fun v w' => EndS B1 27 t w1 (hs ++ [v]) w') _
          obtain rfl : hs = [] := List.eq_nil_of_length_eq_zero hlen
          replace hT : Turned (fun _ => False) w1 W := hT
          have hb1 := (hT.block B1 (Array.getElem?_eq_some_iff.1 HB1.out).1 (fun f => f)).trans HB1.out
          obtain ⟨_, _, _, _, f0, f1, f2, f3⟩ := cells4 hb1
          obtain ⟨d0, d1, d2, d3, _⟩ := cells4 hb1
          simp only [execOp, Act.eval, h7, h3]
          go_simp
          exact ⟨set4 hb1, ((((hT.mono (T := fun k => k = B1) (fun _ _ f => f.elim)).setCell (p := ⟨B1, 0, none⟩) (.inr rfl) _).setCell (p := ⟨B1, 1, none⟩) (.inr rfl) _).setCell (p := ⟨B1, 2, none⟩) (.inr rfl) _).setCell (p := ⟨B1, 3, none⟩) (.inr rfl) _⟩
    case hQ =>
      intro hs vs w2 hlen hR hV
      have q5 : vs 2 = .slice none 0 0 := hV 2 (by simp)
      obtain ⟨r1, r2⟩ := end_one hlen hR
      simp only [List.foldl_cons, List.foldl_nil, List.setIfInBounds_toArray, List.set_cons_zero, List.set_cons_succ, q5]
      clear hV q5 hlen hR
      go_wp2_with fail
      refine bodyPost_ret (results_tmp_cell Try.results46 _ _ B1 27 _ (0, 0) _ rfl r1 Try.underlying27 rfl (by kernel_rfl)) rfl ?_
      refine ⟨.slice none 0 0, [], t, by rw [LT.val_eq]; rfl, by rw [HRS.out, HGF.out]; rfl, Row.nil _ _ _, fun b hb => by simp [Value.ownBlock] at hb, HT1.out.step r2 (fun i hi e => by have := HE.out; omega)⟩
  | true =>
    rw [hg] at HG
    rw [hg, if_pos rfl] at HRS
    replace HSZ : Hid (t.depth ≤ 60000) := by show _ ≤ _; have := good_depth hg; omega
    clear hg
    go_enter Try.func46, Try.ntmps46
    go_wp2_with (go_at_call 38; refine HG.out.mono ?_; rintro e w1 ⟨rfl, T1⟩; obtain ⟨y0, y1, y2, y3, _⟩ := cells4 ((T1.block _ (by have := H2.out.2.1; omega) (fun f => f)).trans H2.out.2.2.1))
    clear y0 y1 y2 y3
    replace H2 : Hid (Turned (fun _ => False) w w1 ∧ w.heap.size + 2 ≤ w1.heap.size ∧ w1.heap[w.heap.size]? = some (.cells #[.int .i64 t.kind, .int .i64 t.n, .string t.name, .slice t.at_.1 t.args.length t.at_.2] 27 (0, 0)) ∧ w1.heap[w.heap.size + 1]? = some (.cells #[.int .i64 0, .int .i64 0, .string ⟨#[]⟩, .slice none 0 0] 27 (0, 0))) := ⟨H2.out.1.trans T1, by have := H2.out.2.1; have := T1.size; omega, (T1.block _ (by have := H2.out.2.1; omega) (fun f => f)).trans H2.out.2.2.1, (T1.block _ (by have := H2.out.2.1; omega) (fun f => f)).trans H2.out.2.2.2⟩
    clear T1
    obtain ⟨B0, hB0⟩ : ∃ z, z = w.heap.size := ⟨_, rfl⟩
    obtain ⟨B1, hB1⟩ : ∃ z, z = w.heap.size + 1 := ⟨_, rfl⟩
    obtain ⟨N, hN⟩ : ∃ z, z = w1.heap.size := ⟨_, rfl⟩
    rw [← hB1, ← hB0] at H2
    have HE := Lib.hid (And.intro hB0 (And.intro hB1 hN))
    try rw [← hB1]
    try rw [← hB0]
    clear hB0 hB1 hN
    have hinit : Hid (ItemI p N B0 27 t w1 t.size (.slice none 0 0) [] t w1) := ⟨rfl, by simp, by rw [Tm.flat_eq]; exact List.mem_cons_self .., H2.out.2.2.1, Row.nil _ _ _, fun b h => by simp [Value.ownBlock] at h, Turned.refl _ _⟩
    go_loopg [2] t.size (fun g v wr => ∃ us y, Hid (ItemI p N B0 27 t w1 g v us y wr))
    case atStart => exact ⟨[], t, hinit⟩
    case round =>
      obtain ⟨us, y, HI⟩ := hrel
      obtain ⟨va, vc, rfl⟩ := HI.out.row.shape
      have hvl := HI.out.row.max
      have hul : us.length ≤ 60000 := by
        have h1 := items_dep t.size t (Nat.le_refl _)
        rw [HI.out.items] at h1
        simp only [List.length_append] at h1
        have := HSZ.out
        omega
      have hyin : y.In (fun k => p k ∧ k < w.heap.size) wr := LT.In.flat t (LT.In.turned (H2.out.1.step (T := fun k => k = B0) HI.out.turned (fun i hi e => by have := HE.out; omega)) (fun _ _ _ f => f) (fun k hk h => ⟨h, hk⟩) t HIN.out) y HI.out.mem
      obtain ⟨q0, q1, q2, q3, f0, f1, f2, f3⟩ := cells4 HI.out.blk
      have hal : y.args.length ≤ 9223372036854775807 := by have := hyin.len.1; have := hyin.len.2.1; unfold maxLen at this; omega
      cases hd : Tm.isDot y with
      | true =>
        obtain ⟨e1, e2, e3⟩ := isDot_facts hd
        obtain ⟨x, z, hxz, _⟩ : ∃ x z : LT, y.args = [x, z] ∧ Tm.items y = (x :: (Tm.items z).1, (Tm.items z).2) ∧ z.size < y.size := Tm.items_dot hd
        have hl := hyin.lies
        rw [hxz] at hl
        obtain ⟨b, o, ha, hpb, x0, x1, x2, x3, z0, z1, z2, z3⟩ := lies2 hl
        rw [e1] at q0
        rw [e2] at q2
        rw [e3, ha] at q3
        unfold Tm.dot at q2
        have HK : Hid (∀ W, Turned (fun k => (Value.slice va us.length vc).ownBlock = some k) (wr.alloc (.cells #[.int .i64 x.kind, .int .i64 x.n, .string x.name, .slice x.at_.1 x.args.length x.at_.2] 27)) W → (W.cell? ⟨B0, 3, none⟩ = some (.slice (some ⟨b, o, none⟩) 2 y.at_.2) ∧ W.cell? ⟨B0, 0, none⟩ = some (.int .i64 2) ∧ W.cell? ⟨B0, 1, none⟩ = some (.int .i64 y.n) ∧ W.cell? ⟨B0, 2, none⟩ = some (.string ⟨#[46]⟩)) ∧ (W.frozen? ⟨B0, 0, none⟩ = false ∧ W.frozen? ⟨B0, 1, none⟩ = false ∧ W.frozen? ⟨B0, 2, none⟩ = false ∧ W.frozen? ⟨B0, 3, none⟩ = false) ∧ W.cell? ⟨b, o + 4, none⟩ = some (.int .i64 z.kind) ∧ W.cell? ⟨b, o + 5, none⟩ = some (.int .i64 z.n) ∧ W.cell? ⟨b, o + 6, none⟩ = some (.string z.name) ∧ W.cell? ⟨b, o + 7, none⟩ = some (.slice z.at_.1 z.args.length z.at_.2)) := fun W h => by
          have h' : Turned (fun k => (Value.slice va us.length vc).ownBlock = some k) wr W := ((Turned.refl _ wr).alloc _).trans h
          have hn0 : ¬ (Value.slice va us.length vc).ownBlock = some B0 := fun e => by have := HI.out.own _ e; have := HE.out; have := H2.out.2.1; omega
          have hnb : ¬ (Value.slice va us.length vc).ownBlock = some b := fun e => by have := HI.out.own _ e; have := HE.out; have := H2.out.2.1; omega
          have hbl := (h'.block B0 (Array.getElem?_eq_some_iff.1 HI.out.blk).1 hn0).trans HI.out.blk
          obtain ⟨_, _, _, _, g0, g1, g2, g3⟩ := cells4 hbl
          exact ⟨⟨h'.cell q3 hn0, h'.cell q0 hn0, h'.cell q1 hn0, h'.cell q2 hn0⟩, ⟨g0, g1, g2, g3⟩, h'.cell z0 hnb, h'.cell z1 hnb, h'.cell z2 hnb, h'.cell z3 hnb⟩
        have HDD := Lib.hid hd
        have HXZ := Lib.hid hxz
        have HBN : Hid (B0 < N ∧ w1.heap.size = N) := ⟨by have := HE.out; have := H2.out.2.1; omega, by have := HE.out; omega⟩
        clear hl ha hpb hd hxz e1 e2 e3 hyin z0 z1 z2 z3
        go_wp2_with (at_builtin; refine append_some _ rfl _ _ 22 rfl 27 i0 zeroT 4 56 Try.underlying22 hi0 hz0 hz1 hz2 rfl (by decide) _ _ _ rfl (HI.out.row.alloc (.cells #[.int .i64 x.kind, .int .i64 x.n, .string x.name, .slice x.at_.1 x.args.length x.at_.2] 27)) ⟨wr.heap.size, 0, none⟩ 1 1 x.cells rfl (LT.cells_length x) (news_cells x (heap_alloc_new wr _)) (LT.cells_one x) (by omega) (by unfold maxLen; omega) (by omega) ?_; intro g5 cap5 w5 hown5 hg5 hloc5; obtain ⟨⟨r3, r0, r1, r2⟩, ⟨f0, f1, f2, f3⟩, z0, z1, z2, z3⟩ := HK.out _ hg5)
        obtain ⟨n1, n2⟩ := item_next HI.out HDD.out HXZ.out HBN.out.1 HBN.out.2 hown5 hg5 hloc5
        go_roundg z.size
        case measure => exact n2
        case rel => exact ⟨us ++ [x], z, n1⟩
      | false =>
        have HRES : Hid (Tm.items t = (us, y)) := by
          show _ = _
          rw [HI.out.items, Tm.items_end hd, List.append_nil]
        have HB0 := Lib.hid HI.out.blk
        have HB1 : Hid (wr.heap[B1]? = some (.cells #[.int .i64 0, .int .i64 0, .string ⟨#[]⟩, .slice none 0 0] 27 (0, 0))) := (HI.out.turned.block B1 (Array.getElem?_eq_some_iff.1 H2.out.2.2.2).1 (fun e => by have := HE.out; omega)).trans H2.out.2.2.2
        have hfin : ∀ (vs : Tmp → Value) (W : World), EndS B1 27 y wr [undef] W → ∃ v us2 y2, Ending.returned (.tuple #[.slice va us.length vc, .agg #[.int .i64 y.kind, .int .i64 y.n, .string y.name, .slice y.at_.1 y.args.length y.at_.2]]) = .returned (.tuple #[v, LT.val y2]) ∧ (us2, y2) = RS ∧ Row W 27 4 v us2.length (us2.flatMap LT.cells) ∧ (∀ b, v.ownBlock = some b → w.heap.size ≤ b) ∧ Turned (fun _ => False) w W := by
          intro vs W hE
          have hne : ∀ k, (Value.slice va us.length vc).ownBlock = some k → ¬ k = B1 := fun k e e' => by have := HI.out.own _ e; have := HE.out; have := H2.out.2.1; omega
          refine ⟨_, us, y, by rw [LT.val_eq], (HRS.out.trans HRES.out).symm, HI.out.row.turned hE.2 hne, fun b hb => ?_, ?_⟩
          · have := HI.out.own b hb; have := HE.out; have := H2.out.2.1; omega
          · exact (H2.out.1.step HI.out.turned (fun i hi e => by have := HE.out; omega)).step hE.2 (fun i hi e => by have := HE.out; omega)
        have HFIN := Lib.hid hfin
        clear hfin hyin
        rcases isDot_no hd with h | ⟨h, h'⟩ | ⟨h, h', h''⟩
        · have t1 : (y.kind == 2) = false := by simp [h]
          clear h hd
          go_wp2_with fail
          obtain ⟨d0, d1, d2, d3, f0, f1, f2, f3⟩ := cells4 HB1.out
          obtain ⟨q0, q1, q2, q3, _⟩ := cells4 HB0.out
          have hF := HFIN.out (fun _ => undef) ((((((wr.setCell ⟨B1, 0, none⟩ (.int .i64 y.kind)).setCell ⟨B1, 1, none⟩ (.int .i64 y.n)).setCell ⟨B1, 2, none⟩ (.string y.name)).setCell ⟨B1, 3, none⟩ (.slice y.at_.1 y.args.length y.at_.2))).drew) ⟨set4 HB1.out, (((((Turned.refl (fun k => k = B1) wr).setCell (p := ⟨B1, 0, none⟩) (.inr rfl) _).setCell (p := ⟨B1, 1, none⟩) (.inr rfl) _).setCell (p := ⟨B1, 2, none⟩) (.inr rfl) _).setCell (p := ⟨B1, 3, none⟩) (.inr rfl) _).drew⟩
          go_region
          all_goals
            go_ways
            go_wp2_with fail
            exact bodyPost_ret (results_tmp_cell Try.results46 _ _ B1 27 _ (0, 0) _ rfl (set4 HB1.out) Try.underlying27 rfl (by kernel_rfl)) rfl hF
        · have t1 : (y.kind == 2) = true := by simp [h]
          have t2 : (y.name.toList == [46]) = false := dot_neq h'
          clear h h' hd
          go_wp2_with fail
          obtain ⟨d0, d1, d2, d3, f0, f1, f2, f3⟩ := cells4 HB1.out
          obtain ⟨q0, q1, q2, q3, _⟩ := cells4 HB0.out
          have hF := HFIN.out (fun _ => undef) ((((((wr.setCell ⟨B1, 0, none⟩ (.int .i64 y.kind)).setCell ⟨B1, 1, none⟩ (.int .i64 y.n)).setCell ⟨B1, 2, none⟩ (.string y.name)).setCell ⟨B1, 3, none⟩ (.slice y.at_.1 y.args.length y.at_.2))).drew) ⟨set4 HB1.out, (((((Turned.refl (fun k => k = B1) wr).setCell (p := ⟨B1, 0, none⟩) (.inr rfl) _).setCell (p := ⟨B1, 1, none⟩) (.inr rfl) _).setCell (p := ⟨B1, 2, none⟩) (.inr rfl) _).setCell (p := ⟨B1, 3, none⟩) (.inr rfl) _).drew⟩
          go_region
          all_goals
            go_ways
            go_wp2_with fail
            exact bodyPost_ret (results_tmp_cell Try.results46 _ _ B1 27 _ (0, 0) _ rfl (set4 HB1.out) Try.underlying27 rfl (by kernel_rfl)) rfl hF
        · have t1 : (y.kind == 2) = true := by simp [h]
          have t2 : (y.name.toList == [46]) = true := dot_eq h'
          have t3 : ((y.args.length : Int) == 2) = false := by simp; omega
          clear h h' h'' hd
          go_wp2_with fail
          obtain ⟨d0, d1, d2, d3, f0, f1, f2, f3⟩ := cells4 HB1.out
          obtain ⟨q0, q1, q2, q3, _⟩ := cells4 HB0.out
          have hF := HFIN.out (fun _ => undef) ((((((wr.setCell ⟨B1, 0, none⟩ (.int .i64 y.kind)).setCell ⟨B1, 1, none⟩ (.int .i64 y.n)).setCell ⟨B1, 2, none⟩ (.string y.name)).setCell ⟨B1, 3, none⟩ (.slice y.at_.1 y.args.length y.at_.2))).drew) ⟨set4 HB1.out, (((((Turned.refl (fun k => k = B1) wr).setCell (p := ⟨B1, 0, none⟩) (.inr rfl) _).setCell (p := ⟨B1, 1, none⟩) (.inr rfl) _).setCell (p := ⟨B1, 2, none⟩) (.inr rfl) _).setCell (p := ⟨B1, 3, none⟩) (.inr rfl) _).drew⟩
          go_region
          all_goals
            go_ways
            go_wp2_with fail
            exact bodyPost_ret (results_tmp_cell Try.results46 _ _ B1 27 _ (0, 0) _ rfl (set4 HB1.out) Try.underlying27 rfl (by kernel_rfl)) rfl hF
end Go.Proofs.Ytoihjobdfjajfaa

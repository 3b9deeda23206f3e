/- Merged texts: RL5, BD7, BD8, BD9, BD4, BD6, BD10, Deeps, AL7, BE1, DB2, DB3, DB4, DB5, DB6, DP1, DL1, DB7, DB8, DW0. -/
import Derived.Test.YtoihjobdfjajfaaUp2
import Derived.Laws.MakeOwn
import Derived.Deep.OwnRows
import Derived.Laws.OwnMore
import Derived.Deep.RegionLaw
import Derived.Deep.RegionHeld3
import Derived.Deep.DrawnRows
import Derived.Deep.DeepCutAuto
import Derived.Deep.CutBlock
namespace Go.Proofs.Ytoihjobdfjajfaa
set_option linter.unusedVariables false
set_option linter.unusedSimpArgs false
open Go.RowKit Go.Maps
def blanks (n : Nat) : List LT := List.replicate n (leaf 0 0 ByteArray.empty)
theorem made_blanks (n : Nat) : (madeCells zeroR.cells (n * 4)).toList = (blanks n).flatMap LT.cells := by
  refine List.ext_getElem? (fun k => ?_)
  have hl : ((blanks n).flatMap LT.cells).length = n * 4 := by rw [LT.flat_length]; unfold blanks; rw [List.length_replicate]
  by_cases hk : k < n * 4
  · have hi : (blanks n)[k / 4]? = some (leaf 0 0 ByteArray.empty) := by
      unfold blanks
      rw [List.getElem?_replicate, if_pos (by omega)]
    have h := LT.flat_at hi (k % 4) (by omega)
    rw [show k / 4 * 4 + k % 4 = k from by omega] at h
    rw [h]
    unfold madeCells
    rw [Array.toList_map, Array.toList_range, List.getElem?_map, List.getElem?_range hk]
    have h4 : k % 4 = 0 ∨ k % 4 = 1 ∨ k % 4 = 2 ∨ k % 4 = 3 := by omega
    have hz : zeroR.cells.size = 4 := rfl
    show some (zeroR.cells[k % zeroR.cells.size]!) = _
    rw [hz]
    rcases h4 with h4 | h4 | h4 | h4 <;> rw [h4] <;> rfl
  · refine (List.getElem?_eq_none ?_).trans (List.getElem?_eq_none (by rw [hl]; omega)).symm
    unfold madeCells
    simp
    omega
theorem blanks_length (n : Nat) : (blanks n).length = n := by unfold blanks; rw [List.length_replicate]
theorem make_blanks (n : Nat) (hn : n ≤ 1000) (W : World) : (Instr.makeSlice 39 (.int .i64 n) (.int .i64 n)).run Try.prog W = .ok (.slice (some ⟨W.heap.size, 0, none⟩) n n) (W.alloc (.cells (madeCells zeroR.cells (n * 4)) 41)) ∧
    Row (W.alloc (.cells (madeCells zeroR.cells (n * 4)) 41)) 41 4 (.slice (some ⟨W.heap.size, 0, none⟩) n n) n ((blanks n).flatMap LT.cells) := by
  obtain ⟨i0, hi0, hz0, hz1, hz2⟩ := info_parts infoR
  refine ⟨?_, ?_⟩
  · have h := run_make (P := Try.prog) W 39 41 i0 zeroR Try.underlying39 hi0 hz0 .i64 .i64 n n (by omega) (Int.le_refl _) (by rw [hz2]; omega) (by omega)
    rw [hz1] at h
    simpa using h
  · have h := Row.made W 41 4 (madeCells zeroR.cells (n * 4)) n (size_madeCells _ _) (by unfold maxLen; omega)
    rw [made_blanks] at h
    exact h
theorem blanks_in (n : Nat) (p : Nat → Prop) (w : World) : LT.Ins p w (blanks n) := by
  rw [LT.ins_iff]
  intro x hx
  unfold blanks at hx
  rw [List.eq_of_mem_replicate hx]
  exact leafIn' (i64_lit _ (by omega)) (i64_lit _ (by omega)) (by unfold maxLen; decide)
structure RenI (p : Nat → Prop) (σ : Tm Unit → Tm Unit) (G : Nat) (t : LT) (w3 : World) (j : Nat) (us : List LT) (W : World) : Prop where
  len : us.length = t.args.length
  bares : (us.take j).map Tm.bare = (t.args.take j).map fun x => σ x.bare
  row : Row W 41 4 (.slice (some ⟨G, 0, none⟩) t.args.length t.args.length) t.args.length (us.flatMap LT.cells)
  ins : LT.Ins (fun k => p k ∨ G + 1 ≤ k) W us
  turned : Turned (fun k => k = G) w3 W
theorem RenI.put {p : Nat → Prop} {σ : Tm Unit → Tm Unit} {G : Nat} {t x u : LT} {w3 W W7 : World} {j : Nat} {us : List LT} (h : RenI p σ G t w3 j us W) (hp : ∀ k, p k → k < G) (hG : G < W.heap.size) (hx : t.args[j]? = some x) (hb : u.bare = σ x.bare) (hu : u.In (fun k => p k ∨ W.heap.size ≤ k) W7) (hT : Turned (fun _ => False) W W7) :
    RenI p σ G t w3 (j + 1) (us.set j u) ((((W7.setCell ⟨G, j * 4, none⟩ (.int .i64 u.kind)).setCell ⟨G, j * 4 + 1, none⟩ (.int .i64 u.n)).setCell ⟨G, j * 4 + 2, none⟩ (.string u.name)).setCell ⟨G, j * 4 + 3, none⟩ (.slice u.at_.1 u.args.length u.at_.2)) := by
  have hjl : j < t.args.length := (List.getElem?_eq_some_iff.1 hx).1
  have hju : j < us.length := by rw [h.len]; exact hjl
  have Tq : Turned (fun k => k = G) W7 ((((W7.setCell ⟨G, j * 4, none⟩ (.int .i64 u.kind)).setCell ⟨G, j * 4 + 1, none⟩ (.int .i64 u.n)).setCell ⟨G, j * 4 + 2, none⟩ (.string u.name)).setCell ⟨G, j * 4 + 3, none⟩ (.slice u.at_.1 u.args.length u.at_.2)) :=
    ((((Turned.refl (fun k => k = G) W7).setCell (p := ⟨G, j * 4, none⟩) (.inr rfl) _).setCell (p := ⟨G, j * 4 + 1, none⟩) (.inr rfl) _).setCell (p := ⟨G, j * 4 + 2, none⟩) (.inr rfl) _).setCell (p := ⟨G, j * 4 + 3, none⟩) (.inr rfl) _
  refine ⟨by rw [List.length_set]; exact h.len, ?_, ?_, ?_, (h.turned.trans (hT.mono (fun _ _ f => f.elim))).trans Tq⟩
  · have e1 : (us.set j u).take (j + 1) = us.take j ++ [u] := by
      rw [List.take_add_one, List.take_set, List.getElem?_set_self hju]
      rw [List.set_eq_of_length_le (by rw [List.length_take]; omega)]
      rfl
    have e2 : t.args.take (j + 1) = t.args.take j ++ [x] := by rw [List.take_add_one, hx]; rfl
    rw [e1, e2, List.map_append, List.map_append, h.bares]
    simp [hb]
  · have hr := h.row.turned0 hT
    have r1 := hr.setAt (off := j * 4) (by omega) (.int .i64 u.kind)
    have r2 := r1.setAt (off := j * 4 + 1) (by omega) (.int .i64 u.n)
    have r3 := r2.setAt (off := j * 4 + 2) (by omega) (.string u.name)
    have r4 := r3.setAt (off := j * 4 + 3) (by omega) (.slice u.at_.1 u.args.length u.at_.2)
    rw [flat_set hju] at r4
    exact r4
  · rw [LT.ins_iff]
    intro y hy
    have keep : ∀ z : LT, z.In (fun k => p k ∨ G + 1 ≤ k) W7 → z.In (fun k => p k ∨ G + 1 ≤ k) _ := fun z hz => LT.In.turned Tq (fun k _ hk e => by
      rcases hk with hk | hk
      · have := hp k hk; omega
      · omega) (fun _ _ hk => hk) z hz
    refine keep y ?_
    rcases List.mem_or_eq_of_mem_set hy with hy | rfl
    · exact ((LT.ins_iff _).1 h.ins y hy).turned0 hT
    · exact hu.mono (fun k _ hk => hk.elim .inl (fun hk => .inr (by omega)))
theorem ren_noargs {s : Int → Int} {t : Tm Unit} (hk : ¬ t.kind = 0) (ha : t.args = []) : Tm.ren s t = t := by
  cases t with | mk k n nm e aa =>
  simp only [Tm.args] at ha
  subst ha
  unfold Tm.ren
  simp only [Tm.kind] at hk
  simp only [Tm.subT, if_neg hk, Tm.subTs]
theorem ren_args {s : Int → Int} {t : LT} (hg : goodOneB t = true) (ha : ¬ t.args = []) : Tm.ren s t.bare = .mk 2 0 t.name () (t.args.map fun x => Tm.ren s x.bare) := by
  obtain ⟨h1, h2, _⟩ := Tm.one_args hg ha
  cases t with | mk k n nm e aa =>
  simp only [Tm.kind, Tm.n] at h1 h2
  subst h1 h2
  unfold Tm.ren
  simp only [Tm.bare, Tm.subT]
  rw [if_neg (by omega), Tm.subTs_eq, Tm.bares_eq, List.map_map]
  rfl
theorem ren_var {s : Int → Int} {t : LT} (hg : goodOneB t = true) (hk : t.kind = 0) : Tm.ren s t.bare = Tm.V (s t.n) := by
  rw [goodOneB_0 t hk] at hg
  cases t with | mk k n nm e aa =>
  simp only [Tm.kind] at hk
  subst hk
  unfold Tm.ren
  simp only [Tm.bare, Tm.subT, if_pos, Tm.n]
theorem row_some {w : World} {e : TypeId} {size n g cap : Nat} {xs : List Value} (h : Row w e size (.slice (some ⟨g, 0, none⟩) n cap) n xs) (k : Nat) (hk : k < n * size) : ∃ z, w.cell? ⟨g, k, none⟩ = some z :=
  ⟨_, h.cells rfl k _ (List.getElem?_eq_getElem (by rw [h.1]; exact hk))⟩
def RenL (vs : List Int) (n : Int) (w2 : World) (q : Nat) (i : Value) (wr : World) : Prop := ∃ j : Nat, Hid (j + q = vs.length) ∧ j ≤ vs.length ∧ i = .int .i64 j ∧ Hid (∀ k, k < j → vs[k]? ≠ some n) ∧ Turned (fun _ => False) w2 wr
set_option maxRecDepth 100000 in
set_option maxHeartbeats 3200000 in
theorem rename140 {vs : List Int} {first : Int} {va : Option Addr} {vc : Nat} (hf0 : 0 ≤ first) (hf1 : first ≤ 2147483648) (hvl : vs.length ≤ 2000) (n : Nat) : ∀ (p : Nat → Prop) (t : LT) (w : World), t.depth ≤ n → t.In p w → (∀ x ∈ t.flat, goodOneB x = true) → (∀ x ∈ t.flat, x.kind = 0 → x.n ∈ vs) → Row w 2 1 (.slice va vs.length vc) vs.length (vs.map (Value.int .i64)) →
    Calls Try.prog 140 #[t.val, .slice va vs.length vc, .int .i64 first] w fun e w' => ∃ u : LT, e = .returned u.val ∧ u.bare = Tm.ren (Tm.fromS vs first) t.bare ∧ u.In (fun k => p k ∨ w.heap.size ≤ k) w' ∧ Turned (fun _ => False) w w' := by
  induction n with
  | zero => intro p t w h; have := Tm.depth_pos t; omega
  | succ n ih =>
    intro p t w hd ht hg hn hrow
    have h2 := twoBox w (.cells #[.int .i64 t.kind, .int .i64 t.n, .string t.name, .slice t.at_.1 t.args.length t.at_.2] 41) (.cells #[.int .i64 0, .int .i64 0, .string ⟨#[]⟩, .slice none 0 0] 41)
    have hself : t ∈ t.flat := by rw [Tm.flat_eq]; exact List.mem_cons_self ..
    have hg1 := hg t hself
    by_cases hk : t.kind = 0
    · have k0 : (t.kind == 0) = true := by simp [hk]
      have hmem := hn t hself hk
      have hrv := ren_var (s := Tm.fromS vs first) hg1 hk
      obtain ⟨tn, htn⟩ : ∃ z, z = t.n := ⟨_, rfl⟩
      rw [← htn] at hmem hrv h2
      have HRV := Lib.hid hrv
      have HM := Lib.hid hmem
      have HROW := Lib.hid (hrow.turned0 h2.1)
      have H2 := Lib.hid h2
      have hmax := hrow.max
      rw [LT.val_eq t, ← htn]
      clear ih hd ht hg hn hrow hg1 hk hself hmem hrv htn
      obtain ⟨c0, c1, c2, c3, _⟩ := cells4 h2.2.2.1
      clear h2
      go_enter Try.func140, Try.ntmps140
      go_wp2_with fail
      revert H2 HROW
      generalize ((w.alloc (.cells #[.int .i64 t.kind, .int .i64 tn, .string t.name, .slice t.at_.1 t.args.length t.at_.2] 41)).alloc (.cells #[.int .i64 0, .int .i64 0, .string ⟨#[]⟩, .slice none 0 0] 41)) = w2
      intro HROW H2
      clear c0 c1 c2 c3
      go_loopg [7] vs.length (fun q i wr => RenL vs tn w2 q i wr)
      case atStart => exact ⟨0, Nat.zero_add _, Nat.zero_le _, rfl, fun k hk => absurd hk (Nat.not_lt_zero k), Turned.refl _ _⟩
      case round =>
        obtain ⟨j, HG, hj, rfl, HNO, hT⟩ := hrel
        by_cases hjl : j < vs.length
        · obtain ⟨x, hx⟩ : ∃ x, vs[j]? = some x := ⟨_, List.getElem?_eq_getElem hjl⟩
          have hrw := HROW.out.turned0 hT
          obtain ⟨gv, cap, he⟩ := hrw.shape_pos (by omega)
          injection he with e1 _ e3
          subst e1 e3
          have hcv := hrw.cells rfl j (.int .i64 x) (by rw [List.getElem?_map, hx]; rfl)
          obtain ⟨c0, c1, c2, c3, _⟩ := cells4 ((hT.block _ (Array.getElem?_eq_some_iff.1 H2.out.2.2.1).1 (fun f => f)).trans H2.out.2.2.1)
          have HX := Lib.hid hx
          clear hx hrw
          by_cases hxt : x = tn
          · have hb : (x == tn) = true := by simp [hxt]
            have hpos := posOf_first (n := tn) (j := j) (by rw [HX.out, hxt]) HNO.out
            have HP := Lib.hid hpos
            have hb1 := (hT.block _ (Array.getElem?_eq_some_iff.1 H2.out.2.2.2).1 (fun f => f)).trans H2.out.2.2.2
            obtain ⟨d0, d1, d2, d3, f0, f1, f2, f3⟩ := cells4 hb1
            have HB1 := Lib.hid hb1
            clear hpos hxt hb1
            go_wp2_with fail
            go_quiet (fail)
            go_wp2_with fail
            have hb2 : (wr.drewN nq).heap[w.heap.size + 1]? = _ := HB1.out
            have hset := set4 (a' := .int .i64 0) (b' := .int .i64 (first + j)) (c' := .string ⟨#[]⟩) (d' := .slice none 0 0) hb2
            have T4 := turned4 (a := .int .i64 0) (b := .int .i64 (first + j)) (c := .string ⟨#[]⟩) (d := .slice none 0 0) ((H2.out.1.trans hT).drewN nq) (g := w.heap.size + 1) (by omega)
            refine bodyPost_ret (v := .agg #[.int .i64 0, .int .i64 (first + j), .string ⟨#[]⟩, .slice none 0 0]) (results_cell_row Try.results140 _ _ (w.heap.size + 1) 41 _ (0, 0) _ rfl hset Try.underlying41 rfl (by kernel_rfl)) rfl ⟨leaf 0 (first + j) ByteArray.empty, rfl, ?_, leafIn' (i64_lit _ (by omega)) (by unfold I64; omega) (by unfold maxLen; decide), T4⟩
            rw [HRV.out, Tm.fromS, HP.out]
            rfl
          · have hb : (x == tn) = false := by simp [hxt]
            have HNE := Lib.hid hxt
            clear hxt
            go_wp2_with fail
            go_quiet (fail)
            go_wp2_with fail
            go_roundg (gk - 1)
            case measure => have := HG.out; omega
            case rel => exact ⟨j + 1, show _ = _ by have := HG.out; omega, by omega, by go_num, fun k hk e => by
                rcases Nat.lt_or_ge k j with h | h
                · exact HNO.out k h e
                · obtain rfl : k = j := by omega
                  rw [HX.out] at e
                  injection e with e
                  exact HNE.out e, hT.drewN nq⟩
        · exfalso
          obtain ⟨k, hk⟩ := List.getElem?_of_mem HM.out
          have := (List.getElem?_eq_some_iff.1 hk).1
          exact HNO.out k (by omega) hk
    · have k0 : (t.kind == 0) = false := by simp [hk]
      by_cases ha : t.args = []
      · have hl : t.args.length = 0 := by rw [ha]; rfl
        have hren : Tm.ren (Tm.fromS vs first) t.bare = t.bare := ren_noargs (by rw [Tm.bare_kind]; exact hk) (by rw [Tm.bare_args, ha]; rfl)
        have HREN := Lib.hid hren
        have HIN := Lib.hid (LT.val_eq t)
        have HT := Lib.hid ht
        have H2 := Lib.hid h2
        rw [LT.val_eq t, hl]
        have hb0 := h2.2.2.1
        rw [hl] at hb0
        obtain ⟨c0, c1, c2, c3, _⟩ := cells4 hb0
        have hb1 := h2.2.2.2
        rw [hl] at hb1
        obtain ⟨d0, d1, d2, d3, f0, f1, f2, f3⟩ := cells4 hb1
        have HB1 := Lib.hid hb1
        have HA := Lib.hid hl
        clear ih hd ht hg hn hrow hg1 hk hself hren ha hl h2 hb0 hb1
        go_enter Try.func140, Try.ntmps140
        go_wp2_with fail
        have h2' := twoBox w (.cells #[.int .i64 t.kind, .int .i64 t.n, .string t.name, .slice t.at_.1 0 t.at_.2] 41) (.cells #[.int .i64 t.kind, .int .i64 t.n, .string t.name, .slice t.at_.1 0 t.at_.2] 41)
        have hset := h2'.2.2.2
        have T4 := h2'.1
        refine bodyPost_ret (v := .agg #[.int .i64 t.kind, .int .i64 t.n, .string t.name, .slice t.at_.1 0 t.at_.2]) (results_cell_row Try.results140 _ _ (w.heap.size + 1) 41 _ (0, 0) _ rfl hset Try.underlying41 rfl (by kernel_rfl)) rfl ⟨t, ?_, ?_, ?_, T4⟩
        · rw [HIN.out, HA.out]
        · rw [HREN.out]
        · exact (HT.out.turned0 T4).mono (fun k _ h => .inl h)
      · have hlen : t.args.length ≤ 8 := (Tm.one_args hg1 ha).2.2
        have hkn := Tm.one_args hg1 ha
        have hren := ren_args (s := Tm.fromS vs first) hg1 ha
        have hlp : 0 < t.args.length := by
          rcases Nat.eq_zero_or_pos t.args.length with h | h
          · exact absurd (List.eq_nil_of_length_eq_zero h) ha
          · exact h
        have hmk := fun W => (make_blanks t.args.length (by omega) W).1
        have HMK := Lib.hid (fun W => (make_blanks t.args.length (by omega) W).2)
        obtain ⟨p', hp'⟩ : ∃ q : Nat → Prop, q = fun k => p k ∧ k < w.heap.size := ⟨_, rfl⟩
        have HPL : Hid (∀ k, p' k → p k ∧ k < w.heap.size) := by intro k hq; rw [hp'] at hq; exact hq
        have ht' : t.In p' w := ht.mono (fun k hk h => by rw [hp']; exact ⟨h, hk⟩)
        have hcall : ∀ x : LT, x ∈ t.args → ∀ W, Turned (fun _ => False) w W → Calls Try.prog 140 #[x.val, .slice va vs.length vc, .int .i64 first] W fun e w' => ∃ u : LT, e = .returned u.val ∧ u.bare = Tm.ren (Tm.fromS vs first) x.bare ∧ u.In (fun k => p' k ∨ W.heap.size ≤ k) w' ∧ Turned (fun _ => False) W w' := fun x hx W hW =>
          ih p' x W (by have := arg_depth hx; omega) ((LT.ins_iff _).1 (ht'.turned0 hW).args x hx) (fun y hy => hg y (by rw [Tm.flat_eq]; exact List.mem_cons_of_mem _ (mem_flats_arg hx hy))) (fun y hy => hn y (by rw [Tm.flat_eq]; exact List.mem_cons_of_mem _ (mem_flats_arg hx hy))) (hrow.turned0 hW)
        have HC := Lib.hid hcall
        have HIN := Lib.hid ht'
        have HREN := Lib.hid hren
        have HKN := Lib.hid hkn
        have hL := fun W h => (LT.In.lies (p := p') (w := W) (t := t) h)
        rw [LT.val_eq]
        obtain ⟨ad, had⟩ : ∃ z, z = t.at_.1 := ⟨_, rfl⟩
        obtain ⟨cd, hcd⟩ : ∃ z, z = t.at_.2 := ⟨_, rfl⟩
        rw [← had] at hL h2
        rw [← hcd] at h2
        rw [← had, ← hcd]
        have HL := Lib.hid hL
        have H2 := Lib.hid h2
        obtain ⟨c0, c1, c2, c3, _⟩ := cells4 h2.2.2.1
        have hal : (t.args.length == 0) = false := by simp; omega
        have hal2 : ((t.args.length : Int) == 0) = false := by simp; omega
        clear ih hd ht ht' hg hn hrow hg1 hk hself hcall hren hkn had hcd hp' hL ha h2
        generalize hZZ : madeCells zeroR.cells (t.args.length * 4) = ZZ at hmk HMK
        clear hZZ
        go_enter Try.func140, Try.ntmps140
        go_wp2_with fail
        have HR0 := HMK.out ((w.alloc (.cells #[.int .i64 t.kind, .int .i64 t.n, .string t.name, .slice ad t.args.length cd] 41)).alloc (.cells #[.int .i64 0, .int .i64 0, .string ⟨#[]⟩, .slice none 0 0] 41))
        have HT0 := (Turned.refl (fun _ => False) ((w.alloc (.cells #[.int .i64 t.kind, .int .i64 t.n, .string t.name, .slice ad t.args.length cd] 41)).alloc (.cells #[.int .i64 0, .int .i64 0, .string ⟨#[]⟩, .slice none 0 0] 41))).alloc (.cells ZZ 41)
        have hsz : ((w.alloc (.cells #[.int .i64 t.kind, .int .i64 t.n, .string t.name, .slice ad t.args.length cd] 41)).alloc (.cells #[.int .i64 0, .int .i64 0, .string ⟨#[]⟩, .slice none 0 0] 41)).heap.size = w.heap.size + 2 := H2.out.2.1
        rw [hsz] at HR0
        try rw [hsz]
        have HH := And.intro (Lib.hid HR0) (And.intro (Lib.hid (H2.out.1.trans HT0)) (And.intro (Lib.hid ((HT0.block _ (Array.getElem?_eq_some_iff.1 H2.out.2.2.1).1 (fun f => f)).trans H2.out.2.2.1)) (And.intro (Lib.hid ((HT0.block _ (Array.getElem?_eq_some_iff.1 H2.out.2.2.2).1 (fun f => f)).trans H2.out.2.2.2)) (Lib.hid (show (((w.alloc (.cells #[.int .i64 t.kind, .int .i64 t.n, .string t.name, .slice ad t.args.length cd] 41)).alloc (.cells #[.int .i64 0, .int .i64 0, .string ⟨#[]⟩, .slice none 0 0] 41)).alloc (.cells ZZ 41)).heap.size = w.heap.size + 3 by simp)))))
        clear HR0 HT0 H2 c0 c1 c2 c3 hmk HMK hsz
        revert HH
        generalize ((w.alloc (.cells #[.int .i64 t.kind, .int .i64 t.n, .string t.name, .slice ad t.args.length cd] 41)).alloc (.cells #[.int .i64 0, .int .i64 0, .string ⟨#[]⟩, .slice none 0 0] 41)).alloc (.cells ZZ 41) = w3
        obtain ⟨G, hG⟩ : ∃ z, z = w.heap.size + 2 := ⟨_, rfl⟩
        obtain ⟨B1, hB1⟩ : ∃ z, z = w.heap.size + 1 := ⟨_, rfl⟩
        obtain ⟨B0, hB0⟩ : ∃ z, z = w.heap.size := ⟨_, rfl⟩
        rw [← hG, ← hB1]
        try rw [← hB0]
        intro HH
        obtain ⟨HR0, HT0, HB0, HB1, HS⟩ := HH
        have HE := Lib.hid (And.intro hG (And.intro hB1 hB0))
        clear hG hB1 hB0
        have hinit : Hid (RenI p' (Tm.ren (Tm.fromS vs first)) G t w3 0 (blanks t.args.length) w3) := ⟨blanks_length _, rfl, HR0.out, blanks_in _ _ _, Turned.refl _ _⟩
        go_loopg [9] t.args.length (fun q i wr => ∃ j : Nat, Hid (j + q = t.args.length) ∧ j ≤ t.args.length ∧ i = .int .i64 j ∧ ∃ us, Hid (RenI p' (Tm.ren (Tm.fromS vs first)) G t w3 j us wr))
        case atStart => exact ⟨0, Nat.zero_add _, Nat.zero_le _, rfl, _, hinit⟩
        case round =>
          obtain ⟨j, HG, hj, rfl, us, HOR⟩ := hrel
          have HTw : Hid (Turned (fun _ => False) w wr) := HT0.out.step HOR.out.turned (fun i hi e => by have := HE.out; omega)
          have hb0 := (HOR.out.turned.block _ (Array.getElem?_eq_some_iff.1 HB0.out).1 (fun e => by have := HE.out; omega)).trans HB0.out
          obtain ⟨c0, c1, c2, c3, _⟩ := cells4 hb0
          clear hb0
          by_cases hjl : j < t.args.length
          · obtain ⟨x, hx⟩ : ∃ x : LT, t.args[j]? = some x := ⟨_, List.getElem?_eq_getElem hjl⟩
            have tin := HIN.out.turned0 HTw.out
            obtain ⟨b, o, rfl, _, x0, x1, x2, x3⟩ := (HL.out _ tin).cell hx
            have hcx := HC.out x (List.mem_of_getElem? hx) wr HTw.out
            rw [LT.val_eq x] at hcx
            have HCX := Lib.hid hcx
            have HX := Lib.hid hx
            clear hx hcx tin
            go_wp2_with (go_at_call 140; (with_reducible refine HCX.out.mono ?_); rintro e w7 ⟨u, rfl, hub, hui, T7⟩; rw [LT.val_eq u]; have hI := HOR.out.put (fun k hk => by have := (HPL.out k hk).2; have := HE.out; omega) (by have := HOR.out.turned.size; have := HS.out; have := HE.out; omega) HX.out hub hui T7; have hrw := HOR.out.row.turned0 T7; have f0 := hrw.free rfl (j * 4); have f1 := hrw.free rfl (j * 4 + 1); have f2 := hrw.free rfl (j * 4 + 2); have f3 := hrw.free rfl (j * 4 + 3); have g0 := row_some hrw (j * 4) (by omega); have g1 := row_some hrw (j * 4 + 1) (by omega); have g2 := row_some hrw (j * 4 + 2) (by omega); have g3 := row_some hrw (j * 4 + 3) (by omega); obtain ⟨z0, g0⟩ := g0; obtain ⟨z1, g1⟩ := g1; obtain ⟨z2, g2⟩ := g2; obtain ⟨z3, g3⟩ := g3; have HI := Lib.hid hI; clear hI hrw hub hui)
            go_roundg (gk - 1)
            case measure => have := HG.out; omega
            case rel => exact ⟨j + 1, show _ = _ by have := HG.out; omega, by omega, by go_num, _, HI⟩
          · obtain rfl : j = t.args.length := by omega
            have hb1 := (HOR.out.turned.block _ (Array.getElem?_eq_some_iff.1 HB1.out).1 (fun e => by have := HE.out; omega)).trans HB1.out
            have HBX := Lib.hid hb1
            clear hb1
            go_wp2_with (go_at_call 160; (with_reducible refine (rComp160 _ _ _ _ _).mono ?_); rintro e w7 ⟨rfl, T7⟩; have hb1 := (T7.block _ (Array.getElem?_eq_some_iff.1 HBX.out).1 (fun f => f)).trans HBX.out; obtain ⟨d0, d1, d2, d3, f0, f1, f2, f3⟩ := cells4 hb1; have HB7 := Lib.hid hb1; clear hb1)
            have hset := set4 (a' := .int .i64 2) (b' := .int .i64 0) (c' := .string t.name) (d' := .slice (some ⟨G, 0, none⟩) t.args.length t.args.length) HB7.out
            have hge : w.heap.size ≤ B1 := by have := HE.out; omega
            have T4 := turned4 (a := .int .i64 2) (b := .int .i64 0) (c := .string t.name) (d := .slice (some ⟨G, 0, none⟩) t.args.length t.args.length) (HTw.out.trans T7) hge
            refine bodyPost_ret (v := .agg #[.int .i64 2, .int .i64 0, .string t.name, .slice (some ⟨G, 0, none⟩) t.args.length t.args.length]) (results_cell_row Try.results140 _ _ B1 41 _ (0, 0) _ rfl hset Try.underlying41 rfl (by kernel_rfl)) rfl ?_
            have hne : ∀ q, (Value.slice (some ⟨G, 0, none⟩) t.args.length t.args.length).ownBlock ≠ some (Addr.block ⟨B1, q, none⟩) := fun q e => by simp [Value.ownBlock] at e; have := HE.out; omega
            have hrow := (((((HOR.out.row.turned0 T7).setCell (hne 0) (.int .i64 2)).setCell (hne 1) (.int .i64 0)).setCell (hne 2) (.string t.name)).setCell (hne 3) (.slice (some ⟨G, 0, none⟩) t.args.length t.args.length))
            have Tq : Turned (fun k => k = B1) w7 _ := ((((Turned.refl (fun k => k = B1) w7).setCell (p := ⟨B1, 0, none⟩) (.inr rfl) (.int .i64 2)).setCell (p := ⟨B1, 1, none⟩) (.inr rfl) (.int .i64 0)).setCell (p := ⟨B1, 2, none⟩) (.inr rfl) (.string t.name)).setCell (p := ⟨B1, 3, none⟩) (.inr rfl) (.slice (some ⟨G, 0, none⟩) t.args.length t.args.length)
            have hpl := HPL.out
            have hins := (HOR.out.ins.turned0 T7).turned (q := fun k => p k ∨ w.heap.size ≤ k) Tq (fun k _ hk e => by
              have := HE.out
              rcases hk with h | h
              · have := (hpl k h).2; omega
              · omega) (fun k _ hk => by
              have := HE.out
              rcases hk with h | h
              · exact .inl (hpl k h).1
              · exact .inr (by omega))
            obtain ⟨e1, e2⟩ := LT.Sl.of_row (p := fun k => p k ∨ w.heap.size ≤ k) hrow (fun k hk => .inr (by simp [Value.ownBlock] at hk; have := HE.out; omega)) hins
            have hUL : us.length = t.args.length := HOR.out.len
            refine ⟨.mk 2 0 t.name (some ⟨G, 0, none⟩, t.args.length) us, ?_, ?_, e2.in_ (i64_lit _ (by omega)) (i64_lit _ (by omega)) HIN.out.name, T4⟩
            · show _ = Ending.returned (LT.val (.mk 2 0 t.name (some ⟨G, 0, none⟩, t.args.length) us))
              rw [LT.val_eq]
              show _ = Ending.returned (.agg #[.int .i64 2, .int .i64 0, .string t.name, .slice (some ⟨G, 0, none⟩) us.length t.args.length])
              rw [hUL]
            · have hbr := HOR.out.bares
              rw [List.take_length, ← hUL, List.take_length] at hbr
              rw [HREN.out, Tm.bare, Tm.bares_eq, hbr]
end Go.Proofs.Ytoihjobdfjajfaa
namespace Go.Proofs.Ytoihjobdfjajfaa
set_option linter.unusedVariables false
set_option linter.unusedSimpArgs false
open Go.RowKit Go.Maps
theorem made_blanksT (n : Nat) : (madeCells zeroT.cells (n * 4)).toList = (blanks n).flatMap LT.cells := made_blanks n
theorem make_blanksT (n : Nat) (hn : n ≤ 1000) (W : World) : (Instr.makeSlice 22 (.int .i64 n) (.int .i64 n)).run Try.prog W = .ok (.slice (some ⟨W.heap.size, 0, none⟩) n n) (W.alloc (.cells (madeCells zeroT.cells (n * 4)) 27)) ∧
    Row (W.alloc (.cells (madeCells zeroT.cells (n * 4)) 27)) 27 4 (.slice (some ⟨W.heap.size, 0, none⟩) n n) n ((blanks n).flatMap LT.cells) := by
  obtain ⟨i0, hi0, hz0, hz1, hz2⟩ := info_parts infoT
  refine ⟨?_, ?_⟩
  · have h := run_make (P := Try.prog) W 22 27 i0 zeroT Try.underlying22 hi0 hz0 .i64 .i64 n n (by omega) (Int.le_refl _) (by rw [hz2]; omega) (by omega)
    rw [hz1] at h
    simpa using h
  · have h := Row.made W 27 4 (madeCells zeroT.cells (n * 4)) n (size_madeCells _ _) (by unfold maxLen; omega)
    rw [made_blanksT] at h
    exact h
structure MakI (p : Nat → Prop) (σ : Tm Unit → Tm Unit) (G K : Nat) (t : LT) (w3 : World) (j : Nat) (us : List LT) (W : World) : Prop where
  len : us.length = t.args.length
  bares : (us.take j).map Tm.bare = (t.args.take j).map fun x => σ x.bare
  row : Row W 27 4 (.slice (some ⟨G, 0, none⟩) t.args.length t.args.length) t.args.length (us.flatMap LT.cells)
  ins : LT.Ins (fun k => p k ∨ G + 1 ≤ k) W us
  turned : Turned (fun k => k = G ∨ k = K) w3 W
theorem MakI.put {p : Nat → Prop} {σ : Tm Unit → Tm Unit} {G K : Nat} {t x u : LT} {w3 W W7 : World} {j : Nat} {us : List LT} (h : MakI p σ G K t w3 j us W) (hp : ∀ k, p k → k < G ∧ k ≠ K) (hKG : K < G) (hG : G < W.heap.size) (hx : t.args[j]? = some x) (hb : u.bare = σ x.bare) (hu : u.In (fun k => p k ∨ W.heap.size ≤ k) W7) (hT : Turned (fun k => k = K) W W7) :
    MakI p σ G K t w3 (j + 1) (us.set j u) ((((W7.setCell ⟨G, j * 4, none⟩ (.int .i64 u.kind)).setCell ⟨G, j * 4 + 1, none⟩ (.int .i64 u.n)).setCell ⟨G, j * 4 + 2, none⟩ (.string u.name)).setCell ⟨G, j * 4 + 3, none⟩ (.slice u.at_.1 u.args.length u.at_.2)) := by
  have hjl : j < t.args.length := (List.getElem?_eq_some_iff.1 hx).1
  have hju : j < us.length := by rw [h.len]; exact hjl
  have Tq : Turned (fun k => k = G) W7 ((((W7.setCell ⟨G, j * 4, none⟩ (.int .i64 u.kind)).setCell ⟨G, j * 4 + 1, none⟩ (.int .i64 u.n)).setCell ⟨G, j * 4 + 2, none⟩ (.string u.name)).setCell ⟨G, j * 4 + 3, none⟩ (.slice u.at_.1 u.args.length u.at_.2)) :=
    ((((Turned.refl (fun k => k = G) W7).setCell (p := ⟨G, j * 4, none⟩) (.inr rfl) _).setCell (p := ⟨G, j * 4 + 1, none⟩) (.inr rfl) _).setCell (p := ⟨G, j * 4 + 2, none⟩) (.inr rfl) _).setCell (p := ⟨G, j * 4 + 3, none⟩) (.inr rfl) _
  refine ⟨by rw [List.length_set]; exact h.len, ?_, ?_, ?_, (h.turned.trans (hT.mono (fun _ _ e => .inr e))).trans (Tq.mono (fun _ _ e => .inl e))⟩
  · have e1 : (us.set j u).take (j + 1) = us.take j ++ [u] := by
      rw [List.take_add_one, List.take_set, List.getElem?_set_self hju]
      rw [List.set_eq_of_length_le (by rw [List.length_take]; omega)]
      rfl
    have e2 : t.args.take (j + 1) = t.args.take j ++ [x] := by rw [List.take_add_one, hx]; rfl
    rw [e1, e2, List.map_append, List.map_append, h.bares]
    simp [hb]
  · have hr := h.row.turned hT (fun k hk e => by simp [Value.ownBlock] at hk; omega)
    have r1 := hr.setAt (off := j * 4) (by omega) (.int .i64 u.kind)
    have r2 := r1.setAt (off := j * 4 + 1) (by omega) (.int .i64 u.n)
    have r3 := r2.setAt (off := j * 4 + 2) (by omega) (.string u.name)
    have r4 := r3.setAt (off := j * 4 + 3) (by omega) (.slice u.at_.1 u.args.length u.at_.2)
    rw [flat_set hju] at r4
    exact r4
  · rw [LT.ins_iff]
    intro y hy
    have keep : ∀ z : LT, z.In (fun k => p k ∨ G + 1 ≤ k) W7 → z.In (fun k => p k ∨ G + 1 ≤ k) _ := fun z hz => LT.In.turned Tq (fun k _ hk e => by
      rcases hk with hk | hk
      · have := hp k hk; omega
      · omega) (fun _ _ hk => hk) z hz
    refine keep y ?_
    rcases List.mem_or_eq_of_mem_set hy with hy | rfl
    · exact LT.In.turned hT (fun k _ hk e => by
        rcases hk with hk | hk
        · exact (hp k hk).2 e
        · omega) (fun _ _ hk => hk) y ((LT.ins_iff _).1 h.ins y hy)
    · exact hu.mono (fun k _ hk => hk.elim .inl (fun hk => .inr (by omega)))
def apart (p : Nat → Prop) (bb sb : Nat) (lv tv : Value) (l : TL) (K : Nat) : Prop := ¬ ownK bb sb lv tv K ∧ (∀ b ∈ l, K ≠ b.2.1) ∧ ¬ p K
def MakeQ (p : Nat → Prop) (bb K : Nat) (l : TL) (t : LT) (s d : Nat) (w : World) (e : Ending) (w' : World) : Prop :=
  ∃ u : LT, e = .returned (.tuple #[u.val, .bool (Tm.makeOk s d (Tm.img (bt l) t.bare))]) ∧ u.In (fun k => p k ∨ w.heap.size ≤ k) w' ∧ (Tm.makeOk s d (Tm.img (bt l) t.bare) = true → u.bare = Tm.img (bt l) t.bare) ∧
    (∃ s' : Int, w'.heap[K]? = some (.cells #[.pointer (some ⟨bb, 0, none⟩), .int .i64 s'] 170 (0, 0)) ∧ (Tm.makeOk s d (Tm.img (bt l) t.bare) = true → s' = ((s + (Tm.img (bt l) t.bare).size : Nat) : Int))) ∧ Turned (fun k => k = K) w w'
end Go.Proofs.Ytoihjobdfjajfaa
namespace Go.Proofs.Ytoihjobdfjajfaa
set_option linter.unusedVariables false
set_option linter.unusedSimpArgs false
open Go.RowKit Go.Maps
structure MkR (w0 : World) (x : LT) (n : Nat) (hs : Hist) (W : World) : Prop where
  t : Turned (fun _ => False) w0 W
  row : ∀ v, (7, v) ∈ hs → ∃ G, v = .slice (some ⟨G, 0, none⟩) n n ∧ w0.heap.size ≤ G ∧ Row W 27 4 v n ((blanks n).flatMap LT.cells)
  agg : ∀ v, (8, v) ∈ hs → ∃ s, (7, s) ∈ hs ∧ v = .agg #[.int .i64 x.kind, .int .i64 0, .string x.name, s]
  box : ∀ v, (9, v) ∈ hs → ∃ B c0 c1 c2 c3, v = ptr B ∧ w0.heap.size ≤ B ∧ W.heap[B]? = some (.cells #[c0, c1, c2, c3] 27 (0, 0)) ∧ (∀ s, (7, s) ∈ hs → s.ownBlock ≠ some B) ∧ ∀ q, (10, q) ∈ hs → (8, .agg #[c0, c1, c2, c3]) ∈ hs
  uq : ∀ v v', (9, v) ∈ hs → (9, v') ∈ hs → v = v'
section
variable {w0 W W' : World} {x : LT} {n : Nat} {hs : Hist}
theorem MkR.start (h : Turned (fun _ => False) w0 W) : MkR w0 x n [] W := ⟨h, fun v h => (List.not_mem_nil h).elim, fun v h => (List.not_mem_nil h).elim, fun v h => (List.not_mem_nil h).elim, fun v v' h => (List.not_mem_nil h).elim⟩
theorem MkR.turned0 (h : MkR w0 x n hs W) (T : Turned (fun _ => False) W W') : MkR w0 x n hs W' := by
  refine ⟨h.t.trans T, fun v hv => ?_, h.agg, fun v hv => ?_, h.uq⟩
  · obtain ⟨G, h1, h2, h3⟩ := h.row v hv
    exact ⟨G, h1, h2, h3.turned0 T⟩
  · obtain ⟨B, c0, c1, c2, c3, h1, h2, h3, h4⟩ := h.box v hv
    exact ⟨B, c0, c1, c2, c3, h1, h2, (T.block B (Array.getElem?_eq_some_iff.1 h3).1 (fun f => f)).trans h3, h4⟩
theorem MkR.made {ZZ : Array Value} (h : MkR w0 x n hs W) (hno : ∀ v, (7, v) ∉ hs) (hr : Row (W.alloc (.cells ZZ 27)) 27 4 (.slice (some ⟨W.heap.size, 0, none⟩) n n) n ((blanks n).flatMap LT.cells)) :
    MkR w0 x n (hs ++ [(7, .slice (some ⟨W.heap.size, 0, none⟩) n n)]) (W.alloc (.cells ZZ 27)) := by
  have T : Turned (fun _ => False) W (W.alloc (.cells ZZ 27)) := (Turned.refl _ W).alloc _
  refine ⟨h.t.trans T, fun v hv => ?_, fun v hv => ?_, fun v hv => ?_, fun v v' hv hv' => ?_⟩
  · rcases mem_snoc hv with hm | ⟨_, e⟩
    · exact absurd hm (hno v)
    · rw [e]; exact ⟨_, rfl, h.t.size, hr⟩
  · rcases mem_snoc hv with hm | ⟨e, _⟩
    · obtain ⟨s, h1, h2⟩ := h.agg v hm
      exact ⟨s, List.mem_append_left _ h1, h2⟩
    · omega
  · rcases mem_snoc hv with hm | ⟨e, _⟩
    · obtain ⟨B, c0, c1, c2, c3, h1, h2, h3, h4, h5⟩ := h.box v hm
      have hl := (Array.getElem?_eq_some_iff.1 h3).1
      refine ⟨B, c0, c1, c2, c3, h1, h2, (T.block B hl (fun f => f)).trans h3, fun s hs => ?_, fun q hq => ?_⟩
      · rcases mem_snoc hs with hm | ⟨_, e⟩
        · exact absurd hm (hno s)
        · rw [e]; intro e2; simp [Value.ownBlock] at e2; omega
      · rcases mem_snoc hq with hq | ⟨e, _⟩
        · exact List.mem_append_left _ (h5 q hq)
        · omega
    · omega
  · rcases mem_snoc hv with hm | ⟨e, _⟩
    · rcases mem_snoc hv' with hm' | ⟨e, _⟩
      · exact h.uq v v' hm hm'
      · omega
    · omega
theorem MkR.built {s : Value} (h : MkR w0 x n hs W) (hs7 : (7, s) ∈ hs) : MkR w0 x n (hs ++ [(8, .agg #[.int .i64 x.kind, .int .i64 0, .string x.name, s])]) W := by
  have ne : ∀ {j : Nat} {v : Value}, j ≠ 8 → (j, v) ∈ hs ++ [(8, Value.agg #[.int .i64 x.kind, .int .i64 0, .string x.name, s])] → (j, v) ∈ hs := fun hj hm => by
    rcases mem_snoc hm with hm | ⟨e, _⟩
    · exact hm
    · exact absurd e hj
  refine ⟨h.t, fun v hv => h.row v (ne (by decide) hv), fun v hv => ?_, fun v hv => ?_, fun v v' hv hv' => h.uq v v' (ne (by decide) hv) (ne (by decide) hv')⟩
  · rcases mem_snoc hv with hm | ⟨_, e⟩
    · obtain ⟨s, h1, h2⟩ := h.agg v hm
      exact ⟨s, List.mem_append_left _ h1, h2⟩
    · exact ⟨s, List.mem_append_left _ hs7, e⟩
  · obtain ⟨B, c0, c1, c2, c3, h1, h2, h3, h4, h5⟩ := h.box v (ne (by decide) hv)
    exact ⟨B, c0, c1, c2, c3, h1, h2, h3, fun s hs => h4 s (ne (by decide) hs), fun q hq => List.mem_append_left _ (h5 q (ne (by decide) hq))⟩
theorem MkR.laid {c0 c1 c2 c3 : Value} (h : MkR w0 x n hs W) (hno : ∀ v, (9, v) ∉ hs) (hst : ∀ q, (10, q) ∉ hs) : MkR w0 x n (hs ++ [(9, ptr W.heap.size)]) (W.alloc (.cells #[c0, c1, c2, c3] 27)) := by
  have T : Turned (fun _ => False) W (W.alloc (.cells #[c0, c1, c2, c3] 27)) := (Turned.refl _ W).alloc _
  have ne : ∀ {j : Nat} {v : Value}, j ≠ 9 → (j, v) ∈ hs ++ [(9, ptr W.heap.size)] → (j, v) ∈ hs := fun hj hm => by
    rcases mem_snoc hm with hm | ⟨e, _⟩
    · exact hm
    · exact absurd e hj
  have last : ∀ {v : Value}, (9, v) ∈ hs ++ [(9, ptr W.heap.size)] → v = ptr W.heap.size := fun hm => by
    rcases mem_snoc hm with hm | ⟨_, e⟩
    · exact absurd hm (hno _)
    · exact e
  refine ⟨h.t.trans T, fun v hv => ?_, fun v hv => ?_, fun v hv => ?_, fun v v' hv hv' => by rw [last hv, last hv']⟩
  · obtain ⟨G, h1, h2, h3⟩ := h.row v (ne (by decide) hv)
    exact ⟨G, h1, h2, h3.turned0 T⟩
  · obtain ⟨s, h1, h2⟩ := h.agg v (ne (by decide) hv)
    exact ⟨s, List.mem_append_left _ h1, h2⟩
  · refine ⟨W.heap.size, c0, c1, c2, c3, last hv, h.t.size, heap_alloc_new W _, fun s hs => ?_, fun q hq => absurd (ne (by decide) hq) (hst q)⟩
    obtain ⟨G, h1, _, h3⟩ := h.row s (ne (by decide) hs)
    intro e
    have := h3.lt _ e
    omega
theorem MkR.cell {v : Value} (h : MkR w0 x n hs W) (h9 : (9, v) ∈ hs) : ∃ B c0 c1 c2 c3, v = .pointer (some ⟨B, 0, none⟩) ∧ W.heap[B]? = some (.cells #[c0, c1, c2, c3] 27 (0, 0)) := by
  obtain ⟨B, c0, c1, c2, c3, h1, h2, h3, _⟩ := h.box v h9
  exact ⟨B, c0, c1, c2, c3, h1, h3⟩
theorem MkR.stored {B : Nat} {s q : Value} (h : MkR w0 x n hs W) (h9 : (9, ptr B) ∈ hs) (h8 : (8, .agg #[.int .i64 x.kind, .int .i64 0, .string x.name, s]) ∈ hs) :
    MkR w0 x n (hs ++ [(10, q)]) ((((W.setCell ⟨B, 0, none⟩ (.int .i64 x.kind)).setCell ⟨B, 1, none⟩ (.int .i64 0)).setCell ⟨B, 2, none⟩ (.string x.name)).setCell ⟨B, 3, none⟩ s) := by
  obtain ⟨B', c0, c1, c2, c3, h1, h2, h3, h4, h5⟩ := h.box _ h9
  obtain rfl := ptr_inj h1
  have hset := set4 (a' := .int .i64 x.kind) (b' := .int .i64 0) (c' := .string x.name) (d' := s) h3
  have T := turned_store4 W B (.int .i64 x.kind) (.int .i64 0) (.string x.name) s
  have ne : ∀ {j : Nat} {v : Value}, j ≠ 10 → (j, v) ∈ hs ++ [(10, q)] → (j, v) ∈ hs := fun hj hm => by
    rcases mem_snoc hm with hm | ⟨e, _⟩
    · exact hm
    · exact absurd e hj
  refine ⟨h.t.step T (fun i hi e => by omega), fun v hv => ?_, fun v hv => ?_, fun v hv => ?_, fun v v' hv hv' => h.uq v v' (ne (by decide) hv) (ne (by decide) hv')⟩
  · obtain ⟨G, g1, g2, g3⟩ := h.row v (ne (by decide) hv)
    exact ⟨G, g1, g2, g3.turned T (fun k hk e => h4 v (ne (by decide) hv) (by rw [hk, e]))⟩
  · obtain ⟨s, h1, h2⟩ := h.agg v (ne (by decide) hv)
    exact ⟨s, List.mem_append_left _ h1, h2⟩
  · rw [h.uq _ _ (ne (by decide) hv) h9]
    exact ⟨B, _, _, _, _, rfl, h2, hset, fun s hs => h4 s (ne (by decide) hs), fun q hq => List.mem_append_left _ h8⟩
theorem MkR.done {v : Value} (h : MkR w0 x n hs W) (hall : ∀ i ∈ [7, 8, 9, 10], ∃ v, (i, v) ∈ hs) (h9 : (9, v) ∈ hs) (uniq : ∀ i v v', (i, v) ∈ hs → (i, v') ∈ hs → v = v') :
    ∃ G B, v = .pointer (some ⟨B, 0, none⟩) ∧ G ≠ B ∧ w0.heap.size ≤ G ∧ w0.heap.size ≤ B ∧ W.heap[B]? = some (.cells #[.int .i64 x.kind, .int .i64 0, .string x.name, .slice (some ⟨G, 0, none⟩) n n] 27 (0, 0)) ∧ Row W 27 4 (.slice (some ⟨G, 0, none⟩) n n) n ((blanks n).flatMap LT.cells) ∧ Turned (fun _ => False) w0 W := by
  obtain ⟨B, c0, c1, c2, c3, h1, h2, h3, h4, h5⟩ := h.box _ h9
  obtain ⟨q, hq⟩ := hall 10 (by simp)
  obtain ⟨s, s1, s2⟩ := h.agg _ (h5 q hq)
  obtain ⟨G, g1, g2, g3⟩ := h.row s s1
  have hne := h4 s s1
  injection s2 with s2
  rw [s2, g1] at h3
  rw [g1] at hne g3
  refine ⟨G, B, h1, fun e => hne (by rw [e]; rfl), g2, h2, h3, g3, h.t⟩
end
end Go.Proofs.Ytoihjobdfjajfaa
namespace Go.Proofs.Ytoihjobdfjajfaa
set_option linter.unusedVariables false
set_option linter.unusedSimpArgs false
open Go.RowKit Go.Maps
theorem afterWalk {w3 : World} {N K bb : Nat} {s : Value} {a0 b0 c0 d0 z0 z1 z2 z3 : Value} (hN : w3.heap[N]? = some (.cells #[a0, b0, c0, d0] 27 (0, 0))) (hK : w3.heap[K]? = some (.cells #[.pointer (some ⟨bb, 0, none⟩), s] 170 (0, 0))) (h1 : w3.heap[N + 1]? = some (.cells #[z0, z1, z2, z3] 27 (0, 0))) (hne : K < N) (a b c d v : Value) :
    (((((w3.setCell ⟨N, 0, none⟩ a).setCell ⟨N, 1, none⟩ b).setCell ⟨N, 2, none⟩ c).setCell ⟨N, 3, none⟩ d).setCell ⟨K, 1, none⟩ v).heap[N]? = some (.cells #[a, b, c, d] 27 (0, 0)) ∧
    (((((w3.setCell ⟨N, 0, none⟩ a).setCell ⟨N, 1, none⟩ b).setCell ⟨N, 2, none⟩ c).setCell ⟨N, 3, none⟩ d).setCell ⟨K, 1, none⟩ v).heap[K]? = some (.cells #[.pointer (some ⟨bb, 0, none⟩), v] 170 (0, 0)) ∧
    (((((w3.setCell ⟨N, 0, none⟩ a).setCell ⟨N, 1, none⟩ b).setCell ⟨N, 2, none⟩ c).setCell ⟨N, 3, none⟩ d).setCell ⟨K, 1, none⟩ v).heap[N + 1]? = some (.cells #[z0, z1, z2, z3] 27 (0, 0)) ∧
    Turned (fun k => k = N ∨ k = K) w3 (((((w3.setCell ⟨N, 0, none⟩ a).setCell ⟨N, 1, none⟩ b).setCell ⟨N, 2, none⟩ c).setCell ⟨N, 3, none⟩ d).setCell ⟨K, 1, none⟩ v) := by
  have T1 := turned_store4 w3 N a b c d
  have hs := set4 (a' := a) (b' := b) (c' := c) (d' := d) hN
  have hk := (T1.block K (Array.getElem?_eq_some_iff.1 hK).1 (by omega)).trans hK
  have h1' := (T1.block (N + 1) (Array.getElem?_eq_some_iff.1 h1).1 (by omega)).trans h1
  revert T1 hs hk h1'
  generalize (((w3.setCell ⟨N, 0, none⟩ a).setCell ⟨N, 1, none⟩ b).setCell ⟨N, 2, none⟩ c).setCell ⟨N, 3, none⟩ d = W
  intro T1 hs hk h1'
  have T2 : Turned (fun k => k = K) W (W.setCell ⟨K, 1, none⟩ v) := (Turned.refl (fun k => k = K) W).setCell (p := ⟨K, 1, none⟩) (.inr rfl) v
  refine ⟨(T2.block N (Array.getElem?_eq_some_iff.1 hs).1 (by omega)).trans hs, rec2_set1 hk v, (T2.block (N + 1) (Array.getElem?_eq_some_iff.1 h1').1 (by omega)).trans h1', (T1.mono (fun _ _ e => .inl e)).trans (T2.mono (fun _ _ e => .inr e))⟩
theorem MakeQ.no {p : Nat → Prop} {bb K : Nat} {l : TL} {t : LT} {s d : Nat} {s' : Int} {w w' : World} (hno : Tm.makeOk s d (Tm.img (bt l) t.bare) = false) (hK : w'.heap[K]? = some (.cells #[.pointer (some ⟨bb, 0, none⟩), .int .i64 s'] 170 (0, 0))) (T : Turned (fun k => k = K) w w') :
    MakeQ p bb K l t s d w (.returned (.tuple #[.agg #[.int .i64 0, .int .i64 0, .string ⟨#[]⟩, .slice none 0 0], .bool false])) w' :=
  ⟨leaf 0 0 ByteArray.empty, by rw [hno]; rfl, leafIn' (i64_lit _ (by omega)) (i64_lit _ (by omega)) (by unfold maxLen; decide), fun c => by (rw [hno] at c; cases c), ⟨s', hK, fun c => by (rw [hno] at c; cases c)⟩, T⟩
theorem MakeQ.yes {p : Nat → Prop} {bb K : Nat} {l : TL} {t u : LT} {s d : Nat} {s' : Int} {w w' : World} (hok : Tm.makeOk s d (Tm.img (bt l) t.bare) = true) (hb : u.bare = Tm.img (bt l) t.bare) (hu : u.In (fun k => p k ∨ w.heap.size ≤ k) w') (hK : w'.heap[K]? = some (.cells #[.pointer (some ⟨bb, 0, none⟩), .int .i64 s'] 170 (0, 0))) (hs : s' = ((s + (Tm.img (bt l) t.bare).size : Nat) : Int)) (T : Turned (fun k => k = K) w w') :
    MakeQ p bb K l t s d w (.returned (.tuple #[.agg #[.int .i64 u.kind, .int .i64 u.n, .string u.name, .slice u.at_.1 u.args.length u.at_.2], .bool true])) w' :=
  ⟨u, by rw [hok, LT.val_eq], hu, fun _ => hb, ⟨s', hK, fun _ => hs⟩, T⟩
theorem leaf_make {m s d : Nat} {l : Tm.Trail} {t X : Tm Unit} (hl : Tm.okT m l) (h : Tm.Walked m l t X) (ha : X.args.length = 0) (hs : s + 1 ≤ 2000) (hd : d ≤ 64) : Tm.img l t = X ∧ Tm.makeOk s d (Tm.img l t) = true ∧ (Tm.img l t).size = 1 := by
  have ha' := List.eq_nil_of_length_eq_zero ha
  have hx := h.flat hl ha'
  have h1 : X.size = 1 := by rw [Tm.size_eq, ha']; rfl
  have h2 : X.depth = 1 := by rw [Tm.depth_eq, ha']; rfl
  exact ⟨hx, by rw [hx, Tm.makeOk_iff]; omega, by rw [hx, h1]⟩
theorem make_in {p q : Nat → Prop} {w3 w W W' : World} {K : Nat} {x : LT} (hp : ∀ k, p k → k < w.heap.size ∧ k ≠ K) (A : Turned (fun k => k = w.heap.size ∨ k = K) w3 W) (Tq : Turned (fun k => k = w.heap.size + 1) W W') (h : x.In p w3) (hq : ∀ k, p k → q k) : x.In q W' :=
  LT.In.turned Tq (fun k _ hk e => by have := (hp k hk).1; omega) (fun k _ hk => hq k hk) x (LT.In.turned A (fun k _ hk e => by have := hp k hk; omega) (fun _ _ hk => hk) x h)
structure MadeW (p : Nat → Prop) (bb sb m : Nat) (lv tv : Value) (l : TL) (K : Nat) (x : LT) (s : Int) (w W : World) : Prop where
  n0 : W.heap[w.heap.size]? = some (.cells #[.int .i64 x.kind, .int .i64 x.n, .string x.name, .slice x.at_.1 x.args.length x.at_.2] 27 (0, 0))
  n1 : W.heap[w.heap.size + 1]? = some (.cells #[.int .i64 0, .int .i64 0, .string ⟨#[]⟩, .slice none 0 0] 27 (0, 0))
  k : W.heap[K]? = some (.cells #[.pointer (some ⟨bb, 0, none⟩), .int .i64 s] 170 (0, 0))
  inn : x.In p W
  bi : BI p bb sb lv tv m l W
  turned : Turned (fun k => k = K) w W
theorem MadeW.mk' {p : Nat → Prop} {bb sb m : Nat} {lv tv : Value} {l : TL} {K : Nat} {x : LT} {s : Int} {w w2 w3 W : World} (h : BI p bb sb lv tv m l w) (hap : apart p bb sb lv tv l K) (A : W.heap[w.heap.size]? = some (.cells #[.int .i64 x.kind, .int .i64 x.n, .string x.name, .slice x.at_.1 x.args.length x.at_.2] 27 (0, 0)) ∧ W.heap[K]? = some (.cells #[.pointer (some ⟨bb, 0, none⟩), .int .i64 s] 170 (0, 0)) ∧ W.heap[w.heap.size + 1]? = some (.cells #[.int .i64 0, .int .i64 0, .string ⟨#[]⟩, .slice none 0 0] 27 (0, 0)) ∧ Turned (fun k => k = w.heap.size ∨ k = K) w3 W)
    (T2 : Turned (fun _ => False) w w2) (S3 : Turned (fun _ => False) w2 w3) (hx : x.In p w3) : MadeW p bb sb m lv tv l K x s w W := by
  have T : Turned (fun k => k = K) w W := ((T2.trans S3).mono (fun _ _ f => f.elim)).step A.2.2.2 (fun i hi e => e.elim (fun c => by omega) (fun c => c))
  exact ⟨A.1, A.2.2.1, A.2.1, LT.In.turned A.2.2.2 (fun k _ hk e => e.elim (fun c => by have := (h.sep k hk).1; omega) (fun c => hap.2.2 (c ▸ hk))) (fun _ _ hk => hk) x hx, h.turned T (fun k hk e => by rw [show k = K from e]; exact hap), T⟩
theorem MadeW.on {p : Nat → Prop} {bb sb m : Nat} {lv tv : Value} {l : TL} {K : Nat} {x : LT} {s : Int} {w W W' : World} (h : MadeW p bb sb m lv tv l K x s w W) (T : Turned (fun _ => False) W W') : MadeW p bb sb m lv tv l K x s w W' :=
  ⟨(T.block _ (Array.getElem?_eq_some_iff.1 h.n0).1 (fun f => f)).trans h.n0, (T.block _ (Array.getElem?_eq_some_iff.1 h.n1).1 (fun f => f)).trans h.n1, (T.block _ (Array.getElem?_eq_some_iff.1 h.k).1 (fun f => f)).trans h.k, h.inn.turned0 T, h.bi.turned0 T, h.turned.trans (T.mono (fun _ _ f => f.elim))⟩
theorem make_turned {w w2 w3 W W' : World} {K : Nat} (T2 : Turned (fun _ => False) w w2) (S3 : Turned (fun _ => False) w2 w3) (A : Turned (fun k => k = w.heap.size ∨ k = K) w3 W) (Tq : Turned (fun k => k = w.heap.size + 1) W W') : Turned (fun k => k = K) w W' :=
  ((((T2.trans S3).mono (fun _ _ f => f.elim)).step A (fun i hi e => e.elim (fun c => by omega) (fun c => c))).step Tq (fun i hi e => by omega))
def CallQ (p : Nat → Prop) (bb K : Nat) (ok : Bool) (y : Tm Unit) (sj : Nat) (wx : World) (u : LT) (W : World) : Prop :=
  u.In (fun k => p k ∨ wx.heap.size ≤ k) W ∧ (ok = true → u.bare = y) ∧ (∃ s' : Int, W.heap[K]? = some (.cells #[.pointer (some ⟨bb, 0, none⟩), .int .i64 s'] 170 (0, 0)) ∧ (ok = true → s' = ((sj + y.size : Nat) : Int))) ∧ Turned (fun k => k = K) wx W
def RowQ (p : Nat → Prop) (σ : Tm Unit → Tm Unit) (bb K G : Nat) (ok : Bool) (y : Tm Unit) (sj : Nat) (x : LT) (j : Nat) (W5 wx W : World) : Prop :=
  (∃ s' : Int, W.heap[K]? = some (.cells #[.pointer (some ⟨bb, 0, none⟩), .int .i64 s'] 170 (0, 0)) ∧ (ok = true → s' = ((sj + y.size : Nat) : Int))) ∧ Turned (fun k => k = K ∨ k = G) wx W ∧ (ok = true → ∃ us, MakI p σ G K x W5 (j + 1) us W)
def MrS (p : Nat → Prop) (σ : Tm Unit → Tm Unit) (bb K G : Nat) (ok : Bool) (y : Tm Unit) (sj : Nat) (x : LT) (j : Nat) (W5 wx : World) : List Value → World → Prop
  | [], W => Turned (fun _ => False) wx W
  | [a], W => ∃ u : LT, a = .tuple #[.agg #[.int .i64 u.kind, .int .i64 u.n, .string u.name, .slice u.at_.1 u.args.length u.at_.2], .bool ok] ∧ CallQ p bb K ok y sj wx u W
  | [_, b], W => ∃ u : LT, b = .tuple #[.agg #[.int .i64 u.kind, .int .i64 u.n, .string u.name, .slice u.at_.1 u.args.length u.at_.2], .bool ok] ∧ CallQ p bb K ok y sj wx u W
  | [_, b, c], W => ∃ u : LT, b = .tuple #[.agg #[.int .i64 u.kind, .int .i64 u.n, .string u.name, .slice u.at_.1 u.args.length u.at_.2], .bool ok] ∧ c = .agg #[.int .i64 u.kind, .int .i64 u.n, .string u.name, .slice u.at_.1 u.args.length u.at_.2] ∧ CallQ p bb K ok y sj wx u W
  | [_, b, _, _], W => (∃ u : LT, b = .tuple #[.agg #[.int .i64 u.kind, .int .i64 u.n, .string u.name, .slice u.at_.1 u.args.length u.at_.2], .bool ok]) ∧ RowQ p σ bb K G ok y sj x j W5 wx W
  | _, _ => False
section
variable {p : Nat → Prop} {σ : Tm Unit → Tm Unit} {bb K G : Nat} {ok : Bool} {y : Tm Unit} {sj : Nat} {x : LT} {j : Nat} {W5 wx W W' : World} {u : LT}
theorem CallQ.turned0 (h : CallQ p bb K ok y sj wx u W) (T : Turned (fun _ => False) W W') : CallQ p bb K ok y sj wx u W' := by
  obtain ⟨h1, h2, ⟨s', h3, h4⟩, h5⟩ := h
  exact ⟨h1.turned0 T, h2, ⟨s', (T.block _ (Array.getElem?_eq_some_iff.1 h3).1 (fun f => f)).trans h3, h4⟩, h5.trans (T.mono (fun _ _ f => f.elim))⟩
theorem MakI.on {t : LT} {w3 : World} {us : List LT} (h : MakI p σ G K t w3 j us W) (T : Turned (fun _ => False) W W') : MakI p σ G K t w3 j us W' :=
  ⟨h.len, h.bares, h.row.turned0 T, h.ins.turned0 T, h.turned.trans (T.mono (fun _ _ f => f.elim))⟩
theorem RowQ.turned0 (h : RowQ p σ bb K G ok y sj x j W5 wx W) (T : Turned (fun _ => False) W W') : RowQ p σ bb K G ok y sj x j W5 wx W' := by
  obtain ⟨⟨s', h3, h4⟩, h5, h6⟩ := h
  refine ⟨⟨s', (T.block _ (Array.getElem?_eq_some_iff.1 h3).1 (fun f => f)).trans h3, h4⟩, h5.trans (T.mono (fun _ _ f => f.elim)), fun e => ?_⟩
  obtain ⟨us, h⟩ := h6 e
  exact ⟨us, h.on T⟩
theorem MrS.turned0 : ∀ (hs : List Value) (w w' : World), MrS p σ bb K G ok y sj x j W5 wx hs w → Turned (fun _ => False) w w' → MrS p σ bb K G ok y sj x j W5 wx hs w'
  | [], _, _, h, T => Turned.trans h T
  | [_], _, _, h, T => by obtain ⟨u, h1, h2⟩ := h; exact ⟨u, h1, h2.turned0 T⟩
  | [_, _], _, _, h, T => by obtain ⟨u, h1, h2⟩ := h; exact ⟨u, h1, h2.turned0 T⟩
  | [_, _, _], _, _, h, T => by obtain ⟨u, h1, h2, h3⟩ := h; exact ⟨u, h1, h2, h3.turned0 T⟩
  | [_, _, _, _], _, _, h, T => ⟨h.1, h.2.turned0 T⟩
  | _ :: _ :: _ :: _ :: _ :: _, _, _, h, _ => h.elim
theorem MrS.turned : ∀ (hs : List Value) (W : World), MrS p σ bb K G ok y sj x j W5 wx hs W → Turned (fun k => k = K ∨ k = G) wx W
  | [], _, h => Turned.mono h (fun _ _ f => f.elim)
  | [_], _, h => by obtain ⟨u, h1, h2⟩ := h; exact h2.2.2.2.mono (fun _ _ e => .inl e)
  | [_, _], _, h => by obtain ⟨u, h1, h2⟩ := h; exact h2.2.2.2.mono (fun _ _ e => .inl e)
  | [_, _, _], _, h => by obtain ⟨u, h1, h2, h3⟩ := h; exact h3.2.2.2.mono (fun _ _ e => .inl e)
  | [_, _, _, _], _, h => h.2.2.1
  | _ :: _ :: _ :: _ :: _ :: _, _, h => h.elim
theorem MrS.tup : ∀ (hs : List Value) (W : World) (b : Value), MrS p σ bb K G ok y sj x j W5 wx hs W → hs[1]? = some b → ∃ u : LT, b = .tuple #[.agg #[.int .i64 u.kind, .int .i64 u.n, .string u.name, .slice u.at_.1 u.args.length u.at_.2], .bool ok]
  | [], _, _, _, e => by simp at e
  | [_], _, _, _, e => by simp at e
  | [_, _], _, _, h, e => by simp at e; subst e; obtain ⟨u, h1, _⟩ := h; exact ⟨u, h1⟩
  | [_, _, _], _, _, h, e => by simp at e; subst e; obtain ⟨u, h1, _⟩ := h; exact ⟨u, h1⟩
  | [_, _, _, _], _, _, h, e => by simp at e; subst e; exact h.1
  | _ :: _ :: _ :: _ :: _ :: _, _, _, h, _ => h.elim
theorem mr_store {w3 wr : World} {us : List LT} {xj : LT} (h : MakI p σ G K x W5 j us wr) (TX : Turned (fun _ => False) wr wx) (hp : ∀ k, p k → k < G ∧ k ≠ K) (hKG : K < G) (hG : G < wr.heap.size) (hx : x.args[j]? = some xj) (hy : σ xj.bare = y) (hC : CallQ p bb K ok y sj wx u W) :
    RowQ p σ bb K G ok y sj x j W5 wx ((((W.setCell ⟨G, j * 4, none⟩ (.int .i64 u.kind)).setCell ⟨G, j * 4 + 1, none⟩ (.int .i64 u.n)).setCell ⟨G, j * 4 + 2, none⟩ (.string u.name)).setCell ⟨G, j * 4 + 3, none⟩ (.slice u.at_.1 u.args.length u.at_.2)) := by
  obtain ⟨h1, h2, ⟨s', h3, h4⟩, h5⟩ := hC
  have Tq : Turned (fun k => k = G) W ((((W.setCell ⟨G, j * 4, none⟩ (.int .i64 u.kind)).setCell ⟨G, j * 4 + 1, none⟩ (.int .i64 u.n)).setCell ⟨G, j * 4 + 2, none⟩ (.string u.name)).setCell ⟨G, j * 4 + 3, none⟩ (.slice u.at_.1 u.args.length u.at_.2)) :=
    ((((Turned.refl (fun k => k = G) W).setCell (p := ⟨G, j * 4, none⟩) (.inr rfl) _).setCell (p := ⟨G, j * 4 + 1, none⟩) (.inr rfl) _).setCell (p := ⟨G, j * 4 + 2, none⟩) (.inr rfl) _).setCell (p := ⟨G, j * 4 + 3, none⟩) (.inr rfl) _
  refine ⟨⟨s', (Tq.block K (Array.getElem?_eq_some_iff.1 h3).1 (by omega)).trans h3, h4⟩, (h5.mono (fun _ _ e => .inl e)).trans (Tq.mono (fun _ _ e => .inr e)), fun e => ⟨_, h.put hp hKG hG hx ((h2 e).trans hy.symm) (h1.mono (fun k _ hk => hk.elim .inl (fun hk => .inr (Nat.le_trans TX.size hk)))) ((TX.mono (fun _ _ f => f.elim)).trans h5)⟩⟩
end
theorem brings_build27 {o : Oper} {a : Act} {w : World} {F : Value → World → Prop} (x y z : Tmp) (ho : o.op = Op.build 27 #[(0, .tmp x), (2, .tmp y), (3, .tmp z)]) {k : Int} {nm : ByteArray} {sa : Option Addr} {sn sc : Nat} (hx : a.tmps.getD x undef = .int .i64 k) (hy : a.tmps.getD y undef = .string nm) (hz : a.tmps.getD z undef = .slice sa sn sc)
    (h : F (.agg #[.int .i64 k, .int .i64 0, .string nm, .slice sa sn sc]) w) : Brings Try.prog F ((execOp a.eval o).run Try.prog w) := by
  have e : ∀ q, a.eval (.tmp q) = a.tmps.getD q undef := fun _ => rfl
  unfold execOp
  simp only [ho, List.map_toArray, List.map_cons, List.map_nil, e, hx, hy, hz]
  go_simp
  exact h
def MakL (p : Nat → Prop) (bb K : Nat) (l : TL) (x : LT) (s d G : Nat) (Y : List (Tm Unit)) (W5 : World) (k : Nat) (i : Value) (wr : World) : Prop :=
  ∃ (j : Nat) (us : List LT), Hid (j + k = x.args.length) ∧ j ≤ x.args.length ∧ i = .int .i64 j ∧ Hid (MakI p (Tm.img (bt l)) G K x W5 j us wr) ∧ Hid (wr.heap[K]? = some (.cells #[.pointer (some ⟨bb, 0, none⟩), .int .i64 ((s + 1 + Tm.sizes (Y.take j) : Nat) : Int)] 170 (0, 0))) ∧ Hid (s + 1 + Tm.sizes (Y.take j) ≤ 2000) ∧ Hid (∀ y ∈ Y.take j, d + 1 + y.depth ≤ 65)
set_option maxRecDepth 100000 in
set_option maxHeartbeats 12800000 in
theorem make147 {p : Nat → Prop} {bb sb m : Nat} {lv tv : Value} {l : TL} {K : Nat} (n : Nat) : ∀ (t : LT) (w : World) (s d : Nat), d + n = 66 → d ≤ 65 → BI p bb sb lv tv m l w → t.In p w → (∀ z ∈ t.bare.flat, goodOneB z = true) → apart p bb sb lv tv l K →
    w.heap[K]? = some (.cells #[.pointer (some ⟨bb, 0, none⟩), .int .i64 s] 170 (0, 0)) → s ≤ 2000 → Calls Try.prog 147 #[.pointer (some ⟨K, 0, none⟩), t.val, .int .i64 d] w (MakeQ p bb K l t s d w) := by
  induction n with
  | zero => intro t w s d h1 h2; omega
  | succ n ih =>
    intro t w s d hdn hd h ht hg hap hK hs
    have h2 := twoBox w (.cells #[.int .i64 t.kind, .int .i64 t.n, .string t.name, .slice t.at_.1 t.args.length t.at_.2] 27) (.cells #[.int .i64 0, .int .i64 0, .string ⟨#[]⟩, .slice none 0 0] 27)
    have hkl := (Array.getElem?_eq_some_iff.1 hK).1
    obtain ⟨w2, hw2⟩ : ∃ z, z = (w.alloc (.cells #[.int .i64 t.kind, .int .i64 t.n, .string t.name, .slice t.at_.1 t.args.length t.at_.2] 27)).alloc (.cells #[.int .i64 0, .int .i64 0, .string ⟨#[]⟩, .slice none 0 0] 27) := ⟨_, rfl⟩
    rw [← hw2] at h2
    have hkp : ∀ W, Turned (fun _ => False) w2 W → W.heap[K]? = some (.cells #[.pointer (some ⟨bb, 0, none⟩), .int .i64 s] 170 (0, 0)) := fun W hW => ((h2.1.trans hW).block K hkl (fun f => f)).trans hK
    have hcp : ∀ W, Turned (fun _ => False) w2 W → W.heap[w.heap.size]? = some (.cells #[.int .i64 t.kind, .int .i64 t.n, .string t.name, .slice t.at_.1 t.args.length t.at_.2] 27 (0, 0)) ∧ W.heap[w.heap.size + 1]? = some (.cells #[.int .i64 0, .int .i64 0, .string ⟨#[]⟩, .slice none 0 0] 27 (0, 0)) := fun W hW => ⟨(hW.block _ (by have := h2.2.1; omega) (fun f => f)).trans h2.2.2.1, (hW.block _ (by have := h2.2.1; omega) (fun f => f)).trans h2.2.2.2⟩
    have hwk : ∀ W, Turned (fun _ => False) w2 W → Calls Try.prog 90 #[.pointer (some ⟨bb, 0, none⟩), t.val] W fun e w' => ∃ x : LT, e = .returned x.val ∧ x.In p w' ∧ x.bare = Tm.walkT (bt l) t.bare ∧ Turned (fun _ => False) W w' := fun W hW => walk90 (h.turned0 (h2.1.trans hW)) (ht.turned0 (h2.1.trans hW)) hg
    have hwd := Tm.walked h.ok _ t.bare (Nat.le_refl _) hg
    obtain ⟨X, hX⟩ : ∃ z, z = Tm.walkT (bt l) t.bare := ⟨_, rfl⟩
    rw [← hX] at hwk hwd
    have HV := LT.val_eq t
    rw [HV] at hwk
    rw [HV]
    have HWK := Lib.hid hwk
    have HKP := Lib.hid hkp
    have HCP := Lib.hid hcp
    have HW2 := Lib.hid hw2
    have HWD := Lib.hid hwd
    have HKL := Lib.hid hkl
    have hKN : K ≠ w.heap.size := by omega
    have hNK : w.heap.size ≠ K := by omega
    have hKN1 : K ≠ w.heap.size + 1 := by omega
    have hNK1 : w.heap.size + 1 ≠ K := by omega
    have HT2 := Lib.hid h2.1
    have HH := Lib.hid h
    have HAP := Lib.hid hap
    clear hwk hkp hcp h2 hX hkl hK ht hg hap HV hw2 hwd h
    by_cases hA : s + 1 ≤ 2000
    · have d1 : decide (2000 < (s : Int) + 1) = false := decide_eq_false (by omega)
      by_cases hD : d ≤ 64
      · have d2 : decide (64 < (d : Int)) = false := decide_eq_false (by omega)
        obtain ⟨q, hq⟩ : ∃ z, z = X.args.length := ⟨_, rfl⟩
        by_cases hL : q = 0
        · have HLM := Lib.hid (leaf_make HH.out.ok HWD.out (by rw [← hq]; exact hL) hA hD)
          have HQ := Lib.hid (show X.args.length = 0 by rw [← hq]; exact hL)
          clear hq hL
          go_enter Try.func147, Try.ntmps147
          go_wp2_with fail
          rw [← HW2.out]
          obtain ⟨e0, e1, _⟩ := rec2b (HKP.out w2 (Turned.refl _ _))
          obtain ⟨y0, y1, y2, y3, _⟩ := cells4 (HCP.out w2 (Turned.refl _ _)).1
          refine region_tail 5 (by kernel_rfl) (by kernel_rfl) ?_
          simp only [List.take_succ_cons, List.take_zero, List.drop_succ_cons, List.drop_zero]
          repeat still_step
          refine wpStill_nil ?_
          go_wp2_with (go_at_call 90; (with_reducible refine (HWK.out _ (Turned.refl _ _).drew).mono ?_); rintro e w3 ⟨x, rfl, hxin, hxb, T3⟩; rw [LT.val_eq x]; have S3 := (Turned.refl _ w2).drew.trans T3; have hq3 := HKP.out _ S3; obtain ⟨hb3, hz3⟩ := HCP.out _ S3; obtain ⟨k0, k1, kf0, kf1⟩ := rec2b hq3; obtain ⟨c0, c1, c2, c3, f0, f1, f2, f3⟩ := cells4 hb3; obtain ⟨z0, z1, z2, z3, g0, g1, g2, g3⟩ := cells4 hz3; have HAW := Lib.hid (afterWalk hb3 hq3 hz3 HKL.out (.int .i64 x.kind) (.int .i64 x.n) (.string x.name) (.slice x.at_.1 x.args.length x.at_.2) (.int .i64 ((s : Int) + 1))); have HXI := Lib.hid hxin; have HXB := Lib.hid hxb; have HS3 := Lib.hid S3; have hal2 : ((x.args.length : Int) == 0) = true := (by (have h1 := Tm.bare_arity x; have h2 := HQ.out; rw [hxb] at h1; rw [← h1, h2]; rfl)); clear hq3 hb3 hz3 hxin hxb S3 T3)
          obtain ⟨A1, A2, A3, A4⟩ := HAW.out
          have hset := set4 (a' := .int .i64 x.kind) (b' := .int .i64 x.n) (c' := .string x.name) (d' := .slice x.at_.1 x.args.length x.at_.2) A3
          have Tq := fun W => turned_store4 W (w.heap.size + 1) (.int .i64 x.kind) (.int .i64 x.n) (.string x.name) (.slice x.at_.1 x.args.length x.at_.2)
          have hp : ∀ k, p k → k < w.heap.size ∧ k ≠ K := fun k hk => ⟨(HH.out.sep k hk).1, fun e => HAP.out.2.2 (e ▸ hk)⟩
          refine bodyPost_ret (results_cell_tmp1 Try.results147 _ _ (w.heap.size + 1) 27 _ (0, 0) _ rfl hset Try.underlying27 rfl (by kernel_rfl)) rfl (MakeQ.yes HLM.out.2.1 (HXB.out.trans HLM.out.1.symm) (make_in hp A4 (Tq _) HXI.out (fun _ hk => .inl hk)) (((Tq _).block K (Array.getElem?_eq_some_iff.1 A2).1 (by omega)).trans A2) (by rw [HLM.out.2.2]; omega) (make_turned HT2.out HS3.out A4 (Tq _)))
        · have hxa : ¬ X.args = [] := fun e => hL (by rw [hq, e]; rfl)
          have HKN := Lib.hid (Tm.one_args (HWD.out.ones X (by rw [Tm.flat_eq]; exact List.mem_cons_self ..)) hxa)
          have HAR := Lib.hid (HWD.out.args hxa)
          have HQ := Lib.hid (show 0 < X.args.length by omega)
          clear hq hL hxa
          go_enter Try.func147, Try.ntmps147
          go_wp2_with fail
          rw [← HW2.out]
          obtain ⟨e0, e1, _⟩ := rec2b (HKP.out w2 (Turned.refl _ _))
          obtain ⟨y0, y1, y2, y3, _⟩ := cells4 (HCP.out w2 (Turned.refl _ _)).1
          refine region_tail 5 (by kernel_rfl) (by kernel_rfl) ?_
          simp only [List.take_succ_cons, List.take_zero, List.drop_succ_cons, List.drop_zero]
          repeat still_step
          refine wpStill_nil ?_
          go_wp2_with (go_at_call 90; (with_reducible refine (HWK.out _ (Turned.refl _ _).drew).mono ?_); rintro e w3 ⟨x, rfl, hxin, hxb, T3⟩; rw [LT.val_eq x]; have S3 := (Turned.refl _ w2).drew.trans T3; have hq3 := HKP.out _ S3; obtain ⟨hb3, hz3⟩ := HCP.out _ S3; obtain ⟨k0, k1, kf0, kf1⟩ := rec2b hq3; obtain ⟨c0, c1, c2, c3, f0, f1, f2, f3⟩ := cells4 hb3; obtain ⟨z0, z1, z2, z3, g0, g1, g2, g3⟩ := cells4 hz3; have HAW := Lib.hid (afterWalk hb3 hq3 hz3 HKL.out (.int .i64 x.kind) (.int .i64 x.n) (.string x.name) (.slice x.at_.1 x.args.length x.at_.2) (.int .i64 ((s : Int) + 1))); have HXI := Lib.hid hxin; have HXB := Lib.hid hxb; have HS3 := Lib.hid S3; have hal2 : ((x.args.length : Int) == 0) = false := (by (have h1 := Tm.bare_arity x; have h2 := HQ.out; rw [hxb] at h1; simp only [beq_eq_false_iff_ne, ne_eq]; omega)); clear hq3 hb3 hz3 hxin hxb S3 T3)
          have HM := Lib.hid (MadeW.mk' HH.out HAP.out HAW.out HT2.out HS3.out HXI.out)
          clear HAW HXI HS3 HT2
          revert HM
          generalize (((((w3.setCell ⟨w.heap.size, 0, none⟩ (.int .i64 x.kind)).setCell ⟨w.heap.size, 1, none⟩ (.int .i64 x.n)).setCell ⟨w.heap.size, 2, none⟩ (.string x.name)).setCell ⟨w.heap.size, 3, none⟩ (.slice x.at_.1 x.args.length x.at_.2)).setCell ⟨K, 1, none⟩ (.int .i64 ((s : Int) + 1))) = W4
          intro HM
          have hal8 : x.args.length ≤ 8 := by have h1 := Tm.bare_arity x; have h2 := HKN.out.2.2; rw [HXB.out] at h1; omega
          have HLP : Hid (0 < x.args.length) := by show 0 < _; have h1 := Tm.bare_arity x; have h2 := HQ.out; rw [HXB.out] at h1; omega
          have HCX := Lib.hid (fun W (T : Turned (fun _ => False) W4 W) => cells4 (HM.out.on T).n0)
          clear c0 c1 c2 c3 f0 f1 f2 f3 z0 z1 z2 z3 g0 g1 g2 g3 k0 k1 kf0 kf1 e0 e1 y0 y1 y2 y3
          refine wp_region_k [40, 41, 42, 43, 44, 45, 46, 47, 48, 8] [7, 8, 9, 10] [(47, 7), (48, 8), (8, 9)] (fun dd v => (match dd with | 40 => v = .pointer (some ⟨w.heap.size, 0, none⟩) | 41 => v = .int .i64 x.kind | 42 => v = .pointer (some ⟨w.heap.size, 2, none⟩) | 43 => v = .string x.name | 44 => v = .pointer (some ⟨w.heap.size, 3, none⟩) | 45 => v = .slice x.at_.1 x.args.length x.at_.2 | 46 => v = .int .i64 x.args.length | _ => True : Prop)) (MkR W4 x x.args.length) (by kernel_rfl) rfl (by kernel_rfl) (by kernel_rfl) (fun w h => MkR.start h) (fun hs w w' h ht => h.turned0 ht) ?hs ?hQ
          case hs =>
            refine ⟨?s0, ?s1, ?s2, ?s3, ?s4, ?s5, ?s6, ?s7, ?s8, ?s9, ?s10, trivial⟩
            case s0 =>
              refine fun hs hl => stepG_free [] [4] (by kernel_rfl) rfl ?_
              intro ac W hT hI hO
              have h4 : ac.tmps.getD 4 undef = .pointer (some ⟨w.heap.size, 0, none⟩) := hO 4 (by simp)
              show Brings Try.prog (fun v w' => Turned (fun _ => False) W w' ∧ v = .pointer (some ⟨w.heap.size, 0, none⟩)) _
              simp only [execOp, Act.eval, h4]
              go_simp
              try exact ⟨Turned.refl _ _, rfl⟩
            case s1 =>
              refine fun hs hl => stepG_free [40] [] (by kernel_rfl) rfl ?_
              intro ac W hT hI hO
              have h40 : ac.tmps.getD 40 undef = .pointer (some ⟨w.heap.size, 0, none⟩) := hI 40 (by simp)
              show Brings Try.prog (fun v w' => Turned (fun _ => False) W w' ∧ v = .int .i64 x.kind) _
              obtain ⟨q0, q1, q2, q3, _⟩ := HCX.out W hT.t
              simp only [execOp, Act.eval, h40]
              go_simp
              try exact ⟨Turned.refl _ _, rfl⟩
            case s2 =>
              refine fun hs hl => stepG_free [] [4] (by kernel_rfl) rfl ?_
              intro ac W hT hI hO
              have h4 : ac.tmps.getD 4 undef = .pointer (some ⟨w.heap.size, 0, none⟩) := hO 4 (by simp)
              show Brings Try.prog (fun v w' => Turned (fun _ => False) W w' ∧ v = .pointer (some ⟨w.heap.size, 2, none⟩)) _
              simp only [execOp, Act.eval, h4]
              go_simp
              try exact ⟨Turned.refl _ _, rfl⟩
            case s3 =>
              refine fun hs hl => stepG_free [42] [] (by kernel_rfl) rfl ?_
              intro ac W hT hI hO
              have h42 : ac.tmps.getD 42 undef = .pointer (some ⟨w.heap.size, 2, none⟩) := hI 42 (by simp)
              show Brings Try.prog (fun v w' => Turned (fun _ => False) W w' ∧ v = .string x.name) _
              obtain ⟨q0, q1, q2, q3, _⟩ := HCX.out W hT.t
              simp only [execOp, Act.eval, h42]
              go_simp
              try exact ⟨Turned.refl _ _, rfl⟩
            case s4 =>
              refine fun hs hl => stepG_free [] [4] (by kernel_rfl) rfl ?_
              intro ac W hT hI hO
              have h4 : ac.tmps.getD 4 undef = .pointer (some ⟨w.heap.size, 0, none⟩) := hO 4 (by simp)
              show Brings Try.prog (fun v w' => Turned (fun _ => False) W w' ∧ v = .pointer (some ⟨w.heap.size, 3, none⟩)) _
              simp only [execOp, Act.eval, h4]
              go_simp
              try exact ⟨Turned.refl _ _, rfl⟩
            case s5 =>
              refine fun hs hl => stepG_free [44] [] (by kernel_rfl) rfl ?_
              intro ac W hT hI hO
              have h44 : ac.tmps.getD 44 undef = .pointer (some ⟨w.heap.size, 3, none⟩) := hI 44 (by simp)
              show Brings Try.prog (fun v w' => Turned (fun _ => False) W w' ∧ v = .slice x.at_.1 x.args.length x.at_.2) _
              obtain ⟨q0, q1, q2, q3, _⟩ := HCX.out W hT.t
              simp only [execOp, Act.eval, h44]
              go_simp
              try exact ⟨Turned.refl _ _, rfl⟩
            case s6 =>
              refine fun hs hl => stepG_free [45] [] (by kernel_rfl) rfl ?_
              intro ac W hT hI hO
              have h45 : ac.tmps.getD 45 undef = .slice x.at_.1 x.args.length x.at_.2 := hI 45 (by simp)
              show Brings Try.prog (fun v w' => Turned (fun _ => False) W w' ∧ v = .int .i64 x.args.length) _
              simp only [execOp, Act.eval, h45]
              go_simp
              try exact ⟨Turned.refl _ _, rfl⟩
            case s7 =>
              refine fun hs hno hl => stepG_free [46] [] (by kernel_rfl) rfl ?_
              intro ac W hT hI hO
              have h46 : ac.tmps.getD 46 undef = .int .i64 x.args.length := hI 46 (by simp)
              show Brings Try.prog (fun v w' => MkR W4 x x.args.length (hs ++ [(7, v)]) w') _
              have hmk := make_blanksT x.args.length (by omega) W
              have hm1 := hmk.1
              have HM2 := Lib.hid hmk.2
              clear hmk
              simp only [execOp, Act.eval, h46]
              go_simp
              exact hT.made hno HM2.out
            case s8 =>
              refine fun hs hno hl => stepG_free [41, 43, 47] [] (by kernel_rfl) rfl ?_
              intro ac W hT hI hO
              have h41 : ac.tmps.getD 41 undef = .int .i64 x.kind := hI 41 (by simp)
              have h43 : ac.tmps.getD 43 undef = .string x.name := hI 43 (by simp)
              have h47 : (7, ac.tmps.getD 47 undef) ∈ hs := hI 47 (by simp)
              show Brings Try.prog (fun v w' => MkR W4 x x.args.length (hs ++ [(8, v)]) w') _
              obtain ⟨G, eG, _, _⟩ := hT.row _ h47
              refine brings_build27 41 43 47 rfl h41 h43 eG ?_
              rw [eG] at h47
              exact hT.built h47
            case s9 =>
              refine fun hs hno hl => stepG_free [] [] (by kernel_rfl) rfl ?_
              intro ac W hT hI hO
              show Brings Try.prog (fun v w' => MkR W4 x x.args.length (hs ++ [(9, v)]) w') _
              simp only [execOp, Act.eval]
              go_simp
              exact hT.laid hno (fun q => hl 10 11 q (by kernel_rfl))
            case s10 =>
              refine fun hs hno hl => stepG_free [8, 48] [] (by kernel_rfl) rfl ?_
              intro ac W hT hI hO
              have h8 : (9, ac.tmps.getD 8 undef) ∈ hs := hI 8 (by simp)
              have h48 : (8, ac.tmps.getD 48 undef) ∈ hs := hI 48 (by simp)
              obtain ⟨B, a0, a1, a2, a3, eB, hB⟩ := hT.cell h8
              obtain ⟨sv, hsv, eA⟩ := hT.agg _ h48
              obtain ⟨G, eG, _, _⟩ := hT.row _ hsv
              rw [eG] at eA
              obtain ⟨d0, d1, d2, d3, f0, f1, f2, f3⟩ := cells4 hB
              show Brings Try.prog (fun v w' => MkR W4 x x.args.length (hs ++ [(10, v)]) w') _
              simp only [execOp, Act.eval, eB, eA]
              go_simp
              rw [eB] at h8
              rw [eA] at h48
              exact hT.stored h8 h48
          case hQ =>
            intro hs7 vs W5 hall huniq hR hV
            obtain ⟨G, B, q8, hGB, hG, hB, hb5, hr5, T5⟩ := hR.done hall (hV 8 (by simp)) huniq
            simp only [List.foldl_cons, List.foldl_nil, List.setIfInBounds_toArray, List.set_cons_zero, List.set_cons_succ, q8]
            have HM5 := Lib.hid (HM.out.on T5)
            have HB5 := Lib.hid hb5
            have HZ : Hid (G ≠ B ∧ w.heap.size + 2 ≤ G ∧ w.heap.size + 2 ≤ B ∧ B < W5.heap.size ∧ G < W5.heap.size) := by
              have h1 := (Array.getElem?_eq_some_iff.1 HM.out.n1).1
              exact ⟨hGB, by omega, by omega, (Array.getElem?_eq_some_iff.1 hb5).1, hr5.lt G rfl⟩
            obtain ⟨c0, c1, c2, c3, _⟩ := cells4 HM5.out.n0
            have hL := fun W h => (LT.In.lies (p := p) (w := W) (t := x) h)
            obtain ⟨ad, had⟩ : ∃ z, z = x.at_.1 := ⟨_, rfl⟩
            rw [← had] at hL c3
            rw [← had]
            have HL := Lib.hid hL
            obtain ⟨o0, o1, o2, o3, _⟩ := cells4 hb5
            have HMI : Hid (MakI p (Tm.img (bt l)) G K x W5 0 (blanks x.args.length) W5) := ⟨blanks_length _, rfl, hr5, blanks_in _ _ _, Turned.refl _ _⟩
            obtain ⟨Y, hY⟩ : ∃ z, z = x.args.map (fun y => Tm.img (bt l) y.bare) := ⟨_, rfl⟩
            have HYI : Hid (Tm.img (bt l) t.bare = .mk x.kind 0 x.name () Y) := by
              show _ = _
              have h1 := HAR.out
              rw [← HXB.out, Tm.bare_kind, Tm.bare_name, Tm.bare_args, Tm.bares_eq, List.map_map] at h1
              rw [h1, hY]
              rfl
            have HY := Lib.hid hY
            clear hall huniq hR hV hs7 hGB hG hB hb5 hr5 T5 q8 hY had hL
            go_wp2_with fail
            go_loopg [52] x.args.length (fun k i wr => MakL p bb K l x s d G Y W5 k i wr)
            case atStart => exact ⟨0, _, Nat.zero_add _, Nat.zero_le _, rfl, HMI, show _ = _ by (have := HM5.out.k; simpa [Tm.sizes] using this), show _ ≤ _ by simpa [Tm.sizes] using hA, fun y hy => by simp at hy⟩
            case round =>
              obtain ⟨j, us, HG, hj, rfl, HMI, HKJ, HSJ, HDJ⟩ := hrel
              have hob := (HMI.out.turned.block B HZ.out.2.2.2.1 (fun e => by have := HZ.out; have := HKL.out; omega)).trans HB5.out
              have HXJ := Lib.hid (LT.In.turned HMI.out.turned (fun k _ hk e => by
                have h1 := (HH.out.sep k hk).1
                rcases e with e | e
                · have := HZ.out; omega
                · exact HAP.out.2.2 (e ▸ hk)) (fun _ _ hk => hk) x HM5.out.inn)
              have HBJ : Hid (BI p bb sb lv tv m l wr) := HM5.out.bi.turned HMI.out.turned (fun k hk e => by
                rcases e with e | e
                · subst e
                  have h0 := HZ.out.2.1
                  refine ⟨fun c => by have := HH.out.own_lt _ c; omega, fun b hb c => by have := (Array.getElem?_eq_some_iff.1 (HH.out.terms b hb).1).1; omega, fun c => by have := (HH.out.sep _ c).1; omega⟩
                · rw [show k = K from e]; exact HAP.out)
              have HSZ : Hid (W5.heap.size ≤ wr.heap.size) := HMI.out.turned.size
              obtain ⟨o0, o1, o2, o3, _⟩ := cells4 hob
              have HOB := Lib.hid hob
              clear hob
              by_cases hjl : j < x.args.length
              · obtain ⟨xj, hxj⟩ : ∃ y : LT, x.args[j]? = some y := ⟨_, List.getElem?_eq_getElem hjl⟩
                have hYj : Y[j]? = some (Tm.img (bt l) xj.bare) := by rw [HY.out, List.getElem?_map, hxj]; rfl
                have hone : ∀ z ∈ xj.bare.flat, goodOneB z = true := fun z hz => HWD.out.ones z (by
                  rw [← HXB.out, Tm.flat_eq]
                  refine List.mem_cons_of_mem _ (Tm.mem_flats_iff.2 ⟨xj.bare, ?_, hz⟩)
                  rw [Tm.bare_args, Tm.bares_eq]
                  exact List.mem_map_of_mem (List.mem_of_getElem? hxj))
                have hih := fun W (T : Turned (fun _ => False) wr W) => ih xj W (s + 1 + Tm.sizes (Y.take j)) (d + 1) (by omega) (by omega) (HBJ.out.turned0 T) ((LT.ins_iff _).1 (HXJ.out.turned0 T).args xj (List.mem_of_getElem? hxj)) hone HAP.out ((T.block K (Array.getElem?_eq_some_iff.1 HKJ.out).1 (fun f => f)).trans HKJ.out) HSJ.out
                rw [show (((d + 1 : Nat) : Int)) = (d : Int) + 1 from by omega, LT.val_eq xj] at hih
                obtain ⟨b, o, rfl, _, x0, x1, x2, x3⟩ := (HL.out _ HXJ.out).cell hxj
                have HXX := Lib.hid hxj
                have HYJ := Lib.hid hYj
                have hhw : (w.heap.size + 1 : Nat) ≠ G := by have := HZ.out; omega
                have hbx := heap_alloc_new wr (.cells #[.int .i64 xj.kind, .int .i64 xj.n, .string xj.name, .slice xj.at_.1 xj.args.length xj.at_.2] 27)
                have TX : Turned (fun _ => False) wr (wr.alloc (.cells #[.int .i64 xj.kind, .int .i64 xj.n, .string xj.name, .slice xj.at_.1 xj.args.length xj.at_.2] 27)) := (Turned.refl _ wr).alloc _
                have HBT := And.intro (Lib.hid hbx) (Lib.hid TX)
                clear hbx TX hxj hYj hone
                obtain ⟨ok, hok⟩ : ∃ z, z = Tm.makeOk (s + 1 + Tm.sizes (Y.take j)) (d + 1) (Tm.img (bt l) xj.bare) := ⟨_, rfl⟩
                have hih' : ∀ W, Turned (fun _ => False) wr W → Calls Try.prog 147 #[.pointer (some ⟨K, 0, none⟩), .agg #[.int .i64 xj.kind, .int .i64 xj.n, .string xj.name, .slice xj.at_.1 xj.args.length xj.at_.2], .int .i64 ((d : Int) + 1)] W fun e w' => ∃ u : LT, e = .returned (.tuple #[u.val, .bool ok]) ∧ CallQ p bb K ok (Tm.img (bt l) xj.bare) (s + 1 + Tm.sizes (Y.take j)) W u w' := fun W T => (hih W T).mono (fun e w' ⟨u, h1, h2, h3, h4, h5⟩ => ⟨u, by rw [h1, hok], h2, by rw [hok]; exact h3, by rw [hok]; exact h4, h5⟩)
                have HIH := Lib.hid hih'
                have HOK := Lib.hid hok
                clear hih hih' hok
                go_wp2_with fail
                revert HBT
                generalize wr.alloc (.cells #[.int .i64 xj.kind, .int .i64 xj.n, .string xj.name, .slice xj.at_.1 xj.args.length xj.at_.2] 27) = wx
                obtain ⟨B9, hB9⟩ : ∃ z, z = wr.heap.size := ⟨_, rfl⟩
                rw [← hB9]
                intro HBT
                have HB9 := Lib.hid hB9
                clear hB9
                obtain ⟨HBX, HTX⟩ := HBT
                have HCB := Lib.hid (fun W (T : Turned (fun k => k = K ∨ k = G) wx W) => cells4 ((T.block B9 (Array.getElem?_eq_some_iff.1 HBX.out).1 (fun e => by have := HB9.out; have := HKL.out; have := HZ.out; have := HSZ.out; omega)).trans HBX.out))
                have HCO := Lib.hid (fun W (T : Turned (fun k => k = K ∨ k = G) wx W) => cells4 ((T.block B (Nat.lt_of_lt_of_le (Array.getElem?_eq_some_iff.1 HOB.out).1 HTX.out.size) (fun e => by have := HKL.out; have := HZ.out; omega)).trans ((HTX.out.block B (Array.getElem?_eq_some_iff.1 HOB.out).1 (fun f => f)).trans HOB.out)))
                clear o0 o1 o2 o3 x0 x1 x2 x3
                refine wp_region_hsW [58, 59, 60, 61, 62, 63, 64, 65, 57, 66, 67, 68, 11] [7, 8, 9, 12] [3, 3, 3, 0, 0, 0, 0, 1, 2, 3, 4, 3, 4, 4] [65, 57, 66, 100012] (fun dd v => (match dd with | 58 => v = .pointer (some ⟨B, 3, none⟩) | 59 => v = .slice (some ⟨G, 0, none⟩) x.args.length x.args.length | 60 => v = .int .i64 j | 61 => v = .pointer (some ⟨K, 0, none⟩) | 62 => v = .agg #[.int .i64 xj.kind, .int .i64 xj.n, .string xj.name, .slice xj.at_.1 xj.args.length xj.at_.2] | 63 => v = .int .i64 d | 64 => v = .int .i64 ((d : Int) + 1) | 67 => v = .bool ok | 68 => v = .pointer (some ⟨G, j * 4, none⟩) | 11 => v = .bool ok | _ => True : Prop)) (MrS p (Tm.img (bt l)) bb K G ok (Tm.img (bt l) xj.bare) (s + 1 + Tm.sizes (Y.take j)) x j W5 wx) (by kernel_rfl) rfl (by kernel_rfl) (by kernel_rfl) (by kernel_rfl) (by kernel_rfl) (fun w h => h) (fun hs w w' h T => MrS.turned0 hs w w' h T) ?hs ?hQ
                case hs =>
                  refine ⟨?s0, ?s1, ?s2, ?s3, ?s4, ?s5, ?s6, ?s7, ?s8, ?s9, ?s10, ?s11, ?s12, ?s13, trivial⟩
                  case s0 =>
                    refine fun hs hle => stepG_free [] [8] (by kernel_rfl) rfl ?_
                    intro ac W hT hI hO
                    have h8 : ac.tmps.getD 8 undef = .pointer (some ⟨B, 0, none⟩) := hO 8 (by simp)
                    show Brings Try.prog (fun v w' => Turned (fun _ => False) W w' ∧ v = .pointer (some ⟨B, 3, none⟩)) _
                    simp only [execOp, Act.eval, h8]
                    go_simp
                    try exact ⟨Turned.refl _ _, rfl⟩
                  case s1 =>
                    refine fun hs hle => stepG_free [58] [] (by kernel_rfl) rfl ?_
                    intro ac W hT hI hO
                    have h58 : ac.tmps.getD 58 undef = .pointer (some ⟨B, 3, none⟩) := hI 58 (by simp)
                    show Brings Try.prog (fun v w' => Turned (fun _ => False) W w' ∧ v = .slice (some ⟨G, 0, none⟩) x.args.length x.args.length) _
                    obtain ⟨q0, q1, q2, q3, _⟩ := HCO.out W (MrS.turned hs W hT)
                    simp only [execOp, Act.eval, h58]
                    go_simp
                    try exact ⟨Turned.refl _ _, rfl⟩
                  case s2 =>
                    refine fun hs hle => stepG_free [] [9] (by kernel_rfl) rfl ?_
                    intro ac W hT hI hO
                    have h9 : ac.tmps.getD 9 undef = .int .i64 j := hO 9 (by simp)
                    show Brings Try.prog (fun v w' => Turned (fun _ => False) W w' ∧ v = .int .i64 j) _
                    simp only [execOp, Act.eval, h9]
                    go_simp
                    try exact ⟨Turned.refl _ _, rfl⟩
                  case s3 =>
                    refine fun hs hle => stepG_free [] [0] (by kernel_rfl) rfl ?_
                    intro ac W hT hI hO
                    have h0 : ac.tmps.getD 0 undef = .pointer (some ⟨K, 0, none⟩) := hO 0 (by simp)
                    show Brings Try.prog (fun v w' => Turned (fun _ => False) W w' ∧ v = .pointer (some ⟨K, 0, none⟩)) _
                    simp only [execOp, Act.eval, h0]
                    go_simp
                    try exact ⟨Turned.refl _ _, rfl⟩
                  case s4 =>
                    refine fun hs hle => stepG_free [] [10] (by kernel_rfl) rfl ?_
                    intro ac W hT hI hO
                    have h10 : ac.tmps.getD 10 undef = .pointer (some ⟨B9, 0, none⟩) := hO 10 (by simp)
                    show Brings Try.prog (fun v w' => Turned (fun _ => False) W w' ∧ v = .agg #[.int .i64 xj.kind, .int .i64 xj.n, .string xj.name, .slice xj.at_.1 xj.args.length xj.at_.2]) _
                    obtain ⟨q0, q1, q2, q3, _⟩ := HCB.out W (MrS.turned hs W hT)
                    simp only [execOp, Act.eval, h10]
                    go_simp
                    try exact ⟨Turned.refl _ _, rfl⟩
                  case s5 =>
                    refine fun hs hle => stepG_free [] [2] (by kernel_rfl) rfl ?_
                    intro ac W hT hI hO
                    have h2 : ac.tmps.getD 2 undef = .int .i64 d := hO 2 (by simp)
                    show Brings Try.prog (fun v w' => Turned (fun _ => False) W w' ∧ v = .int .i64 d) _
                    simp only [execOp, Act.eval, h2]
                    go_simp
                    try exact ⟨Turned.refl _ _, rfl⟩
                  case s6 =>
                    refine fun hs hle => stepG_free [63] [] (by kernel_rfl) rfl ?_
                    intro ac W hT hI hO
                    have h63 : ac.tmps.getD 63 undef = .int .i64 d := hI 63 (by simp)
                    show Brings Try.prog (fun v w' => Turned (fun _ => False) W w' ∧ v = .int .i64 ((d : Int) + 1)) _
                    simp only [execOp, Act.eval, h63]
                    go_simp
                    try rw [wrapI (by omega) (by omega)]
                    try exact ⟨Turned.refl _ _, rfl⟩
                  case s7 =>
                    refine fun hs hlen => stepG_free [61, 62, 64] [] (by kernel_rfl) rfl ?_
                    intro ac W hT hI hO
                    have h61 : ac.tmps.getD 61 undef = .pointer (some ⟨K, 0, none⟩) := hI 61 (by simp)
                    have h62 : ac.tmps.getD 62 undef = .agg #[.int .i64 xj.kind, .int .i64 xj.n, .string xj.name, .slice xj.at_.1 xj.args.length xj.at_.2] := hI 62 (by simp)
                    have h64 : ac.tmps.getD 64 undef = .int .i64 ((d : Int) + 1) := hI 64 (by simp)
                    obtain rfl : hs = [] := List.eq_nil_of_length_eq_zero hlen
                    replace hT : Turned (fun _ => False) wx W := hT
                    show Brings Try.prog (fun v w' => MrS p (Tm.img (bt l)) bb K G ok (Tm.img (bt l) xj.bare) (s + 1 + Tm.sizes (Y.take j)) x j W5 wx [v] w') _
                    simp only [execOp, Act.eval, h61, h62, h64]
                    go_simp
                    show Calls Try.prog 147 _ W _
                    (with_reducible refine (HIH.out W (HTX.out.trans hT)).mono ?_)
                    rintro e w' ⟨u, rfl, k1, k2, k3, k4⟩
                    exact ⟨_, rfl, u, by rw [LT.val_eq], k1.mono (fun k _ hk => hk.elim .inl (fun hk => .inr (Nat.le_trans hT.size hk))), k2, k3, (hT.mono (fun _ _ f => f.elim)).trans k4⟩
                  case s8 =>
                    refine fun hs hlen => stepG_free [65] [] (by kernel_rfl) rfl ?_
                    intro ac W hT hI hO
                    have h65 : hs[0]? = some (ac.tmps.getD 65 undef) := hI 65 (by simp)
                    obtain ⟨a, rfl⟩ := List.length_eq_one_iff.1 hlen
                    obtain ⟨u, ea, hC⟩ := hT
                    have e65 : a = ac.tmps.getD 65 undef := by simpa using h65
                    rw [e65] at ea
                    show Brings Try.prog (fun v w' => MrS p (Tm.img (bt l)) bb K G ok (Tm.img (bt l) xj.bare) (s + 1 + Tm.sizes (Y.take j)) x j W5 wx [a, v] w') _
                    simp only [execOp, Act.eval, ea]
                    go_simp
                    exact ⟨u, rfl, hC⟩
                  case s9 =>
                    refine fun hs hlen => stepG_free [57] [] (by kernel_rfl) rfl ?_
                    intro ac W hT hI hO
                    have h57 : hs[1]? = some (ac.tmps.getD 57 undef) := hI 57 (by simp)
                    obtain ⟨a, b, rfl⟩ := list2' hlen
                    obtain ⟨u, ea, hC⟩ := hT
                    have e57 : b = ac.tmps.getD 57 undef := by simpa using h57
                    show Brings Try.prog (fun v w' => MrS p (Tm.img (bt l)) bb K G ok (Tm.img (bt l) xj.bare) (s + 1 + Tm.sizes (Y.take j)) x j W5 wx [a, b, v] w') _
                    rw [e57] at ea
                    simp only [execOp, Act.eval, ea]
                    go_simp
                    exact ⟨u, by first | rfl | (rw [e57]; exact ea), rfl, hC⟩
                  case s10 =>
                    refine fun hs hle => stepG_free [57] [] (by kernel_rfl) rfl ?_
                    intro ac W hT hI hO
                    have h57 : hs[1]? = some (ac.tmps.getD 57 undef) := hI 57 (by simp)
                    show Brings Try.prog (fun v w' => Turned (fun _ => False) W w' ∧ v = .bool ok) _
                    obtain ⟨u, eu⟩ := MrS.tup hs W _ hT h57
                    simp only [execOp, Act.eval, eu]
                    go_simp
                    try exact ⟨Turned.refl _ _, rfl⟩
                  case s11 =>
                    refine fun hs hle => stepG_free [59, 60] [] (by kernel_rfl) rfl ?_
                    intro ac W hT hI hO
                    have h59 : ac.tmps.getD 59 undef = .slice (some ⟨G, 0, none⟩) x.args.length x.args.length := hI 59 (by simp)
                    have h60 : ac.tmps.getD 60 undef = .int .i64 j := hI 60 (by simp)
                    show Brings Try.prog (fun v w' => Turned (fun _ => False) W w' ∧ v = .pointer (some ⟨G, j * 4, none⟩)) _
                    simp only [execOp, Act.eval, h59, h60]
                    go_simp
                    try exact ⟨Turned.refl _ _, rfl⟩
                  case s12 =>
                    refine fun hs hlen => stepG_free [68, 66] [] (by kernel_rfl) rfl ?_
                    intro ac W hT hI hO
                    have h68 : ac.tmps.getD 68 undef = .pointer (some ⟨G, j * 4, none⟩) := hI 68 (by simp)
                    have h66 : hs[2]? = some (ac.tmps.getD 66 undef) := hI 66 (by simp)
                    obtain ⟨a, b, c, rfl⟩ := list3' hlen
                    obtain ⟨u, eb, ec, hC⟩ := hT
                    have e66 : c = ac.tmps.getD 66 undef := by simpa using h66
                    show Brings Try.prog (fun v w' => MrS p (Tm.img (bt l)) bb K G ok (Tm.img (bt l) xj.bare) (s + 1 + Tm.sizes (Y.take j)) x j W5 wx [a, b, c, v] w') _
                    rw [e66] at ec
                    have hrw := (HMI.out.row.turned0 HTX.out).turned hC.2.2.2 (fun k hk e => by simp [Value.ownBlock] at hk; have := HZ.out; have := HKL.out; omega)
                    have f0 := hrw.free rfl (j * 4)
                    have f1 := hrw.free rfl (j * 4 + 1)
                    have f2 := hrw.free rfl (j * 4 + 2)
                    have f3 := hrw.free rfl (j * 4 + 3)
                    obtain ⟨z0, g0⟩ := row_some hrw (j * 4) (by omega)
                    obtain ⟨z1, g1⟩ := row_some hrw (j * 4 + 1) (by omega)
                    obtain ⟨z2, g2⟩ := row_some hrw (j * 4 + 2) (by omega)
                    obtain ⟨z3, g3⟩ := row_some hrw (j * 4 + 3) (by omega)
                    have HRS := Lib.hid (mr_store (w3 := W5) HMI.out HTX.out (fun k hk => ⟨by have := (HH.out.sep k hk).1; have := HZ.out; omega, fun e => HAP.out.2.2 (e ▸ hk)⟩) (by have := HZ.out; have := HKL.out; omega) (by have := HZ.out; have := HSZ.out; omega) HXX.out rfl hC)
                    simp only [execOp, Act.eval, h68, ec]
                    go_simp
                    exact ⟨⟨u, by first | rfl | exact eb⟩, HRS.out⟩
                  case s13 =>
                    refine fun hs hle => stepG_free [67] [] (by kernel_rfl) rfl ?_
                    intro ac W hT hI hO
                    have h67 : ac.tmps.getD 67 undef = .bool ok := hI 67 (by simp)
                    show Brings Try.prog (fun v w' => Turned (fun _ => False) W w' ∧ v = .bool ok) _
                    simp only [execOp, Act.eval, h67]
                    go_simp
                    try exact ⟨Turned.refl _ _, rfl⟩
                case hQ =>
                  intro hs4 vs4 W9 hlen hR hV
                  have q11 : vs4 11 = .bool ok := hV 11 (by simp)
                  simp only [List.foldl_cons, List.foldl_nil, List.setIfInBounds_toArray, List.set_cons_zero, List.set_cons_succ, q11]
                  obtain ⟨e1, e2, e3, e4, rfl⟩ : ∃ a b c d, hs4 = [a, b, c, d] := list4' hlen
                  have HRQ := Lib.hid (show RowQ p (Tm.img (bt l)) bb K G ok (Tm.img (bt l) xj.bare) (s + 1 + Tm.sizes (Y.take j)) x j W5 wx W9 from hR.2)
                  clear hR hV q11 hlen
                  cases ok with
                  | false =>
                    have HNO : Hid (Tm.makeOk s d (Tm.img (bt l) t.bare) = false) := Tm.makeOk_no (i := j) (x := Tm.img (bt l) xj.bare) (by rw [HYI.out]; exact HYJ.out) (by rw [HYI.out]; exact HOK.out.symm)
                    have hz9 := (HRQ.out.2.1.block (w.heap.size + 1) (by have := (Array.getElem?_eq_some_iff.1 HM5.out.n1).1; have := HSZ.out; have := HTX.out.size; omega) (fun e => by have := HKL.out; have := HZ.out; omega)).trans ((HTX.out.block _ (by have := (Array.getElem?_eq_some_iff.1 HM5.out.n1).1; have := HSZ.out; omega) (fun f => f)).trans ((HMI.out.turned.block _ (Array.getElem?_eq_some_iff.1 HM5.out.n1).1 (fun e => by have := HKL.out; have := HZ.out; omega)).trans HM5.out.n1))
                    obtain ⟨z0, z1, z2, z3, f0, f1, f2, f3⟩ := cells4 hz9
                    have HZ9 := Lib.hid hz9
                    clear hz9
                    go_wp2_with fail
                    have hset := set4 (a' := .int .i64 0) (b' := .int .i64 0) (c' := .string ⟨#[]⟩) (d' := .slice none 0 0) HZ9.out
                    have Tq := fun W => turned_store4 W (w.heap.size + 1) (.int .i64 0) (.int .i64 0) (.string ⟨#[]⟩) (.slice none 0 0)
                    obtain ⟨⟨s', hk9, _⟩, ht9, _⟩ := HRQ.out
                    refine bodyPost_ret (results_cell_tmp1 Try.results147 _ _ (w.heap.size + 1) 27 _ (0, 0) _ rfl hset Try.underlying27 rfl (by kernel_rfl)) rfl (MakeQ.no HNO.out (((Tq _).block K (Array.getElem?_eq_some_iff.1 hk9).1 (by omega)).trans hk9) ?_)
                    refine ((((HM5.out.turned.step HMI.out.turned (fun i hi e => ?_)).trans (HTX.out.mono (fun _ _ f => f.elim))).step ht9 (fun i hi e => ?_))).step (Tq _) (fun i hi e => by omega)
                    · rcases e with e | e
                      · have := HZ.out; omega
                      · exact e
                    · rcases e with e | e
                      · exact e
                      · have := HZ.out; omega
                  | true =>
                    obtain ⟨⟨s', hk9, hs9⟩, ht9, hm9⟩ := HRQ.out
                    have hs9' := hs9 rfl
                    subst hs9'
                    have HK9 := Lib.hid hk9
                    have HT9 := Lib.hid ht9
                    have HM9 := Lib.hid (hm9 rfl)
                    clear hk9 ht9 hm9 hs9
                    go_wp2_with fail
                    have hst := Tm.sizes_take HYJ.out
                    obtain ⟨h1, h2⟩ := Tm.makeOk_iff.1 HOK.out.symm
                    obtain ⟨us', hI9⟩ := HM9.out
                    have HST := Lib.hid hst
                    have HI9 := Lib.hid hI9
                    have H12 := Lib.hid (And.intro h1 h2)
                    clear hst hI9 h1 h2
                    go_roundg (gk - 1)
                    case measure => have := HG.out; omega
                    case rel =>
                      refine ⟨j + 1, us', show _ = _ by have := HG.out; omega, by omega, by go_num, HI9, ?_, ?_, ?_⟩
                      · show _ = _
                        rw [HST.out]
                        have := HK9.out
                        rw [show s + 1 + (Tm.sizes (Y.take j) + (Tm.img (bt l) xj.bare).size) = s + 1 + Tm.sizes (Y.take j) + (Tm.img (bt l) xj.bare).size from by omega]
                        exact this
                      · show _ ≤ _
                        rw [HST.out]; have := H12.out.1; omega
                      · show ∀ y ∈ _, _
                        intro y hy
                        rw [List.take_add_one, HYJ.out] at hy
                        rcases List.mem_append.1 hy with hy | hy
                        · exact HDJ.out y hy
                        · simp at hy; rw [hy]; have := H12.out.2; omega
              · obtain rfl : j = x.args.length := by omega
                have hyl : Y.length = x.args.length := by rw [HY.out, List.length_map]
                have hk0 := HKJ.out
                have hs0 := HSJ.out
                have hd0 := HDJ.out
                rw [← hyl, List.take_length] at hk0 hs0 hd0
                have hmk : Tm.makeOk s d (Tm.img (bt l) t.bare) = true := Tm.makeOk_yes hA hD (by rw [HYI.out]; exact hs0) (by rw [HYI.out]; exact hd0)
                have hms : (Tm.img (bt l) t.bare).size = 1 + Tm.sizes Y := by rw [HYI.out, Tm.size_eq]; rfl
                have HK0 := Lib.hid hk0
                have HMK := Lib.hid (And.intro hmk hms)
                have hz9 := (HMI.out.turned.block _ (Array.getElem?_eq_some_iff.1 HM5.out.n1).1 (fun e => by have := HKL.out; have := HZ.out; omega)).trans HM5.out.n1
                obtain ⟨z0, z1, z2, z3, f0, f1, f2, f3⟩ := cells4 hz9
                have HZ9 := Lib.hid hz9
                clear hz9 hyl hk0 hs0 hd0 hmk hms
                go_wp2_with fail
                have hset := set4 (a' := .int .i64 x.kind) (b' := .int .i64 0) (c' := .string x.name) (d' := .slice (some ⟨G, 0, none⟩) x.args.length x.args.length) HZ9.out
                have Tq := fun W => turned_store4 W (w.heap.size + 1) (.int .i64 x.kind) (.int .i64 0) (.string x.name) (.slice (some ⟨G, 0, none⟩) x.args.length x.args.length)
                refine bodyPost_ret (results_cell_tmp1 Try.results147 _ _ (w.heap.size + 1) 27 _ (0, 0) _ rfl hset Try.underlying27 rfl (by kernel_rfl)) rfl ?_
                have hTT := (HM5.out.turned.step HMI.out.turned (fun i hi e => by
                  rcases e with e | e
                  · have := HZ.out; omega
                  · exact e)).step (Tq _) (fun i hi e => by omega)
                have hrow := HMI.out.row.turned (Tq _) (fun k hk e => by simp [Value.ownBlock] at hk; have := HZ.out; omega)
                have hins := HMI.out.ins.turned (q := fun k => p k ∨ w.heap.size ≤ k) (Tq _) (fun k _ hk e => by
                  rcases hk with hk | hk
                  · have := (HH.out.sep k hk).1; omega
                  · have := HZ.out; omega) (fun k _ hk => hk.elim .inl (fun hk => .inr (by have := HZ.out; omega)))
                obtain ⟨e1, e2⟩ := LT.Sl.of_row (p := fun k => p k ∨ w.heap.size ≤ k) hrow (fun k hk => .inr (by simp [Value.ownBlock] at hk; have := HZ.out; omega)) hins
                have hUL : us.length = x.args.length := HMI.out.len
                have hyes := MakeQ.yes (p := p) (bb := bb) (K := K) (l := l) (t := t) (u := .mk x.kind 0 x.name (some ⟨G, 0, none⟩, x.args.length) us) (s := s) (d := d) (w := w) HMK.out.1 ?_ (e2.in_ HM5.out.inn.kind (i64_lit _ (by omega)) HM5.out.inn.name) (((Tq _).block K (Array.getElem?_eq_some_iff.1 HK0.out).1 (by omega)).trans HK0.out) (by rw [HMK.out.2]; omega) hTT
                · simp only [Tm.kind, Tm.n, Tm.name, Tm.args, LT.at_] at hyes
                  rw [hUL] at hyes
                  exact hyes
                · have hbr := HMI.out.bares
                  rw [List.take_length, ← hUL, List.take_length] at hbr
                  rw [HYI.out, Tm.bare, Tm.bares_eq, hbr, HY.out]
      · have d2 : decide (64 < (d : Int)) = true := decide_eq_true (by omega)
        have hno : Tm.makeOk s d (Tm.img (bt l) t.bare) = false := by
          rw [Bool.eq_false_iff, ne_eq, Tm.makeOk_iff]
          have := Tm.depth_pos (Tm.img (bt l) t.bare)
          omega
        go_enter Try.func147, Try.ntmps147
        go_wp2_with fail
        rw [← HW2.out]
        obtain ⟨e0, e1, _⟩ := rec2b (HKP.out w2 (Turned.refl _ _))
        obtain ⟨y0, y1, y2, y3, _⟩ := cells4 (HCP.out w2 (Turned.refl _ _)).1
        refine region_tail 5 (by kernel_rfl) (by kernel_rfl) ?_
        simp only [List.take_succ_cons, List.take_zero, List.drop_succ_cons, List.drop_zero]
        repeat still_step
        refine wpStill_nil ?_
        go_wp2_with (go_at_call 90; (with_reducible refine (HWK.out _ (Turned.refl _ _).drew).mono ?_); rintro e w3 ⟨x, rfl, hxin, hxb, T3⟩; rw [LT.val_eq x]; have S3 := (Turned.refl _ w2).drew.trans T3; have hq3 := HKP.out _ S3; obtain ⟨hb3, hz3⟩ := HCP.out _ S3; obtain ⟨k0, k1, kf0, kf1⟩ := rec2b hq3; obtain ⟨c0, c1, c2, c3, f0, f1, f2, f3⟩ := cells4 hb3; obtain ⟨z0, z1, z2, z3, g0, g1, g2, g3⟩ := cells4 hz3; have HAW := Lib.hid (afterWalk hb3 hq3 hz3 HKL.out (.int .i64 x.kind) (.int .i64 x.n) (.string x.name) (.slice x.at_.1 x.args.length x.at_.2) (.int .i64 ((s : Int) + 1))); have HXI := Lib.hid hxin; have HXB := Lib.hid hxb; have HS3 := Lib.hid S3; clear hq3 hb3 hz3 hxin hxb S3 T3)
        obtain ⟨A1, A2, A3, A4⟩ := HAW.out
        have hset := set4 (a' := .int .i64 0) (b' := .int .i64 0) (c' := .string ⟨#[]⟩) (d' := .slice none 0 0) A3
        have Tq := fun W => turned_store4 W (w.heap.size + 1) (.int .i64 0) (.int .i64 0) (.string ⟨#[]⟩) (.slice none 0 0)
        refine bodyPost_ret (results_cell_tmp1 Try.results147 _ _ (w.heap.size + 1) 27 _ (0, 0) _ rfl hset Try.underlying27 rfl (by kernel_rfl)) rfl (MakeQ.no hno (((Tq _).block K (Array.getElem?_eq_some_iff.1 A2).1 (by omega)).trans A2) (make_turned HT2.out HS3.out A4 (Tq _)))
    · have d1 : decide (2000 < (s : Int) + 1) = true := decide_eq_true (by omega)
      have hno : Tm.makeOk s d (Tm.img (bt l) t.bare) = false := by
        rw [Bool.eq_false_iff, ne_eq, Tm.makeOk_iff]
        have := Tm.size_pos (Tm.img (bt l) t.bare)
        omega
      go_enter Try.func147, Try.ntmps147
      go_wp2_with fail
      rw [← HW2.out]
      obtain ⟨e0, e1, _⟩ := rec2b (HKP.out w2 (Turned.refl _ _))
      obtain ⟨y0, y1, y2, y3, _⟩ := cells4 (HCP.out w2 (Turned.refl _ _)).1
      refine region_tail 5 (by kernel_rfl) (by kernel_rfl) ?_
      simp only [List.take_succ_cons, List.take_zero, List.drop_succ_cons, List.drop_zero]
      repeat still_step
      refine wpStill_nil ?_
      go_wp2_with (go_at_call 90; (with_reducible refine (HWK.out _ (Turned.refl _ _).drew).mono ?_); rintro e w3 ⟨x, rfl, hxin, hxb, T3⟩; rw [LT.val_eq x]; have S3 := (Turned.refl _ w2).drew.trans T3; have hq3 := HKP.out _ S3; obtain ⟨hb3, hz3⟩ := HCP.out _ S3; obtain ⟨k0, k1, kf0, kf1⟩ := rec2b hq3; obtain ⟨c0, c1, c2, c3, f0, f1, f2, f3⟩ := cells4 hb3; obtain ⟨z0, z1, z2, z3, g0, g1, g2, g3⟩ := cells4 hz3; have HAW := Lib.hid (afterWalk hb3 hq3 hz3 HKL.out (.int .i64 x.kind) (.int .i64 x.n) (.string x.name) (.slice x.at_.1 x.args.length x.at_.2) (.int .i64 ((s : Int) + 1))); have HXI := Lib.hid hxin; have HXB := Lib.hid hxb; have HS3 := Lib.hid S3; clear hq3 hb3 hz3 hxin hxb S3 T3)
      obtain ⟨A1, A2, A3, A4⟩ := HAW.out
      have hset := set4 (a' := .int .i64 0) (b' := .int .i64 0) (c' := .string ⟨#[]⟩) (d' := .slice none 0 0) A3
      have Tq := fun W => turned_store4 W (w.heap.size + 1) (.int .i64 0) (.int .i64 0) (.string ⟨#[]⟩) (.slice none 0 0)
      refine bodyPost_ret (results_cell_tmp1 Try.results147 _ _ (w.heap.size + 1) 27 _ (0, 0) _ rfl hset Try.underlying27 rfl (by kernel_rfl)) rfl (MakeQ.no hno (((Tq _).block K (Array.getElem?_eq_some_iff.1 A2).1 (by omega)).trans A2) (make_turned HT2.out HS3.out A4 (Tq _)))
end Go.Proofs.Ytoihjobdfjajfaa
namespace Go.Proofs.Ytoihjobdfjajfaa
set_option linter.unusedVariables false
set_option linter.unusedSimpArgs false
open Go.RowKit Go.Maps
theorem brings_append_any {P : Program} {w : World} {o : Oper} {a : Act} {F : Value → World → Prop} (s x : Operand) (t : TypeId)
    (ho : o.op = .call { callee := .builtin .append, args := #[s, x], argTypes := #[t, t] })
    (e : TypeId) (i : TypeInfo) (z : Value) (size bytes : Nat) (ht : P.underlying t = some (.slice e)) (hi : P.info? e = some i) (hz : i.zero = some z)
    (hsize : i.size = size) (hby : i.bytes = bytes) (hzs : z.cells.size = size) (hsz : 0 < size)
    (v : Value) (n : Nat) (xs : List Value) (hs : a.eval s = v) (hown : Row w e size v n xs)
    (ao : Option Addr) (m c : Nat) (news : List Value) (hx : a.eval x = .slice ao m c) (hnone : ao = none → m = 0 ∧ c = 0) (hl : news.length = m * size) (hnews : ∀ ad, ao = some ad → ∀ j u, news[j]? = some u → w.cell? (ad.add j) = some u) (h1 : ∀ u ∈ news, u.oneCell' = true)
    (h63 : n + m ≤ maxLen) (hbytes : (n + m) * bytes ≤ 140737488355328)
    (h : ∀ v' w', Row w' e size v' (n + m) (xs ++ news) → Turned (fun k => v.ownBlock = some k) w w' → (v'.ownBlock = v.ownBlock ∨ v'.ownBlock = some w.heap.size) → F v' w') : Brings P F ((execOp a.eval o).run P w) := by
  obtain ⟨v', w', hr, h2, h3, h4⟩ := run_append_any (P := P) w t o.type e i z size bytes ht hi hz hsize hby hzs hsz v n xs hown ao m c news hnone hl hnews h1 h63 hbytes
  unfold execOp
  simp only [ho, resolve, invoke, builtin, Sem.run_bind, Sem.run_pure, Result.andThen_ok, List.map_toArray, List.map_cons, List.map_nil, hs, hx, hr]
  exact h v' w' h2 h3 h4
def AppS (v0 : Value) (n k : Nat) (xs news : List Value) (wx : World) : List Value → World → Prop
  | [], W => Turned (fun _ => False) wx W
  | [v], W => Row W 27 4 v (n + k) (xs ++ news) ∧ Turned (fun q => v0.ownBlock = some q) wx W ∧ (v.ownBlock = v0.ownBlock ∨ ∀ q, v.ownBlock = some q → wx.heap.size ≤ q)
  | _, _ => False
theorem AppS.turned0 {v0 : Value} {n k : Nat} {xs news : List Value} {wx : World} : ∀ (hs : List Value) (w w' : World), AppS v0 n k xs news wx hs w → Turned (fun _ => False) w w' → AppS v0 n k xs news wx hs w'
  | [], _, _, h, ht => Turned.trans h ht
  | [_], _, _, h, ht => ⟨h.1.turned0 ht, h.2.1.trans (ht.mono (fun _ _ f => f.elim)), h.2.2⟩
  | _ :: _ :: _, _, _, h, _ => h.elim
theorem AppS.nil {v0 : Value} {n k : Nat} {xs news : List Value} {wx W : World} {hs : List Value} (hl : hs.length ≤ 0) (h : AppS v0 n k xs news wx hs W) : Turned (fun _ => False) wx W := by
  match hs, hl, h with
  | [], _, h => exact h
theorem lies_any {p : Nat → Prop} {w : World} {a : Option Addr} {l : List LT} (h : LT.Lies p w a l) (ad : Addr) (ha : a = some ad) (j : Nat) (u : Value) (hu : (l.flatMap LT.cells)[j]? = some u) : w.cell? (ad.add j) = some u := by
  have hl : 0 < l.length := by
    have := (List.getElem?_eq_some_iff.1 hu).1
    rw [LT.flat_length] at this; omega
  obtain ⟨b, o, e, _, hc⟩ := h hl
  rw [ha] at e
  have e2 := Option.some.inj e
  subst e2
  rw [Addr.add_lit]
  exact hc j u hu
theorem had_yes {w : World} {mb n : Nat} {had : List Int} {k : Int} (h : IMap Try.prog 2 w mb n (fun i => if i ∈ had then some (.bool true) else none)) (hk : k ∈ had) (h64 : I64 k) : (Instr.lookup 140 (.map (some mb)) (.int .i64 k) false).run Try.prog w = .ok (.bool true) w := by
  have := h.look law2 Try.underlying140 (zero4 _) (key2 h64)
  simp only [if_pos hk, Option.getD_some] at this
  exact this
theorem had_no {w : World} {mb n : Nat} {had : List Int} {k : Int} (h : IMap Try.prog 2 w mb n (fun i => if i ∈ had then some (.bool true) else none)) (hk : k ∉ had) (h64 : I64 k) : (Instr.lookup 140 (.map (some mb)) (.int .i64 k) false).run Try.prog w = .ok (.bool false) w := by
  have := h.look law2 Try.underlying140 (zero4 _) (key2 h64)
  simp only [if_neg hk, Option.getD_none] at this
  exact this
theorem BI.read {p : Nat → Prop} {bb sb m mb : Nat} {g cl : Nat} {tv : Value} {l : TL} {w w' : World} {n : Int} (h : BI p bb sb (.slice (some ⟨g, 0, none⟩) m cl) tv m l w) (hmb : ¬ ownK bb sb (.slice (some ⟨g, 0, none⟩) m cl) tv mb ∧ (∀ b ∈ l, mb ≠ b.2.1) ∧ ¬ p mb) (T : Turned (· = mb) w w') (h0 : 0 ≤ n) (h1 : n < (m : Int)) :
    w'.cell? ⟨bb, 0, none⟩ = some (.slice (some ⟨g, 0, none⟩) m cl) ∧ w'.cell? ⟨g, n.toNat, none⟩ = some (ptrV (lookL l n)) ∧ BI p bb sb (.slice (some ⟨g, 0, none⟩) m cl) tv m l w' := by
  have hb := h.turned T (fun k _ e => by rw [show k = mb from e]; exact hmb)
  obtain ⟨c0, _⟩ := rec2b hb.b
  refine ⟨c0, ?_, hb⟩
  have := hb.row.cells rfl n.toNat _ (ptrs_at (by omega))
  rw [Int.toNat_of_nonneg h0] at this
  exact this
theorem own_new {g n c : Nat} {w W : World} (hg : g = W.heap.size) (hW : w.heap.size ≤ W.heap.size) : ∀ k, (Value.slice (some ⟨g, 0, none⟩) n c).ownBlock = some k → w.heap.size ≤ k := by
  intro k hk
  simp [Value.ownBlock] at hk
  omega
def WithR (p : Nat → Prop) (mb m : Nat) (l : TL) (n : Int) (t : LT) (w0 : World) (k : Nat) (v : Value) (wr : World) : Prop :=
  ∃ (todo : List LT) (had : List Int), Hid (Tm.sizes todo + Tm.gasT (bt l) had = k) ∧ k ≤ 131074000 ∧ Hid (SeekI p mb m l n t w0 todo had v wr)
set_option maxRecDepth 100000 in
set_option maxHeartbeats 6400000 in
theorem within145 {p : Nat → Prop} {bb sb m : Nat} {lv tv : Value} {l : TL} {w : World} {mb : Nat} {t : LT} {n : Int} (h : BI p bb sb lv tv m l w) (ht : t.In p w) (hg : Tm.ownB m t = true) (hn : n ∉ Tm.dom (bt l)) (hm : IMap Try.prog 2 w mb 0 (fun _ => none)) (hmb : ¬ ownK bb sb lv tv mb ∧ (∀ b ∈ l, mb ≠ b.2.1) ∧ ¬ p mb) :
    Calls Try.prog 145 #[.pointer (some ⟨bb, 0, none⟩), .int .i64 n, t.val, .map (some mb)] w fun e w' => e = .returned (.bool (decide (n ∈ (Tm.img (bt l) t.bare).vars))) ∧ Turned (· = mb) w w' := by
  obtain ⟨i0, hi0, hz0, hz1, hz2⟩ := info_parts infoT
  have hgood : goodB t = true := by unfold Tm.ownB at hg; exact (Bool.and_eq_true_iff.1 hg).1
  have hgiv : given m t := by
    have h1 := Tm.ownB_iff.1 (show Tm.ownB m t.bare = true by unfold Tm.ownB at hg ⊢; rw [goodB_bare, Tm.vars_bare]; exact hg)
    exact ⟨Tm.good_ones' h1.1, h1.2⟩
  have hsz : t.size ≤ 2000 := by
    unfold goodB at hgood
    simp only [Bool.and_eq_true, decide_eq_true_eq] at hgood
    exact hgood.1
  have hgas : Tm.gasT (bt l) [] ≤ 2000 * 65536 := by
    have h1 := Tm.gasT_le h.ok []
    have h2 := h.length
    have h3 := h.most
    rw [bt_length] at h1
    omega
  have hmlt := hm.lt
  have h2 := twoBox w (.cells #[.int .i64 t.kind, .int .i64 t.n, .string t.name, .slice t.at_.1 t.args.length t.at_.2] 27) (.cells #[.int .i64 t.kind, .int .i64 t.n, .string t.name, .slice t.at_.1 t.args.length t.at_.2] 27)
  obtain ⟨RB, hRB⟩ : ∃ z, z = decide (n ∈ (Tm.img (bt l) t.bare).vars) := ⟨_, rfl⟩
  rw [← hRB]
  have HRB := Lib.hid hRB
  have hst : Hid (SeekI p mb m l n t w [t] [] (.slice (some ⟨w.heap.size + 1, 0, none⟩) 1 1) ((w.alloc (.cells #[.int .i64 t.kind, .int .i64 t.n, .string t.name, .slice t.at_.1 t.args.length t.at_.2] 27)).alloc (.cells #[.int .i64 t.kind, .int .i64 t.n, .string t.name, .slice t.at_.1 t.args.length t.at_.2] 27))) := by
    refine ⟨?_, fun g e => by simp [Value.ownBlock] at e; omega, hm.turned h2.1 (fun f => f), Tm.Seek.start (given_leafy hgiv), fun y hy => ?_, List.nodup_nil, fun k hk => (by cases hk), h2.1.mono (fun _ _ f => f.elim), hmlt⟩
    · have := Row.made (w.alloc (.cells #[.int .i64 t.kind, .int .i64 t.n, .string t.name, .slice t.at_.1 t.args.length t.at_.2] 27)) 27 4 #[.int .i64 t.kind, .int .i64 t.n, .string t.name, .slice t.at_.1 t.args.length t.at_.2] 1 rfl (by unfold maxLen; omega)
      simpa [LT.cells_eq] using this
    · rw [List.mem_singleton] at hy
      rw [hy]
      exact ⟨ht, hgiv⟩
  have H := Lib.hid h
  have HN := Lib.hid hn
  have HMB := Lib.hid hmb
  have HSZ : Hid (t.size + Tm.gasT (bt l) [] ≤ 131074000) := show _ ≤ _ by omega
  clear h ht hg hn hm hmb hgood hgiv hsz hgas hmlt h2 hRB
  rw [LT.val_eq]
  go_enter Try.func145, Try.ntmps145
  go_wp2_with fail
  revert hst
  generalize ((w.alloc (.cells #[.int .i64 t.kind, .int .i64 t.n, .string t.name, .slice t.at_.1 t.args.length t.at_.2] 27)).alloc (.cells #[.int .i64 t.kind, .int .i64 t.n, .string t.name, .slice t.at_.1 t.args.length t.at_.2] 27)) = w1
  intro hst
  go_loopg [9] (t.size + Tm.gasT (bt l) []) (fun k v wr => WithR p mb m l n t w k v wr)
  case atStart => exact ⟨[t], [], show _ = _ by simp only [Tm.sizes]; omega, HSZ.out, hst⟩
  case round =>
    obtain ⟨todo, had, HG, hk0, HI⟩ := hrel
    obtain ⟨wo, rfl⟩ : ∃ wo : World, wo = wr := ⟨_, rfl⟩
    have hroom := HI.out.room
    rcases List.eq_nil_or_concat todo with rfl | ⟨ys, x, rfl⟩
    · obtain ⟨a, cap, rfl⟩ := HI.out.row.shape
      have hres : RB = false := by
        rw [HRB.out, decide_eq_false]
        have hs := HI.out.seek
        exact fun c => hs.stop ((Tm.vars_mem n).1 c)
      clear hroom
      go_wp2_with fail
      go_ret
      rw [hres]
      exact ⟨rfl, HI.out.turned⟩
    · rw [List.concat_eq_append] at HG HI hroom
      obtain ⟨g, cap, rfl⟩ := HI.out.row.shape_pos (by simp)
      obtain ⟨hn1, hrow, hc1, hc2⟩ := HI.out.pop
      obtain ⟨c0, c1, c2, c3⟩ := HI.out.top
      obtain ⟨hxin, hxg⟩ := HI.out.mem x (by simp)
      have hys : ys.length ≤ 131074000 := by have := HG.out; rw [List.length_append, List.length_singleton] at hroom; omega
      have hc3 : cap ≤ 9223372036854775807 := by unfold maxLen at hc2; exact hc2
      have hal : x.args.length ≤ 8 := given_arity hxg
      have hlen := hxin.len
      have hac : x.at_.2 ≤ 9223372036854775807 := by have := hlen.2.1; unfold maxLen at this; exact this
      have hgw := hrow.lt g rfl
      have HWO : Hid (w.heap.size ≤ wo.heap.size) := HI.out.turned.size
      have TX : Turned (fun _ => False) wo (wo.alloc (.cells #[.int .i64 x.kind, .int .i64 x.n, .string x.name, .slice x.at_.1 x.args.length x.at_.2] 27)) := (Turned.refl _ wo).alloc _
      have hbox := heap_alloc_new wo (.cells #[.int .i64 x.kind, .int .i64 x.n, .string x.name, .slice x.at_.1 x.args.length x.at_.2] 27)
      have HIX : Hid (SeekI p mb m l n t w (ys ++ [x]) had (.slice (some ⟨g, 0, none⟩) (ys.length + 1) cap) (wo.alloc (.cells #[.int .i64 x.kind, .int .i64 x.n, .string x.name, .slice x.at_.1 x.args.length x.at_.2] 27))) := by
        have := HI.out.turned0 TX
        rw [hn1] at this
        exact this
      have HRX := Lib.hid (hrow.turned0 TX)
      have HLX := Lib.hid (((LT.In.turned HI.out.turned (fun k hk hp e => by have := HMB.out.2.2; rw [e] at hp; exact this hp) (fun _ _ q => q) _ hxin).turned0 TX).lies)
      have HGN : Hid (g ≠ wo.heap.size) := by show _ ≠ _; omega
      rw [List.length_append, List.length_singleton]
      have HXG := Lib.hid hxg
      have HLN := Lib.hid hlen
      clear hrow hxin hxg hroom hlen
      have HIQ := And.intro HIX (And.intro HRX (And.intro HLX (Lib.hid hbox)))
      clear HIX HRX HLX hbox HI TX
      by_cases hk : x.kind = 0
      · have hkx : (x.kind != 0) = false := by simp [hk]
        have hv := given_var HXG.out hk
        have HARG := Lib.hid hv.2.2.2.1
        obtain ⟨gl, cl, hle⟩ := H.out.row.shape_pos (by omega)
        subst hle
        have hmx := H.out.row.max
        have h64 : Hid (I64 x.n) := by show I64 x.n; unfold I64; omega
        have hv0 := hv.1
        have hv1 := hv.2.1
        have hkey := key2 h64.out
        have HV := Lib.hid hv.2.2.2.2
        clear hv
        have HK := Lib.hid hk
        clear hk
        have hm65 := H.out.most
        have hadl := HIQ.1.out.size H.out.ok
        by_cases hm : x.n ∈ had
        · have HM := Lib.hid hm
          clear hm
          go_wp2_with fail
          revert HIQ
          generalize wo.alloc (.cells #[.int .i64 x.kind, .int .i64 x.n, .string x.name, .slice x.at_.1 x.args.length x.at_.2] 27) = wx
          obtain ⟨B, hB⟩ : ∃ z, z = wo.heap.size := ⟨_, rfl⟩
          rw [← hB] at HGN
          rw [← hB]
          have HBE := Lib.hid hB
          clear hB
          have hcc : ys.length ≤ cap := by omega
          have hwr : IntKind.i64.wrap (ys.length : Int) = (ys.length : Int) := wrapI (by omega) (by omega)
          intro HIQ
          obtain ⟨HIX, HRX, HLX, HBX⟩ := HIQ
          obtain ⟨x0, x1, x2, x3, _⟩ := cells4 HBX.out
          refine region_tail 7 (by kernel_rfl) (by kernel_rfl) ?_
          simp only [List.take_succ_cons, List.take_zero, List.drop_succ_cons, List.drop_zero]
          repeat still_step
          refine wpStill_nil ?_
          go_wp2_with (first
            | (at_builtin; refine append_any _ rfl _ _ 22 rfl 27 i0 zeroT 4 56 Try.underlying22 hi0 hz0 hz1 hz2 rfl (by decide) (.slice (some ⟨g, 0, none⟩) ys.length cap) ys.length (ys.flatMap LT.cells) rfl (HRX.out.turned0 (Turned.refl _ _).drew) x.at_.1 x.args.length x.at_.2 (x.args.flatMap LT.cells) rfl HLN.out.2.2 (by rw [LT.flat_length]) (fun ad e j u hu => lies_any HLX.out ad e j u hu) (LT.flat_one _) (by unfold maxLen; omega) (by omega) ?_; intro v' w3 hr3 T3' ho3'; have T3 : Turned (fun k => (Value.slice (some ⟨g, 0, none⟩) ys.length cap).ownBlock = some k) wx w3 := (Turned.refl _ wx).drew.trans T3'; have ho3 : v'.ownBlock = (Value.slice (some ⟨g, 0, none⟩) (ys.length + 1) cap).ownBlock ∨ ∀ k, v'.ownBlock = some k → wx.heap.size ≤ k := ho3'.elim .inl (fun e => .inr (fun k hk => by rw [hk] at e; injection e with e; exact Nat.le_of_eq e.symm)); have hb3 := (T3.block B (Array.getElem?_eq_some_iff.1 HBX.out).1 (fun e => HGN.out (by simpa [Value.ownBlock] using e))).trans HBX.out; obtain ⟨y0, y1, y2, y3, _⟩ := cells4 hb3; have HB3 := Lib.hid hb3; clear x0 x1 x2 x3 hb3 T3' ho3'; have hr3' : Row w3 27 4 v' (ys.length + 0) (ys.flatMap LT.cells ++ []) := (by rw [HARG.out] at hr3; exact hr3); obtain ⟨q1, q2, q3, q4⟩ := HIX.out.row_var hr3' T3 ho3; obtain ⟨a', cap', rfl⟩ := q1.shape; have hmx' := q1.max; have HR3 := Lib.hid hr3'; have HQ3 := Lib.hid q3; clear hr3 hr3' q1 q2 q3 q4; have hlk := had_yes HQ3.out HM.out h64.out))
          have HI3 : Hid (SeekI p mb m l n t w ys had _ w3) := HIX.out.skip HK.out HM.out HR3.out T3 ho3
          have HGB : Hid (0 ≤ 0) := Nat.le_refl 0
          go_roundg (Tm.sizes ys + Tm.gasT (bt l) had)
          case measure =>
            have := HG.out
            have := Tm.size_eq x
            have hgb := HGB.out
            simp only [Tm.sizes_append, Tm.sizes] at *
            omega
          case rel =>
            refine ⟨_, _, rfl, ?_, HI3⟩
            have := HG.out
            have := Tm.size_eq x
            have hgb := HGB.out
            simp only [Tm.sizes_append, Tm.sizes] at *
            omega
        · have HM := Lib.hid hm
          clear hm
          by_cases hxn : x.n = n
          · have hxb : (x.n == n) = true := by simp [hxn]
            have hres : RB = true := by
              rw [HRB.out, decide_eq_true]
              have hs := HIQ.1.out.seek
              rw [List.map_append, List.map_cons, List.map_nil, HV.out, hxn] at hs
              exact (Tm.vars_mem n).2 (hs.found H.out.ok HN.out)
            have HRES := Lib.hid hres
            clear hres hxn
            go_wp2_with fail
            revert HIQ
            generalize wo.alloc (.cells #[.int .i64 x.kind, .int .i64 x.n, .string x.name, .slice x.at_.1 x.args.length x.at_.2] 27) = wx
            obtain ⟨B, hB⟩ : ∃ z, z = wo.heap.size := ⟨_, rfl⟩
            rw [← hB] at HGN
            rw [← hB]
            have HBE := Lib.hid hB
            clear hB
            have hcc : ys.length ≤ cap := by omega
            have hwr : IntKind.i64.wrap (ys.length : Int) = (ys.length : Int) := wrapI (by omega) (by omega)
            intro HIQ
            obtain ⟨HIX, HRX, HLX, HBX⟩ := HIQ
            obtain ⟨x0, x1, x2, x3, _⟩ := cells4 HBX.out
            refine region_tail 7 (by kernel_rfl) (by kernel_rfl) ?_
            simp only [List.take_succ_cons, List.take_zero, List.drop_succ_cons, List.drop_zero]
            repeat still_step
            refine wpStill_nil ?_
            go_wp2_with (first
              | (at_builtin; refine append_any _ rfl _ _ 22 rfl 27 i0 zeroT 4 56 Try.underlying22 hi0 hz0 hz1 hz2 rfl (by decide) (.slice (some ⟨g, 0, none⟩) ys.length cap) ys.length (ys.flatMap LT.cells) rfl (HRX.out.turned0 (Turned.refl _ _).drew) x.at_.1 x.args.length x.at_.2 (x.args.flatMap LT.cells) rfl HLN.out.2.2 (by rw [LT.flat_length]) (fun ad e j u hu => lies_any HLX.out ad e j u hu) (LT.flat_one _) (by unfold maxLen; omega) (by omega) ?_; intro v' w3 hr3 T3' ho3'; have T3 : Turned (fun k => (Value.slice (some ⟨g, 0, none⟩) ys.length cap).ownBlock = some k) wx w3 := (Turned.refl _ wx).drew.trans T3'; have ho3 : v'.ownBlock = (Value.slice (some ⟨g, 0, none⟩) (ys.length + 1) cap).ownBlock ∨ ∀ k, v'.ownBlock = some k → wx.heap.size ≤ k := ho3'.elim .inl (fun e => .inr (fun k hk => by rw [hk] at e; injection e with e; exact Nat.le_of_eq e.symm)); have hb3 := (T3.block B (Array.getElem?_eq_some_iff.1 HBX.out).1 (fun e => HGN.out (by simpa [Value.ownBlock] using e))).trans HBX.out; obtain ⟨y0, y1, y2, y3, _⟩ := cells4 hb3; have HB3 := Lib.hid hb3; clear x0 x1 x2 x3 hb3 T3' ho3'; have hr3' : Row w3 27 4 v' (ys.length + 0) (ys.flatMap LT.cells ++ []) := (by rw [HARG.out] at hr3; exact hr3); obtain ⟨q1, q2, q3, q4⟩ := HIX.out.row_var hr3' T3 ho3; obtain ⟨a', cap', rfl⟩ := q1.shape; have hmx' := q1.max; have HR3 := Lib.hid hr3'; have HQ3 := Lib.hid q3; clear hr3 hr3' q1 q2 q3 q4; have hlk := had_no HQ3.out HM.out h64.out))
            go_ret
            rw [HRES.out]
            exact ⟨rfl, (HIX.out.row_var HR3.out T3 ho3).2.2.2⟩
          · have hxb : (x.n == n) = false := by simp [hxn]
            have HNE := Lib.hid hxn
            clear hxn
            cases hlk0 : lookL l x.n with
            | none =>
              have HLK := Lib.hid hlk0
              clear hlk0
              go_wp2_with fail
              revert HIQ
              generalize wo.alloc (.cells #[.int .i64 x.kind, .int .i64 x.n, .string x.name, .slice x.at_.1 x.args.length x.at_.2] 27) = wx
              obtain ⟨B, hB⟩ : ∃ z, z = wo.heap.size := ⟨_, rfl⟩
              rw [← hB] at HGN
              rw [← hB]
              have HBE := Lib.hid hB
              clear hB
              have hcc : ys.length ≤ cap := by omega
              have hwr : IntKind.i64.wrap (ys.length : Int) = (ys.length : Int) := wrapI (by omega) (by omega)
              intro HIQ
              obtain ⟨HIX, HRX, HLX, HBX⟩ := HIQ
              obtain ⟨x0, x1, x2, x3, _⟩ := cells4 HBX.out
              refine region_tail 7 (by kernel_rfl) (by kernel_rfl) ?_
              simp only [List.take_succ_cons, List.take_zero, List.drop_succ_cons, List.drop_zero]
              repeat still_step
              refine wpStill_nil ?_
              go_wp2_with (first
                | (at_builtin; refine append_any _ rfl _ _ 22 rfl 27 i0 zeroT 4 56 Try.underlying22 hi0 hz0 hz1 hz2 rfl (by decide) (.slice (some ⟨g, 0, none⟩) ys.length cap) ys.length (ys.flatMap LT.cells) rfl (HRX.out.turned0 (Turned.refl _ _).drew) x.at_.1 x.args.length x.at_.2 (x.args.flatMap LT.cells) rfl HLN.out.2.2 (by rw [LT.flat_length]) (fun ad e j u hu => lies_any HLX.out ad e j u hu) (LT.flat_one _) (by unfold maxLen; omega) (by omega) ?_; intro v' w3 hr3 T3' ho3'; have T3 : Turned (fun k => (Value.slice (some ⟨g, 0, none⟩) ys.length cap).ownBlock = some k) wx w3 := (Turned.refl _ wx).drew.trans T3'; have ho3 : v'.ownBlock = (Value.slice (some ⟨g, 0, none⟩) (ys.length + 1) cap).ownBlock ∨ ∀ k, v'.ownBlock = some k → wx.heap.size ≤ k := ho3'.elim .inl (fun e => .inr (fun k hk => by rw [hk] at e; injection e with e; exact Nat.le_of_eq e.symm)); have hb3 := (T3.block B (Array.getElem?_eq_some_iff.1 HBX.out).1 (fun e => HGN.out (by simpa [Value.ownBlock] using e))).trans HBX.out; obtain ⟨y0, y1, y2, y3, _⟩ := cells4 hb3; have HB3 := Lib.hid hb3; clear x0 x1 x2 x3 hb3 T3' ho3'; have hr3' : Row w3 27 4 v' (ys.length + 0) (ys.flatMap LT.cells ++ []) := (by rw [HARG.out] at hr3; exact hr3); obtain ⟨q1, q2, q3, q4⟩ := HIX.out.row_var hr3' T3 ho3; obtain ⟨a', cap', rfl⟩ := q1.shape; have hmx' := q1.max; have HR3 := Lib.hid hr3'; have HQ3 := Lib.hid q3; clear hr3 hr3' q1 q2 q3 q4; have hlk := had_no HQ3.out HM.out h64.out)
                | (at_mapUpdate; refine wpList_put rfl _ _ _ 140 rfl law2 Try.underlying140 rfl HQ3.out (by unfold maxLen; omega) rfl rfl hkey trivial ?_; intro w4 hm4 T4; have hmt := HIX.out.met HK.out HM.out HR3.out T3 ho3 hm4 T4; obtain ⟨z0, z1, hb4⟩ := H.out.read HMB.out hmt.2.2.2.1 hv0 hv1; rw [HLK.out] at z1; have hx4 := (T4.block B (Array.getElem?_eq_some_iff.1 HB3.out).1 (fun e => by have := HBE.out; have := HIX.out.base; have := HIX.out.turned.size; have := HWO.out; omega)).trans HB3.out; obtain ⟨u0, u1, u2, u3, _⟩ := cells4 hx4; have HM4 := Lib.hid hm4; have HR4 := Lib.hid hmt.1; have HBI4 := Lib.hid hb4; clear y0 y1 y2 y3 hm4 hmt hb4 hx4 hlk; rw [ptrV] at z1))
              go_quiet (fail)
              go_wp2_with fail
              have HI3 : Hid (SeekI p mb m l n t w ys (x.n :: had) _ (w4.drewN nq)) := (HIX.out.free H.out.ok HK.out HM.out HNE.out HLK.out HR3.out T3 ho3 HM4.out T4 (bb := bb) (sb := sb) (lv := .slice none 0 0) (tv := tv)).turned0 ((Turned.refl _ w4).drewN nq)
              have HGB : Hid (Tm.gasT (bt l) (x.n :: had) ≤ Tm.gasT (bt l) had) := Tm.gasT_mono x.n
              go_roundg (Tm.sizes ys + Tm.gasT (bt l) (x.n :: had))
              case measure =>
                have := HG.out
                have := Tm.size_eq x
                have hgb := HGB.out
                simp only [Tm.sizes_append, Tm.sizes] at *
                omega
              case rel =>
                refine ⟨_, _, rfl, ?_, HI3⟩
                have := HG.out
                have := Tm.size_eq x
                have hgb := HGB.out
                simp only [Tm.sizes_append, Tm.sizes] at *
                omega
            | some cy =>
              obtain ⟨c, y⟩ := cy
              have HLK := Lib.hid hlk0
              clear hlk0
              go_wp2_with fail
              revert HIQ
              generalize wo.alloc (.cells #[.int .i64 x.kind, .int .i64 x.n, .string x.name, .slice x.at_.1 x.args.length x.at_.2] 27) = wx
              obtain ⟨B, hB⟩ : ∃ z, z = wo.heap.size := ⟨_, rfl⟩
              rw [← hB] at HGN
              rw [← hB]
              have HBE := Lib.hid hB
              clear hB
              have hcc : ys.length ≤ cap := by omega
              have hwr : IntKind.i64.wrap (ys.length : Int) = (ys.length : Int) := wrapI (by omega) (by omega)
              intro HIQ
              obtain ⟨HIX, HRX, HLX, HBX⟩ := HIQ
              obtain ⟨x0, x1, x2, x3, _⟩ := cells4 HBX.out
              refine region_tail 7 (by kernel_rfl) (by kernel_rfl) ?_
              simp only [List.take_succ_cons, List.take_zero, List.drop_succ_cons, List.drop_zero]
              repeat still_step
              refine wpStill_nil ?_
              go_wp2_with (first
                | (at_builtin; refine append_any _ rfl _ _ 22 rfl 27 i0 zeroT 4 56 Try.underlying22 hi0 hz0 hz1 hz2 rfl (by decide) (.slice (some ⟨g, 0, none⟩) ys.length cap) ys.length (ys.flatMap LT.cells) rfl (HRX.out.turned0 (Turned.refl _ _).drew) x.at_.1 x.args.length x.at_.2 (x.args.flatMap LT.cells) rfl HLN.out.2.2 (by rw [LT.flat_length]) (fun ad e j u hu => lies_any HLX.out ad e j u hu) (LT.flat_one _) (by unfold maxLen; omega) (by omega) ?_; intro v' w3 hr3 T3' ho3'; have T3 : Turned (fun k => (Value.slice (some ⟨g, 0, none⟩) ys.length cap).ownBlock = some k) wx w3 := (Turned.refl _ wx).drew.trans T3'; have ho3 : v'.ownBlock = (Value.slice (some ⟨g, 0, none⟩) (ys.length + 1) cap).ownBlock ∨ ∀ k, v'.ownBlock = some k → wx.heap.size ≤ k := ho3'.elim .inl (fun e => .inr (fun k hk => by rw [hk] at e; injection e with e; exact Nat.le_of_eq e.symm)); have hb3 := (T3.block B (Array.getElem?_eq_some_iff.1 HBX.out).1 (fun e => HGN.out (by simpa [Value.ownBlock] using e))).trans HBX.out; obtain ⟨y0, y1, y2, y3, _⟩ := cells4 hb3; have HB3 := Lib.hid hb3; clear x0 x1 x2 x3 hb3 T3' ho3'; have hr3' : Row w3 27 4 v' (ys.length + 0) (ys.flatMap LT.cells ++ []) := (by rw [HARG.out] at hr3; exact hr3); obtain ⟨q1, q2, q3, q4⟩ := HIX.out.row_var hr3' T3 ho3; obtain ⟨a', cap', rfl⟩ := q1.shape; have hmx' := q1.max; have HR3 := Lib.hid hr3'; have HQ3 := Lib.hid q3; clear hr3 hr3' q1 q2 q3 q4; have hlk := had_no HQ3.out HM.out h64.out)
                | (at_mapUpdate; refine wpList_put rfl _ _ _ 140 rfl law2 Try.underlying140 rfl HQ3.out (by unfold maxLen; omega) rfl rfl hkey trivial ?_; intro w4 hm4 T4; have hmt := HIX.out.met HK.out HM.out HR3.out T3 ho3 hm4 T4; obtain ⟨z0, z1, hb4⟩ := H.out.read HMB.out hmt.2.2.2.1 hv0 hv1; rw [HLK.out] at z1; have hx4 := (T4.block B (Array.getElem?_eq_some_iff.1 HB3.out).1 (fun e => by have := HBE.out; have := HIX.out.base; have := HIX.out.turned.size; have := HWO.out; omega)).trans HB3.out; obtain ⟨u0, u1, u2, u3, _⟩ := cells4 hx4; have HM4 := Lib.hid hm4; have HR4 := Lib.hid hmt.1; have HBI4 := Lib.hid hb4; clear y0 y1 y2 y3 hm4 hmt hb4 hx4 hlk; rw [ptrV] at z1; obtain ⟨t0, t1, t2, t3, _⟩ := cells4 (HBI4.out.terms _ (lookL_mem HLK.out)).1))
              go_quiet (fail)
              go_wp2_with (first
                | (at_builtin; refine append_some _ rfl _ _ 22 rfl 27 i0 zeroT 4 56 Try.underlying22 hi0 hz0 hz1 hz2 rfl (by decide) (.slice a' ys.length cap') ys.length (ys.flatMap LT.cells) rfl ((HR4.out.turned0 ((Turned.refl _ _).drewN nq)).alloc _) ⟨w4.heap.size, 0, none⟩ 1 1 y.cells rfl (LT.cells_length y) (news_block (by rw [LT.cells_eq]; exact heap_alloc_new (w4.drewN nq) _)) (LT.cells_one y) (by omega) (by unfold maxLen; omega) (by omega) ?_; intro g5 cap5 w5 hr5 T5' hg5; have T5 : Turned (fun k => (Value.slice a' ys.length cap').ownBlock = some k) w4 w5 := (((Turned.refl _ w4).drewN nq).alloc _).trans T5'))
              have HI3 : Hid (SeekI p mb m l n t w (ys ++ [y]) (x.n :: had) (.slice (some ⟨g5, 0, none⟩) (ys.length + 1) cap5) w5) := HIX.out.bound H.out HK.out HM.out HLK.out HR3.out T3 ho3 HM4.out T4 hr5 T5 (hg5.elim (fun e => .inl e) (fun e => .inr (own_new e (by simp))))
              have HGB : Hid (Tm.gasT (bt l) (x.n :: had) + y.size ≤ Tm.gasT (bt l) had) := by
                have := Tm.gasT_met (p := y.bare) (by rw [look_bt, HLK.out]; rfl) HM.out
                rw [Tm.size_bare] at this
                exact this
              go_roundg (Tm.sizes (ys ++ [y]) + Tm.gasT (bt l) (x.n :: had))
              case measure =>
                have := HG.out
                have := Tm.size_eq x
                have hgb := HGB.out
                simp only [Tm.sizes_append, Tm.sizes] at *
                omega
              case rel =>
                refine ⟨_, _, rfl, ?_, HI3⟩
                have := HG.out
                have := Tm.size_eq x
                have hgb := HGB.out
                simp only [Tm.sizes_append, Tm.sizes] at *
                omega
      · have hkx : (x.kind != 0) = true := by simp [hk]
        have HK := Lib.hid hk
        clear hk
        go_wp2_with fail
        revert HIQ
        generalize wo.alloc (.cells #[.int .i64 x.kind, .int .i64 x.n, .string x.name, .slice x.at_.1 x.args.length x.at_.2] 27) = wx
        obtain ⟨B, hB⟩ : ∃ z, z = wo.heap.size := ⟨_, rfl⟩
        rw [← hB] at HGN
        rw [← hB]
        have HBE := Lib.hid hB
        clear hB
        have hcc : ys.length ≤ cap := by omega
        have hwr : IntKind.i64.wrap (ys.length : Int) = (ys.length : Int) := wrapI (by omega) (by omega)
        intro HIQ
        obtain ⟨HIX, HRX, HLX, HBX⟩ := HIQ
        obtain ⟨x0, x1, x2, x3, _⟩ := cells4 HBX.out
        refine region_tail 7 (by kernel_rfl) (by kernel_rfl) ?_
        simp only [List.take_succ_cons, List.take_zero, List.drop_succ_cons, List.drop_zero]
        repeat still_step
        refine wpStill_nil ?_
        go_wp2_with (first
          | (at_builtin; refine append_any _ rfl _ _ 22 rfl 27 i0 zeroT 4 56 Try.underlying22 hi0 hz0 hz1 hz2 rfl (by decide) (.slice (some ⟨g, 0, none⟩) ys.length cap) ys.length (ys.flatMap LT.cells) rfl (HRX.out.turned0 (Turned.refl _ _).drew) x.at_.1 x.args.length x.at_.2 (x.args.flatMap LT.cells) rfl HLN.out.2.2 (by rw [LT.flat_length]) (fun ad e j u hu => lies_any HLX.out ad e j u hu) (LT.flat_one _) (by unfold maxLen; omega) (by omega) ?_; intro v' w3 hr3 T3' ho3'; have T3 : Turned (fun k => (Value.slice (some ⟨g, 0, none⟩) ys.length cap).ownBlock = some k) wx w3 := (Turned.refl _ wx).drew.trans T3'; have ho3 : v'.ownBlock = (Value.slice (some ⟨g, 0, none⟩) (ys.length + 1) cap).ownBlock ∨ ∀ k, v'.ownBlock = some k → wx.heap.size ≤ k := ho3'.elim .inl (fun e => .inr (fun k hk => by rw [hk] at e; injection e with e; exact Nat.le_of_eq e.symm)); have hb3 := (T3.block B (Array.getElem?_eq_some_iff.1 HBX.out).1 (fun e => HGN.out (by simpa [Value.ownBlock] using e))).trans HBX.out; obtain ⟨y0, y1, y2, y3, _⟩ := cells4 hb3; have HB3 := Lib.hid hb3; clear x0 x1 x2 x3 hb3 T3' ho3'))
        have HI3 : Hid (SeekI p mb m l n t w (ys ++ x.args) had v' w3) := HIX.out.args HK.out hr3 T3 ho3
        obtain ⟨a', cap', rfl⟩ := hr3.shape
        have HGB : Hid (0 ≤ 0) := Nat.le_refl 0
        go_roundg (Tm.sizes (ys ++ x.args) + Tm.gasT (bt l) had)
        case measure =>
          have := HG.out
          have := Tm.size_eq x
          have hgb := HGB.out
          simp only [Tm.sizes_append, Tm.sizes] at *
          omega
        case rel =>
          refine ⟨_, _, rfl, ?_, HI3⟩
          have := HG.out
          have := Tm.size_eq x
          have hgb := HGB.out
          simp only [Tm.sizes_append, Tm.sizes] at *
          omega
end Go.Proofs.Ytoihjobdfjajfaa
namespace Go.Proofs.Ytoihjobdfjajfaa
set_option linter.unusedVariables false
set_option linter.unusedSimpArgs false
open Go.RowKit Go.Maps
theorem ownB_bare (m : Nat) (t : LT) : Tm.ownB m t.bare = Tm.ownB m t := by unfold Tm.ownB; rw [goodB_bare, Tm.vars_bare]
theorem noted0 {w w' : World} {o : Obj} (T : Turned (· = w.heap.size) (w.alloc o) w') : Turned (fun _ => False) w w' :=
  ((Turned.refl (fun _ => False) w).alloc o).step T (fun i hi e => by omega)
section
variable {p : Nat → Prop} {bb sb m : Nat} {lv tv : Value} {l : TL} {w w' : World} {t : LT} {n : Int}
def SetQ (p : Nat → Prop) (bb sb m : Nat) (lv tv : Value) (l : TL) (w : World) (n : Int) (t : LT) (w' : World) : Prop :=
  (∃ tv' l', BI p bb sb lv tv' m l' w' ∧ bt l' = (if Tm.setE m (bt l) n t.bare = 0 then (n, t.bare) :: bt l else bt l) ∧ (tv'.ownBlock = tv.ownBlock ∨ ∀ k, tv'.ownBlock = some k → w.heap.size ≤ k) ∧ ∀ b ∈ l', b ∈ l ∨ w.heap.size ≤ b.2.1) ∧ Turned (fun k => k = sb ∨ lv.ownBlock = some k ∨ tv.ownBlock = some k) w w'
theorem SetQ.same (h : BI p bb sb lv tv m l w) (hE : ¬ Tm.setE m (bt l) n t.bare = 0) (T : Turned (fun _ => False) w w') : SetQ p bb sb m lv tv l w n t w' :=
  ⟨⟨tv, l, h.turned0 T, by rw [if_neg hE], .inl rfl, fun b hb => .inl hb⟩, T.mono (fun _ _ f => f.elim)⟩
set_option maxHeartbeats 400000 in
theorem push_at {g cl i : Nat} {v : Value} (hb : BI p bb sb (.slice (some ⟨g, 0, none⟩) m cl) tv m l w) (hn : l.length < 65536) (hi : i < m) :
    Calls Try.prog 146 #[.pointer (some ⟨sb, 0, none⟩), .slice (some ⟨w.heap.size, 0, none⟩) 1 1] ((w.setCell ⟨g, i, none⟩ v).alloc (.cells #[.int .i64 n] 2)) fun e w' => e = .returned (.bool true) ∧ ∃ tv', w'.heap[sb]? = some (.cells #[.int .i64 65536, tv'] 209 (0, 0)) ∧
      Row w' 2 1 tv' (l.length + 1) ((l.map fun b => Value.int .i64 b.1).reverse ++ [.int .i64 n]) ∧ Row w' 165 1 (.slice (some ⟨g, 0, none⟩) m cl) m ((ptrs m l).set i v) ∧ Turned (fun k => k = sb ∨ (Value.slice (some ⟨g, 0, none⟩) m cl).ownBlock = some k ∨ tv.ownBlock = some k) w w' ∧ (tv'.ownBlock = tv.ownBlock ∨ ∀ k, tv'.ownBlock = some k → w.heap.size + 1 ≤ k) := by
  obtain ⟨n1, n2, n3, n4, n5, n6⟩ := hb.ne
  have hgs : g ≠ sb := fun e => n3 (by rw [e]; rfl)
  have hsl := (Array.getElem?_eq_some_iff.1 hb.s).1
  have hgl := hb.row.lt g rfl
  have T1 : Turned (fun k => k = g) w (w.setCell ⟨g, i, none⟩ v) := (Turned.refl (fun k => k = g) w).setCell (p := ⟨g, i, none⟩) (.inr rfl) v
  have T2 := T1.alloc (.cells #[.int .i64 n] 2)
  have hs2 := (T2.block sb hsl (fun e => hgs e.symm)).trans hb.s
  have ht2 := hb.trail.turned T2 (fun k hk e => n6 g rfl (by rw [← e]; exact hk))
  have hr2 := (hb.row.setAt (off := i) (by omega) v).turned0 ((Turned.refl _ _).alloc (.cells #[.int .i64 n] 2))
  have h0 := heap_alloc_new (w.setCell ⟨g, i, none⟩ v) (.cells #[.int .i64 n] 2)
  have hz : (w.setCell ⟨g, i, none⟩ v).heap.size = w.heap.size := by simp
  rw [hz] at h0
  refine (push146 hs2 ht2 hn n5 h0).mono ?_
  rintro e w' ⟨rfl, tv', g1, g2, g3, g4⟩
  refine ⟨rfl, tv', g1, g2, hr2.turned g3 (fun k hk e => ?_), (T2.mono (fun k _ e => .inr (.inl (by rw [e]; rfl)))).trans (g3.mono (fun k _ e => e.elim .inl (fun e => .inr (.inr e)))), g4.elim .inl (fun q => .inr (fun k hk => ?_))⟩
  · simp [Value.ownBlock] at hk
    subst hk
    exact e.elim hgs (fun e => n6 g rfl e)
  · have := q k hk
    have h2 : ((w.setCell ⟨g, i, none⟩ v).alloc (.cells #[.int .i64 n] 2)).heap.size = w.heap.size + 1 := by simp
    omega
theorem SetQ.done {g cl : Nat} {tv' : Value} {w6 w9 : World} (h : BI p bb sb (.slice (some ⟨g, 0, none⟩) m cl) tv m l w) (ht : t.In p w) (h0 : 0 ≤ n) (h1 : n < (m : Int)) (hE : Tm.setE m (bt l) n t.bare = 0) (T6 : Turned (fun _ => False) w w6) (hD : BI p bb sb (.slice (some ⟨g, 0, none⟩) m cl) tv m l w6)
    (hc : w6.heap[w.heap.size]? = some (.cells #[.int .i64 t.kind, .int .i64 t.n, .string t.name, .slice t.at_.1 t.args.length t.at_.2] 27 (0, 0)))
    (g1 : w9.heap[sb]? = some (.cells #[.int .i64 65536, tv'] 209 (0, 0))) (g2 : Row w9 2 1 tv' (l.length + 1) ((l.map fun b => Value.int .i64 b.1).reverse ++ [.int .i64 n])) (g3 : Row w9 165 1 (.slice (some ⟨g, 0, none⟩) m cl) m ((ptrs m l).set n.toNat (.pointer (some ⟨w.heap.size, 0, none⟩))))
    (g4 : Turned (fun k => k = sb ∨ (Value.slice (some ⟨g, 0, none⟩) m cl).ownBlock = some k ∨ tv.ownBlock = some k) w6 w9) (g5 : tv'.ownBlock = tv.ownBlock ∨ ∀ k, tv'.ownBlock = some k → w6.heap.size + 1 ≤ k) : SetQ p bb sb m (.slice (some ⟨g, 0, none⟩) m cl) tv l w n t w9 := by
  have hn : ((n.toNat : Nat) : Int) = n := Int.toNat_of_nonneg h0
  have hcl := (Array.getElem?_eq_some_iff.1 hc).1
  refine ⟨⟨tv', ((n.toNat : Int), w.heap.size, t) :: l, ?_, ?_, ?_, fun b hb => (List.mem_cons.1 hb).elim (fun e => .inr (by rw [e]; exact Nat.le_refl _)) .inl⟩, (T6.mono (fun _ _ f => f.elim)).trans g4⟩
  · refine hD.set (by omega) (by rw [hn]; exact hE) g4 g1 g3 (by rw [hn]; exact g2) (g5.elim .inl (fun q => .inr (fun k hk => ?_))) hc (fun c => ?_) (ht.turned0 T6)
    · have := q k hk; omega
    · exact Nat.lt_irrefl _ (h.own_lt _ c)
  · rw [if_pos hE, hn]; rfl
  · refine g5.elim .inl (fun q => .inr (fun k hk => ?_))
    have := q k hk
    have := T6.size
    omega
set_option maxRecDepth 100000 in
set_option maxHeartbeats 3200000 in
theorem set88 (h : BI p bb sb lv tv m l w) (ht : t.In p w) (hs : slim t) (n : Int) (h64 : I64 n) :
    Calls Try.prog 88 #[.pointer (some ⟨bb, 0, none⟩), .int .i64 n, t.val] w fun e w' => e = .returned (.int .i64 (Tm.setE m (bt l) n t.bare)) ∧ SetQ p bb sb m lv tv l w n t w' := by
  have hmm := @run_makeMap Try.prog
  have T1 := (Turned.refl (fun _ => False) w).alloc (.cells #[.int .i64 t.kind, .int .i64 t.n, .string t.name, .slice t.at_.1 t.args.length t.at_.2] 27)
  have hbx := heap_alloc_new w (.cells #[.int .i64 t.kind, .int .i64 t.n, .string t.name, .slice t.at_.1 t.args.length t.at_.2] 27)
  have hgv := given143q (h.turned0 T1) n
  have how := own144 (h.turned0 T1) (ht.turned0 T1) hs
  have H := Lib.hid h
  have HT := Lib.hid ht
  have HV := LT.val_eq t
  rw [HV] at how ⊢
  have HT1 := Lib.hid T1
  have HBX := Lib.hid hbx
  have HEB := Lib.hid (ownB_bare m t)
  by_cases hn0 : 0 ≤ n ∧ n < (m : Int)
  · rw [decide_eq_true hn0] at hgv
    have HGV := Lib.hid hgv
    obtain ⟨hv0, hv1⟩ := hn0
    cases hob : Tm.ownB m t with
    | false =>
      rw [hob] at how
      have hE : Tm.setE m (bt l) n t.bare = 1 := by unfold Tm.setE; rw [HEB.out, hob, if_neg (fun c => Bool.false_ne_true c.2.2)]
      have HE := Lib.hid hE
      have HOW := Lib.hid how
      clear h ht hs hgv how hE hob T1 hbx HV
      go_enter Try.func88, Try.ntmps88
      go_wp2_with (first
        | (go_at_call 143; (with_reducible refine HGV.out.mono ?_); rintro e w3 ⟨rfl, rfl⟩)
        | (go_at_call 144; (with_reducible refine HOW.out.mono ?_); rintro e w4 ⟨rfl, T4⟩))
      go_ret
      exact ⟨by rw [HE.out]; rfl, SetQ.same H.out (by rw [HE.out]; decide) (HT1.out.trans T4)⟩
    | true =>
      rw [hob] at how
      have HOW := Lib.hid how
      have hgb := Tm.ownB_iff.1 (show Tm.ownB m t.bare = true by rw [HEB.out]; exact hob)
      obtain ⟨g, cl, hle⟩ := h.row.shape_pos (by omega)
      subst hle
      have hmx := h.row.max
      have hm65 := h.most
      have hfacts : ∀ W, Turned (fun _ => False) (w.alloc (.cells #[.int .i64 t.kind, .int .i64 t.n, .string t.name, .slice t.at_.1 t.args.length t.at_.2] 27)) W → W.cell? ⟨bb, 0, none⟩ = some (.slice (some ⟨g, 0, none⟩) m cl) ∧ W.cell? ⟨bb, 1, none⟩ = some (.pointer (some ⟨sb, 0, none⟩)) ∧ W.cell? ⟨g, n.toNat, none⟩ = some (ptrV (lookL l n)) ∧ W.frozen? ⟨g, n.toNat, none⟩ = false ∧ W.heap[w.heap.size]? = some (.cells #[.int .i64 t.kind, .int .i64 t.n, .string t.name, .slice t.at_.1 t.args.length t.at_.2] 27 (0, 0)) ∧ BI p bb sb (.slice (some ⟨g, 0, none⟩) m cl) tv m l W := by
        intro W hW
        have hb := H.out.turned0 (HT1.out.trans hW)
        obtain ⟨c0, c1, _⟩ := rec2b hb.b
        have hr := hb.row.cells rfl n.toNat _ (ptrs_at (by omega))
        rw [Int.toNat_of_nonneg hv0] at hr
        exact ⟨c0, c1, hr, hb.row.free rfl _, (hW.block _ (by simp) (fun f => f)).trans HBX.out, hb⟩
      have HF := Lib.hid hfacts
      cases hlk : lookL l n with
      | some cy =>
        obtain ⟨c, y⟩ := cy
        have hE : Tm.setE m (bt l) n t.bare = 8 := by
          unfold Tm.setE
          rw [HEB.out, if_pos ⟨hv0, hv1, hob⟩, if_pos]
          exact Classical.byContradiction (fun c => by
            have := h.free.2 c
            rw [hlk] at this
            cases this)
        have HE := Lib.hid hE
        have HLK := Lib.hid hlk
        clear h ht hs hgv how hE hob T1 hbx HV hfacts hlk hgb
        go_enter Try.func88, Try.ntmps88
        go_wp2_with (first
          | (go_at_call 143; (with_reducible refine HGV.out.mono ?_); rintro e w3 ⟨rfl, rfl⟩)
          | (go_at_call 144; (with_reducible refine HOW.out.mono ?_); rintro e w4 ⟨rfl, T4⟩; obtain ⟨b0, b1, b2, b3, b4, b5⟩ := HF.out _ T4; rw [HLK.out, ptrV] at b2; clear b4 b5))
        go_ret
        exact ⟨by rw [HE.out]; rfl, SetQ.same H.out (by rw [HE.out]; decide) (HT1.out.trans T4)⟩
      | none =>
        have hdom := h.free.1 hlk
        have hwi : ∀ W, Turned (fun _ => False) (w.alloc (.cells #[.int .i64 t.kind, .int .i64 t.n, .string t.name, .slice t.at_.1 t.args.length t.at_.2] 27)) W → Calls Try.prog 145 #[.pointer (some ⟨bb, 0, none⟩), .int .i64 n, .agg #[.int .i64 t.kind, .int .i64 t.n, .string t.name, .slice t.at_.1 t.args.length t.at_.2], .map (some W.heap.size)] (W.alloc (.map #[] 0)) fun e w' => e = .returned (.bool (decide (n ∈ (Tm.img (bt l) t.bare).vars))) ∧ Turned (· = W.heap.size) (W.alloc (.map #[] 0)) w' := by
          intro W hW
          have hb := (HF.out W hW).2.2.2.2.2
          have hq := within145 (mb := W.heap.size) (hb.turned0 ((Turned.refl _ W).alloc (.map #[] 0))) (HT.out.turned0 ((HT1.out.trans hW).alloc _)) hob hdom (IMap.made W Try.prog 2)
            ⟨fun c => Nat.lt_irrefl _ (hb.own_lt _ c), fun b hbm c => (by have := (Array.getElem?_eq_some_iff.1 (hb.terms b hbm).1).1; omega), fun c => Nat.lt_irrefl _ (hb.sep _ c).1⟩
          rw [HV] at hq
          exact hq
        have HLK := Lib.hid hlk
        by_cases hvv : n ∈ (Tm.img (bt l) t.bare).vars
        · have hE : Tm.setE m (bt l) n t.bare = 5 := by
            unfold Tm.setE
            rw [HEB.out, if_pos ⟨hv0, hv1, hob⟩, if_neg hdom, if_pos hvv]
          have HE := Lib.hid hE
          rw [decide_eq_true hvv] at hwi
          have HWI := Lib.hid hwi
          clear h ht hs hgv how hE hob T1 hbx HV hfacts hlk hgb hdom hvv hwi
          go_enter Try.func88, Try.ntmps88
          go_wp2_with (first
            | (go_at_call 143; (with_reducible refine HGV.out.mono ?_); rintro e w3 ⟨rfl, rfl⟩)
            | (go_at_call 144; (with_reducible refine HOW.out.mono ?_); rintro e w4 ⟨rfl, T4⟩; obtain ⟨b0, b1, b2, b3, b4, b5⟩ := HF.out _ T4; rw [HLK.out, ptrV] at b2; obtain ⟨x0, x1, x2, x3, _⟩ := cells4 b4; clear b4 b5)
            | (go_at_call 145; (with_reducible refine (HWI.out _ T4).mono ?_); rintro e w6 ⟨rfl, T6⟩))
          go_ret
          exact ⟨by rw [HE.out]; rfl, SetQ.same H.out (by rw [HE.out]; decide) ((HT1.out.trans T4).trans (noted0 T6))⟩
        · have hE : Tm.setE m (bt l) n t.bare = 0 := by
            unfold Tm.setE
            rw [HEB.out, if_pos ⟨hv0, hv1, hob⟩, if_neg hdom, if_neg hvv]
          have HE := Lib.hid hE
          rw [decide_eq_false hvv] at hwi
          have HWI := Lib.hid hwi
          have hne : ¬ bb = g := fun e => h.ne.2.1 (by rw [e]; rfl)
          have hne' : ¬ g = bb := fun e => hne e.symm
          have hlen := h.length
          have hll : l.length < 65536 := by
            have := nodup_length m (n :: Tm.dom (bt l)) (List.nodup_cons.2 ⟨hdom, Tm.okT_nodup h.ok⟩) (fun x hx => by
              rcases List.mem_cons.1 hx with rfl | hx
              · exact ⟨hv0, hv1⟩
              · obtain ⟨b, hb, rfl⟩ := List.mem_map.1 hx
                have := Tm.okT_mem h.ok hb
                exact ⟨this.1, this.2.1⟩)
            simp [Tm.dom, bt_length] at this
            omega
          clear h ht hs hgv how hE hob T1 hbx HV hfacts hlk hgb hdom hvv hwi
          go_enter Try.func88, Try.ntmps88
          go_wp2_with (first
            | (go_at_call 143; (with_reducible refine HGV.out.mono ?_); rintro e w3 ⟨rfl, rfl⟩)
            | (go_at_call 144; (with_reducible refine HOW.out.mono ?_); rintro e w4 ⟨rfl, T4⟩; obtain ⟨b0, b1, b2, b3, b4, b5⟩ := HF.out _ T4; rw [HLK.out, ptrV] at b2; obtain ⟨x0, x1, x2, x3, _⟩ := cells4 b4; clear b4 b5)
            | (go_at_call 145; (with_reducible refine (HWI.out _ T4).mono ?_); rintro e w6 ⟨rfl, T6⟩; have TM := T4.trans (noted0 T6); obtain ⟨d0, d1, d2, d3, d4, d5⟩ := HF.out _ TM; have HD4 := Lib.hid d4; have HD5 := Lib.hid d5; have HTM := Lib.hid TM; clear b0 b1 b2 b3 x0 x1 x2 x3 d4 d5 TM; rw [HLK.out, ptrV] at d2)
            | (go_at_call 146; (with_reducible refine (push_at HD5.out hll (by omega)).mono ?_); rintro e w9 ⟨rfl, tv', g1, g2, g3, g4, g5⟩; have HG := Lib.hid (And.intro g1 (And.intro g2 (And.intro g3 (And.intro g4 g5)))); clear g1 g2 g3 g4 g5))
          go_ret
          refine ⟨by rw [HE.out]; rfl, SetQ.done H.out HT.out hv0 hv1 HE.out (HT1.out.trans HTM.out) HD5.out HD4.out HG.out.1 HG.out.2.1 HG.out.2.2.1 HG.out.2.2.2.1 HG.out.2.2.2.2⟩
  · rw [decide_eq_false hn0] at hgv
    have HGV := Lib.hid hgv
    have hE : Tm.setE m (bt l) n t.bare = 1 := by unfold Tm.setE; rw [if_neg (fun c => hn0 ⟨c.1, c.2.1⟩)]
    have HE := Lib.hid hE
    clear h ht hs hgv how hE hn0 hbx HV T1
    go_enter Try.func88, Try.ntmps88
    go_wp2_with (go_at_call 143; (with_reducible refine HGV.out.mono ?_); rintro e w3 ⟨rfl, rfl⟩)
    go_ret
    exact ⟨by rw [HE.out]; rfl, SetQ.same H.out (by rw [HE.out]; decide) HT1.out⟩
end
end Go.Proofs.Ytoihjobdfjajfaa
namespace Go.Proofs.Ytoihjobdfjajfaa
set_option linter.unusedVariables false
set_option linter.unusedSimpArgs false
open Go.RowKit Go.Maps
def wholeE (m : Nat) (l : Tm.Trail) (t : Tm Unit) : Int := if Tm.ownB m t = true then (if Tm.wholeB l t = true then 0 else 12) else 1
def wholeT (m : Nat) (l : Tm.Trail) (t : Tm Unit) : Tm Unit := if wholeE m l t = 0 then Tm.img l t else (leaf 0 0 ByteArray.empty).bare
section
variable {p : Nat → Prop} {bb sb m : Nat} {lv tv : Value} {l : TL} {w w' : World} {t : LT}
set_option maxRecDepth 100000 in
set_option maxHeartbeats 3200000 in
theorem whole89 (h : BI p bb sb lv tv m l w) (ht : t.In p w) (hs : slim t) :
    Calls Try.prog 89 #[.pointer (some ⟨bb, 0, none⟩), t.val] w fun e w' => ∃ u : LT, e = .returned (.tuple #[u.val, .int .i64 (wholeE m (bt l) t.bare)]) ∧ u.bare = wholeT m (bt l) t.bare ∧ u.In (fun k => p k ∨ w.heap.size ≤ k) w' ∧ Turned (fun _ => False) w w' := by
  have h2 := twoBox w (.cells #[.int .i64 t.kind, .int .i64 t.n, .string t.name, .slice t.at_.1 t.args.length t.at_.2] 27) (.cells #[.int .i64 0, .int .i64 0, .string ⟨#[]⟩, .slice none 0 0] 27)
  obtain ⟨w2, hw2⟩ : ∃ z, z = (w.alloc (.cells #[.int .i64 t.kind, .int .i64 t.n, .string t.name, .slice t.at_.1 t.args.length t.at_.2] 27)).alloc (.cells #[.int .i64 0, .int .i64 0, .string ⟨#[]⟩, .slice none 0 0] 27) := ⟨_, rfl⟩
  rw [← hw2] at h2
  have hkp : ∀ W, Turned (fun _ => False) w2 W → W.heap[w.heap.size]? = some (.cells #[.int .i64 t.kind, .int .i64 t.n, .string t.name, .slice t.at_.1 t.args.length t.at_.2] 27 (0, 0)) ∧ W.heap[w.heap.size + 1]? = some (.cells #[.int .i64 0, .int .i64 0, .string ⟨#[]⟩, .slice none 0 0] 27 (0, 0)) := fun W hW => ⟨(hW.block _ (by have := h2.2.1; omega) (fun f => f)).trans h2.2.2.1, (hW.block _ (by have := h2.2.1; omega) (fun f => f)).trans h2.2.2.2⟩
  have how := own144 (h.turned0 h2.1) (ht.turned0 h2.1) hs
  have HV := LT.val_eq t
  rw [HV] at how
  rw [HV]
  have HOW := Lib.hid how
  have HKP := Lib.hid hkp
  have HT2 := Lib.hid h2.1
  have HS2 := Lib.hid h2.2.1
  have HW2 := Lib.hid hw2
  have HH := Lib.hid h
  have HT := Lib.hid ht
  have HVV := Lib.hid HV
  have hob0 := ownB_bare m t
  clear how hkp h2 hw2 h ht hs HV
  cases hob : Tm.ownB m t with
  | false =>
    have HE : Hid (wholeE m (bt l) t.bare = 1) := by show _ = _; unfold wholeE; rw [hob0, hob]; rfl
    have HU : Hid (wholeT m (bt l) t.bare = (leaf 0 0 ByteArray.empty).bare) := by show _ = _; unfold wholeT; rw [HE.out]; rfl
    rw [hob] at HOW
    clear hob hob0
    go_enter Try.func89, Try.ntmps89
    go_wp2_with (go_at_call 144; rw [← HW2.out]; (with_reducible refine HOW.out.mono ?_); rintro e w4 ⟨rfl, T4⟩; obtain ⟨_, hz⟩ := HKP.out _ T4; obtain ⟨z0, z1, z2, z3, f0, f1, f2, f3⟩ := cells4 hz; have HZ := Lib.hid hz; clear hz)
    have hset := set4 (a' := .int .i64 0) (b' := .int .i64 0) (c' := .string ⟨#[]⟩) (d' := .slice none 0 0) HZ.out
    have Tq := turned_store4 w4 (w.heap.size + 1) (.int .i64 0) (.int .i64 0) (.string ⟨#[]⟩) (.slice none 0 0)
    refine bodyPost_ret (results_cell_tmp1 Try.results89 _ _ (w.heap.size + 1) 27 _ (0, 0) _ rfl hset Try.underlying27 rfl (by kernel_rfl)) rfl ⟨leaf 0 0 ByteArray.empty, by rw [HE.out]; rfl, HU.out.symm, leafIn' (i64_lit _ (by omega)) (i64_lit _ (by omega)) (by unfold maxLen; decide), (HT2.out.trans T4).step Tq (fun i hi e => by omega)⟩
  | true =>
    have hgb := Tm.ownB_iff.1 (show Tm.ownB m t.bare = true by rw [hob0, hob])
    rw [hob] at HOW
    obtain ⟨ok, hok⟩ : ∃ z, z = Tm.wholeB (bt l) t.bare := ⟨_, rfl⟩
    have hmk : ∀ W, Turned (fun _ => False) w2 W → Calls Try.prog 147 #[.pointer (some ⟨W.heap.size, 0, none⟩), .agg #[.int .i64 t.kind, .int .i64 t.n, .string t.name, .slice t.at_.1 t.args.length t.at_.2], .int .i64 1] (W.alloc (.cells #[.pointer (some ⟨bb, 0, none⟩), .int .i64 0] 170)) fun e w' => ∃ u : LT, e = .returned (.tuple #[u.val, .bool ok]) ∧ u.In (fun k => p k ∨ w.heap.size + 2 ≤ k) w' ∧ (ok = true → u.bare = Tm.img (bt l) t.bare) ∧ Turned (fun _ => False) W w' := by
      intro W hW
      have hb := HH.out.turned0 (HT2.out.trans hW)
      have TA : Turned (fun _ => False) W (W.alloc (.cells #[.pointer (some ⟨bb, 0, none⟩), .int .i64 0] 170)) := (Turned.refl _ W).alloc _
      have := make147 (K := W.heap.size) 65 t (W.alloc (.cells #[.pointer (some ⟨bb, 0, none⟩), .int .i64 0] 170)) 0 1 (by omega) (by omega) (hb.turned0 TA) (HT.out.turned0 ((HT2.out.trans hW).trans TA)) (Tm.good_ones' hgb.1) ⟨fun c => Nat.lt_irrefl _ (hb.own_lt _ c), fun b hbm c => (by have := (Array.getElem?_eq_some_iff.1 (hb.terms b hbm).1).1; omega), fun c => Nat.lt_irrefl _ (hb.sep _ c).1⟩ (heap_alloc_new W _) (by omega)
      rw [HVV.out] at this
      refine this.mono (fun e w' ⟨u, h1, h2, h3, _, h5⟩ => ⟨u, ?_, h2.mono (fun k _ hk => hk.elim .inl (fun hk => .inr (by have := (hW.trans TA).size; have := HS2.out; omega))), fun e => h3 (by rw [Tm.makeOk_whole, ← hok, e]), TA.step h5 (fun i hi e => by omega)⟩)
      rw [h1, Tm.makeOk_whole, ← hok]
    have HMK := Lib.hid hmk
    have HE : Hid (wholeE m (bt l) t.bare = if ok = true then 0 else 12) := by show _ = _; unfold wholeE; rw [hob0, hob, ← hok]; rfl
    have HU : Hid (wholeT m (bt l) t.bare = if ok = true then Tm.img (bt l) t.bare else (leaf 0 0 ByteArray.empty).bare) := by
      show _ = _
      unfold wholeT
      rw [HE.out]
      cases ok <;> rfl
    clear hob hob0 hmk hgb hok
    cases ok with
    | false =>
      go_enter Try.func89, Try.ntmps89
      go_wp2_with (first
        | (go_at_call 144; rw [← HW2.out]; (with_reducible refine HOW.out.mono ?_); rintro e w4 ⟨rfl, T4⟩; obtain ⟨hc, _⟩ := HKP.out _ (T4.alloc (.cells #[.pointer (some ⟨bb, 0, none⟩), .int .i64 0] 170)); obtain ⟨c0, c1, c2, c3, _⟩ := cells4 hc; have HT4 := Lib.hid T4; clear hc)
        | (go_at_call 147; (with_reducible refine (HMK.out _ T4).mono ?_); rintro e w7 ⟨u, rfl, hui, _, T7⟩; rw [LT.val_eq]; have T8 := (T7.alloc (.cells #[.int .i64 u.kind, .int .i64 u.n, .string u.name, .slice u.at_.1 u.args.length u.at_.2] 27)); have hz8 := (HKP.out _ (HT4.out.trans T8)).2; obtain ⟨z0, z1, z2, z3, f0, f1, f2, f3⟩ := cells4 hz8; have HZ := Lib.hid hz8; have HT8 := Lib.hid T8; clear hz8 T7 T8 hui))
      have hset := set4 (a' := .int .i64 0) (b' := .int .i64 0) (c' := .string ⟨#[]⟩) (d' := .slice none 0 0) HZ.out
      have Tq := fun W => turned_store4 W (w.heap.size + 1) (.int .i64 0) (.int .i64 0) (.string ⟨#[]⟩) (.slice none 0 0)
      refine bodyPost_ret (results_cell_tmp1 Try.results89 _ _ (w.heap.size + 1) 27 _ (0, 0) _ rfl hset Try.underlying27 rfl (by kernel_rfl)) rfl ⟨leaf 0 0 ByteArray.empty, by rw [HE.out]; rfl, HU.out.symm, leafIn' (i64_lit _ (by omega)) (i64_lit _ (by omega)) (by unfold maxLen; decide), ((HT2.out.trans HT4.out).trans HT8.out).step (Tq _) (fun i hi e => by omega)⟩
    | true =>
      go_enter Try.func89, Try.ntmps89
      go_wp2_with (first
        | (go_at_call 144; rw [← HW2.out]; (with_reducible refine HOW.out.mono ?_); rintro e w4 ⟨rfl, T4⟩; obtain ⟨hc, _⟩ := HKP.out _ (T4.alloc (.cells #[.pointer (some ⟨bb, 0, none⟩), .int .i64 0] 170)); obtain ⟨c0, c1, c2, c3, _⟩ := cells4 hc; have HT4 := Lib.hid T4; clear hc)
        | (go_at_call 147; ((with_reducible refine (HMK.out _ T4).mono ?_); rintro e w7 ⟨u, rfl, hui, hub, T7⟩; rw [LT.val_eq]; have T8 := (T7.alloc (.cells #[.int .i64 u.kind, .int .i64 u.n, .string u.name, .slice u.at_.1 u.args.length u.at_.2] 27)); have hz8 := (HKP.out _ (HT4.out.trans T8)).2; obtain ⟨z0, z1, z2, z3, f0, f1, f2, f3⟩ := cells4 hz8; have HZ := Lib.hid hz8; have HT8 := Lib.hid T8; have HUI := Lib.hid (hui.turned0 ((Turned.refl _ w7).alloc (.cells #[.int .i64 u.kind, .int .i64 u.n, .string u.name, .slice u.at_.1 u.args.length u.at_.2] 27))); have HUB := Lib.hid (hub (by trivial)); clear hz8 T7 T8 hui hub)))
      have hset := set4 (a' := .int .i64 u.kind) (b' := .int .i64 u.n) (c' := .string u.name) (d' := .slice u.at_.1 u.args.length u.at_.2) HZ.out
      have Tq := fun W => turned_store4 W (w.heap.size + 1) (.int .i64 u.kind) (.int .i64 u.n) (.string u.name) (.slice u.at_.1 u.args.length u.at_.2)
      refine bodyPost_ret (results_cell_tmp1 Try.results89 _ _ (w.heap.size + 1) 27 _ (0, 0) _ rfl hset Try.underlying27 rfl (by kernel_rfl)) rfl ⟨u, by rw [HE.out, LT.val_eq]; rfl, HUB.out.trans HU.out.symm, ?_, ((HT2.out.trans HT4.out).trans HT8.out).step (Tq _) (fun i hi e => by omega)⟩
      exact HUI.out.turned (Tq _) (fun k _ hk e => by
        rcases hk with hk | hk
        · have := (HH.out.sep k hk).1; omega
        · omega) (fun k _ hk => hk.elim .inl (fun hk => .inr (by omega)))
end
end Go.Proofs.Ytoihjobdfjajfaa
namespace Go.Proofs.Ytoihjobdfjajfaa
set_option linter.unusedVariables false
set_option linter.unusedSimpArgs false
open Go.RowKit
set_option maxHeartbeats 800000 in
theorem deep113 (p : Nat → Prop) (k : Nat) : ∀ (t : LT) (w : World), k ≤ 1000 → t.In p w →
    Calls Try.prog 113 #[t.val, .int .i64 k] w fun e w' => e = .returned (.bool (deepB k t)) ∧ Turned (fun _ => False) w w' := by
  induction k with
  | zero =>
    intro t w hk ht
    rw [LT.val_eq]
    go_enter Try.func113, Try.ntmps113
    go_wp2_with fail
    go_ret
    exact ⟨rfl, (Turned.refl _ _).alloc _⟩
  | succ k ih =>
    intro t w hk ht
    rw [LT.val_eq]
    have hl := ht.len
    have hm := hl.2.1
    have hm1 := hl.1
    unfold maxLen at hm
    by_cases h12 : 12 < t.args.length
    · go_enter Try.func113, Try.ntmps113
      go_wp2_with fail
      go_ret
      exact ⟨by simp [deepB, h12], (Turned.refl _ _).alloc _⟩
    · have hd : decide (12 < (t.args.length : Int)) = false := by simp; omega
      have hgo : deepB (k + 1) t = t.args.any (deepB k) := by simp [deepB, h12]
      rw [hgo]
      clear hgo
      go_enter Try.func113, Try.ntmps113
      go_wp2_with fail
      have T1 := (Turned.refl (fun _ => False) w).alloc (.cells #[.int .i64 t.kind, .int .i64 t.n, .string t.name, .slice t.at_.1 t.args.length t.at_.2] 27)
      have hb1 := boxed w #[.int .i64 t.kind, .int .i64 t.n, .string t.name, .slice t.at_.1 t.args.length t.at_.2] 27 3
      revert T1 hb1
      generalize w.alloc (.cells #[.int .i64 t.kind, .int .i64 t.n, .string t.name, .slice t.at_.1 t.args.length t.at_.2] 27) = w1
      intro T1 hb1
      have ht1 := ht.turned0 T1
      clear ht hl
      go_loopw [5] (fun i wr => ∃ j : Nat, j ≤ t.args.length ∧ i = .int .i64 j ∧ (t.args.take j).any (deepB k) = false ∧ Turned (fun _ => False) w1 wr) (fun i _ => t.args.length - (intOf i).toNat)
      case atStart => exact ⟨0, Nat.zero_le _, rfl, rfl, Turned.refl _ _⟩
      case round =>
        obtain ⟨j, hj, rfl, hany, Tr⟩ := hrel
        have hb := Tr.cell0 hb1
        simp at hb
        have HA := Lib.hid hany
        clear hany
        by_cases hjl : j < t.args.length
        · have hx : t.args[j]? = some t.args[j] := List.getElem?_eq_getElem hjl
          obtain ⟨x, hxe⟩ : ∃ x, x = t.args[j] := ⟨_, rfl⟩
          rw [← hxe] at hx
          clear hxe
          have hxin := (LT.ins_iff _).1 (ht1.turned0 Tr).args x (List.mem_of_getElem? hx)
          obtain ⟨b, o, ha, _, c0, c1, c2, c3⟩ := (ht1.turned0 Tr).lies.cell hx
          have HX := Lib.hid hx
          clear hx
          rw [ha] at hb
          have hih := fun W h => ih x W (by omega) h
          rw [LT.val_eq] at hih
          have HI := Lib.hid hih
          clear hih ih
          have HAd := Lib.hid ha
          clear ha
          go_wp2_with (go_at_call 113; refine (HI.out _ hxin).mono ?_; rintro e w2 ⟨rfl, T2⟩)
          · have hd : deepB k x = true := by assumption
            go_ret
            exact ⟨ret_bool (any_yes _ _ _ _ HX.out hd).symm, T1.trans (Tr.trans T2)⟩
          · have hd : deepB k x = false := by assumption
            go_roundw
            case rel => exact ⟨j + 1, by omega, by go_num, by rw [any_snoc _ _ _ _ HX.out, HA.out, hd]; rfl, Tr.trans T2⟩
            case measure => simp [intOf]; omega
        · go_wp2_with fail
          go_ret
          refine ⟨?_, T1.trans Tr⟩
          have : j = t.args.length := by omega
          have h := HA.out
          rw [this, List.take_length] at h
          exact ret_bool h.symm
end Go.Proofs.Ytoihjobdfjajfaa
namespace Go.Proofs.Ytoihjobdfjajfaa
set_option linter.unusedVariables false
set_option linter.unusedSimpArgs false
open Go.RowKit Go.Maps
def pT : Tm Unit := .mk 2 0 ⟨#[102]⟩ () [Tm.V 0, Tm.V 1, Tm.V 0]
theorem goodVal' {p : Nat → Prop} {t : LT} {w : World} {b : Bool} (ht : t.In p w) (hs : slim t) (hg : goodB t = b) : Calls Try.prog 38 #[.agg #[.int .i64 t.kind, .int .i64 t.n, .string t.name, .slice t.at_.1 t.args.length t.at_.2]] w fun e w' => e = .returned (.bool b) ∧ Turned (fun _ => False) w w' := by
  have h := good38 ht hs
  rw [LT.val_eq, hg] at h
  exact h
theorem sameVal' {p : Nat → Prop} {a b : LT} {w : World} {r : Bool} (ha : a.In p w) (hb : b.In p w) (sa : slim a) (sb : slim b) (hr : sameB a b = r) : Calls Try.prog 52 #[.agg #[.int .i64 a.kind, .int .i64 a.n, .string a.name, .slice a.at_.1 a.args.length a.at_.2], .agg #[.int .i64 b.kind, .int .i64 b.n, .string b.name, .slice b.at_.1 b.args.length b.at_.2]] w fun e w' => e = .returned (.bool r) ∧ Turned (fun _ => False) w w' := by
  have h := same52 ha hb sa sb
  rw [LT.val_eq a, LT.val_eq b, hr] at h
  exact h
def Aw13 (wz : World) : List Value → World → Prop
  | [], W => Turned (fun _ => False) wz W
  | [v], W => Turned (fun _ => False) wz W ∧ ∃ g : Nat, v = .slice (some ⟨g, 0, none⟩) 3 3 ∧ LT.Sl (fun _ => True) W (some ⟨g, 0, none⟩) 3 [leaf 0 0 ByteArray.empty, leaf 0 1 ByteArray.empty, leaf 0 0 ByteArray.empty]
  | [_, v], W => Turned (fun _ => False) wz W ∧ ∃ u : LT, v = u.val ∧ u.bare = pT ∧ u.In (fun _ => True) W
  | _, _ => False
theorem Aw13.turned {wz : World} : ∀ (hs : List Value) (W : World), Aw13 wz hs W → Turned (fun _ => False) wz W
  | [], _, h => h
  | [_], _, h => h.1
  | [_, _], _, h => h.1
  | _ :: _ :: _ :: _, _, h => h.elim
theorem Aw13.turned0 {wz : World} : ∀ (hs : List Value) (w w' : World), Aw13 wz hs w → Turned (fun _ => False) w w' → Aw13 wz hs w'
  | [], _, _, h, ht => Turned.trans h ht
  | [_], _, _, h, ht => by obtain ⟨h1, g, h2, h3⟩ := h; exact ⟨h1.trans ht, g, h2, h3.turned0 ht⟩
  | [_, _], _, _, h, ht => by obtain ⟨h1, u, h2, h3, h4⟩ := h; exact ⟨h1.trans ht, u, h2, h3, h4.turned0 ht⟩
  | _ :: _ :: _ :: _, _, _, h, _ => h.elim
end Go.Proofs.Ytoihjobdfjajfaa
namespace Go.Proofs.Ytoihjobdfjajfaa
set_option linter.unusedVariables false
set_option linter.unusedSimpArgs false
open Go.RowKit Go.Maps
theorem leaf_slim (k n : Int) (s : ByteArray) : slim (leaf k n s) := by
  intro x hx
  simp only [leaf, Tm.flat, Tm.flats, List.mem_cons, List.not_mem_nil, or_false] at hx
  subst hx
  simp [Tm.args]
theorem var_in {p : Nat → Prop} {w : World} {n : Int} (h : I64 n) : (leaf 0 n ByteArray.empty).In p w := leafIn' (i64_lit _ (by omega)) h (by unfold maxLen; decide)
theorem sameB_eq {α β : Type} {a : Tm α} {b : Tm β} (h : a.bare = b.bare) (hg : goodB a.bare = true) : sameB a b = true := by
  unfold sameB
  have h1 : goodB a = true := by rw [← goodB_bare]; exact hg
  have h2 : goodB b = true := by rw [← goodB_bare, ← h]; exact hg
  rw [h1, h2, (Tm.same_iff a b).2 h]
  rfl
end Go.Proofs.Ytoihjobdfjajfaa
namespace Go.Proofs.Ytoihjobdfjajfaa
open Go.RowKit Go.Maps
set_option linter.unusedVariables false
set_option linter.unusedSimpArgs false
section
variable {p : Nat → Prop} {wb : Nat} {tv iv rv tv' iv' : Value} {us : List LT} {is : List Bool} {tr : List Int} {w w' : World}
theorem DB.fresh (h : DB p wb tv iv rv us is tr w) (hm : us.length < 65536) (ht : Turned (fun k => k = wb ∨ tv.ownBlock = some k ∨ iv.ownBlock = some k) w w') (hb : w'.heap[wb]? = some (.cells #[tv', iv', rv] 113 (0, 0)))
    (hr : Row w' 41 4 tv' (us.length + 1) (us.flatMap LT.cells ++ (leaf 0 0 ByteArray.empty : LT).cells)) (hi : Row w' 4 1 iv' (is.length + 1) (is.map Value.bool ++ [.bool false]))
    (ho : tv'.ownBlock = tv.ownBlock ∨ ∀ k, tv'.ownBlock = some k → w.heap.size ≤ k) (ho2 : iv'.ownBlock = iv.ownBlock ∨ ∀ k, iv'.ownBlock = some k → w.heap.size ≤ k) (hd : ∀ k, tv'.ownBlock = some k → iv'.ownBlock ≠ some k) :
    DB p wb tv' iv' rv (us ++ [leaf 0 0 ByteArray.empty]) (is ++ [false]) tr w' := by
  obtain ⟨n1, n2, n3, n4, n5⟩ := h.ne
  have hbl := (Array.getElem?_eq_some_iff.1 h.b).1
  have old : ∀ {a a' : Value}, (a'.ownBlock = a.ownBlock ∨ ∀ k, a'.ownBlock = some k → w.heap.size ≤ k) → ∀ q, q < w.heap.size → a'.ownBlock = some q → a.ownBlock = some q := fun ho q hq e => by
    rcases ho with ho | ho
    · exact ho ▸ e
    · have := ho q e; omega
  have hown : ∀ k, k < w.heap.size → ownD wb tv' iv' rv k → ownD wb tv iv rv k := by
    rintro k hk (rfl | hq | hq | hq)
    · exact .inl rfl
    · exact .inr (.inl (old ho k hk hq))
    · exact .inr (.inr (.inl (old ho2 k hk hq)))
    · exact .inr (.inr (.inr hq))
  refine ⟨hb, ?_, ?_, h.trail.turned ht (fun k hk e => ?_), by simp [h.same], (LT.ins_append _ _).2 ⟨LT.Ins.turned ht (fun k hk hq e => ?_) (fun _ _ q => q) _ h.ins, ?_⟩, by simp; omega, ⟨fun e => n1 (old ho _ hbl e), fun e => n2 (old ho2 _ hbl e), n3, fun k hk => ⟨hd k hk, fun e => ?_⟩, fun k hk e => ?_⟩, fun k hk => ⟨Nat.lt_of_lt_of_le (h.sep k hk).1 ht.size, fun c => (h.sep k hk).2 (hown k (h.sep k hk).1 c)⟩⟩
  · rw [List.length_append, List.flatMap_append]
    simpa using hr
  · rw [List.length_append, List.map_append]
    simpa using hi
  · rcases e with e | e | e
    · exact n3 (e ▸ hk)
    · exact (n4 k e).2 hk
    · exact n5 k e hk
  · refine (h.sep k hq).2 ?_
    rcases e with e | e | e
    · exact .inl e
    · exact .inr (.inl e)
    · exact .inr (.inr (.inl e))
  · exact ⟨var_in (i64_lit 0 (by omega)), trivial⟩
  · have hl := h.trail.lt k e
    exact (n4 k (old ho k hl hk)).2 e
  · have hl := h.trail.lt k e
    exact n5 k (old ho2 k hl hk) e
end
end Go.Proofs.Ytoihjobdfjajfaa
namespace Go.Proofs.Ytoihjobdfjajfaa
open Go.RowKit Go.Maps
set_option linter.unusedVariables false
set_option linter.unusedSimpArgs false
structure Chain (e : TypeId) (size : Nat) (tv : Value) (n : Nat) (xs news : List Value) (i j : Nat) (w0 : World) (hs : Hist) (W : World) : Prop where
  old : (∀ v, (j, v) ∉ hs) → Row W e size tv n xs
  one : ∀ v, (i, v) ∈ hs → (∀ x, (j, x) ∉ hs) → ∃ S, v = .slice (some ⟨S, 0, none⟩) 1 1 ∧ w0.heap.size ≤ S ∧ W.heap[S]? = some (.cells news.toArray e (0, 0))
  new : ∀ v, (j, v) ∈ hs → ∃ g cap, v = .slice (some ⟨g, 0, none⟩) (n + 1) cap ∧ Row W e size v (n + 1) (xs ++ news) ∧ (some g = tv.ownBlock ∨ w0.heap.size ≤ g)
section
variable {e : TypeId} {size : Nat} {tv : Value} {n : Nat} {xs news : List Value} {i j : Nat} {w0 W W' : World} {hs : Hist}
theorem Chain.start (h : Row w0 e size tv n xs) (T : Turned (fun _ => False) w0 W) : Chain e size tv n xs news i j w0 [] W :=
  ⟨fun _ => h.turned0 T, fun v h => (List.not_mem_nil h).elim, fun v h => (List.not_mem_nil h).elim⟩
theorem Chain.turned {S : Nat → Prop} (h : Chain e size tv n xs news i j w0 hs W) (T : Turned S W W') (hS : ∀ k, S k → k < w0.heap.size ∧ tv.ownBlock ≠ some k) : Chain e size tv n xs news i j w0 hs W' := by
  refine ⟨fun hn => (h.old hn).turned T (fun k hk c => (hS k c).2 hk), fun v hv hn => ?_, fun v hv => ?_⟩
  · obtain ⟨B, h1, h2, h3⟩ := h.one v hv hn
    exact ⟨B, h1, h2, (T.block B (Array.getElem?_eq_some_iff.1 h3).1 (fun c => by have := (hS B c).1; omega)).trans h3⟩
  · obtain ⟨g, cap, h1, h2, h3⟩ := h.new v hv
    refine ⟨g, cap, h1, h2.turned T (fun k hk c => ?_), h3⟩
    rw [h1] at hk
    simp only [Value.ownBlock, Option.some.injEq] at hk
    subst hk
    rcases h3 with h3 | h3
    · exact (hS _ c).2 h3.symm
    · have := (hS _ c).1; omega
theorem Chain.turned0 (h : Chain e size tv n xs news i j w0 hs W) (T : Turned (fun _ => False) W W') : Chain e size tv n xs news i j w0 hs W' := h.turned T (fun _ f => f.elim)
theorem Chain.other {q : Nat} {x : Value} (h : Chain e size tv n xs news i j w0 hs W) (hi : q ≠ i) (hj : q ≠ j) : Chain e size tv n xs news i j w0 (hs ++ [(q, x)]) W := by
  have ne : ∀ {a : Nat} {v : Value}, a ≠ q → (a, v) ∈ hs ++ [(q, x)] → (a, v) ∈ hs := fun ha hm => by
    rcases mem_snoc hm with hm | ⟨c, _⟩
    · exact hm
    · exact absurd c ha
  exact ⟨fun hn => h.old (fun v c => hn v (List.mem_append_left _ c)), fun v hv hn => h.one v (ne hi.symm hv) (fun x c => hn x (List.mem_append_left _ c)), fun v hv => h.new v (ne hj.symm hv)⟩
theorem Chain.laid (h : Chain e size tv n xs news i j w0 hs W) (hw : w0.heap.size ≤ W.heap.size) (hij : i ≠ j) (hno : ∀ v, (i, v) ∉ hs) : Chain e size tv n xs news i j w0 (hs ++ [(i, .slice (some ⟨W.heap.size, 0, none⟩) 1 1)]) (W.alloc (.cells news.toArray e)) := by
  have T : Turned (fun _ => False) W (W.alloc (.cells news.toArray e)) := (Turned.refl _ W).alloc _
  have hk := h.turned0 T
  refine ⟨fun hn => hk.old (fun v c => hn v (List.mem_append_left _ c)), fun v hv hn => ?_, fun v hv => ?_⟩
  · rcases mem_snoc hv with hm | ⟨_, c⟩
    · exact absurd hm (hno v)
    · exact ⟨_, c, hw, heap_alloc_new W _⟩
  · rcases mem_snoc hv with hm | ⟨c, _⟩
    · exact hk.new v hm
    · exact absurd c.symm hij
theorem Chain.appended {g cap : Nat} (hno : ∀ v, (j, v) ∉ hs) (hr : Row W' e size (.slice (some ⟨g, 0, none⟩) (n + 1) cap) (n + 1) (xs ++ news)) (hg : some g = tv.ownBlock ∨ w0.heap.size ≤ g) : Chain e size tv n xs news i j w0 (hs ++ [(j, .slice (some ⟨g, 0, none⟩) (n + 1) cap)]) W' := by
  refine ⟨fun hn => absurd (List.mem_append_right _ (List.mem_singleton.2 rfl)) (hn _), fun v hv hn => absurd (List.mem_append_right _ (List.mem_singleton.2 rfl)) (hn _), fun v hv => ?_⟩
  rcases mem_snoc hv with hm | ⟨_, c⟩
  · exact absurd hm (hno v)
  · subst c
    exact ⟨g, cap, rfl, hr, hg⟩
end
end Go.Proofs.Ytoihjobdfjajfaa
namespace Go.Proofs.Ytoihjobdfjajfaa
open Go.RowKit Go.Maps
set_option linter.unusedVariables false
set_option linter.unusedSimpArgs false
abbrev zc : List Value := (leaf 0 0 ByteArray.empty : LT).cells
structure FsR (wb : Nat) (tv iv rv : Value) (us : List LT) (is : List Bool) (w0 : World) (hs : Hist) (W : World) : Prop where
  t : Turned (fun k => k = wb ∨ tv.ownBlock = some k ∨ iv.ownBlock = some k) w0 W
  ct : Chain 41 4 tv us.length (us.flatMap LT.cells) zc 7 8 w0 hs W
  ci : Chain 4 1 iv is.length (is.map Value.bool) [.bool false] 13 14 w0 hs W
  blk : ∃ a b, W.heap[wb]? = some (.cells #[a, b, rv] 113 (0, 0)) ∧ ((∀ q, (17, q) ∉ hs) → a = tv) ∧ (∀ q, (17, q) ∈ hs → (8, a) ∈ hs) ∧ ((∀ q, (20, q) ∉ hs) → b = iv) ∧ ∀ q, (20, q) ∈ hs → (14, b) ∈ hs
section
variable {p : Nat → Prop} {wb : Nat} {tv iv rv : Value} {us : List LT} {is : List Bool} {tr : List Int} {w0 W W' : World} {hs : Hist}
theorem FsR.start (h : DB p wb tv iv rv us is tr w0) (T : Turned (fun _ => False) w0 W) : FsR wb tv iv rv us is w0 [] W := by
  have h' := h.turned0 T
  exact ⟨T.mono (fun _ _ f => f.elim), Chain.start h.row T, Chain.start h.bools T, tv, iv, h'.b, fun _ => rfl, fun q hq => (List.not_mem_nil hq).elim, fun _ => rfl, fun q hq => (List.not_mem_nil hq).elim⟩
theorem FsR.turned0 (h : FsR wb tv iv rv us is w0 hs W) (T : Turned (fun _ => False) W W') : FsR wb tv iv rv us is w0 hs W' := by
  obtain ⟨a, b, h1, h2, h3, h4, h5⟩ := h.blk
  exact ⟨h.t.trans (T.mono (fun _ _ f => f.elim)), h.ct.turned0 T, h.ci.turned0 T, a, b, (T.block wb (Array.getElem?_eq_some_iff.1 h1).1 (fun f => f)).trans h1, h2, h3, h4, h5⟩
theorem blk_other {q : Nat} {x : Value} (h7 : q ≠ 17) (h2 : q ≠ 20) (h : ∃ a b, W.heap[wb]? = some (.cells #[a, b, rv] 113 (0, 0)) ∧ ((∀ q, (17, q) ∉ hs) → a = tv) ∧ (∀ q, (17, q) ∈ hs → (8, a) ∈ hs) ∧ ((∀ q, (20, q) ∉ hs) → b = iv) ∧ ∀ q, (20, q) ∈ hs → (14, b) ∈ hs) :
    ∃ a b, W.heap[wb]? = some (.cells #[a, b, rv] 113 (0, 0)) ∧ ((∀ y, (17, y) ∉ hs ++ [(q, x)]) → a = tv) ∧ (∀ y, (17, y) ∈ hs ++ [(q, x)] → (8, a) ∈ hs ++ [(q, x)]) ∧ ((∀ y, (20, y) ∉ hs ++ [(q, x)]) → b = iv) ∧ ∀ y, (20, y) ∈ hs ++ [(q, x)] → (14, b) ∈ hs ++ [(q, x)] := by
  have ne : ∀ {a : Nat} {v : Value}, a ≠ q → (a, v) ∈ hs ++ [(q, x)] → (a, v) ∈ hs := fun ha hm => by
    rcases mem_snoc hm with hm | ⟨c, _⟩
    · exact hm
    · exact absurd c ha
  obtain ⟨a, b, g1, g2, g3, g4, g5⟩ := h
  exact ⟨a, b, g1, fun hn => g2 (fun y c => hn y (List.mem_append_left _ c)), fun y hy => List.mem_append_left _ (g3 y (ne h7.symm hy)), fun hn => g4 (fun y c => hn y (List.mem_append_left _ c)), fun y hy => List.mem_append_left _ (g5 y (ne h2.symm hy))⟩
theorem FsR.laidT (h : FsR wb tv iv rv us is w0 hs W) (hno : ∀ v, (7, v) ∉ hs) : FsR wb tv iv rv us is w0 (hs ++ [(7, .slice (some ⟨W.heap.size, 0, none⟩) 1 1)]) (W.alloc (.cells zc.toArray 41)) := by
  have T : Turned (fun _ => False) W (W.alloc (.cells zc.toArray 41)) := (Turned.refl _ W).alloc _
  have h' := h.turned0 T
  exact ⟨h'.t, h.ct.laid h.t.size (by decide) hno, h'.ci.other (by decide) (by decide), blk_other (by decide) (by decide) h'.blk⟩
theorem FsR.laidI (h : FsR wb tv iv rv us is w0 hs W) (hno : ∀ v, (13, v) ∉ hs) : FsR wb tv iv rv us is w0 (hs ++ [(13, .slice (some ⟨W.heap.size, 0, none⟩) 1 1)]) (W.alloc (.cells #[.bool false] 4)) := by
  have T : Turned (fun _ => False) W (W.alloc (.cells #[.bool false] 4)) := (Turned.refl _ W).alloc _
  have h' := h.turned0 T
  exact ⟨h'.t, h'.ct.other (by decide) (by decide), h.ci.laid h.t.size (by decide) hno, blk_other (by decide) (by decide) h'.blk⟩
end
end Go.Proofs.Ytoihjobdfjajfaa
namespace Go.Proofs.Ytoihjobdfjajfaa
open Go.RowKit Go.Maps
set_option linter.unusedVariables false
set_option linter.unusedSimpArgs false
section
variable {p : Nat → Prop} {wb : Nat} {tv iv rv : Value} {us : List LT} {is : List Bool} {tr : List Int} {w0 W W' : World} {hs : Hist}
theorem FsR.appT {g cap : Nat} (hd : DB p wb tv iv rv us is tr w0) (h : FsR wb tv iv rv us is w0 hs W) (hno : ∀ v, (8, v) ∉ hs) (T : Turned (fun k => tv.ownBlock = some k) W W') (hr : Row W' 41 4 (.slice (some ⟨g, 0, none⟩) (us.length + 1) cap) (us.length + 1) (us.flatMap LT.cells ++ zc)) (hg : some g = tv.ownBlock ∨ g = W.heap.size) :
    FsR wb tv iv rv us is w0 (hs ++ [(8, .slice (some ⟨g, 0, none⟩) (us.length + 1) cap)]) W' := by
  obtain ⟨n1, n2, n3, n4, n5⟩ := hd.ne
  obtain ⟨a, b, h1, h2, h3, h4, h5⟩ := h.blk
  refine ⟨h.t.step T (fun i hi e => .inr (.inl e)), Chain.appended hno hr (hg.imp_right fun e => by have := h.t.size; omega), (h.ci.turned T (fun k hk => ⟨hd.row.lt k hk, (n4 k hk).1⟩)).other (by decide) (by decide), ?_⟩
  exact blk_other (by decide) (by decide) ⟨a, b, (T.block wb (Array.getElem?_eq_some_iff.1 h1).1 n1).trans h1, h2, h3, h4, h5⟩
theorem FsR.appI {g cap : Nat} (hd : DB p wb tv iv rv us is tr w0) (h : FsR wb tv iv rv us is w0 hs W) (hno : ∀ v, (14, v) ∉ hs) (T : Turned (fun k => iv.ownBlock = some k) W W') (hr : Row W' 4 1 (.slice (some ⟨g, 0, none⟩) (is.length + 1) cap) (is.length + 1) (is.map Value.bool ++ [.bool false])) (hg : some g = iv.ownBlock ∨ g = W.heap.size) :
    FsR wb tv iv rv us is w0 (hs ++ [(14, .slice (some ⟨g, 0, none⟩) (is.length + 1) cap)]) W' := by
  obtain ⟨n1, n2, n3, n4, n5⟩ := hd.ne
  obtain ⟨a, b, h1, h2, h3, h4, h5⟩ := h.blk
  refine ⟨h.t.step T (fun i hi e => .inr (.inr e)), (h.ct.turned T (fun k hk => ⟨hd.bools.lt k hk, fun c => (n4 k c).1 hk⟩)).other (by decide) (by decide), Chain.appended hno hr (hg.imp_right fun e => by have := h.t.size; omega), ?_⟩
  exact blk_other (by decide) (by decide) ⟨a, b, (T.block wb (Array.getElem?_eq_some_iff.1 h1).1 n2).trans h1, h2, h3, h4, h5⟩
theorem turned_cell (W : World) (g j : Nat) (v : Value) : Turned (fun k => k = g) W (W.setCell ⟨g, j, none⟩ v) :=
  (Turned.refl (fun k => k = g) W).setCell (p := ⟨g, j, none⟩) (.inr rfl) v
theorem FsR.stT {v x : Value} (hd : DB p wb tv iv rv us is tr w0) (h : FsR wb tv iv rv us is w0 hs W) (h8 : (8, v) ∈ hs) : FsR wb tv iv rv us is w0 (hs ++ [(17, x)]) (W.setCell ⟨wb, 0, none⟩ v) := by
  obtain ⟨n1, n2, n3, n4, n5⟩ := hd.ne
  obtain ⟨a, b, h1, h2, h3, h4, h5⟩ := h.blk
  have T := turned_cell W wb 0 v
  have hl := (Array.getElem?_eq_some_iff.1 hd.b).1
  have hset := heap_setCell_same W wb 0 _ 113 v h1
  refine ⟨h.t.step T (fun i hi e => .inl e), (h.ct.turned T (fun k hk => ⟨by omega, fun c => n1 (by rw [c, hk])⟩)).other (by decide) (by decide), (h.ci.turned T (fun k hk => ⟨by omega, fun c => n2 (by rw [c, hk])⟩)).other (by decide) (by decide), v, b, by simpa using hset, fun hn => absurd (List.mem_append_right _ (List.mem_singleton.2 rfl)) (hn x), fun q hq => List.mem_append_left _ h8, fun hn => h4 (fun q c => hn q (List.mem_append_left _ c)), fun q hq => List.mem_append_left _ (h5 q ?_)⟩
  rcases mem_snoc hq with hm | ⟨c, _⟩
  · exact hm
  · cases c
theorem FsR.stI {v x : Value} (hd : DB p wb tv iv rv us is tr w0) (h : FsR wb tv iv rv us is w0 hs W) (h14 : (14, v) ∈ hs) : FsR wb tv iv rv us is w0 (hs ++ [(20, x)]) (W.setCell ⟨wb, 1, none⟩ v) := by
  obtain ⟨n1, n2, n3, n4, n5⟩ := hd.ne
  obtain ⟨a, b, h1, h2, h3, h4, h5⟩ := h.blk
  have T := turned_cell W wb 1 v
  have hl := (Array.getElem?_eq_some_iff.1 hd.b).1
  have hset := heap_setCell_same W wb 1 _ 113 v h1
  refine ⟨h.t.step T (fun i hi e => .inl e), (h.ct.turned T (fun k hk => ⟨by omega, fun c => n1 (by rw [c, hk])⟩)).other (by decide) (by decide), (h.ci.turned T (fun k hk => ⟨by omega, fun c => n2 (by rw [c, hk])⟩)).other (by decide) (by decide), a, v, by simpa using hset, fun hn => h2 (fun q c => hn q (List.mem_append_left _ c)), fun q hq => List.mem_append_left _ (h3 q ?_), fun hn => absurd (List.mem_append_right _ (List.mem_singleton.2 rfl)) (hn x), fun q hq => List.mem_append_left _ h14⟩
  rcases mem_snoc hq with hm | ⟨c, _⟩
  · exact hm
  · cases c
theorem FsR.done (hd : DB p wb tv iv rv us is tr w0) (hm : us.length < 65536) (h : FsR wb tv iv rv us is w0 hs W) (hall : ∀ i ∈ [7, 8, 13, 14, 17, 20], ∃ v, (i, v) ∈ hs) : ∃ tv' iv', DB p wb tv' iv' rv (us ++ [leaf 0 0 ByteArray.empty]) (is ++ [false]) tr W ∧ Turned (fun k => k = wb ∨ tv.ownBlock = some k ∨ iv.ownBlock = some k) w0 W ∧ (tv'.ownBlock = tv.ownBlock ∨ ∀ k, tv'.ownBlock = some k → w0.heap.size ≤ k) ∧ (iv'.ownBlock = iv.ownBlock ∨ ∀ k, iv'.ownBlock = some k → w0.heap.size ≤ k) := by
  obtain ⟨a, b, h1, h2, h3, h4, h5⟩ := h.blk
  obtain ⟨q, hq⟩ := hall 17 (by simp)
  obtain ⟨r, hr⟩ := hall 20 (by simp)
  obtain ⟨g, cap, rfl, r1, g1⟩ := h.ct.new _ (h3 q hq)
  obtain ⟨g', cap', rfl, r2, g2⟩ := h.ci.new _ (h5 r hr)
  have o1 : (Value.slice (some ⟨g, 0, none⟩) (us.length + 1) cap).ownBlock = tv.ownBlock ∨ ∀ k, (Value.slice (some ⟨g, 0, none⟩) (us.length + 1) cap).ownBlock = some k → w0.heap.size ≤ k := by
    rcases g1 with g1 | g1
    · exact .inl (by simpa [Value.ownBlock] using g1)
    · exact .inr (fun k hk => by simp [Value.ownBlock] at hk; omega)
  have o2 : (Value.slice (some ⟨g', 0, none⟩) (is.length + 1) cap').ownBlock = iv.ownBlock ∨ ∀ k, (Value.slice (some ⟨g', 0, none⟩) (is.length + 1) cap').ownBlock = some k → w0.heap.size ≤ k := by
    rcases g2 with g2 | g2
    · exact .inl (by simpa [Value.ownBlock] using g2)
    · exact .inr (fun k hk => by simp [Value.ownBlock] at hk; omega)
  refine ⟨_, _, hd.fresh hm h.t h1 r1 r2 o1 o2 (fun k k1 k2 => ?_), h.t, o1, o2⟩
  simp only [Value.ownBlock, Option.some.injEq] at k1 k2
  subst k1
  subst k2
  rcases r1.2 with ⟨c, _⟩ | ⟨x, xc, cur, e1, e2, _⟩
  · cases c
  rcases r2.2 with ⟨c, _⟩ | ⟨y, yc, cur', f1, f2, _⟩
  · cases c
  injection e1 with e1; injection e1 with e1; injection e1 with e1
  injection f1 with f1; injection f1 with f1; injection f1 with f1
  subst e1
  rw [← f1, e2] at f2
  injection f2 with f2
  injection f2 with _ f2
  cases f2
end
end Go.Proofs.Ytoihjobdfjajfaa
namespace Go.Proofs.Ytoihjobdfjajfaa
open Go.RowKit Go.Maps
set_option linter.unusedVariables false
set_option linter.unusedSimpArgs false
theorem rec3b {w : World} {bb : Nat} {x y z : Value} {T : TypeId} (h : w.heap[bb]? = some (.cells #[x, y, z] T (0, 0))) :
    w.cell? ⟨bb, 0, none⟩ = some x ∧ w.cell? ⟨bb, 1, none⟩ = some y ∧ w.cell? ⟨bb, 2, none⟩ = some z ∧ w.frozen? ⟨bb, 0, none⟩ = false ∧ w.frozen? ⟨bb, 1, none⟩ = false ∧ w.frozen? ⟨bb, 2, none⟩ = false :=
  ⟨by rw [cell_of_row w bb 0 _ T (0, 0) h]; rfl, by rw [cell_of_row w bb 1 _ T (0, 0) h]; rfl, by rw [cell_of_row w bb 2 _ T (0, 0) h]; rfl, frozen_of_row w bb 0 _ T h, frozen_of_row w bb 1 _ T h, frozen_of_row w bb 2 _ T h⟩
theorem infoB4 : (Try.prog.info? 4).map (fun i => (i.zero, i.size, i.bytes)) = some (some (.bool false), 1, 1) := by kernel_rfl
section
variable {p : Nat → Prop} {wb : Nat} {tv iv rv : Value} {us : List LT} {is : List Bool} {tr : List Int} {w : World}
set_option maxRecDepth 100000 in
set_option maxHeartbeats 6400000 in
theorem fresh103 (h : DB p wb tv iv rv us is tr w) (hm : us.length < 65536) :
    Calls Try.prog 103 #[.pointer (some ⟨wb, 0, none⟩)] w fun e w' => e = .returned (.tuple #[.agg #[.int .i64 0, .int .i64 (us.length : Int), .string ByteArray.empty, .slice none 0 0], .bool true]) ∧ ∃ tv' iv', DB p wb tv' iv' rv (us ++ [leaf 0 0 ByteArray.empty]) (is ++ [false]) tr w' ∧ Turned (fun k => k = wb ∨ tv.ownBlock = some k ∨ iv.ownBlock = some k) w w' ∧ (tv'.ownBlock = tv.ownBlock ∨ ∀ k, tv'.ownBlock = some k → w.heap.size ≤ k) ∧ (iv'.ownBlock = iv.ownBlock ∨ ∀ k, iv'.ownBlock = some k → w.heap.size ≤ k) := by
  obtain ⟨i0, hi0, hz0, hz1, hz2⟩ := info_parts infoR
  obtain ⟨i1, hi1, hy0, hy1, hy2⟩ := info_parts infoB4
  obtain ⟨a, c, rfl⟩ := h.row.shape
  have hmx := h.row.max
  obtain ⟨w2, hw2⟩ : ∃ z, z = w.alloc (.cells #[.int .i64 0, .int .i64 0, .string ⟨#[]⟩, .slice none 0 0] 41) := ⟨_, rfl⟩
  have T2 : Turned (fun _ => False) w w2 := by rw [hw2]; exact (Turned.refl _ w).alloc _
  have hb2 : w2.heap[w.heap.size]? = some (.cells #[.int .i64 0, .int .i64 0, .string ⟨#[]⟩, .slice none 0 0] 41 (0, 0)) := by rw [hw2]; exact heap_alloc_new w _
  have hd2 := h.turned0 T2
  have hb3 := hd2.b
  rw [hw2] at hb3
  obtain ⟨d0, d1, d2, g0, g1, g2⟩ := rec3b hb3
  have H := Lib.hid h
  have H2 := Lib.hid hd2
  have HT2 := Lib.hid T2
  have HB2 := Lib.hid hb2
  have HW2 := Lib.hid hw2
  have hge : decide (65536 ≤ (us.length : Int)) = false := decide_eq_false (by omega)
  have HM := Lib.hid hm
  clear h hd2 T2 hb2 hb3 hm hw2
  go_enter Try.func103, Try.ntmps103
  go_wp2_with fail
  rw [← HW2.out]
  clear d0 d1 d2 g0 g1 g2
  refine wp_region_k [11, 12, 13, 14, 15, 16, 17, 18, 19, 20, 21, 22, 23, 24, 25, 26, 27, 28, 29] [7, 8, 13, 14, 17, 20] [(18, 7), (19, 8), (24, 13), (25, 14)] (fun dd vv => (match dd with | 11 => vv = .pointer (some ⟨wb, 0, none⟩) | 12 => vv = .pointer (some ⟨wb, 0, none⟩) | 13 => vv = .pointer (some ⟨wb, 0, none⟩) | 14 => vv = .pointer (some ⟨wb, 0, none⟩) | 15 => vv = .pointer (some ⟨wb, 0, none⟩) | 16 => vv = .slice a us.length c | 17 => vv = .agg #[.int .i64 0, .int .i64 0, .string ⟨#[]⟩, .slice none 0 0] | 20 => vv = .pointer (some ⟨wb, 0, none⟩) | 21 => vv = .pointer (some ⟨wb, 0, none⟩) | 22 => vv = .pointer (some ⟨wb, 1, none⟩) | 23 => vv = iv | 26 => vv = .pointer (some ⟨wb, 0, none⟩) | 27 => vv = .pointer (some ⟨wb, 0, none⟩) | 28 => vv = .pointer (some ⟨wb, 0, none⟩) | 29 => vv = .pointer (some ⟨wb, 1, none⟩) | _ => True : Prop)) (FsR wb (.slice a us.length c) iv rv us is w2) (by kernel_rfl) rfl (by kernel_rfl) (by kernel_rfl) (fun w h => FsR.start H2.out h) (fun hs w w' h ht => h.turned0 ht) ?hs ?hQ
  case hs =>
    refine ⟨?s0, ?s1, ?s2, ?s3, ?s4, ?s5, ?s6, ?s7, ?s8, ?s9, ?s10, ?s11, ?s12, ?s13, ?s14, ?s15, ?s16, ?s17, ?s18, ?s19, ?s20, trivial⟩
    case s0 =>
      refine fun hs hl => stepG_free [] [0] (by kernel_rfl) rfl ?_
      intro ac W hT hI hO
      have h0 : ac.tmps.getD 0 undef = .pointer (some ⟨wb, 0, none⟩) := hO 0 (by simp)
      show Brings Try.prog (fun vv w' => Turned (fun _ => False) W w' ∧ vv = .pointer (some ⟨wb, 0, none⟩)) _
      simp only [execOp, Act.eval, h0]
      go_simp
      try exact ⟨Turned.refl _ _, rfl⟩
    case s1 =>
      refine fun hs hl => stepG_free [] [0] (by kernel_rfl) rfl ?_
      intro ac W hT hI hO
      have h0 : ac.tmps.getD 0 undef = .pointer (some ⟨wb, 0, none⟩) := hO 0 (by simp)
      show Brings Try.prog (fun vv w' => Turned (fun _ => False) W w' ∧ vv = .pointer (some ⟨wb, 0, none⟩)) _
      simp only [execOp, Act.eval, h0]
      go_simp
      try exact ⟨Turned.refl _ _, rfl⟩
    case s2 =>
      refine fun hs hl => stepG_free [] [0] (by kernel_rfl) rfl ?_
      intro ac W hT hI hO
      have h0 : ac.tmps.getD 0 undef = .pointer (some ⟨wb, 0, none⟩) := hO 0 (by simp)
      show Brings Try.prog (fun vv w' => Turned (fun _ => False) W w' ∧ vv = .pointer (some ⟨wb, 0, none⟩)) _
      simp only [execOp, Act.eval, h0]
      go_simp
      try exact ⟨Turned.refl _ _, rfl⟩
    case s3 =>
      refine fun hs hl => stepG_free [13] [] (by kernel_rfl) rfl ?_
      intro ac W hT hI hO
      have h13 : ac.tmps.getD 13 undef = .pointer (some ⟨wb, 0, none⟩) := hI 13 (by simp)
      show Brings Try.prog (fun vv w' => Turned (fun _ => False) W w' ∧ vv = .pointer (some ⟨wb, 0, none⟩)) _
      simp only [execOp, Act.eval, h13]
      go_simp
      try exact ⟨Turned.refl _ _, rfl⟩
    case s4 =>
      refine fun hs hl => stepG_free [14] [] (by kernel_rfl) rfl ?_
      intro ac W hT hI hO
      have h14 : ac.tmps.getD 14 undef = .pointer (some ⟨wb, 0, none⟩) := hI 14 (by simp)
      show Brings Try.prog (fun vv w' => Turned (fun _ => False) W w' ∧ vv = .pointer (some ⟨wb, 0, none⟩)) _
      simp only [execOp, Act.eval, h14]
      go_simp
      try exact ⟨Turned.refl _ _, rfl⟩
    case s5 =>
      refine fun hs hl => stepG_free [15] [] (by kernel_rfl) rfl ?_
      intro ac W hT hI hO
      have h15 : ac.tmps.getD 15 undef = .pointer (some ⟨wb, 0, none⟩) := hI 15 (by simp)
      show Brings Try.prog (fun vv w' => Turned (fun _ => False) W w' ∧ vv = .slice a us.length c) _
      obtain ⟨xa, xb, x1, x2, x3, x4, x5⟩ := hT.blk
      obtain rfl := x2 (fun q => hl 17 22 q (by kernel_rfl))
      obtain ⟨e0, e1, e2, _⟩ := rec3b x1
      simp only [execOp, Act.eval, h15]
      go_simp
      try exact ⟨Turned.refl _ _, rfl⟩
    case s6 =>
      refine fun hs hl => stepG_free [] [] (by kernel_rfl) rfl ?_
      intro ac W hT hI hO
      show Brings Try.prog (fun vv w' => Turned (fun _ => False) W w' ∧ vv = .agg #[.int .i64 0, .int .i64 0, .string ⟨#[]⟩, .slice none 0 0]) _
      simp only [execOp, Act.eval]
      go_simp
      try exact ⟨Turned.refl _ _, rfl⟩
    case s7 =>
      refine fun hs hno hl => stepG_free [17] [] (by kernel_rfl) rfl ?_
      intro ac W hT hI hO
      have h17 : ac.tmps.getD 17 undef = .agg #[.int .i64 0, .int .i64 0, .string ⟨#[]⟩, .slice none 0 0] := hI 17 (by simp)
      show Brings Try.prog (fun vv w' => FsR wb (.slice a us.length c) iv rv us is w2 (hs ++ [(7, vv)]) w') _
      have h17' : ac.tmps[17]?.getD undef = .agg #[.int .i64 0, .int .i64 0, .string ⟨#[]⟩, .slice none 0 0] := by rw [← Array.getD_eq_getD_getElem?]; exact h17
      simp only [execOp, Act.eval, h17]
      go_simp
      exact hT.laidT hno
    case s8 =>
      refine fun hs hno hl => stepG_free [16, 18] [] (by kernel_rfl) rfl ?_
      intro ac W hT hI hO
      have h16 : ac.tmps.getD 16 undef = .slice a us.length c := hI 16 (by simp)
      have h18 : (7, ac.tmps.getD 18 undef) ∈ hs := hI 18 (by simp)
      show Brings Try.prog (fun vv w' => FsR wb (.slice a us.length c) iv rv us is w2 (hs ++ [(8, vv)]) w') _
      obtain ⟨S, eS, _, hS⟩ := hT.ct.one _ h18 hno
      refine brings_append (.tmp 16) (.tmp 18) 39 rfl 41 i0 zeroR 4 56 Try.underlying39 hi0 hz0 hz1 hz2 rfl (by decide) _ _ _ h16 (hT.ct.old hno) ⟨S, 0, none⟩ 1 1 zc eS (LT.cells_length _) (news_block hS) (LT.cells_one _) (by omega) (by unfold maxLen; have := HM.out; omega) (by have := HM.out; omega) ?_
      intro g cap w' k1 k2 k3
      exact hT.appT H2.out hno k2 k1 k3
    case s9 =>
      refine fun hs hl => stepG_free [] [0] (by kernel_rfl) rfl ?_
      intro ac W hT hI hO
      have h0 : ac.tmps.getD 0 undef = .pointer (some ⟨wb, 0, none⟩) := hO 0 (by simp)
      show Brings Try.prog (fun vv w' => Turned (fun _ => False) W w' ∧ vv = .pointer (some ⟨wb, 0, none⟩)) _
      simp only [execOp, Act.eval, h0]
      go_simp
      try exact ⟨Turned.refl _ _, rfl⟩
    case s10 =>
      refine fun hs hl => stepG_free [20] [] (by kernel_rfl) rfl ?_
      intro ac W hT hI hO
      have h20 : ac.tmps.getD 20 undef = .pointer (some ⟨wb, 0, none⟩) := hI 20 (by simp)
      show Brings Try.prog (fun vv w' => Turned (fun _ => False) W w' ∧ vv = .pointer (some ⟨wb, 0, none⟩)) _
      simp only [execOp, Act.eval, h20]
      go_simp
      try exact ⟨Turned.refl _ _, rfl⟩
    case s11 =>
      refine fun hs hl => stepG_free [21] [] (by kernel_rfl) rfl ?_
      intro ac W hT hI hO
      have h21 : ac.tmps.getD 21 undef = .pointer (some ⟨wb, 0, none⟩) := hI 21 (by simp)
      show Brings Try.prog (fun vv w' => Turned (fun _ => False) W w' ∧ vv = .pointer (some ⟨wb, 1, none⟩)) _
      simp only [execOp, Act.eval, h21]
      go_simp
      try exact ⟨Turned.refl _ _, rfl⟩
    case s12 =>
      refine fun hs hl => stepG_free [22] [] (by kernel_rfl) rfl ?_
      intro ac W hT hI hO
      have h22 : ac.tmps.getD 22 undef = .pointer (some ⟨wb, 1, none⟩) := hI 22 (by simp)
      show Brings Try.prog (fun vv w' => Turned (fun _ => False) W w' ∧ vv = iv) _
      obtain ⟨xa, xb, x1, x2, x3, x4, x5⟩ := hT.blk
      obtain rfl := x4 (fun q => hl 20 22 q (by kernel_rfl))
      obtain ⟨e0, e1, e2, _⟩ := rec3b x1
      simp only [execOp, Act.eval, h22]
      go_simp
      try exact ⟨Turned.refl _ _, rfl⟩
    case s13 =>
      refine fun hs hno hl => stepG_free [] [] (by kernel_rfl) rfl ?_
      intro ac W hT hI hO
      show Brings Try.prog (fun vv w' => FsR wb (.slice a us.length c) iv rv us is w2 (hs ++ [(13, vv)]) w') _
      simp only [execOp, Act.eval]
      go_simp
      exact hT.laidI hno
    case s14 =>
      refine fun hs hno hl => stepG_free [23, 24] [] (by kernel_rfl) rfl ?_
      intro ac W hT hI hO
      have h23 : ac.tmps.getD 23 undef = iv := hI 23 (by simp)
      have h24 : (13, ac.tmps.getD 24 undef) ∈ hs := hI 24 (by simp)
      show Brings Try.prog (fun vv w' => FsR wb (.slice a us.length c) iv rv us is w2 (hs ++ [(14, vv)]) w') _
      obtain ⟨S, eS, _, hS⟩ := hT.ci.one _ h24 hno
      refine brings_append (.tmp 23) (.tmp 24) 56 rfl 4 i1 (.bool false) 1 1 Try.underlying56 hi1 hy0 hy1 hy2 rfl (by decide) _ _ _ h23 (hT.ci.old hno) ⟨S, 0, none⟩ 1 1 [.bool false] eS rfl (news_block hS) (by simp [Value.oneCell']) (by omega) (by unfold maxLen; have := HM.out; have := H2.out.same; omega) (by have := HM.out; have := H2.out.same; omega) ?_
      intro g cap w' k1 k2 k3
      exact hT.appI H2.out hno k2 k1 k3
    case s15 =>
      refine fun hs hl => stepG_free [11] [] (by kernel_rfl) rfl ?_
      intro ac W hT hI hO
      have h11 : ac.tmps.getD 11 undef = .pointer (some ⟨wb, 0, none⟩) := hI 11 (by simp)
      show Brings Try.prog (fun vv w' => Turned (fun _ => False) W w' ∧ vv = .pointer (some ⟨wb, 0, none⟩)) _
      simp only [execOp, Act.eval, h11]
      go_simp
      try exact ⟨Turned.refl _ _, rfl⟩
    case s16 =>
      refine fun hs hl => stepG_free [26] [] (by kernel_rfl) rfl ?_
      intro ac W hT hI hO
      have h26 : ac.tmps.getD 26 undef = .pointer (some ⟨wb, 0, none⟩) := hI 26 (by simp)
      show Brings Try.prog (fun vv w' => Turned (fun _ => False) W w' ∧ vv = .pointer (some ⟨wb, 0, none⟩)) _
      simp only [execOp, Act.eval, h26]
      go_simp
      try exact ⟨Turned.refl _ _, rfl⟩
    case s17 =>
      refine fun hs hno hl => stepG_free [27, 19] [] (by kernel_rfl) rfl ?_
      intro ac W hT hI hO
      have h27 : ac.tmps.getD 27 undef = .pointer (some ⟨wb, 0, none⟩) := hI 27 (by simp)
      have h19 : (8, ac.tmps.getD 19 undef) ∈ hs := hI 19 (by simp)
      obtain ⟨xa, xb, x1, x2, x3, x4, x5⟩ := hT.blk
      obtain ⟨e0, e1, e2, f0, f1, f2⟩ := rec3b x1
      show Brings Try.prog (fun vv w' => FsR wb (.slice a us.length c) iv rv us is w2 (hs ++ [(17, vv)]) w') _
      obtain ⟨g, cap, e19, _, _⟩ := hT.ct.new _ h19
      rw [e19] at h19
      simp only [execOp, Act.eval, h27, e19]
      go_simp
      exact hT.stT H2.out h19
    case s18 =>
      refine fun hs hl => stepG_free [12] [] (by kernel_rfl) rfl ?_
      intro ac W hT hI hO
      have h12 : ac.tmps.getD 12 undef = .pointer (some ⟨wb, 0, none⟩) := hI 12 (by simp)
      show Brings Try.prog (fun vv w' => Turned (fun _ => False) W w' ∧ vv = .pointer (some ⟨wb, 0, none⟩)) _
      simp only [execOp, Act.eval, h12]
      go_simp
      try exact ⟨Turned.refl _ _, rfl⟩
    case s19 =>
      refine fun hs hl => stepG_free [28] [] (by kernel_rfl) rfl ?_
      intro ac W hT hI hO
      have h28 : ac.tmps.getD 28 undef = .pointer (some ⟨wb, 0, none⟩) := hI 28 (by simp)
      show Brings Try.prog (fun vv w' => Turned (fun _ => False) W w' ∧ vv = .pointer (some ⟨wb, 1, none⟩)) _
      simp only [execOp, Act.eval, h28]
      go_simp
      try exact ⟨Turned.refl _ _, rfl⟩
    case s20 =>
      refine fun hs hno hl => stepG_free [29, 25] [] (by kernel_rfl) rfl ?_
      intro ac W hT hI hO
      have h29 : ac.tmps.getD 29 undef = .pointer (some ⟨wb, 1, none⟩) := hI 29 (by simp)
      have h25 : (14, ac.tmps.getD 25 undef) ∈ hs := hI 25 (by simp)
      obtain ⟨xa, xb, x1, x2, x3, x4, x5⟩ := hT.blk
      obtain ⟨e0, e1, e2, f0, f1, f2⟩ := rec3b x1
      show Brings Try.prog (fun vv w' => FsR wb (.slice a us.length c) iv rv us is w2 (hs ++ [(20, vv)]) w') _
      obtain ⟨g, cap, e25, _, _⟩ := hT.ci.new _ h25
      rw [e25] at h25
      simp only [execOp, Act.eval, h29, e25]
      go_simp
      exact hT.stI H2.out h25
  case hQ =>
    intro hs3 vs3 w3 hall huniq hR hV
    simp only [List.foldl_cons, List.foldl_nil, List.setIfInBounds_toArray, List.set_cons_zero, List.set_cons_succ]
    obtain ⟨tv3, iv3, hd3, T3, o1, o2⟩ := hR.done H2.out HM.out hall
    have hb3 := (T3.block w.heap.size (Array.getElem?_eq_some_iff.1 HB2.out).1 (fun e => by have := H.out.own_lt w.heap.size (e.elim .inl (fun e => e.elim (fun e => .inr (.inl e)) (fun e => .inr (.inr (.inl e))))); omega)).trans HB2.out
    obtain ⟨a3, c3, rfl⟩ := hd3.row.shape
    obtain ⟨e0, e1, e2, _⟩ := rec3b hd3.b
    rw [show (us ++ [leaf 0 0 ByteArray.empty]).length = us.length + 1 from by simp] at e0
    obtain ⟨c0, c1, c2, c4, f0, f1, f2, f3⟩ := cells4 hb3
    have HD3 := Lib.hid hd3
    have HT3 := Lib.hid T3
    have HO := Lib.hid (And.intro o1 o2)
    have HB3 := Lib.hid hb3
    have hz3 : ((us.length : Int) + 1 - 1) = (us.length : Int) := by omega
    clear hR hV hall huniq hd3 T3 o1 o2 hb3
    go_wp2_with fail
    have hset := set4 (a' := .int .i64 0) (b' := .int .i64 (us.length : Int)) (c' := .string ByteArray.empty) (d' := .slice none 0 0) HB3.out
    have Tq := turned_store4 w3 w.heap.size (.int .i64 0) (.int .i64 (us.length : Int)) (.string ByteArray.empty) (.slice none 0 0)
    have hs2 : w2.heap.size = w.heap.size + 1 := by rw [HW2.out]; simp
    obtain ⟨o1, o2⟩ := HO.out
    refine bodyPost_ret (results_cell_tmp1 Try.results103 _ _ w.heap.size 41 _ (0, 0) _ rfl hset Try.underlying41 rfl (by kernel_rfl)) rfl ⟨rfl, _, _, HD3.out.turned Tq (fun k _ hk => ⟨fun c => ?_, fun c => by have := (H.out.sep k c).1; omega⟩), ((HT2.out.mono (fun _ _ f => f.elim)).trans HT3.out).step Tq (fun i hi e => by omega), o1.imp_right (fun o k hk => by have := o k hk; omega), o2.imp_right (fun o k hk => by have := o k hk; omega)⟩
    rcases c with c | c | c | c
    · have := H.out.own_lt wb (.inl rfl); omega
    · rcases o1 with o | o
      · have := H.out.own_lt k (.inr (.inl (o ▸ c))); omega
      · have := o k c; omega
    · rcases o2 with o | o
      · have := H.out.own_lt k (.inr (.inr (.inl (o ▸ c)))); omega
      · have := o k c; omega
    · have := H.out.own_lt k (.inr (.inr (.inr c))); omega
end
end Go.Proofs.Ytoihjobdfjajfaa
namespace Go.Proofs.Ytoihjobdfjajfaa
set_option linter.unusedVariables false
set_option linter.unusedSimpArgs false
namespace Tm
noncomputable def UR.andThen (r : UR) (b : List (Tm Unit × Tm Unit)) : UR :=
  match r with
  | .ok l left => unify l left b
  | .no q => .no q
  | .over => .over
theorem unify_append (b : List (Tm Unit × Tm Unit)) : ∀ (k left : Nat), left ≤ k → ∀ (l : Trail) (a : List (Tm Unit × Tm Unit)), unify l left (a ++ b) = (unify l left a).andThen b := by
  intro k
  induction k with
  | zero =>
    intro left hl l a
    obtain rfl : left = 0 := by omega
    cases a with
    | nil => rfl
    | cons p a => rw [List.cons_append, unify_zero, unify_zero]; rfl
  | succ k ih =>
    intro left hl l a
    cases a with
    | nil => rfl
    | cons p a =>
      obtain ⟨x, y⟩ := p
      cases left with
      | zero => rw [List.cons_append, unify_zero, unify_zero]; rfl
      | succ left =>
        rw [List.cons_append]
        cases ho : oneU l left (walkT l x) (walkT l y) with
        | more ps =>
          rw [unify_more ho, unify_more ho, ← List.append_assoc]
          exact ih left (by omega) l (ps ++ a)
        | done r =>
          cases r with
          | ok l' left' =>
            rw [unify_ok ho, unify_ok ho]
            exact ih left' (by have := oneU_left ho; omega) l' a
          | no q => rw [unify_no ho, unify_no ho]; rfl
          | over => rw [unify_over ho, unify_over ho]; rfl
theorem unify_cons (l : Trail) (left : Nat) (p : Tm Unit × Tm Unit) (b : List (Tm Unit × Tm Unit)) : unify l left (p :: b) = (unify l left [p]).andThen b :=
  unify_append b left left (Nat.le_refl _) l [p]
theorem unify_left : ∀ (k left : Nat), left ≤ k → ∀ (l : Trail) (a : List (Tm Unit × Tm Unit)), match unify l left a with | .ok l' q => q ≤ left ∧ (a ≠ [] → q < left) ∧ ∃ e, l' = e ++ l | .no q => q < left | .over => True := by
  intro k
  induction k with
  | zero =>
    intro left hl l a
    obtain rfl : left = 0 := by omega
    cases a with
    | nil => exact ⟨Nat.le_refl _, fun h => absurd rfl h, [], rfl⟩
    | cons p a => rw [unify_zero]; trivial
  | succ k ih =>
    intro left hl l a
    cases a with
    | nil => exact ⟨Nat.le_refl _, fun h => absurd rfl h, [], rfl⟩
    | cons p a =>
      obtain ⟨x, y⟩ := p
      cases left with
      | zero => rw [unify_zero]; trivial
      | succ left =>
        cases ho : oneU l left (walkT l x) (walkT l y) with
        | more ps =>
          rw [unify_more ho]
          have := ih left (by omega) l (ps ++ a)
          revert this
          cases unify l left (ps ++ a) with
          | ok l' q => rintro ⟨h1, _, h3⟩; exact ⟨by omega, fun _ => by omega, h3⟩
          | no q => intro h; show q < _; have : q < left := h; omega
          | over => intro _; trivial
        | done r =>
          cases r with
          | ok l' left' =>
            rw [unify_ok ho]
            have hle := oneU_left ho
            obtain ⟨e, he⟩ := oneU_pre ho
            have := ih left' (by omega) l' a
            revert this
            cases unify l' left' a with
            | ok l2 q =>
              rintro ⟨h1, _, e2, h3⟩
              exact ⟨by omega, fun _ => by omega, e2 ++ e, by rw [h3, he, List.append_assoc]⟩
            | no q => intro h; show q < _; have : q < left' := h; omega
            | over => intro _; trivial
          | no q =>
            rw [unify_no ho]
            show q < left + 1
            have : q ≤ left := by
              unfold oneU at ho
              split at ho
              · split at ho
                · split at ho <;> (injection ho with ho; cases ho)
                · injection ho with ho
                  unfold tieU at ho
                  split at ho
                  · cases ho
                  · split at ho
                    · injection ho with ho; omega
                    · cases ho
              · split at ho
                · injection ho with ho
                  unfold tieU at ho
                  split at ho
                  · cases ho
                  · split at ho
                    · injection ho with ho; omega
                    · cases ho
                · split at ho
                  · cases ho
                  · injection ho with ho; injection ho with ho; omega
            omega
          | over => rw [unify_over ho]; trivial
end Tm
end Go.Proofs.Ytoihjobdfjajfaa
namespace Go.Proofs.Ytoihjobdfjajfaa
open Go.RowKit Go.Maps
set_option linter.unusedVariables false
set_option linter.unusedSimpArgs false
structure DT (m : Nat) (l : Tm.Trail) (us : List LT) (is : List Bool) (tr : List Int) : Prop where
  ok : Tm.okT m l
  len : us.length = m
  set : ∀ i : Nat, i < m → is[i]? = some (decide ((i : Int) ∈ Tm.dom l))
  val : ∀ (i : Int) (t : Tm Unit), Tm.look l i = some t → ∃ u : LT, us[i.toNat]? = some u ∧ u.bare = t
  tr : tr = (Tm.dom l).reverse
structure DO (p : Nat → Prop) (wb : Nat) (O : Nat → Prop) (m : Nat) (l : Tm.Trail) (w : World) : Prop where
  db : ∃ tv iv rv us is tr, DB p wb tv iv rv us is tr w ∧ DT m l us is tr ∧ ∀ k, ownD wb tv iv rv k → O k
  lt : ∀ k, O k → k < w.heap.size
  sep : ∀ k, p k → ¬ O k
section
variable {p q O O' S : Nat → Prop} {wb m : Nat} {l : Tm.Trail} {w w' : World} {t : LT}
theorem DO.ok (h : DO p wb O m l w) : Tm.okT m l := by obtain ⟨_, _, _, _, _, _, _, T, _⟩ := h.db; exact T.ok
theorem DO.most (h : DO p wb O m l w) : m ≤ 65536 := by obtain ⟨_, _, _, _, _, _, D, T, _⟩ := h.db; have := D.most; have := T.len; omega
theorem DO.plt (h : DO p wb O m l w) : ∀ k, p k → k < w.heap.size := by obtain ⟨_, _, _, _, _, _, D, _⟩ := h.db; exact fun k hk => (D.sep k hk).1
theorem DO.turned (h : DO p wb O m l w) (T : Turned S w w') (hS : ∀ k, k < w.heap.size → S k → ¬ O k ∧ ¬ p k) : DO p wb O m l w' := by
  obtain ⟨tv, iv, rv, us, is, tr, D, R, hO⟩ := h.db
  exact ⟨⟨tv, iv, rv, us, is, tr, D.turned T (fun k hk e => ⟨fun c => (hS k hk e).1 (hO k c), (hS k hk e).2⟩), R, hO⟩, fun k hk => Nat.lt_of_lt_of_le (h.lt k hk) T.size, h.sep⟩
theorem DO.turned0 (h : DO p wb O m l w) (T : Turned (fun _ => False) w w') : DO p wb O m l w' := h.turned T (fun _ _ f => f.elim)
theorem DO.more (h : DO p wb O m l w) (hO : ∀ k, O k → O' k) (hl : ∀ k, O' k → k < w.heap.size) (hs : ∀ k, p k → ¬ O' k) : DO p wb O' m l w := by
  obtain ⟨tv, iv, rv, us, is, tr, D, R, h1⟩ := h.db
  exact ⟨⟨tv, iv, rv, us, is, tr, D, R, fun k hk => hO k (h1 k hk)⟩, hl, hs⟩
theorem DB.wide {tv iv rv : Value} {us : List LT} {is : List Bool} {tr : List Int} (h : DB p wb tv iv rv us is tr w) (hp : ∀ k, p k → q k) (hq : ∀ k, q k → k < w.heap.size ∧ ¬ ownD wb tv iv rv k) : DB q wb tv iv rv us is tr w :=
  ⟨h.b, h.row, h.bools, h.trail, h.same, (LT.ins_iff _).2 (fun x hx => ((LT.ins_iff _).1 h.ins x hx).mono (fun k _ hk => hp k hk)), h.most, h.ne, hq⟩
theorem DO.wide (h : DO p wb O m l w) (hp : ∀ k, p k → q k) (hq : ∀ k, q k → k < w.heap.size ∧ ¬ O k) : DO q wb O m l w := by
  obtain ⟨tv, iv, rv, us, is, tr, D, R, h1⟩ := h.db
  exact ⟨⟨tv, iv, rv, us, is, tr, D.wide hp (fun k hk => ⟨(hq k hk).1, fun c => (hq k hk).2 (h1 k c)⟩), R, h1⟩, h.lt, fun k hk => (hq k hk).2⟩
def AfterD (p : Nat → Prop) (wb : Nat) (O : Nat → Prop) (m : Nat) (l : Tm.Trail) (w w' : World) : Prop :=
  ∃ O' : Nat → Prop, DO p wb O' m l w' ∧ (∀ k, O' k → k < w.heap.size → O k) ∧ Turned O w w'
theorem AfterD.turned0 {w2 : World} (h : AfterD p wb O m l w w') (T : Turned (fun _ => False) w' w2) : AfterD p wb O m l w w2 := by
  obtain ⟨O', h1, h2, h3⟩ := h
  exact ⟨O', h1.turned0 T, h2, h3.trans (T.mono (fun _ _ f => f.elim))⟩
theorem AfterD.trans {m' m2 : Nat} {l' l2 : Tm.Trail} {w2 : World} (h : AfterD p wb O m' l' w w') (h2 : ∀ O', DO p wb O' m' l' w' → AfterD p wb O' m2 l2 w' w2) : AfterD p wb O m2 l2 w w2 := by
  obtain ⟨O', a1, a2, a3⟩ := h
  obtain ⟨O2, b1, b2, b3⟩ := h2 O' a1
  refine ⟨O2, b1, fun k hk hl => a2 k (b2 k hk (Nat.lt_of_lt_of_le hl a3.size)) hl, a3.step b3 (fun i hi e => a2 i e hi)⟩
theorem newD (w : World) (hp : ∀ k, p k → k < w.heap.size) : DO p w.heap.size (fun k => w.heap.size ≤ k ∧ k < w.heap.size + 1) 0 [] (w.alloc (.cells #[.slice none 0 0, .slice none 0 0, .slice none 0 0] 113)) := by
  refine ⟨⟨_, _, _, [], [], [], DB.none hp, ⟨trivial, rfl, fun i hi => absurd hi (Nat.not_lt_zero _), fun i t h => (by cases h), rfl⟩, fun k hk => ?_⟩, fun k hk => (by simp; omega), fun k hk c => by have := hp k hk; omega⟩
  rcases hk with e | e | e | e
  · omega
  · simp [Value.ownBlock] at e
  · simp [Value.ownBlock] at e
  · simp [Value.ownBlock] at e
theorem freshD (h : DO p wb O m l w) (hm : m < 65536) :
    Calls Try.prog 103 #[.pointer (some ⟨wb, 0, none⟩)] w fun e w' => e = .returned (.tuple #[.agg #[.int .i64 0, .int .i64 (m : Int), .string ByteArray.empty, .slice none 0 0], .bool true]) ∧ AfterD p wb O (m + 1) l w w' := by
  obtain ⟨tv, iv, rv, us, is, tr, D, R, hO⟩ := h.db
  have hl := R.len
  refine (fresh103 D (by omega)).mono ?_
  rintro e w' ⟨rfl, tv', iv', D', T, o1, o2⟩
  have hold : ∀ k, ownD wb tv' iv' rv k → k < w.heap.size → ownD wb tv iv rv k := fun k hk hl => by
    rcases hk with e | e | e | e
    · exact .inl e
    · rcases o1 with o | o
      · exact .inr (.inl (o ▸ e))
      · have := o k e; omega
    · rcases o2 with o | o
      · exact .inr (.inr (.inl (o ▸ e)))
      · have := o k e; omega
    · exact .inr (.inr (.inr e))
  have hnd : ((us.length : Nat) : Int) ∉ Tm.dom l := fun c => by
    obtain ⟨b, hb, e⟩ := List.mem_map.1 c
    have := (Tm.okT_mem R.ok hb).2.1
    omega
  have his : is.length = m := by rw [D.same]; exact hl
  refine ⟨by rw [hl], fun k => ownD wb tv' iv' rv k ∨ (O k ∧ k < w.heap.size), ⟨⟨tv', iv', rv, _, _, tr, D', ⟨R.ok.more (Nat.le_succ m), by rw [List.length_append, hl]; rfl, ?_, ?_, R.tr⟩, fun k hk => .inl hk⟩, fun k hk => hk.elim (D'.own_lt k) (fun e => Nat.lt_of_lt_of_le e.2 T.size), fun k hk c => ?_⟩, fun k hk hl => hk.elim (fun c => hO k (hold k c hl)) (fun e => e.1), T.mono (fun k _ e => hO k (e.elim .inl (fun e => e.elim (fun e => .inr (.inl e)) (fun e => .inr (.inr (.inl e))))))⟩
  · intro i hi
    rcases Nat.lt_or_ge i m with h1 | h1
    · rw [List.getElem?_append_left (by omega)]; exact R.set i h1
    · obtain rfl : i = us.length := by omega
      rw [List.getElem?_append_right (by omega), show us.length - is.length = 0 by omega, decide_eq_false hnd]
      rfl
  · intro i t hi
    obtain ⟨u, hu, hb⟩ := R.val i t hi
    exact ⟨u, by rw [List.getElem?_append_left (List.getElem?_eq_some_iff.1 hu).1]; exact hu, hb⟩
  · rcases c with c | c
    · exact (D'.sep k hk).2 c
    · exact h.sep k hk c.1
end
end Go.Proofs.Ytoihjobdfjajfaa
namespace Go.Proofs.Ytoihjobdfjajfaa
open Go.RowKit Go.Maps
set_option linter.unusedVariables false
set_option linter.unusedSimpArgs false
structure SetR (jT jI gt gi m ct ci N : Nat) (t : LT) (us : List LT) (is : List Bool) (w0 : World) (hs : Hist) (W : World) : Prop where
  tw : Turned (fun k => k = gt ∨ k = gi) w0 W
  rt : ∃ u : List LT, Row W 41 4 (.slice (some ⟨gt, 0, none⟩) m ct) m (u.flatMap LT.cells) ∧ ((∀ v, (jT, v) ∉ hs) → u = us) ∧ ∀ v, (jT, v) ∈ hs → u = us.set N t
  ri : ∃ u : List Bool, Row W 4 1 (.slice (some ⟨gi, 0, none⟩) m ci) m (u.map Value.bool) ∧ ((∀ v, (jI, v) ∉ hs) → u = is) ∧ ∀ v, (jI, v) ∈ hs → u = is.set N true
section
variable {jT jI gt gi m ct ci N : Nat} {t : LT} {us : List LT} {is : List Bool} {w0 W W' : World} {hs : Hist}
theorem SetR.start (h1 : Row w0 41 4 (.slice (some ⟨gt, 0, none⟩) m ct) m (us.flatMap LT.cells)) (h2 : Row w0 4 1 (.slice (some ⟨gi, 0, none⟩) m ci) m (is.map Value.bool)) (T : Turned (fun _ => False) w0 W) : SetR jT jI gt gi m ct ci N t us is w0 [] W :=
  ⟨T.mono (fun _ _ f => f.elim), ⟨us, h1.turned0 T, fun _ => rfl, fun v hv => (List.not_mem_nil hv).elim⟩, ⟨is, h2.turned0 T, fun _ => rfl, fun v hv => (List.not_mem_nil hv).elim⟩⟩
theorem SetR.turned0 (h : SetR jT jI gt gi m ct ci N t us is w0 hs W) (T : Turned (fun _ => False) W W') : SetR jT jI gt gi m ct ci N t us is w0 hs W' := by
  obtain ⟨u, a1, a2⟩ := h.rt
  obtain ⟨v, b1, b2⟩ := h.ri
  exact ⟨h.tw.trans (T.mono (fun _ _ f => f.elim)), ⟨u, a1.turned0 T, a2⟩, ⟨v, b1.turned0 T, b2⟩⟩
theorem SetR.cellsT (h : SetR jT jI gt gi m ct ci N t us is w0 hs W) (hN : N < m) :
    (∃ z0 z1 z2 z3, W.cell? ⟨gt, N * 4, none⟩ = some z0 ∧ W.cell? ⟨gt, N * 4 + 1, none⟩ = some z1 ∧ W.cell? ⟨gt, N * 4 + 2, none⟩ = some z2 ∧ W.cell? ⟨gt, N * 4 + 3, none⟩ = some z3) ∧
    W.frozen? ⟨gt, N * 4, none⟩ = false ∧ W.frozen? ⟨gt, N * 4 + 1, none⟩ = false ∧ W.frozen? ⟨gt, N * 4 + 2, none⟩ = false ∧ W.frozen? ⟨gt, N * 4 + 3, none⟩ = false := by
  obtain ⟨u, a1, a2⟩ := h.rt
  obtain ⟨z0, g0⟩ := row_some a1 (N * 4) (by omega)
  obtain ⟨z1, g1⟩ := row_some a1 (N * 4 + 1) (by omega)
  obtain ⟨z2, g2⟩ := row_some a1 (N * 4 + 2) (by omega)
  obtain ⟨z3, g3⟩ := row_some a1 (N * 4 + 3) (by omega)
  exact ⟨⟨z0, z1, z2, z3, g0, g1, g2, g3⟩, a1.free rfl (N * 4), a1.free rfl (N * 4 + 1), a1.free rfl (N * 4 + 2), a1.free rfl (N * 4 + 3)⟩
theorem SetR.cellI (h : SetR jT jI gt gi m ct ci N t us is w0 hs W) (hN : N < m) : (∃ z, W.cell? ⟨gi, N, none⟩ = some z) ∧ W.frozen? ⟨gi, N, none⟩ = false := by
  obtain ⟨u, a1, a2⟩ := h.ri
  exact ⟨row_some a1 N (by omega), a1.free rfl N⟩
theorem SetR.storeT (h : SetR jT jI gt gi m ct ci N t us is w0 hs W) (hN : N < m) (hu : us.length = m) (hg : gt ≠ gi) (hj : jT ≠ jI) (hno : ∀ v, (jT, v) ∉ hs) (x : Value) :
    SetR jT jI gt gi m ct ci N t us is w0 (hs ++ [(jT, x)]) ((((W.setCell ⟨gt, N * 4, none⟩ (.int .i64 t.kind)).setCell ⟨gt, N * 4 + 1, none⟩ (.int .i64 t.n)).setCell ⟨gt, N * 4 + 2, none⟩ (.string t.name)).setCell ⟨gt, N * 4 + 3, none⟩ (.slice t.at_.1 t.args.length t.at_.2)) := by
  obtain ⟨u, a1, a2, a3⟩ := h.rt
  obtain ⟨v, b1, b2, b3⟩ := h.ri
  obtain rfl := a2 hno
  have Tq : Turned (fun k => k = gt) W ((((W.setCell ⟨gt, N * 4, none⟩ (.int .i64 t.kind)).setCell ⟨gt, N * 4 + 1, none⟩ (.int .i64 t.n)).setCell ⟨gt, N * 4 + 2, none⟩ (.string t.name)).setCell ⟨gt, N * 4 + 3, none⟩ (.slice t.at_.1 t.args.length t.at_.2)) :=
    ((((Turned.refl (fun k => k = gt) W).setCell (p := ⟨gt, N * 4, none⟩) (.inr rfl) _).setCell (p := ⟨gt, N * 4 + 1, none⟩) (.inr rfl) _).setCell (p := ⟨gt, N * 4 + 2, none⟩) (.inr rfl) _).setCell (p := ⟨gt, N * 4 + 3, none⟩) (.inr rfl) _
  refine ⟨h.tw.trans (Tq.mono (fun _ _ e => .inl e)), ⟨u.set N t, ?_, fun hn => absurd (List.mem_append_right _ (List.mem_singleton.2 rfl)) (hn x), fun _ _ => rfl⟩, ⟨v, b1.turned Tq (fun k hk e => by simp [Value.ownBlock] at hk; omega), fun hn => b2 (fun y hy => hn y (List.mem_append_left _ hy)), fun y hy => ?_⟩⟩
  · have r1 := a1.setAt (off := N * 4) (by omega) (.int .i64 t.kind)
    have r2 := r1.setAt (off := N * 4 + 1) (by omega) (.int .i64 t.n)
    have r3 := r2.setAt (off := N * 4 + 2) (by omega) (.string t.name)
    have r4 := r3.setAt (off := N * 4 + 3) (by omega) (.slice t.at_.1 t.args.length t.at_.2)
    rw [flat_set (by omega)] at r4
    exact r4
  · rcases mem_snoc hy with hy | ⟨e, _⟩
    · exact b3 y hy
    · exact absurd e.symm hj
theorem SetR.storeI (h : SetR jT jI gt gi m ct ci N t us is w0 hs W) (hN : N < m) (hi : is.length = m) (hg : gt ≠ gi) (hj : jT ≠ jI) (hno : ∀ v, (jI, v) ∉ hs) (x : Value) :
    SetR jT jI gt gi m ct ci N t us is w0 (hs ++ [(jI, x)]) (W.setCell ⟨gi, N, none⟩ (.bool true)) := by
  obtain ⟨u, a1, a2, a3⟩ := h.rt
  obtain ⟨v, b1, b2, b3⟩ := h.ri
  obtain rfl := b2 hno
  have Tq : Turned (fun k => k = gi) W (W.setCell ⟨gi, N, none⟩ (.bool true)) := (Turned.refl (fun k => k = gi) W).setCell (p := ⟨gi, N, none⟩) (.inr rfl) _
  refine ⟨h.tw.trans (Tq.mono (fun _ _ e => .inr e)), ⟨u, a1.turned Tq (fun k hk e => by simp [Value.ownBlock] at hk; omega), fun hn => a2 (fun y hy => hn y (List.mem_append_left _ hy)), fun y hy => ?_⟩, ⟨v.set N true, ?_, fun hn => absurd (List.mem_append_right _ (List.mem_singleton.2 rfl)) (hn x), fun _ _ => rfl⟩⟩
  · rcases mem_snoc hy with hy | ⟨e, _⟩
    · exact a3 y hy
    · exact absurd e hj
  · have r1 := b1.setAt (off := N) (by omega) (.bool true)
    rw [List.map_set]
    exact r1
theorem SetR.done (h : SetR jT jI gt gi m ct ci N t us is w0 hs W) (h1 : ∃ v, (jT, v) ∈ hs) (h2 : ∃ v, (jI, v) ∈ hs) :
    Row W 41 4 (.slice (some ⟨gt, 0, none⟩) m ct) m ((us.set N t).flatMap LT.cells) ∧ Row W 4 1 (.slice (some ⟨gi, 0, none⟩) m ci) m ((is.set N true).map Value.bool) ∧ Turned (fun k => k = gt ∨ k = gi) w0 W := by
  obtain ⟨u, a1, a2, a3⟩ := h.rt
  obtain ⟨v, b1, b2, b3⟩ := h.ri
  obtain ⟨x, hx⟩ := h1
  obtain ⟨y, hy⟩ := h2
  rw [a3 x hx] at a1
  rw [b3 y hy] at b1
  exact ⟨a1, b1, h.tw⟩
end
end Go.Proofs.Ytoihjobdfjajfaa
namespace Go.Proofs.Ytoihjobdfjajfaa
open Go.RowKit Go.Maps
set_option linter.unusedVariables false
set_option linter.unusedSimpArgs false
def BindQ (p : Nat → Prop) (wb gt gi m ct ci N : Nat) (rv : Value) (us : List LT) (is : List Bool) (tr : List Int) (t : LT) (w : World) (e : Ending) (w' : World) : Prop :=
  e = .returned (.tuple #[]) ∧ ∃ rv', DB p wb (.slice (some ⟨gt, 0, none⟩) m ct) (.slice (some ⟨gi, 0, none⟩) m ci) rv' (us.set N t) (is.set N true) (tr ++ [(N : Int)]) w' ∧ Turned (fun k => (k = gt ∨ k = gi) ∨ k = wb ∨ rv.ownBlock = some k) w w' ∧ (rv'.ownBlock = rv.ownBlock ∨ ∀ k, rv'.ownBlock = some k → w.heap.size ≤ k)
set_option maxRecDepth 100000 in
set_option maxHeartbeats 6400000 in
theorem bind175 {p : Nat → Prop} {wb gt gi m ct ci N : Nat} {rv : Value} {us : List LT} {is : List Bool} {tr : List Int} {w : World} {t : LT} (h : DB p wb (.slice (some ⟨gt, 0, none⟩) m ct) (.slice (some ⟨gi, 0, none⟩) m ci) rv us is tr w) (hu : us.length = m) (hi : is.length = m) (hr : tr.length ≤ m) (ht : t.In p w) (hN : N < m) :
    Calls Try.prog 175 #[.pointer (some ⟨wb, 0, none⟩), .int .i64 (N : Int), t.val] w (BindQ p wb gt gi m ct ci N rv us is tr t w) := by
  obtain ⟨i0, hi0, hz0, hz1, hz2⟩ := info_parts infoN3
  obtain ⟨ra, rc, rfl⟩ := h.trail.shape
  have hmx := h.trail.max
  have hm65 : m ≤ 65536 := by have := h.most; omega
  obtain ⟨w2, hw2⟩ : ∃ z, z = (w.alloc (.cells #[.int .i64 t.kind, .int .i64 t.n, .string t.name, .slice t.at_.1 t.args.length t.at_.2] 41)) := ⟨_, rfl⟩
  have T2 : Turned (fun _ => False) w w2 := by rw [hw2]; exact (Turned.refl _ w).alloc _
  have hb2 : w2.heap[w.heap.size]? = some (.cells #[.int .i64 t.kind, .int .i64 t.n, .string t.name, .slice t.at_.1 t.args.length t.at_.2] 41 (0, 0)) := by rw [hw2]; exact heap_alloc_new w _
  have D2 := h.turned0 T2
  have hne := h.ne
  have hlt := h.own_lt
  have hgtl : gt < w.heap.size := hlt gt (.inr (.inl rfl))
  have hgil : gi < w.heap.size := hlt gi (.inr (.inr (.inl rfl)))
  have hgw : gt ≠ wb := fun e => hne.1 (by rw [e]; rfl)
  have hiw : gi ≠ wb := fun e => hne.2.1 (by rw [e]; rfl)
  have hgg : gt ≠ gi := fun e => (hne.2.2.2.1 gt rfl).1 (by rw [e]; rfl)
  have hrt : ∀ k, (Value.slice ra tr.length rc).ownBlock = some k → k ≠ gt ∧ k ≠ gi ∧ k ≠ wb := fun k hk => ⟨fun e => (hne.2.2.2.1 gt rfl).2 (e ▸ hk), fun e => hne.2.2.2.2 gi rfl (e ▸ hk), fun e => hne.2.2.1 (e ▸ hk)⟩
  have hR1 := D2.row
  have hR2 := D2.bools
  rw [hu] at hR1
  rw [hi] at hR2
  have HR1 := Lib.hid hR1
  have HR2 := Lib.hid hR2
  have HD2 := Lib.hid D2
  have HUL := Lib.hid (And.intro hu hi)
  have HGG := Lib.hid hgg
  have HN := Lib.hid hN
  have HIN := Lib.hid (ht.turned0 T2)
  have HW2 := Lib.hid hw2
  have HT2 := Lib.hid T2
  have HNE := Lib.hid (And.intro hgw (And.intro hiw hrt))
  have HDW := Lib.hid (fun W (T : Turned (fun k => k = gt ∨ k = gi) w2 W) => (T.block wb (Array.getElem?_eq_some_iff.1 HD2.out.b).1 (fun e => by have := HNE.out.1; have := HNE.out.2.1; omega)).trans HD2.out.b)
  have HBW := Lib.hid (fun W (T : Turned (fun k => k = gt ∨ k = gi) w2 W) => (T.block w.heap.size (Array.getElem?_eq_some_iff.1 hb2).1 (fun e => by omega)).trans hb2)
  have HHH := Lib.hid h
  rw [LT.val_eq]
  clear h ht hu hi D2 T2 hw2 hb2 hR1 hR2 hgg hgw hiw hrt hne hlt
  go_enter Try.func175, Try.ntmps175
  go_wp2_with fail
  rw [← HW2.out]
  refine wp_region_k [6, 7, 8, 9, 10, 11, 12, 13, 14, 15, 16, 17, 18] [12, 14] [] (fun dd vv => (match dd with | 6 => vv = .pointer (some ⟨wb, 0, none⟩) | 7 => vv = .pointer (some ⟨wb, 0, none⟩) | 8 => vv = .pointer (some ⟨wb, 0, none⟩) | 9 => vv = .slice (some ⟨gt, 0, none⟩) m ct | 10 => vv = .int .i64 (N : Int) | 11 => vv = .pointer (some ⟨wb, 0, none⟩) | 12 => vv = .pointer (some ⟨wb, 0, none⟩) | 13 => vv = .pointer (some ⟨wb, 1, none⟩) | 14 => vv = .slice (some ⟨gi, 0, none⟩) m ci | 15 => vv = .int .i64 (N : Int) | 16 => vv = .agg #[.int .i64 t.kind, .int .i64 t.n, .string t.name, .slice t.at_.1 t.args.length t.at_.2] | 17 => vv = .pointer (some ⟨gt, N * 4, none⟩) | 18 => vv = .pointer (some ⟨gi, N, none⟩) | _ => True : Prop)) (SetR 12 14 gt gi m ct ci N t us is w2) (by kernel_rfl) rfl (by kernel_rfl) (by kernel_rfl) (fun w h => SetR.start HR1.out HR2.out h) (fun hs w w' h ht => h.turned0 ht) ?hs ?hQ
  case hs =>
    refine ⟨?s0, ?s1, ?s2, ?s3, ?s4, ?s5, ?s6, ?s7, ?s8, ?s9, ?s10, ?s11, ?s12, ?s13, ?s14, trivial⟩
    case s0 =>
      refine fun hs hl => stepG_free [] [0] (by kernel_rfl) rfl ?_
      intro ac W hT hI hO
      have h0 : ac.tmps.getD 0 undef = .pointer (some ⟨wb, 0, none⟩) := hO 0 (by simp)
      show Brings Try.prog (fun vv w' => Turned (fun _ => False) W w' ∧ vv = .pointer (some ⟨wb, 0, none⟩)) _
      simp only [execOp, Act.eval, h0]
      go_simp
      try exact ⟨Turned.refl _ _, rfl⟩
    case s1 =>
      refine fun hs hl => stepG_free [6] [] (by kernel_rfl) rfl ?_
      intro ac W hT hI hO
      have h6 : ac.tmps.getD 6 undef = .pointer (some ⟨wb, 0, none⟩) := hI 6 (by simp)
      show Brings Try.prog (fun vv w' => Turned (fun _ => False) W w' ∧ vv = .pointer (some ⟨wb, 0, none⟩)) _
      simp only [execOp, Act.eval, h6]
      go_simp
      try exact ⟨Turned.refl _ _, rfl⟩
    case s2 =>
      refine fun hs hl => stepG_free [7] [] (by kernel_rfl) rfl ?_
      intro ac W hT hI hO
      have h7 : ac.tmps.getD 7 undef = .pointer (some ⟨wb, 0, none⟩) := hI 7 (by simp)
      show Brings Try.prog (fun vv w' => Turned (fun _ => False) W w' ∧ vv = .pointer (some ⟨wb, 0, none⟩)) _
      simp only [execOp, Act.eval, h7]
      go_simp
      try exact ⟨Turned.refl _ _, rfl⟩
    case s3 =>
      refine fun hs hl => stepG_free [8] [] (by kernel_rfl) rfl ?_
      intro ac W hT hI hO
      have h8 : ac.tmps.getD 8 undef = .pointer (some ⟨wb, 0, none⟩) := hI 8 (by simp)
      show Brings Try.prog (fun vv w' => Turned (fun _ => False) W w' ∧ vv = .slice (some ⟨gt, 0, none⟩) m ct) _
      obtain ⟨b0, b1, b2, _⟩ := rec3b (HDW.out W hT.tw)
      simp only [execOp, Act.eval, h8]
      go_simp
      try exact ⟨Turned.refl _ _, rfl⟩
    case s4 =>
      refine fun hs hl => stepG_free [] [1] (by kernel_rfl) rfl ?_
      intro ac W hT hI hO
      have h1 : ac.tmps.getD 1 undef = .int .i64 (N : Int) := hO 1 (by simp)
      show Brings Try.prog (fun vv w' => Turned (fun _ => False) W w' ∧ vv = .int .i64 (N : Int)) _
      simp only [execOp, Act.eval, h1]
      go_simp
      try exact ⟨Turned.refl _ _, rfl⟩
    case s5 =>
      refine fun hs hl => stepG_free [] [0] (by kernel_rfl) rfl ?_
      intro ac W hT hI hO
      have h0 : ac.tmps.getD 0 undef = .pointer (some ⟨wb, 0, none⟩) := hO 0 (by simp)
      show Brings Try.prog (fun vv w' => Turned (fun _ => False) W w' ∧ vv = .pointer (some ⟨wb, 0, none⟩)) _
      simp only [execOp, Act.eval, h0]
      go_simp
      try exact ⟨Turned.refl _ _, rfl⟩
    case s6 =>
      refine fun hs hl => stepG_free [11] [] (by kernel_rfl) rfl ?_
      intro ac W hT hI hO
      have h11 : ac.tmps.getD 11 undef = .pointer (some ⟨wb, 0, none⟩) := hI 11 (by simp)
      show Brings Try.prog (fun vv w' => Turned (fun _ => False) W w' ∧ vv = .pointer (some ⟨wb, 0, none⟩)) _
      simp only [execOp, Act.eval, h11]
      go_simp
      try exact ⟨Turned.refl _ _, rfl⟩
    case s7 =>
      refine fun hs hl => stepG_free [12] [] (by kernel_rfl) rfl ?_
      intro ac W hT hI hO
      have h12 : ac.tmps.getD 12 undef = .pointer (some ⟨wb, 0, none⟩) := hI 12 (by simp)
      show Brings Try.prog (fun vv w' => Turned (fun _ => False) W w' ∧ vv = .pointer (some ⟨wb, 1, none⟩)) _
      simp only [execOp, Act.eval, h12]
      go_simp
      try exact ⟨Turned.refl _ _, rfl⟩
    case s8 =>
      refine fun hs hl => stepG_free [13] [] (by kernel_rfl) rfl ?_
      intro ac W hT hI hO
      have h13 : ac.tmps.getD 13 undef = .pointer (some ⟨wb, 1, none⟩) := hI 13 (by simp)
      show Brings Try.prog (fun vv w' => Turned (fun _ => False) W w' ∧ vv = .slice (some ⟨gi, 0, none⟩) m ci) _
      obtain ⟨b0, b1, b2, _⟩ := rec3b (HDW.out W hT.tw)
      simp only [execOp, Act.eval, h13]
      go_simp
      try exact ⟨Turned.refl _ _, rfl⟩
    case s9 =>
      refine fun hs hl => stepG_free [] [1] (by kernel_rfl) rfl ?_
      intro ac W hT hI hO
      have h1 : ac.tmps.getD 1 undef = .int .i64 (N : Int) := hO 1 (by simp)
      show Brings Try.prog (fun vv w' => Turned (fun _ => False) W w' ∧ vv = .int .i64 (N : Int)) _
      simp only [execOp, Act.eval, h1]
      go_simp
      try exact ⟨Turned.refl _ _, rfl⟩
    case s10 =>
      refine fun hs hl => stepG_free [] [5] (by kernel_rfl) rfl ?_
      intro ac W hT hI hO
      have h5 : ac.tmps.getD 5 undef = .pointer (some ⟨w.heap.size, 0, none⟩) := hO 5 (by simp)
      show Brings Try.prog (fun vv w' => Turned (fun _ => False) W w' ∧ vv = .agg #[.int .i64 t.kind, .int .i64 t.n, .string t.name, .slice t.at_.1 t.args.length t.at_.2]) _
      obtain ⟨c0, c1, c2, c3, _⟩ := cells4 (HBW.out W hT.tw)
      simp only [execOp, Act.eval, h5]
      go_simp
      try exact ⟨Turned.refl _ _, rfl⟩
    case s11 =>
      refine fun hs hl => stepG_free [9, 10] [] (by kernel_rfl) rfl ?_
      intro ac W hT hI hO
      have h9 : ac.tmps.getD 9 undef = .slice (some ⟨gt, 0, none⟩) m ct := hI 9 (by simp)
      have h10 : ac.tmps.getD 10 undef = .int .i64 (N : Int) := hI 10 (by simp)
      show Brings Try.prog (fun vv w' => Turned (fun _ => False) W w' ∧ vv = .pointer (some ⟨gt, N * 4, none⟩)) _
      simp only [execOp, Act.eval, h9, h10]
      go_simp
      try exact ⟨Turned.refl _ _, rfl⟩
    case s12 =>
      refine fun hs hno hl => stepG_free [17, 16] [] (by kernel_rfl) rfl ?_
      intro ac W hT hI hO
      have h17 : ac.tmps.getD 17 undef = .pointer (some ⟨gt, N * 4, none⟩) := hI 17 (by simp)
      have h16 : ac.tmps.getD 16 undef = .agg #[.int .i64 t.kind, .int .i64 t.n, .string t.name, .slice t.at_.1 t.args.length t.at_.2] := hI 16 (by simp)
      show Brings Try.prog (fun vv w' => SetR 12 14 gt gi m ct ci N t us is w2 (hs ++ [(12, vv)]) w') _
      obtain ⟨⟨z0, z1, z2, z3, z4, z5, z6, z7⟩, f0, f1, f2, f3⟩ := hT.cellsT HN.out
      simp only [execOp, Act.eval, h17, h16]
      go_simp
      exact hT.storeT HN.out HUL.out.1 HGG.out (by decide) hno _
    case s13 =>
      refine fun hs hl => stepG_free [14, 15] [] (by kernel_rfl) rfl ?_
      intro ac W hT hI hO
      have h14 : ac.tmps.getD 14 undef = .slice (some ⟨gi, 0, none⟩) m ci := hI 14 (by simp)
      have h15 : ac.tmps.getD 15 undef = .int .i64 (N : Int) := hI 15 (by simp)
      show Brings Try.prog (fun vv w' => Turned (fun _ => False) W w' ∧ vv = .pointer (some ⟨gi, N, none⟩)) _
      simp only [execOp, Act.eval, h14, h15]
      go_simp
      try exact ⟨Turned.refl _ _, rfl⟩
    case s14 =>
      refine fun hs hno hl => stepG_free [18] [] (by kernel_rfl) rfl ?_
      intro ac W hT hI hO
      have h18 : ac.tmps.getD 18 undef = .pointer (some ⟨gi, N, none⟩) := hI 18 (by simp)
      show Brings Try.prog (fun vv w' => SetR 12 14 gt gi m ct ci N t us is w2 (hs ++ [(14, vv)]) w') _
      obtain ⟨⟨z0, z4⟩, f0⟩ := hT.cellI HN.out
      simp only [execOp, Act.eval, h18]
      go_simp
      exact hT.storeI HN.out HUL.out.2 HGG.out (by decide) hno _
  case hQ =>
    intro hs vs W1 hall huniq hR hV
    obtain ⟨g1, g2, T1⟩ := hR.done (hall _ (by simp)) (hall _ (by simp))
    simp only [List.foldl_cons, List.foldl_nil, List.setIfInBounds_toArray, List.set_cons_zero, List.set_cons_succ]
    have HG1 := Lib.hid g1
    have HG2 := Lib.hid g2
    have HT1 := Lib.hid T1
    have HBK := Lib.hid (HDW.out W1 T1)
    have HRW : Hid (Row W1 2 1 (.slice ra tr.length rc) tr.length (tr.map (Value.int .i64))) := HD2.out.trail.turned T1 (fun k hk e => by have := HNE.out.2.2 k hk; omega)
    have HNW : Hid (¬ (Value.slice ra tr.length rc).ownBlock = some wb) := fun e => (HNE.out.2.2 wb e).2.2 rfl
    obtain ⟨b0, b1, b2, _⟩ := rec3b HBK.out
    clear hall huniq hR hV g1 g2 T1
    go_wp2_with (at_builtin; refine append_some _ rfl _ _ 24 rfl 2 i0 (.int .i64 0) 1 8 Try.underlying24 hi0 hz0 hz1 hz2 rfl (by decide) _ _ _ rfl (HRW.out.turned0 ((Turned.refl _ _).alloc _)) ⟨W1.heap.size, 0, none⟩ 1 1 [.int .i64 (N : Int)] rfl rfl (news_one (heap_alloc_new W1 _)) (by simp [Value.oneCell']) (by omega) (by unfold maxLen; omega) (by omega) ?_; intro g cap w3 hrow3 T3 hg3; have T3' : Turned (fun k => (Value.slice ra tr.length rc).ownBlock = some k) W1 w3 := ((Turned.refl _ W1).alloc _).trans T3; have hs3 := (T3'.block wb (Array.getElem?_eq_some_iff.1 HBK.out).1 HNW.out).trans HBK.out; obtain ⟨e0, e1, e2, k0, k1, k2⟩ := rec3b hs3; have HS3 := Lib.hid hs3; have HROW := Lib.hid hrow3; have HT3 := Lib.hid T3'; have HG3 : Hid (some g = (Value.slice ra tr.length rc).ownBlock ∨ W1.heap.size ≤ g) := hg3.elim .inl (fun e => .inr (by rw [e]; exact ((Turned.refl (fun _ => False) W1).alloc _).size)); clear hs3 hrow3 T3 T3' hg3 b0 b1 b2)
    refine bodyPost_ret (results_none rfl _ _ _) rfl ?_
    refine ⟨rfl, .slice (some ⟨g, 0, none⟩) (tr.length + 1) cap, ?_, ?_, ?_⟩
    · have D := HHH.out
      have Tw3 : Turned (fun k => k = wb) w3 (w3.setCell ⟨wb, 2, none⟩ (.slice (some ⟨g, 0, none⟩) (tr.length + 1) cap)) := (Turned.refl (fun k => k = wb) w3).setCell (p := ⟨wb, 2, none⟩) (.inr rfl) _
      have hgl : gt ≠ g ∧ gi ≠ g ∧ wb ≠ g := by
        rcases HG3.out with e | e
        · have := HNE.out.2.2 g e.symm; omega
        · have := HT2.out.size; have := HT1.out.size; have := D.own_lt wb (.inl rfl); omega
      have hgw := HNE.out.1
      have hiw := HNE.out.2.1
      have hrt := HNE.out.2.2
      refine ⟨by have := heap_setCell_same w3 wb 2 _ 113 (.slice (some ⟨g, 0, none⟩) (tr.length + 1) cap) HS3.out; simpa using this, ?_, ?_, ?_, by rw [List.length_set, List.length_set]; exact D.same, ?_, by rw [List.length_set]; exact D.most, ?_, ?_⟩
      · have := (HG1.out.turned HT3.out (fun k hk e => by simp [Value.ownBlock] at hk; have := hrt k e; omega)).turned Tw3 (fun k hk e => by simp [Value.ownBlock] at hk; omega)
        rw [List.length_set, HUL.out.1]
        exact this
      · have := (HG2.out.turned HT3.out (fun k hk e => by simp [Value.ownBlock] at hk; have := hrt k e; omega)).turned Tw3 (fun k hk e => by simp [Value.ownBlock] at hk; omega)
        rw [List.length_set, HUL.out.2]
        exact this
      · rw [List.length_append, List.map_append]
        exact HROW.out.turned Tw3 (fun k hk e => by simp [Value.ownBlock] at hk; omega)
      · have keep : ∀ z : LT, z.In p w2 → z.In p (w3.setCell ⟨wb, 2, none⟩ (.slice (some ⟨g, 0, none⟩) (tr.length + 1) cap)) := fun z hz =>
          LT.In.turned Tw3 (fun k _ hk e => (D.sep k hk).2 (.inl e)) (fun _ _ q => q) _ (LT.In.turned HT3.out (fun k _ hk e => (D.sep k hk).2 (.inr (.inr (.inr e)))) (fun _ _ q => q) _ (LT.In.turned HT1.out (fun k _ hk e => (D.sep k hk).2 (e.elim (fun e => .inr (.inl (by rw [e]; rfl))) (fun e => .inr (.inr (.inl (by rw [e]; rfl)))))) (fun _ _ q => q) _ hz))
        rw [LT.ins_iff]
        intro y hy
        rcases List.mem_or_eq_of_mem_set hy with hy | rfl
        · exact keep y ((LT.ins_iff _).1 HD2.out.ins y hy)
        · exact keep y HIN.out
      · refine ⟨by simp [Value.ownBlock]; omega, by simp [Value.ownBlock]; omega, by simp [Value.ownBlock]; omega, fun k hk => ?_, fun k hk => ?_⟩
        · simp [Value.ownBlock] at hk ⊢; have := HGG.out; omega
        · simp [Value.ownBlock] at hk ⊢; omega
      · intro k hk
        obtain ⟨s1, s2⟩ := D.sep k hk
        have z1 := HT2.out.size
        have z2 := HT1.out.size
        have z3 := HT3.out.size
        refine ⟨by have := Tw3.size; omega, ?_⟩
        rintro (e | e | e | e)
        · exact s2 (.inl e)
        · exact s2 (.inr (.inl e))
        · exact s2 (.inr (.inr (.inl e)))
        · simp [Value.ownBlock] at e
          rcases HG3.out with e3 | e3
          · exact s2 (.inr (.inr (.inr (by rw [← e]; exact e3.symm))))
          · omega
    · exact ((((HT2.out.mono (fun _ _ f => f.elim)).trans (HT1.out.mono (fun _ _ e => .inl e)) : Turned (fun k => (k = gt ∨ k = gi) ∨ k = wb ∨ (Value.slice ra tr.length rc).ownBlock = some k) w W1).trans (HT3.out.mono (fun _ _ e => .inr (.inr e)))).setCell (p := ⟨wb, 2, none⟩) (.inr (.inr (.inl rfl))) _)
    · rcases HG3.out with e | e
      · exact .inl e
      · exact .inr (fun k hk => by simp [Value.ownBlock] at hk; have := HT2.out.size; have := HT1.out.size; omega)
end Go.Proofs.Ytoihjobdfjajfaa
namespace Go.Proofs.Ytoihjobdfjajfaa
set_option linter.unusedVariables false
set_option linter.unusedSimpArgs false
namespace Tm
theorem hasL_false {M : Nat} {n : Int} (l : List (Tm Unit)) : ∀ {c : Nat}, c ≤ M → (hasL M n c l).1 = false → (hasL M n c l).2 ≤ M := by
  induction l with
  | nil => intro c h _; exact h
  | cons x l ih =>
    intro c h hf
    simp only [hasL] at hf ⊢
    split at hf
    · cases hf
    · rename_i h1
      rw [if_neg h1]
      exact ih (by omega) hf
theorem hasL_arg {M : Nat} {n : Int} {f : Tm Unit → Tm Unit} {l : List (Tm Unit)} {j c : Nat} {x : Tm Unit} (hx : l[j]? = some x) (R : Bool × Nat) (h : hasL M n c (flats ((l.drop j).map f)) = R) :
    ((hasL M n c (f x).flat).1 = true → R = hasL M n c (f x).flat) ∧ ((hasL M n c (f x).flat).1 = false → hasL M n (hasL M n c (f x).flat).2 (flats ((l.drop (j + 1)).map f)) = R) := by
  have hj := (List.getElem?_eq_some_iff.1 hx)
  have e : l.drop j = x :: l.drop (j + 1) := by
    obtain ⟨h1, h2⟩ := hj
    rw [List.drop_eq_getElem_cons h1, h2]
  rw [e, List.map_cons, flats, hasL_append] at h
  constructor
  · intro h1; rw [if_pos h1] at h; exact h.symm
  · intro h1; rw [if_neg (by rw [h1]; exact Bool.false_ne_true)] at h; exact h
theorem hasL_end {M : Nat} {n : Int} {f : Tm Unit → Tm Unit} {l : List (Tm Unit)} {j c : Nat} (hj : l.length ≤ j) (R : Bool × Nat) (h : hasL M n c (flats ((l.drop j).map f)) = R) : R = (false, c) := by
  rw [List.drop_eq_nil_of_le hj] at h
  exact h.symm
theorem hasL_walked_var {m M : Nat} {l : Trail} {n : Int} {t x : Tm Unit} {c : Nat} (hl : okT m l) (h : Walked m l t x) (hk : x.kind = 0) : hasL M n c (img l t).flat = (decide (M < c + 1 ∨ x.n = n), c + 1) := by
  rw [h.flat_var hl hk]
  simp only [hasL]
  by_cases h1 : M < c + 1 ∨ x.n = n
  · rw [if_pos (h1.imp id (fun e => ⟨hk, e⟩)), decide_eq_true h1]
  · rw [if_neg (fun c => h1 (c.imp id (fun e => e.2))), decide_eq_false h1]
theorem hasL_walked_node {m M : Nat} {l : Trail} {n : Int} {t x : Tm Unit} {c : Nat} (hl : okT m l) (h : Walked m l t x) (hk : ¬ x.kind = 0) :
    (M < c + 1 → hasL M n c (img l t).flat = (true, c + 1)) ∧ (c + 1 ≤ M → hasL M n (c + 1) (flats ((x.args.drop 0).map (img l))) = hasL M n c (img l t).flat) := by
  obtain ⟨h1, h2⟩ := h.flat_node hl hk
  rw [h1]
  simp only [hasL, List.drop_zero]
  constructor
  · intro hc; rw [if_pos (.inl hc)]
  · intro hc; rw [if_neg (fun e => e.elim (fun e => by omega) (fun e => h2 e.1))]
end Tm
end Go.Proofs.Ytoihjobdfjajfaa

/- term.List: the walk. -/
import Derived.Test.YtoihjobdfjajfaaLB
import Derived.Test.YtoihjobdfjajfaaTL1
import Derived.RangeFuncNested
namespace Go.Proofs.Ytoihjobdfjajfaa
set_option linter.unusedVariables false
set_option linter.unusedSimpArgs false
open Go.RowKit Go.Shelf
attribute [local go_sem] Oper.semAt_some

mutual
theorem LT.In.kept {p : Nat → Prop} {w w' : World} (hk : ∀ a v, w.cell? a = some v → w'.cell? a = some v) : ∀ t : LT, LT.In p w t → LT.In p w' t
  | .mk k n s e aa, h => by
    obtain ⟨h1, h2, h3, h4, h5, h6, h7, h8⟩ := h
    refine ⟨h1, h2, h3, h4, h5, h6, fun hp => ?_, LT.Ins.kept hk aa h8⟩
    obtain ⟨b, o, he, hb, hc⟩ := h7 hp
    exact ⟨b, o, he, hb, fun j u hu => hk _ _ (hc j u hu)⟩
theorem LT.Ins.kept {p : Nat → Prop} {w w' : World} (hk : ∀ a v, w.cell? a = some v → w'.cell? a = some v) : ∀ l : List LT, LT.Ins p w l → LT.Ins p w' l
  | [], _ => trivial
  | x :: l, h => ⟨LT.In.kept hk x h.1, LT.Ins.kept hk l h.2⟩
end
theorem LT.Sl.kept {p : Nat → Prop} {w w' : World} {a : Option Addr} {c : Nat} {l : List LT} (hk : ∀ a v, w.cell? a = some v → w'.cell? a = some v) (h : LT.Sl p w a c l) : LT.Sl p w' a c l :=
  ⟨h.none_, fun hp => by obtain ⟨b, o, he, hb, hc⟩ := h.lies hp; exact ⟨b, o, he, hb, fun j u hu => hk _ _ (hc j u hu)⟩, LT.Ins.kept hk l h.ins, h.cap, h.max⟩
theorem below_cells {w W : World} (h : Below w.heap.size w W) : ∀ a v, w.cell? a = some v → W.cell? a = some v :=
  fun a v hc => (h.cell (World.block_lt_of_cell? w a hc)).trans hc

set_option maxHeartbeats 1000000 in
theorem back133 (F : Fence) (n : Nat) (h5 : F.fn 133) (hro : F.round = none) (a : Option Addr) (m c : Nat) (w : World) :
    CallsIn F n Try.prog 133 #[.slice a m c] w fun e w' => e = .returned (.func (.func 163) #[] #[.pointer (some ⟨w.heap.size, 0, none⟩)]) ∧ w' = w.alloc (.cells #[.slice a m c] 22) := by
  have hmf : ∀ (fn : Fn) (first cap : Array Value) (w : World), (Instr.makeFunc fn first cap).run Try.prog w = .ok (.func fn first cap) w := fun _ _ _ _ => rfl
  refine callsIn_of_wp Try.func133 rfl h5 ?_ hro
  simp only [Try.ntmps133, List.size_toArray, List.length_cons, List.length_nil, Nat.reduceAdd, Nat.reduceSub, Array.replicate_succ, Array.replicate_zero, List.push_toArray, List.append_toArray, List.nil_append, List.cons_append]
  gi_wp2
  go_ret
  exact ⟨rfl, rfl⟩

theorem back_stops (F : Fence) (n : Nat) (h6 : F.fn 163) (hro : F.round = none) (hn : 1 ≤ n) (Bn n₀ b3 : Nat) {a : Option Addr} {c : Nat} {l : List LT} (w : World) (hBn : Bn < w.heap.size) (hB : Bn < n₀ ∧ Bn ≠ b3)
    (hc : w.cell? ⟨Bn, 0, none⟩ = some (.slice a l.length c)) (hL : LT.Sl (fun k => k < n₀ ∧ k ≠ b3) w a c l) :
    SeqStopsK F n Try.prog 163 #[.pointer (some ⟨Bn, 0, none⟩)] (fun q : Nat => #[Value.int .i64 q, (l.getD q noT).val]) (KpB n₀ b3) (fun ys => ys = (List.range l.length).reverse) (fun _ => True) l.length w :=
  fun lp J Jx W hW _ _ hY h0 => bk163 F n h6 hro hn lp Bn n₀ b3 J Jx hY W (below_cells hW _ _ hc) hB (hL.kept (below_cells hW)) h0

/-- The list that has been made. -/
def foldB (l : List LT) (t : Tm Unit) (pre : List Nat) : Tm Unit := pre.foldl (fun u q => .mk 2 0 Tm.dot () [(l.getD q noT).bare, u]) t
theorem foldB_snoc (l : List LT) (t : Tm Unit) (pre : List Nat) (q : Nat) : foldB l t (pre ++ [q]) = .mk 2 0 Tm.dot () [(l.getD q noT).bare, foldB l t pre] := by
  unfold foldB; rw [List.foldl_append]; rfl
theorem foldB_all (l : List LT) (t : Tm Unit) : foldB l t (List.range l.length).reverse = Tm.listB (l.map Tm.bare) t := by
  unfold foldB Tm.listB
  rw [List.foldl_reverse]
  have e : l.map Tm.bare = (List.range l.length).map fun q => (l.getD q noT).bare := by
    apply List.ext_getElem?
    intro i
    rw [List.getElem?_map, List.getElem?_map]
    by_cases hi : i < l.length
    · rw [List.getElem?_range hi, List.getElem?_eq_getElem hi]
      simp only [Option.map_some, List.getD_eq_getElem?_getD, List.getElem?_eq_getElem hi, Option.getD_some]
    · rw [List.getElem?_eq_none (by omega), List.getElem?_eq_none (by rw [List.length_range]; omega)]; rfl
  rw [e, List.foldr_map]
/-- What lies in memory ahead of each round. -/
def ListI (w : World) (b3 b4 : Nat) (l : List LT) (t0 : Tm Unit) (pre : List Nat) (W : World) : Prop :=
  ∃ t : LT, t.bare = foldB l t0 pre ∧ t.In (fun k => k ≠ b3 ∧ k ≠ b4) W ∧ W.heap[b3]? = some (.cells #[.int .i64 t.kind, .int .i64 t.n, .string t.name, .slice t.at_.1 t.args.length t.at_.2] 27 (0, 0)) ∧
    W.heap[b4]? = some (.cells #[.int .i64 0, .int .i64 0, .string ⟨#[]⟩, .slice none 0 0] 27 (0, 0)) ∧ Turned (fun _ => False) w W
theorem listI_own {w : World} {B b3 b4 : Nat} {l : List LT} {t0 : Tm Unit} (hB : w.heap.size ≤ B) : OwnFrom B (ListI w b3 b4 l t0) := by
  rintro pre A B' row ⟨t, h1, h2, h3, h4, h5⟩ hg hr
  have hr' := fun r e => (hr r e).2
  refine ⟨t, h1, LT.In.kept (fun a v h => cell_kept h hg hr') t h2, (grownBy_keeps_cells hg hr' h3 rfl).trans h3, (grownBy_keeps_cells hg hr' h4 rfl).trans h4, h5.grown hg (fun k e => .inl (by have := (hr k e).1; omega))⟩
/-- A round's frame. -/
def ListA (a : Option Addr) (c b3 b4 b2 : Nat) (l : List LT) (tail : LT) (q : Nat) (a' : Act) (W : World) : Prop :=
  ∃ g : Nat, a' = { tmps := #[.slice a l.length c, .agg #[.int .i64 tail.kind, .int .i64 tail.n, .string tail.name, .slice tail.at_.1 tail.args.length tail.at_.2], undef, .pointer (some ⟨b3, 0, none⟩), .pointer (some ⟨b4, 0, none⟩), undef, .pointer (some ⟨g, 0, none⟩), .slice a l.length c, .func (.func 163) #[] #[.pointer (some ⟨b2, 0, none⟩)], .int .i64 q, (l.getD q noT).val, undef, undef, undef, undef, undef], defers := [] } ∧
    W.heap[g]? = some (.cells #[.int .i64 (l.getD q noT).kind, .int .i64 (l.getD q noT).n, .string (l.getD q noT).name, .slice (l.getD q noT).at_.1 (l.getD q noT).args.length (l.getD q noT).at_.2] 27 (0, 0))
theorem listA_own {B : Nat} {a : Option Addr} {c b3 b4 b2 : Nat} {l : List LT} {tail : LT} (q : Nat) (a' : Act) : OwnFrom B (fun (_ : Unit) W => ListA a c b3 b4 b2 l tail q a' W) := by
  rintro _ A B' row ⟨g, h1, h2⟩ hg hr
  exact ⟨g, h1, (grownBy_keeps_cells hg (fun r e => (hr r e).2) h2 rfl).trans h2⟩
theorem keepsFrom_turned {B b3 : Nat} {W W' : World} (h : Turned (fun k => k = b3) W W') {c : Array Value} {T : TypeId} {z : Nat × Nat} (hc : W.heap[b3]? = some (.cells c T z)) : KeepsFrom B W W' :=
  ⟨h.size, fun k o _ hk ho => (h.block k (Array.getElem?_eq_some_iff.1 hk).1 (fun e => by subst e; rw [hk] at hc; cases hc; cases ho)).trans hk⟩
theorem kpB_of {n₀ b3 : Nat} {W W' : World} (h : Turned (fun k => k = b3) W W') : KpB n₀ b3 W W' := h.mono (fun _ _ e => .inr e)
theorem kpB_of0 {n₀ b3 : Nat} {W W' : World} (h : Turned (fun _ => False) W W') : KpB n₀ b3 W W' := h.mono (fun _ _ e => e.elim)
theorem keepsFrom_turned0 {B : Nat} {W W' : World} (h : Turned (fun _ => False) W W') : KeepsFrom B W W' :=
  ⟨h.size, fun k o _ hk ho => (h.block k (Array.getElem?_eq_some_iff.1 hk).1 (fun e => e)).trans hk⟩
theorem getD_in {p : Nat → Prop} {W : World} {l : List LT} (h : LT.Ins p W l) (q : Nat) : (l.getD q noT).In p W := by
  rw [List.getD_eq_getElem?_getD]
  cases hx : l[q]? with
  | none => exact noT_in
  | some x => exact (LT.ins_iff l).1 h x (List.mem_of_getElem? hx)
/-- A slice of terms that was just laid, in blocks of p. -/
theorem sl_madeP {p : Nat → Prop} {w : World} {l : List LT} (h : LT.Ins p w l) (hp : p w.heap.size) (n : Nat) (hl : n ≤ 1000) (hn : l.length = n) (cs : Array Value) (hcs : cs = (l.flatMap LT.cells).toArray) : LT.Sl p (w.alloc (.cells cs 27)) (some ⟨w.heap.size, 0, none⟩) n l := by
  subst hn hcs
  have hr := Row.made w 27 4 (l.flatMap LT.cells).toArray l.length (by rw [List.size_toArray, LT.flat_length]) (by unfold maxLen; omega)
  exact (LT.Sl.of_row (p := p) hr (fun k hk => by simp [Value.ownBlock] at hk; subst hk; exact hp) (LT.Ins.turned0 h ((Turned.refl _ w).alloc _))).2
theorem compQ {p : Nat → Prop} {w : World} {a : Option Addr} {c : Nat} {l : List LT} (s : ByteArray) (hs : s.size ≤ maxLen) (n : Nat) (hl : n ≤ 65536) (hn : l.length = n) (h : LT.Sl p w a c l) :
    Calls Try.prog 37 #[.string s, .slice a n c] w fun e w' => ∃ a' c', e = .returned (.agg #[.int .i64 2, .int .i64 0, .string s, .slice a' n c']) ∧ LT.In (fun k => p k ∨ w.heap.size ≤ k) w' (.mk 2 0 s (a', c') l) ∧ Turned (fun _ => False) w w' := by
  subst hn
  refine (comp37 s hs h hl).mono ?_
  rintro e w' ⟨d, rfl, hi, ht⟩
  exact ⟨d.1, d.2, rfl, hi, ht⟩
theorem ltIn_eta {p : Nat → Prop} {w : World} {x : LT} (h : x.In p w) : LT.In p w (.mk x.kind x.n x.name x.at_ x.args) := by cases x; exact h

set_option maxRecDepth 100000 in
set_option maxHeartbeats 2000000 in
theorem list64 {w : World} {a : Option Addr} {c : Nat} {l : List LT} {tail : LT} (hl : LT.Sl (fun _ => True) w a c l) (ht : tail.In (fun _ => True) w) :
    Calls Try.prog 64 #[.slice a l.length c, tail.val] w fun e w' => ∃ t : LT, e = .returned t.val ∧ t.bare = Tm.listB (l.map Tm.bare) tail.bare ∧ t.In (fun _ => True) w' ∧ Turned (fun _ => False) w w' := by
  have h3 := three w (.cells #[.int .i64 tail.kind, .int .i64 tail.n, .string tail.name, .slice tail.at_.1 tail.args.length tail.at_.2] 27) (.cells #[.int .i64 0, .int .i64 0, .string ⟨#[]⟩, .slice none 0 0] 27) (.cells #[.slice a l.length c] 22)
  rw [LT.val_eq]
  have HL := Lib.hid hl
  have HT := Lib.hid ht
  have H3 := Lib.hid h3
  clear hl ht h3
  refine (callsIn_wide (n := 3)).1 ?_
  refine callsIn_of_wp_marks Try.func64 rfl trivial ?_ rfl
  simp only [Try.ntmps64, List.size_toArray, List.length_cons, List.length_nil, Nat.reduceAdd, Nat.reduceSub, Array.replicate_succ, Array.replicate_zero, List.push_toArray, List.append_toArray, List.nil_append, List.cons_append]
  gi_wp2_with (refine ⟨trivial, ?_⟩; gi_at_call 133; refine (back133 Fence.wide _ trivial rfl _ _ _ _).mono ?_; rintro e w' ⟨rfl, rfl⟩)
  skip
  revert H3
  generalize (((w.alloc (.cells #[.int .i64 tail.kind, .int .i64 tail.n, .string tail.name, .slice tail.at_.1 tail.args.length tail.at_.2] 27)).alloc (.cells #[.int .i64 0, .int .i64 0, .string ⟨#[]⟩, .slice none 0 0] 27)).alloc (.cells #[.slice a l.length c] 22)) = w1
  intro H3
  have hs1 : w1.heap.size = w.heap.size + 3 := H3.out.2.1
  have hsl1 : LT.Sl (fun k => k < w.heap.size + 3 ∧ k ≠ w.heap.size) w1 a c l := HL.out.turned H3.out.1 (fun _ _ _ f => f) (fun k hk _ => ⟨by omega, by omega⟩)
  have hb2 : w1.cell? ⟨w.heap.size + 2, 0, none⟩ = some (.slice a l.length c) := cell_of_row w1 (w.heap.size + 2) 0 _ 22 (0, 0) H3.out.2.2.2.1
  refine wpIn_rangeFunc_ownH rfl (by omega) (gf := 163) (lb := #[.pointer (some ⟨w.heap.size + 2, 0, none⟩)]) rfl trivial (enters_of Try.func163 (by kernel_rfl) rfl)
    (back_stops Fence.wide (3 - 1) trivial rfl (by omega) (w.heap.size + 2) (w.heap.size + 3) w.heap.size w1 (by omega) ⟨by omega, by omega⟩ hb2 hsl1) kpB_t (kpB_b (by omega)) (Below.refl _ _) (fun _ => rfl)
    (ListI w w.heap.size (w.heap.size + 1) l tail.bare) (fun _ _ _ => False) (listI_own (by omega)) (fun _ _ _ _ _ hs _ _ => hs) ?start
    (ListA a c w.heap.size (w.heap.size + 1) (w.heap.size + 2) l tail) (fun q a' => listA_own q a') ?assign ?body ?done ?stop
  case start =>
    exact ⟨tail, rfl, LT.In.turned H3.out.1 (fun _ _ _ f => f) (fun k hk _ => ⟨by omega, by omega⟩) tail HT.out, H3.out.2.2.1, H3.out.2.2.2.2, H3.out.1⟩
  case assign =>
    intro lp pre q W K hI hK
    obtain ⟨t, h1, h2, h3, h4, h5⟩ := hI
    have hAx := fun a' W' k1 k2 k3 k4 => hK a' W' k1 k2 k3 k4
    unfold ListA at hAx
    clear hK
    generalize l.getD q noT = x at hAx ⊢
    rw [LT.val_eq] at hAx ⊢
    have HK := Lib.hid hAx
    clear hAx
    gi_wp2
    have TA := (Turned.refl (fun _ => False) W).alloc (.cells #[.int .i64 x.kind, .int .i64 x.n, .string x.name, .slice x.at_.1 x.args.length x.at_.2] 27)
    have l3 := (Array.getElem?_eq_some_iff.1 h3).1
    have l4 := (Array.getElem?_eq_some_iff.1 h4).1
    exact HK.out _ _ (keepsFrom_turned0 TA) (kpB_of0 TA) ⟨t, h1, h2.turned0 TA, (TA.block _ l3 (fun f => f)).trans h3, (TA.block _ l4 (fun f => f)).trans h4, h5.trans TA⟩ ⟨W.heap.size, rfl, heap_alloc_new W _⟩
  case body =>
    rintro lp pre q a' W hlp - hI ⟨g, rfl, hg⟩ hlen
    obtain ⟨t, h1, h2, h3, h4, h5⟩ := hI
    have hxin := getD_in (LT.Ins.turned (q := fun k => k ≠ w.heap.size ∧ k ≠ w.heap.size + 1) h5 (fun _ _ _ f => f) (fun k hk _ => ⟨by omega, by omega⟩) l HL.out.ins) q
    have hfs := foldB_snoc l tail.bare pre q
    rw [← h1] at hfs
    clear h1
    generalize l.getD q noT = x at hg hxin hfs ⊢
    rw [LT.val_eq x]
    obtain ⟨d0, d1, d2, d3, _⟩ := cells4 hg
    obtain ⟨c0, c1, c2, c3, _⟩ := cells4 h3
    have l3 := (Array.getElem?_eq_some_iff.1 h3).1
    have l4 := (Array.getElem?_eq_some_iff.1 h4).1
    have H3 := Lib.hid h3
    have H4 := Lib.hid h4
    clear h3 h4 hg
    gi_wp2_with (refine ⟨trivial, ?_⟩; gi_at_call 37; refine (CallsIn.inRound lp (callsIn_wide.2 (compQ ⟨#[46]⟩ (by decide) 2 (by omega) rfl (sl_madeP (l := [x, t]) ⟨hxin, h2, trivial⟩ (by have := l3; have := l4; omega) 2 (by omega) rfl _ (by rw [show [x, t].flatMap LT.cells = x.cells ++ (t.cells ++ []) from rfl, LT.cells_eq, LT.cells_eq]; rfl))))).mono ?_; rintro e w2 ⟨a2, c2', rfl, hi, hT⟩; have TA := ((Turned.refl (fun _ => False) W).alloc (.cells #[.int .i64 x.kind, .int .i64 x.n, .string x.name, .slice x.at_.1 x.args.length x.at_.2, .int .i64 t.kind, .int .i64 t.n, .string t.name, .slice t.at_.1 t.args.length t.at_.2] 27)).trans hT; have hb3 := (TA.block _ l3 (fun f => f)).trans H3.out; obtain ⟨e0, e1, e2, e3, f0, f1, f2, f3⟩ := cells4 hb3; have HB := Lib.hid hb3; clear hb3)
    have hset := set4 (a' := .int .i64 2) (b' := .int .i64 0) (c' := .string ⟨#[46]⟩) (d' := .slice a2 2 c2') HB.out
    have Tq : Turned (fun k => k = w.heap.size) w2 _ := ((((Turned.refl (fun k => k = w.heap.size) w2).setCell (p := ⟨w.heap.size, 0, none⟩) (.inr rfl) (.int .i64 2)).setCell (p := ⟨w.heap.size, 1, none⟩) (.inr rfl) (.int .i64 0)).setCell (p := ⟨w.heap.size, 2, none⟩) (.inr rfl) (.string ⟨#[46]⟩)).setCell (p := ⟨w.heap.size, 3, none⟩) (.inr rfl) (.slice a2 2 c2')
    have TW := (TA.mono (fun _ _ f => f.elim)).trans Tq
    have T5 : Turned (fun _ => False) w _ := (h5.trans TA).step Tq (fun i hi e => by omega)
    refine ⟨keepsFrom_turned TW H3.out, kpB_of TW, .mk 2 0 ⟨#[46]⟩ (a2, c2') [x, t], hfs.symm, ?_, hset, (TW.block _ l4 (fun e => by omega)).trans H4.out, T5⟩
    refine LT.In.turned Tq (fun k hk h e => ?_) (fun k hk h => ?_) _ hi
    · rcases h with h | h
      · exact h.1 e
      · simp at h; omega
    · rcases h with h | h
      · exact h
      · simp at h; omega
  case done =>
    rintro D ys W hD rfl hI hKk
    obtain ⟨t, h1, h2, h3, h4, h5⟩ := hI
    obtain ⟨c0, c1, c2, c3, _⟩ := cells4 h3
    obtain ⟨d0, d1, d2, d3, f0, f1, f2, f3⟩ := cells4 h4
    have HD := Lib.hid h4
    have HK := Lib.hid hKk
    clear h3 h4 hKk
    gi_wp2
    have hset := set4 (a' := .int .i64 t.kind) (b' := .int .i64 t.n) (c' := .string t.name) (d' := .slice t.at_.1 t.args.length t.at_.2) HD.out
    have T4 := turned4 (a := .int .i64 t.kind) (b := .int .i64 t.n) (c := .string t.name) (d := .slice t.at_.1 t.args.length t.at_.2) h5 (g := w.heap.size + 1) (by omega)
    have hD2 : ((((W.setCell ⟨w.heap.size + 1, 0, none⟩ (.int .i64 t.kind)).setCell ⟨w.heap.size + 1, 1, none⟩ (.int .i64 t.n)).setCell ⟨w.heap.size + 1, 2, none⟩ (.string t.name)).setCell ⟨w.heap.size + 1, 3, none⟩ (.slice t.at_.1 t.args.length t.at_.2)).heap[D]? = some (.deferred (some [])) := by
      rw [Below.heap_setCell _ _ _ _ (by simp; omega), Below.heap_setCell _ _ _ _ (by simp; omega), Below.heap_setCell _ _ _ _ (by simp; omega), Below.heap_setCell _ _ _ _ (by simp; omega)]
      exact HK.out
    refine ⟨by simp, .inl ⟨_, _, rfl, run_takeDeferred hD2, ?_⟩⟩
    have hg := grownBy_putObj' ((((W.setCell ⟨w.heap.size + 1, 0, none⟩ (.int .i64 t.kind)).setCell ⟨w.heap.size + 1, 1, none⟩ (.int .i64 t.n)).setCell ⟨w.heap.size + 1, 2, none⟩ (.string t.name)).setCell ⟨w.heap.size + 1, 3, none⟩ (.slice t.at_.1 t.args.length t.at_.2)) D (.deferred none)
    have hr : ∀ r, some D = some r → ∃ o : Obj, ((((W.setCell ⟨w.heap.size + 1, 0, none⟩ (.int .i64 t.kind)).setCell ⟨w.heap.size + 1, 1, none⟩ (.int .i64 t.n)).setCell ⟨w.heap.size + 1, 2, none⟩ (.string t.name)).setCell ⟨w.heap.size + 1, 3, none⟩ (.slice t.at_.1 t.args.length t.at_.2)).heap[r]? = some o ∧ o.isCells = false := fun r e => by cases e; exact ⟨_, hD2, rfl⟩
    have Tq : Turned (fun k => k = w.heap.size + 1) W _ := ((((Turned.refl (fun k => k = w.heap.size + 1) W).setCell (p := ⟨w.heap.size + 1, 0, none⟩) (.inr rfl) (.int .i64 t.kind)).setCell (p := ⟨w.heap.size + 1, 1, none⟩) (.inr rfl) (.int .i64 t.n)).setCell (p := ⟨w.heap.size + 1, 2, none⟩) (.inr rfl) (.string t.name)).setCell (p := ⟨w.heap.size + 1, 3, none⟩) (.inr rfl) (.slice t.at_.1 t.args.length t.at_.2)
    have hset' := (grownBy_keeps_cells hg hr hset rfl).trans hset
    refine ⟨.agg #[.int .i64 t.kind, .int .i64 t.n, .string t.name, .slice t.at_.1 t.args.length t.at_.2], results_cell_row Try.results64 _ _ (w.heap.size + 1) 27 _ (0, 0) _ rfl hset' Try.underlying27 rfl (by kernel_rfl), t, by rw [LT.val_eq], ?_, ?_, ?_⟩
    · rw [h1, foldB_all]
    · have hi := LT.In.turned (q := fun _ => True) Tq (fun k _ h e => h.2 e) (fun _ _ _ => trivial) t h2
      exact LT.In.kept (fun a v h => cell_kept h hg hr) t hi
    · exact T4.grown hg (fun k e => by cases e; exact .inl (by omega))
  case stop =>
    rintro D cc pre W hD _ h _
    exact h.elim
end Go.Proofs.Ytoihjobdfjajfaa

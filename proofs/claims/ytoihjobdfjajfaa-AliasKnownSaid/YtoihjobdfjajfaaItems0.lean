/- Items: a list's items, and what ends it. -/
import Derived.Test.YtoihjobdfjajfaaRef4
import Derived.Test.YtoihjobdfjajfaaOwnP
namespace Go.Proofs.Ytoihjobdfjajfaa
set_option linter.unusedVariables false
set_option linter.unusedSimpArgs false
open Go.RowKit

theorem isDot_facts {α : Type} {t : Tm α} (h : Tm.isDot t = true) : t.kind = 2 ∧ t.name = Tm.dot ∧ t.args.length = 2 := by
  unfold Tm.isDot at h
  simp only [Bool.and_eq_true] at h
  exact ⟨of_decide_eq_true h.1, of_decide_eq_true h.2.1, of_decide_eq_true h.2.2⟩
theorem isDot_no {α : Type} {t : Tm α} (h : Tm.isDot t = false) : ¬ t.kind = 2 ∨ (t.kind = 2 ∧ ¬ t.name = Tm.dot) ∨ (t.kind = 2 ∧ t.name = Tm.dot ∧ ¬ t.args.length = 2) := by
  by_cases h1 : t.kind = 2
  · by_cases h2 : t.name = Tm.dot
    · by_cases h3 : t.args.length = 2
      · unfold Tm.isDot at h; simp [h1, h2, h3] at h
      · exact .inr (.inr ⟨h1, h2, h3⟩)
    · exact .inr (.inl ⟨h1, h2⟩)
  · exact .inl h1
theorem mem_flats_of {α : Type} {l : List (Tm α)} {z : Tm α} (h : z ∈ Tm.flats l) : ∃ x ∈ l, z ∈ x.flat := by
  induction l with
  | nil => simp [Tm.flats] at h
  | cons y l ih =>
    simp only [Tm.flats, List.mem_append] at h
    rcases h with h | h
    · exact ⟨y, List.mem_cons_self .., h⟩
    · obtain ⟨x, hx, hz⟩ := ih h
      exact ⟨x, List.mem_cons_of_mem _ hx, hz⟩
theorem mem_flat_trans' {α : Type} (n : Nat) : ∀ {t0 t z : Tm α}, t0.depth ≤ n → t ∈ t0.flat → z ∈ t.flat → z ∈ t0.flat := by
  induction n with
  | zero => intro t0 t z h; have := Tm.depth_pos t0; omega
  | succ n ih =>
    intro t0 t z hn h1 h2
    rw [Tm.flat_eq] at h1
    rcases List.mem_cons.1 h1 with rfl | h1
    · exact h2
    · obtain ⟨x, hx, hz⟩ := mem_flats_of h1
      rw [Tm.flat_eq]
      exact List.mem_cons_of_mem _ (mem_flats_arg hx (ih (by have := arg_depth hx; omega) hz h2))
theorem mem_flat_trans {α : Type} {t0 t z : Tm α} (h1 : t ∈ t0.flat) (h2 : z ∈ t.flat) : z ∈ t0.flat := mem_flat_trans' _ (Nat.le_refl _) h1 h2
theorem lies2 {p : Nat → Prop} {w : World} {a : Option Addr} {x y : LT} (h : LT.Lies p w a [x, y]) :
    ∃ b o, a = some ⟨b, o, none⟩ ∧ p b ∧ w.cell? ⟨b, o, none⟩ = some (.int .i64 x.kind) ∧ w.cell? ⟨b, o + 1, none⟩ = some (.int .i64 x.n) ∧ w.cell? ⟨b, o + 2, none⟩ = some (.string x.name) ∧ w.cell? ⟨b, o + 3, none⟩ = some (.slice x.at_.1 x.args.length x.at_.2) ∧
      w.cell? ⟨b, o + 4, none⟩ = some (.int .i64 y.kind) ∧ w.cell? ⟨b, o + 5, none⟩ = some (.int .i64 y.n) ∧ w.cell? ⟨b, o + 6, none⟩ = some (.string y.name) ∧ w.cell? ⟨b, o + 7, none⟩ = some (.slice y.at_.1 y.args.length y.at_.2) := by
  obtain ⟨b, o, e, hp, hc⟩ := h (by simp)
  have e1 := LT.cells_eq x
  have e2 := LT.cells_eq y
  refine ⟨b, o, e, hp, hc 0 _ ?_, hc 1 _ ?_, hc 2 _ ?_, hc 3 _ ?_, hc 4 _ ?_, hc 5 _ ?_, hc 6 _ ?_, hc 7 _ ?_⟩ <;> simp [e1, e2]
theorem results_tmp_cell {P : Program} {fn : Func} {s p : Tmp} {ty : TypeId} (h : fn.results = #[.tmp s, .cell p ty]) (tmps : Array Value) (w : World) (g : Nat) (t : TypeId) (cs : Array Value) (fr : Nat × Nat) (d : TypeDesc)
    (hp : tmps.getD p undef = .pointer (some ⟨g, 0, none⟩)) (hg : w.heap[g]? = some (.cells cs t fr))
    (hu : P.underlying ty = some d) (hd : (match d with | .struct _ | .array _ _ => true | _ => false) = true) (hi : (P.info? ty).map (·.size) = some cs.size) :
    (results fn tmps).run P w = .ok (.tuple #[tmps.getD s undef, .agg cs]) w := by
  have hp' : tmps[p]?.getD undef = .pointer (some ⟨g, 0, none⟩) := by simpa using hp
  simp [results, h, hp', asAddr, run_loadVar_row w g t ty cs fr d hg hu hd hi]
theorem items_dep {α : Type} (n : Nat) : ∀ t : Tm α, t.size ≤ n → (Tm.items t).1.length ≤ t.depth := by
  induction n with
  | zero => intro t h; have := Tm.size_pos t; omega
  | succ n ih =>
    intro t h
    cases hd : Tm.isDot t with
    | true =>
      obtain ⟨a, b, h1, h2, h3⟩ := Tm.items_dot hd
      have := ih b (by omega)
      have hb : b.depth < t.depth := arg_depth (by rw [h1]; simp)
      rw [h2]
      simp only [List.length_cons]
      omega
    | false => rw [Tm.items_end hd]; simp
/-- The last stores: the block of the result. -/
def EndS (B1 : Nat) (ty : TypeId) (y : LT) (wr : World) : List Value → World → Prop
  | [], W => Turned (fun _ => False) wr W
  | [_], W => W.heap[B1]? = some (.cells #[.int .i64 y.kind, .int .i64 y.n, .string y.name, .slice y.at_.1 y.args.length y.at_.2] ty (0, 0)) ∧ Turned (fun k => k = B1) wr W
  | _, _ => False
theorem EndS.turned0 {B1 : Nat} {ty : TypeId} {y : LT} {wr : World} : ∀ (hs : List Value) (w w' : World), EndS B1 ty y wr hs w → Turned (fun _ => False) w w' → EndS B1 ty y wr hs w'
  | [], _, _, h, ht => Turned.trans h ht
  | [_], _, _, h, ht => ⟨(ht.block B1 (Array.getElem?_eq_some_iff.1 h.1).1 (fun f => f)).trans h.1, h.2.trans (ht.mono (fun _ _ f => f.elim))⟩
  | _ :: _ :: _, _, _, h, _ => h.elim
theorem end_nil {B1 : Nat} {ty : TypeId} {y : LT} {wr W : World} {hs : List Value} (hl : hs.length ≤ 0) (h : EndS B1 ty y wr hs W) : Turned (fun _ => False) wr W := by
  obtain rfl : hs = [] := List.eq_nil_of_length_eq_zero (by omega)
  exact h
theorem end_one {B1 : Nat} {ty : TypeId} {y : LT} {wr W : World} {hs : List Value} (hl : hs.length = 1) (h : EndS B1 ty y wr hs W) : W.heap[B1]? = some (.cells #[.int .i64 y.kind, .int .i64 y.n, .string y.name, .slice y.at_.1 y.args.length y.at_.2] ty (0, 0)) ∧ Turned (fun k => k = B1) wr W := by
  obtain ⟨v, rfl⟩ := List.length_eq_one_iff.1 hl
  exact h
/-- At the loop's head: the items so far; the box of t holds what is left. -/
structure ItemI (p : Nat → Prop) (N B0 : Nat) (ty : TypeId) (t0 : LT) (w1 : World) (g : Nat) (v : Value) (us : List LT) (t : LT) (wr : World) : Prop where
  fuel : t.size = g
  items : Tm.items t0 = (us ++ (Tm.items t).1, (Tm.items t).2)
  mem : t ∈ t0.flat
  blk : wr.heap[B0]? = some (.cells #[.int .i64 t.kind, .int .i64 t.n, .string t.name, .slice t.at_.1 t.args.length t.at_.2] ty (0, 0))
  row : Row wr ty 4 v us.length (us.flatMap LT.cells)
  own : ∀ b, v.ownBlock = some b → N ≤ b
  turned : Turned (fun k => k = B0) w1 wr
theorem item_next {p : Nat → Prop} {N B0 : Nat} {ty : TypeId} {t0 : LT} {w1 : World} {g : Nat} {v : Value} {us : List LT} {t x y : LT} {wr w5 : World} {o : Obj} {g5 cap5 : Nat} (h : ItemI p N B0 ty t0 w1 g v us t wr) (hd : Tm.isDot t = true) (hxy : t.args = [x, y]) (hN : B0 < N) (hw : w1.heap.size = N)
    (hr : Row w5 ty 4 (.slice (some ⟨g5, 0, none⟩) (us.length + 1) cap5) (us.length + 1) (us.flatMap LT.cells ++ x.cells)) (hT : Turned (fun k => v.ownBlock = some k) (wr.alloc o) w5) (hl : some g5 = v.ownBlock ∨ g5 = (wr.alloc o).heap.size) :
    ItemI p N B0 ty t0 w1 y.size (.slice (some ⟨g5, 0, none⟩) (us.length + 1) cap5) (us ++ [x]) y ((((w5.setCell ⟨B0, 0, none⟩ (.int .i64 y.kind)).setCell ⟨B0, 1, none⟩ (.int .i64 y.n)).setCell ⟨B0, 2, none⟩ (.string y.name)).setCell ⟨B0, 3, none⟩ (.slice y.at_.1 y.args.length y.at_.2)) ∧ y.size < g := by
  obtain ⟨a, b, e1, e2, e3⟩ := Tm.items_dot hd
  rw [hxy] at e1
  injection e1 with ea eb
  injection eb with eb
  subst ea eb
  have hs := h.turned.size
  have hg5 : N ≤ g5 := by
    rcases hl with e | e
    · exact h.own g5 e.symm
    · simp at e; omega
  have hne : ∀ q, (Value.slice (some ⟨g5, 0, none⟩) (us.length + 1) cap5).ownBlock ≠ some (Addr.block ⟨B0, q, none⟩) := fun q e => by simp [Value.ownBlock] at e; omega
  have hTw : Turned (fun k => v.ownBlock = some k) wr w5 := ((Turned.refl _ wr).alloc o).trans hT
  have hb5 : w5.heap[B0]? = some (.cells #[.int .i64 t.kind, .int .i64 t.n, .string t.name, .slice t.at_.1 t.args.length t.at_.2] ty (0, 0)) := (hTw.block B0 (Array.getElem?_eq_some_iff.1 h.blk).1 (fun e => by have := h.own B0 e; omega)).trans h.blk
  refine ⟨⟨rfl, ?_, ?_, set4 hb5, ?_, ?_, ?_⟩, by rw [← h.fuel]; exact e3⟩
  · rw [h.items, e2]; simp
  · have hf : ∀ z : LT, z ∈ t.flat → z ∈ t0.flat := fun z hz => mem_flat_trans h.mem hz
    refine hf y ?_
    rw [Tm.flat_eq, hxy]
    simp only [Tm.flats, List.mem_cons, List.mem_append, List.append_nil]
    exact .inr (.inr (by rw [Tm.flat_eq]; exact List.mem_cons_self ..))
  · rw [List.flatMap_append, List.flatMap_cons, List.flatMap_nil, List.append_nil, List.length_append, List.length_singleton]
    exact (((hr.setCell (hne 0) _).setCell (hne 1) _).setCell (hne 2) _).setCell (hne 3) _
  · intro b hb
    simp [Value.ownBlock] at hb
    omega
  · exact ((((h.turned.step hTw (fun i hi e => by have := h.own i e; omega)).setCell (p := ⟨B0, 0, none⟩) (.inr rfl) _).setCell (p := ⟨B0, 1, none⟩) (.inr rfl) _).setCell (p := ⟨B0, 2, none⟩) (.inr rfl) _).setCell (p := ⟨B0, 3, none⟩) (.inr rfl) _
theorem two (w : World) (x y : Obj) : Turned (fun _ => False) w ((w.alloc x).alloc y) ∧ ((w.alloc x).alloc y).heap.size = w.heap.size + 2 ∧ ((w.alloc x).alloc y).heap[w.heap.size]? = some x ∧ ((w.alloc x).alloc y).heap[w.heap.size + 1]? = some y :=
  ⟨((Turned.refl _ w).alloc _).alloc _, by simp, heap_alloc2_old w x y, heap_alloc2_new w x y⟩
theorem dot_eq {s : ByteArray} (h : s = Tm.dot) : (s.toList == [46]) = true := by
  rw [h, show Tm.dot.toList = [46] from by unfold Tm.dot; rw [ByteArray.toList_eq]]
  rfl
theorem dot_neq {s : ByteArray} (h : ¬ s = Tm.dot) : (s.toList == [46]) = false := by
  have := str_neq h
  rwa [show Tm.dot.toList = [46] from by unfold Tm.dot; rw [ByteArray.toList_eq]] at this
theorem news_cells (x : LT) {w : World} {g : Nat} {T : TypeId} (h : w.heap[g]? = some (.cells #[.int .i64 x.kind, .int .i64 x.n, .string x.name, .slice x.at_.1 x.args.length x.at_.2] T (0, 0))) : ∀ j u, x.cells[j]? = some u → w.cell? ((⟨g, 0, none⟩ : Addr).add j) = some u :=
  news_block (by rw [LT.cells_eq]; exact h)

set_option maxRecDepth 100000 in
set_option maxHeartbeats 3200000 in
theorem items47 {p : Nat → Prop} {t : LT} {w : World} (ht : t.In p w) (hsl : slim t) (hsz : t.depth ≤ 60000) :
    Calls Try.prog 47 #[t.val] w fun e w' => ∃ (v : Value) (us : List LT) (y : LT), e = .returned (.tuple #[v, y.val]) ∧ (us, y) = Tm.items t ∧ Row w' 41 4 v us.length (us.flatMap LT.cells) ∧ (∀ b, v.ownBlock = some b → w.heap.size ≤ b) ∧ Turned (fun _ => False) w w' := by
  obtain ⟨i0, hi0, hz0, hz1, hz2⟩ := info_parts infoR
  have HIN := Lib.hid ht
  have HSZ := Lib.hid hsz
  have h2 := two w (.cells #[.int .i64 t.kind, .int .i64 t.n, .string t.name, .slice t.at_.1 t.args.length t.at_.2] 41) (.cells #[.int .i64 0, .int .i64 0, .string ⟨#[]⟩, .slice none 0 0] 41)
  rw [LT.val_eq]
  have H2 := Lib.hid h2
  clear h2 ht hsz
  go_enter Try.func47, Try.ntmps47
  go_wp2_with fail
  · revert H2
    generalize (w.alloc (.cells #[.int .i64 t.kind, .int .i64 t.n, .string t.name, .slice t.at_.1 t.args.length t.at_.2] 41)).alloc (.cells #[.int .i64 0, .int .i64 0, .string ⟨#[]⟩, .slice none 0 0] 41) = w1
    intro H2
    replace H2 : Hid (Turned (fun _ => False) w w1 ∧ w.heap.size + 2 ≤ w1.heap.size ∧ _ ∧ _) := ⟨H2.out.1, by have := H2.out.2.1; omega, H2.out.2.2.1, H2.out.2.2.2⟩
    obtain ⟨B0, hB0⟩ : ∃ z, z = w.heap.size := ⟨_, rfl⟩
    obtain ⟨B1, hB1⟩ : ∃ z, z = w.heap.size + 1 := ⟨_, rfl⟩
    obtain ⟨N, hN⟩ : ∃ z, z = w1.heap.size := ⟨_, rfl⟩
    rw [← hB1, ← hB0] at H2
    have HE := Lib.hid (And.intro hB0 (And.intro hB1 hN))
    try rw [← hB1]
    try rw [← hB0]
    clear hB0 hB1 hN
    have hinit : Hid (ItemI p N B0 41 t w1 t.size (.slice none 0 0) [] t w1) := ⟨rfl, by simp, by rw [Tm.flat_eq]; exact List.mem_cons_self .., H2.out.2.2.1, Row.nil _ _ _, fun b h => by simp [Value.ownBlock] at h, Turned.refl _ _⟩
    go_loopg [4] t.size (fun g v wr => ∃ us y, Hid (ItemI p N B0 41 t w1 g v us y wr))
    case atStart => exact ⟨[], t, hinit⟩
    case round =>
      obtain ⟨us, y, HI⟩ := hrel
      obtain ⟨va, vc, rfl⟩ := HI.out.row.shape
      have hvl := HI.out.row.max
      have hul : us.length ≤ 60000 := by
        have h1 := items_dep t.size t (Nat.le_refl _)
        rw [HI.out.items] at h1
        simp only [List.length_append] at h1
        have := HSZ.out
        omega
      have hyin : y.In (fun k => p k ∧ k < w.heap.size) wr := LT.In.flat t (LT.In.turned (H2.out.1.step (T := fun k => k = B0) HI.out.turned (fun i hi e => by have := HE.out; omega)) (fun _ _ _ f => f) (fun k hk h => ⟨h, hk⟩) t HIN.out) y HI.out.mem
      obtain ⟨q0, q1, q2, q3, f0, f1, f2, f3⟩ := cells4 HI.out.blk
      have hal : y.args.length ≤ 9223372036854775807 := by have := hyin.len.1; have := hyin.len.2.1; unfold maxLen at this; omega
      cases hd : Tm.isDot y with
      | true =>
        obtain ⟨e1, e2, e3⟩ := isDot_facts hd
        obtain ⟨x, z, hxz, _⟩ : ∃ x z : LT, y.args = [x, z] ∧ Tm.items y = (x :: (Tm.items z).1, (Tm.items z).2) ∧ z.size < y.size := Tm.items_dot hd
        have hl := hyin.lies
        rw [hxz] at hl
        obtain ⟨b, o, ha, hpb, x0, x1, x2, x3, z0, z1, z2, z3⟩ := lies2 hl
        rw [e1] at q0
        rw [e2] at q2
        rw [e3, ha] at q3
        unfold Tm.dot at q2
        have HK : Hid (∀ W, Turned (fun k => (Value.slice va us.length vc).ownBlock = some k) (wr.alloc (.cells #[.int .i64 x.kind, .int .i64 x.n, .string x.name, .slice x.at_.1 x.args.length x.at_.2] 41)) W → (W.cell? ⟨B0, 3, none⟩ = some (.slice (some ⟨b, o, none⟩) 2 y.at_.2) ∧ W.cell? ⟨B0, 0, none⟩ = some (.int .i64 2) ∧ W.cell? ⟨B0, 1, none⟩ = some (.int .i64 y.n) ∧ W.cell? ⟨B0, 2, none⟩ = some (.string ⟨#[46]⟩)) ∧ (W.frozen? ⟨B0, 0, none⟩ = false ∧ W.frozen? ⟨B0, 1, none⟩ = false ∧ W.frozen? ⟨B0, 2, none⟩ = false ∧ W.frozen? ⟨B0, 3, none⟩ = false) ∧ W.cell? ⟨b, o + 4, none⟩ = some (.int .i64 z.kind) ∧ W.cell? ⟨b, o + 5, none⟩ = some (.int .i64 z.n) ∧ W.cell? ⟨b, o + 6, none⟩ = some (.string z.name) ∧ W.cell? ⟨b, o + 7, none⟩ = some (.slice z.at_.1 z.args.length z.at_.2)) := fun W h => by
          have h' : Turned (fun k => (Value.slice va us.length vc).ownBlock = some k) wr W := ((Turned.refl _ wr).alloc _).trans h
          have hn0 : ¬ (Value.slice va us.length vc).ownBlock = some B0 := fun e => by have := HI.out.own _ e; have := HE.out; have := H2.out.2.1; omega
          have hnb : ¬ (Value.slice va us.length vc).ownBlock = some b := fun e => by have := HI.out.own _ e; have := HE.out; have := H2.out.2.1; omega
          have hbl := (h'.block B0 (Array.getElem?_eq_some_iff.1 HI.out.blk).1 hn0).trans HI.out.blk
          obtain ⟨_, _, _, _, g0, g1, g2, g3⟩ := cells4 hbl
          exact ⟨⟨h'.cell q3 hn0, h'.cell q0 hn0, h'.cell q1 hn0, h'.cell q2 hn0⟩, ⟨g0, g1, g2, g3⟩, h'.cell z0 hnb, h'.cell z1 hnb, h'.cell z2 hnb, h'.cell z3 hnb⟩
        have HDD := Lib.hid hd
        have HXZ := Lib.hid hxz
        have HBN : Hid (B0 < N ∧ w1.heap.size = N) := ⟨by have := HE.out; have := H2.out.2.1; omega, by have := HE.out; omega⟩
        clear hl ha hpb hd hxz e1 e2 e3 hyin z0 z1 z2 z3
        go_wp2_with (at_builtin; refine append_some _ rfl _ _ 39 rfl 41 i0 zeroR 4 56 Try.underlying39 hi0 hz0 hz1 hz2 rfl (by decide) _ _ _ rfl (HI.out.row.alloc (.cells #[.int .i64 x.kind, .int .i64 x.n, .string x.name, .slice x.at_.1 x.args.length x.at_.2] 41)) ⟨wr.heap.size, 0, none⟩ 1 1 x.cells rfl (LT.cells_length x) (news_cells x (heap_alloc_new wr _)) (LT.cells_one x) (by omega) (by unfold maxLen; omega) (by omega) ?_; intro g5 cap5 w5 hown5 hg5 hloc5; obtain ⟨⟨r3, r0, r1, r2⟩, ⟨f0, f1, f2, f3⟩, z0, z1, z2, z3⟩ := HK.out _ hg5)
        obtain ⟨n1, n2⟩ := item_next HI.out HDD.out HXZ.out HBN.out.1 HBN.out.2 hown5 hg5 hloc5
        go_roundg z.size
        case measure => exact n2
        case rel => exact ⟨us ++ [x], z, n1⟩
      | false =>
        have HRES : Hid (Tm.items t = (us, y)) := by
          show _ = _
          rw [HI.out.items, Tm.items_end hd, List.append_nil]
        have HB0 := Lib.hid HI.out.blk
        have HB1 : Hid (wr.heap[B1]? = some (.cells #[.int .i64 0, .int .i64 0, .string ⟨#[]⟩, .slice none 0 0] 41 (0, 0))) := (HI.out.turned.block B1 (Array.getElem?_eq_some_iff.1 H2.out.2.2.2).1 (fun e => by have := HE.out; omega)).trans H2.out.2.2.2
        have hfin : ∀ (vs : Tmp → Value) (W : World), EndS B1 41 y wr [undef] W → ∃ v us2 y2, Ending.returned (.tuple #[.slice va us.length vc, .agg #[.int .i64 y.kind, .int .i64 y.n, .string y.name, .slice y.at_.1 y.args.length y.at_.2]]) = .returned (.tuple #[v, LT.val y2]) ∧ (us2, y2) = Tm.items t ∧ Row W 41 4 v us2.length (us2.flatMap LT.cells) ∧ (∀ b, v.ownBlock = some b → w.heap.size ≤ b) ∧ Turned (fun _ => False) w W := by
          intro vs W hE
          have hne : ∀ k, (Value.slice va us.length vc).ownBlock = some k → ¬ k = B1 := fun k e e' => by have := HI.out.own _ e; have := HE.out; have := H2.out.2.1; omega
          refine ⟨_, us, y, by rw [LT.val_eq], HRES.out.symm, HI.out.row.turned hE.2 hne, fun b hb => ?_, ?_⟩
          · have := HI.out.own b hb; have := HE.out; have := H2.out.2.1; omega
          · exact (H2.out.1.step HI.out.turned (fun i hi e => by have := HE.out; omega)).step hE.2 (fun i hi e => by have := HE.out; omega)
        have HFIN := Lib.hid hfin
        clear hfin hyin
        rcases isDot_no hd with h | ⟨h, h'⟩ | ⟨h, h', h''⟩
        · have t1 : (y.kind == 2) = false := by simp [h]
          clear h hd
          go_wp2_with fail
          refine wp_region_hs [30, 31, 2] [3] [1, 0, 1, 1] [100003] (fun d v => (match d with | 30 => v = .slice va us.length vc | 31 => v = .agg #[.int .i64 y.kind, .int .i64 y.n, .string y.name, .slice y.at_.1 y.args.length y.at_.2] | 2 => v = .slice va us.length vc | _ => True : Prop)) (EndS B1 41 y wr) (by kernel_rfl) rfl (by kernel_rfl) (by kernel_rfl) (by kernel_rfl) (by kernel_rfl) (fun _ h => h) (fun hs w w' h ht => EndS.turned0 hs w w' h ht) ?hs ?hQ
          case hs =>
            refine ⟨?s0, ?s1, ?s2, ?s3, trivial⟩
            case s0 =>
              refine fun hs hle => stepG_free [] [4] (by kernel_rfl) rfl ?_
              · intro ac W hT hI hO
                have h4 : ac.tmps.getD 4 undef = .slice va us.length vc := hO 4 (by simp)
                show Brings Try.prog (fun v w' => Turned (fun _ => False) W w' ∧ v = .slice va us.length vc) _
                simp only [execOp, Act.eval, h4]
                go_simp
                try exact ⟨Turned.refl _ _, rfl⟩
            case s1 =>
              refine fun hs hle => stepG_free [] [1] (by kernel_rfl) rfl ?_
              · intro ac W hT hI hO
                have hle : hs.length ≤ 0 := hle
                have h1 : ac.tmps.getD 1 undef = .pointer (some ⟨B0, 0, none⟩) := hO 1 (by simp)
                show Brings Try.prog (fun v w' => Turned (fun _ => False) W w' ∧ v = .agg #[.int .i64 y.kind, .int .i64 y.n, .string y.name, .slice y.at_.1 y.args.length y.at_.2]) _
                have hT0 := end_nil (by omega) hT; obtain ⟨e0, e1, e2, e3, _⟩ := cells4 ((hT0.block B0 (Array.getElem?_eq_some_iff.1 HB0.out).1 (fun f => f)).trans HB0.out)
                simp only [execOp, Act.eval, h1]
                go_simp
                exact ⟨Turned.refl _ _, rfl⟩
            case s2 =>
              refine fun hs hle => stepG_free [30] [] (by kernel_rfl) rfl ?_
              · intro ac W hT hI hO
                have h30 : ac.tmps.getD 30 undef = .slice va us.length vc := hI 30 (by simp)
                show Brings Try.prog (fun v w' => Turned (fun _ => False) W w' ∧ v = .slice va us.length vc) _
                simp only [execOp, Act.eval, h30]
                go_simp
                try exact ⟨Turned.refl _ _, rfl⟩
            case s3 =>
              refine fun hs hlen => stepG_free [31] [3] (by kernel_rfl) rfl ?_
              · intro ac W hT hI hO
                have h31 : ac.tmps.getD 31 undef = .agg #[.int .i64 y.kind, .int .i64 y.n, .string y.name, .slice y.at_.1 y.args.length y.at_.2] := hI 31 (by simp)
                have h3 : ac.tmps.getD 3 undef = .pointer (some ⟨B1, 0, none⟩) := hO 3 (by simp)
                show Brings Try.prog (fun v w' => EndS B1 41 y wr (hs ++ [v]) w') _
                obtain rfl : hs = [] := List.eq_nil_of_length_eq_zero hlen
                replace hT : Turned (fun _ => False) wr W := hT
                have hb1 := (hT.block B1 (Array.getElem?_eq_some_iff.1 HB1.out).1 (fun f => f)).trans HB1.out
                obtain ⟨_, _, _, _, f0, f1, f2, f3⟩ := cells4 hb1
                obtain ⟨d0, d1, d2, d3, _⟩ := cells4 hb1
                simp only [execOp, Act.eval, h31, h3]
                go_simp
                exact ⟨set4 hb1, ((((hT.mono (T := fun k => k = B1) (fun _ _ f => f.elim)).setCell (p := ⟨B1, 0, none⟩) (.inr rfl) _).setCell (p := ⟨B1, 1, none⟩) (.inr rfl) _).setCell (p := ⟨B1, 2, none⟩) (.inr rfl) _).setCell (p := ⟨B1, 3, none⟩) (.inr rfl) _⟩
          case hQ =>
            intro hs vs w2 hlen hR hV
            have q5 : vs 2 = .slice va us.length vc := hV 2 (by simp)
            obtain ⟨r1, r2⟩ := end_one hlen hR
            have hF := HFIN.out vs w2 ⟨r1, r2⟩
            simp only [List.foldl_cons, List.foldl_nil, List.setIfInBounds_toArray, List.set_cons_zero, List.set_cons_succ, q5]
            clear hV q5 hlen hR
            go_wp2_with fail
            exact bodyPost_ret (results_tmp_cell Try.results47 _ _ B1 41 _ (0, 0) _ rfl r1 Try.underlying41 rfl (by kernel_rfl)) rfl hF
        · have t1 : (y.kind == 2) = true := by simp [h]
          have t2 : (y.name.toList == [46]) = false := dot_neq h'
          clear h h' hd
          go_wp2_with fail
          refine wp_region_hs [30, 31, 2] [3] [1, 0, 1, 1] [100003] (fun d v => (match d with | 30 => v = .slice va us.length vc | 31 => v = .agg #[.int .i64 y.kind, .int .i64 y.n, .string y.name, .slice y.at_.1 y.args.length y.at_.2] | 2 => v = .slice va us.length vc | _ => True : Prop)) (EndS B1 41 y wr) (by kernel_rfl) rfl (by kernel_rfl) (by kernel_rfl) (by kernel_rfl) (by kernel_rfl) (fun _ h => h) (fun hs w w' h ht => EndS.turned0 hs w w' h ht) ?hs ?hQ
          case hs =>
            refine ⟨?s0, ?s1, ?s2, ?s3, trivial⟩
            case s0 =>
              refine fun hs hle => stepG_free [] [4] (by kernel_rfl) rfl ?_
              · intro ac W hT hI hO
                have h4 : ac.tmps.getD 4 undef = .slice va us.length vc := hO 4 (by simp)
                show Brings Try.prog (fun v w' => Turned (fun _ => False) W w' ∧ v = .slice va us.length vc) _
                simp only [execOp, Act.eval, h4]
                go_simp
                try exact ⟨Turned.refl _ _, rfl⟩
            case s1 =>
              refine fun hs hle => stepG_free [] [1] (by kernel_rfl) rfl ?_
              · intro ac W hT hI hO
                have hle : hs.length ≤ 0 := hle
                have h1 : ac.tmps.getD 1 undef = .pointer (some ⟨B0, 0, none⟩) := hO 1 (by simp)
                show Brings Try.prog (fun v w' => Turned (fun _ => False) W w' ∧ v = .agg #[.int .i64 y.kind, .int .i64 y.n, .string y.name, .slice y.at_.1 y.args.length y.at_.2]) _
                have hT0 := end_nil (by omega) hT; obtain ⟨e0, e1, e2, e3, _⟩ := cells4 ((hT0.block B0 (Array.getElem?_eq_some_iff.1 HB0.out).1 (fun f => f)).trans HB0.out)
                simp only [execOp, Act.eval, h1]
                go_simp
                exact ⟨Turned.refl _ _, rfl⟩
            case s2 =>
              refine fun hs hle => stepG_free [30] [] (by kernel_rfl) rfl ?_
              · intro ac W hT hI hO
                have h30 : ac.tmps.getD 30 undef = .slice va us.length vc := hI 30 (by simp)
                show Brings Try.prog (fun v w' => Turned (fun _ => False) W w' ∧ v = .slice va us.length vc) _
                simp only [execOp, Act.eval, h30]
                go_simp
                try exact ⟨Turned.refl _ _, rfl⟩
            case s3 =>
              refine fun hs hlen => stepG_free [31] [3] (by kernel_rfl) rfl ?_
              · intro ac W hT hI hO
                have h31 : ac.tmps.getD 31 undef = .agg #[.int .i64 y.kind, .int .i64 y.n, .string y.name, .slice y.at_.1 y.args.length y.at_.2] := hI 31 (by simp)
                have h3 : ac.tmps.getD 3 undef = .pointer (some ⟨B1, 0, none⟩) := hO 3 (by simp)
                show Brings Try.prog (fun v w' => EndS B1 41 y wr (hs ++ [v]) w') _
                obtain rfl : hs = [] := List.eq_nil_of_length_eq_zero hlen
                replace hT : Turned (fun _ => False) wr W := hT
                have hb1 := (hT.block B1 (Array.getElem?_eq_some_iff.1 HB1.out).1 (fun f => f)).trans HB1.out
                obtain ⟨_, _, _, _, f0, f1, f2, f3⟩ := cells4 hb1
                obtain ⟨d0, d1, d2, d3, _⟩ := cells4 hb1
                simp only [execOp, Act.eval, h31, h3]
                go_simp
                exact ⟨set4 hb1, ((((hT.mono (T := fun k => k = B1) (fun _ _ f => f.elim)).setCell (p := ⟨B1, 0, none⟩) (.inr rfl) _).setCell (p := ⟨B1, 1, none⟩) (.inr rfl) _).setCell (p := ⟨B1, 2, none⟩) (.inr rfl) _).setCell (p := ⟨B1, 3, none⟩) (.inr rfl) _⟩
          case hQ =>
            intro hs vs w2 hlen hR hV
            have q5 : vs 2 = .slice va us.length vc := hV 2 (by simp)
            obtain ⟨r1, r2⟩ := end_one hlen hR
            have hF := HFIN.out vs w2 ⟨r1, r2⟩
            simp only [List.foldl_cons, List.foldl_nil, List.setIfInBounds_toArray, List.set_cons_zero, List.set_cons_succ, q5]
            clear hV q5 hlen hR
            go_wp2_with fail
            exact bodyPost_ret (results_tmp_cell Try.results47 _ _ B1 41 _ (0, 0) _ rfl r1 Try.underlying41 rfl (by kernel_rfl)) rfl hF
        · have t1 : (y.kind == 2) = true := by simp [h]
          have t2 : (y.name.toList == [46]) = true := dot_eq h'
          have t3 : ((y.args.length : Int) == 2) = false := by simp; omega
          clear h h' h'' hd
          go_wp2_with fail
          refine wp_region_hs [30, 31, 2] [3] [1, 0, 1, 1] [100003] (fun d v => (match d with | 30 => v = .slice va us.length vc | 31 => v = .agg #[.int .i64 y.kind, .int .i64 y.n, .string y.name, .slice y.at_.1 y.args.length y.at_.2] | 2 => v = .slice va us.length vc | _ => True : Prop)) (EndS B1 41 y wr) (by kernel_rfl) rfl (by kernel_rfl) (by kernel_rfl) (by kernel_rfl) (by kernel_rfl) (fun _ h => h) (fun hs w w' h ht => EndS.turned0 hs w w' h ht) ?hs ?hQ
          case hs =>
            refine ⟨?s0, ?s1, ?s2, ?s3, trivial⟩
            case s0 =>
              refine fun hs hle => stepG_free [] [4] (by kernel_rfl) rfl ?_
              · intro ac W hT hI hO
                have h4 : ac.tmps.getD 4 undef = .slice va us.length vc := hO 4 (by simp)
                show Brings Try.prog (fun v w' => Turned (fun _ => False) W w' ∧ v = .slice va us.length vc) _
                simp only [execOp, Act.eval, h4]
                go_simp
                try exact ⟨Turned.refl _ _, rfl⟩
            case s1 =>
              refine fun hs hle => stepG_free [] [1] (by kernel_rfl) rfl ?_
              · intro ac W hT hI hO
                have hle : hs.length ≤ 0 := hle
                have h1 : ac.tmps.getD 1 undef = .pointer (some ⟨B0, 0, none⟩) := hO 1 (by simp)
                show Brings Try.prog (fun v w' => Turned (fun _ => False) W w' ∧ v = .agg #[.int .i64 y.kind, .int .i64 y.n, .string y.name, .slice y.at_.1 y.args.length y.at_.2]) _
                have hT0 := end_nil (by omega) hT; obtain ⟨e0, e1, e2, e3, _⟩ := cells4 ((hT0.block B0 (Array.getElem?_eq_some_iff.1 HB0.out).1 (fun f => f)).trans HB0.out)
                simp only [execOp, Act.eval, h1]
                go_simp
                exact ⟨Turned.refl _ _, rfl⟩
            case s2 =>
              refine fun hs hle => stepG_free [30] [] (by kernel_rfl) rfl ?_
              · intro ac W hT hI hO
                have h30 : ac.tmps.getD 30 undef = .slice va us.length vc := hI 30 (by simp)
                show Brings Try.prog (fun v w' => Turned (fun _ => False) W w' ∧ v = .slice va us.length vc) _
                simp only [execOp, Act.eval, h30]
                go_simp
                try exact ⟨Turned.refl _ _, rfl⟩
            case s3 =>
              refine fun hs hlen => stepG_free [31] [3] (by kernel_rfl) rfl ?_
              · intro ac W hT hI hO
                have h31 : ac.tmps.getD 31 undef = .agg #[.int .i64 y.kind, .int .i64 y.n, .string y.name, .slice y.at_.1 y.args.length y.at_.2] := hI 31 (by simp)
                have h3 : ac.tmps.getD 3 undef = .pointer (some ⟨B1, 0, none⟩) := hO 3 (by simp)
                show Brings Try.prog (fun v w' => EndS B1 41 y wr (hs ++ [v]) w') _
                obtain rfl : hs = [] := List.eq_nil_of_length_eq_zero hlen
                replace hT : Turned (fun _ => False) wr W := hT
                have hb1 := (hT.block B1 (Array.getElem?_eq_some_iff.1 HB1.out).1 (fun f => f)).trans HB1.out
                obtain ⟨_, _, _, _, f0, f1, f2, f3⟩ := cells4 hb1
                obtain ⟨d0, d1, d2, d3, _⟩ := cells4 hb1
                simp only [execOp, Act.eval, h31, h3]
                go_simp
                exact ⟨set4 hb1, ((((hT.mono (T := fun k => k = B1) (fun _ _ f => f.elim)).setCell (p := ⟨B1, 0, none⟩) (.inr rfl) _).setCell (p := ⟨B1, 1, none⟩) (.inr rfl) _).setCell (p := ⟨B1, 2, none⟩) (.inr rfl) _).setCell (p := ⟨B1, 3, none⟩) (.inr rfl) _⟩
          case hQ =>
            intro hs vs w2 hlen hR hV
            have q5 : vs 2 = .slice va us.length vc := hV 2 (by simp)
            obtain ⟨r1, r2⟩ := end_one hlen hR
            have hF := HFIN.out vs w2 ⟨r1, r2⟩
            simp only [List.foldl_cons, List.foldl_nil, List.setIfInBounds_toArray, List.set_cons_zero, List.set_cons_succ, q5]
            clear hV q5 hlen hR
            go_wp2_with fail
            exact bodyPost_ret (results_tmp_cell Try.results47 _ _ B1 41 _ (0, 0) _ rfl r1 Try.underlying41 rfl (by kernel_rfl)) rfl hF
end Go.Proofs.Ytoihjobdfjajfaa

/- 'x, y := own(a), own(b)': two calls, two blocks laid (whenever), two stores: the state of such a region. -/
import Derived.Test.YtoihjobdfjajfaaAny5
import Derived.Test.YtoihjobdfjajfaaOwnP
namespace Go.Proofs.Ytoihjobdfjajfaa
set_option linter.unusedVariables false
set_option linter.unusedSimpArgs false
open Go.RowKit

abbrev Hist := List (Nat × Value)
def ptr (g : Nat) : Value := .pointer (some ⟨g, 0, none⟩)
theorem ptr_inj {a b : Nat} (h : ptr a = ptr b) : a = b := by unfold ptr at h; injection h with h; injection h with h; injection h
/-- One of the two: its call (ic), its block (ia), its store (is). -/
structure Side (n0 ic ia is : Nat) (t : LT) (hs : Hist) (W : World) : Prop where
  call : ∀ v, (ic, v) ∈ hs → ∃ u : LT, v = u.val ∧ u.bare = t.bare ∧ u.In (fun k => n0 ≤ k ∧ (4, ptr k) ∉ hs ∧ (5, ptr k) ∉ hs) W
  box : ∀ v, (ia, v) ∈ hs → ∃ g c0 c1 c2 c3, v = ptr g ∧ n0 ≤ g ∧ W.heap[g]? = some (.cells #[c0, c1, c2, c3] 41 (0, 0)) ∧ ∀ q va, (is, q) ∈ hs → (ic, va) ∈ hs → va = .agg #[c0, c1, c2, c3]
theorem mem_snoc {hs : Hist} {i j : Nat} {x v : Value} (h : (j, v) ∈ hs ++ [(i, x)]) : (j, v) ∈ hs ∨ (j = i ∧ v = x) := by
  rcases List.mem_append.1 h with h | h
  · exact .inl h
  · simp at h; exact .inr h
section
variable {n0 ic ia is : Nat} {t : LT} {hs : Hist} {W W' : World}
theorem Side.turned0 (h : Side n0 ic ia is t hs W) (T : Turned (fun _ => False) W W') : Side n0 ic ia is t hs W' := by
  refine ⟨fun v hv => ?_, fun v hv => ?_⟩
  · obtain ⟨u, h1, h2, h3⟩ := h.call v hv
    exact ⟨u, h1, h2, h3.turned0 T⟩
  · obtain ⟨g, c0, c1, c2, c3, h1, h2, h3, h4⟩ := h.box v hv
    exact ⟨g, c0, c1, c2, c3, h1, h2, (T.block g (Array.getElem?_eq_some_iff.1 h3).1 (fun f => f)).trans h3, h4⟩
/-- What the other side does. -/
theorem Side.move {S : Nat → Prop} {i : Nat} {x : Value} (h : Side n0 ic ia is t hs W) (hi : i ≠ ic ∧ i ≠ ia ∧ i ≠ is) (T : Turned S W W') (hS : ∀ k, S k → (4, ptr k) ∈ hs ∨ (5, ptr k) ∈ hs) (hS2 : ∀ g, (ia, ptr g) ∈ hs → ¬ S g)
    (hx : ∀ k, i = 4 ∨ i = 5 → x = ptr k → W.heap.size ≤ k) : Side n0 ic ia is t (hs ++ [(i, x)]) W' := by
  have hb : ∀ j v, j ≠ i → (j, v) ∈ hs ++ [(i, x)] → (j, v) ∈ hs := fun j v hj hm => by
    rcases mem_snoc hm with hm | ⟨e, _⟩
    · exact hm
    · exact absurd e hj
  refine ⟨fun v hv => ?_, fun v hv => ?_⟩
  · obtain ⟨u, h1, h2, h3⟩ := h.call v (hb _ _ (Ne.symm hi.1) hv)
    refine ⟨u, h1, h2, h3.turned T (fun k _ hk hs => ?_) (fun k hl hk => ⟨hk.1, fun hm => ?_, fun hm => ?_⟩)⟩
    · rcases hS k hs with e | e
      · exact hk.2.1 e
      · exact hk.2.2 e
    · rcases mem_snoc hm with hm | ⟨e1, e2⟩
      · exact hk.2.1 hm
      · have := hx k (.inl e1.symm) e2.symm; omega
    · rcases mem_snoc hm with hm | ⟨e1, e2⟩
      · exact hk.2.2 hm
      · have := hx k (.inr e1.symm) e2.symm; omega
  · obtain ⟨g, c0, c1, c2, c3, h1, h2, h3, h4⟩ := h.box v (hb _ _ (Ne.symm hi.2.1) hv)
    refine ⟨g, c0, c1, c2, c3, h1, h2, (T.block g (Array.getElem?_eq_some_iff.1 h3).1 (hS2 g (by rw [← h1]; exact hb _ _ (Ne.symm hi.2.1) hv))).trans h3, fun q va hq hva => h4 q va (hb _ _ (Ne.symm hi.2.2) hq) (hb _ _ (Ne.symm hi.1) hva)⟩
/-- Its call. -/
theorem Side.called {u : LT} (h : Side n0 ic ia is t hs W) (hd : ic ≠ ia ∧ ic ≠ is ∧ ic ≠ 4 ∧ ic ≠ 5) (hno : ∀ v, (ic, v) ∉ hs) (hst : ∀ q, (is, q) ∉ hs) (T : Turned (fun _ => False) W W') (hn : n0 ≤ W.heap.size) (hb : u.bare = t.bare) (hu : u.In (fun k => W.heap.size ≤ k) W')
    (hbox : ∀ k, (4, ptr k) ∈ hs ∨ (5, ptr k) ∈ hs → k < W.heap.size) : Side n0 ic ia is t (hs ++ [(ic, u.val)]) W' := by
  refine ⟨fun v hv => ?_, fun v hv => ?_⟩
  · rcases mem_snoc hv with hm | ⟨_, e⟩
    · exact absurd hm (hno v)
    · refine ⟨u, e, hb, hu.mono (fun k _ hk => ⟨by omega, fun hm => ?_, fun hm => ?_⟩)⟩
      · rcases mem_snoc hm with hm | ⟨e, _⟩
        · have := hbox k (.inl hm); omega
        · exact hd.2.2.1 e.symm
      · rcases mem_snoc hm with hm | ⟨e, _⟩
        · have := hbox k (.inr hm); omega
        · exact hd.2.2.2 e.symm
  · rcases mem_snoc hv with hm | ⟨e, _⟩
    · obtain ⟨g, c0, c1, c2, c3, h1, h2, h3, h4⟩ := h.box v hm
      refine ⟨g, c0, c1, c2, c3, h1, h2, (T.block g (Array.getElem?_eq_some_iff.1 h3).1 (fun f => f)).trans h3, fun q va hq hva => ?_⟩
      rcases mem_snoc hq with hq | ⟨e, _⟩
      · exact absurd hq (hst q)
      · exact absurd e.symm hd.2.1
    · exact absurd e.symm hd.1
/-- Its block. -/
theorem Side.laid {c0 c1 c2 c3 : Value} (h : Side n0 ic ia is t hs W) (hd : ia ≠ ic ∧ ia ≠ is) (hno : ∀ v, (ia, v) ∉ hs) (hst : ∀ q, (is, q) ∉ hs) (hn : n0 ≤ W.heap.size) : Side n0 ic ia is t (hs ++ [(ia, ptr W.heap.size)]) (W.alloc (.cells #[c0, c1, c2, c3] 41)) := by
  have T : Turned (fun _ => False) W (W.alloc (.cells #[c0, c1, c2, c3] 41)) := (Turned.refl _ W).alloc _
  refine ⟨fun v hv => ?_, fun v hv => ?_⟩
  · rcases mem_snoc hv with hm | ⟨e, _⟩
    · obtain ⟨u, h1, h2, h3⟩ := h.call v hm
      refine ⟨u, h1, h2, h3.turned T (fun _ _ _ f => f) (fun k hl hk => ⟨hk.1, fun hm => ?_, fun hm => ?_⟩)⟩
      · rcases mem_snoc hm with hm | ⟨_, e⟩
        · exact hk.2.1 hm
        · have := ptr_inj e; omega
      · rcases mem_snoc hm with hm | ⟨_, e⟩
        · exact hk.2.2 hm
        · have := ptr_inj e; omega
    · exact absurd e.symm hd.1
  · rcases mem_snoc hv with hm | ⟨_, e⟩
    · exact absurd hm (hno v)
    · refine ⟨W.heap.size, c0, c1, c2, c3, e, hn, heap_alloc_new W _, fun q va hq hva => ?_⟩
      rcases mem_snoc hq with hq | ⟨e, _⟩
      · exact absurd hq (hst q)
      · exact absurd e.symm hd.2
/-- Its store. -/
theorem Side.stored {g : Nat} {c0 c1 c2 c3 x : Value} (h : Side n0 ic ia is t hs W) (hd : is ≠ ic ∧ is ≠ ia ∧ is ≠ 4 ∧ is ≠ 5) (hia : ia = 4 ∨ ia = 5) (uq : ∀ i v v', (i, v) ∈ hs → (i, v') ∈ hs → v = v') (hg : (ia, ptr g) ∈ hs) (hc : (ic, .agg #[c0, c1, c2, c3]) ∈ hs)
    (hW : Turned (fun k => k = g) W W') (hb : W'.heap[g]? = some (.cells #[c0, c1, c2, c3] 41 (0, 0))) : Side n0 ic ia is t (hs ++ [(is, x)]) W' := by
  have hbk : ∀ j v, j ≠ is → (j, v) ∈ hs ++ [(is, x)] → (j, v) ∈ hs := fun j v hj hm => by
    rcases mem_snoc hm with hm | ⟨e, _⟩
    · exact hm
    · exact absurd e hj
  refine ⟨fun v hv => ?_, fun v hv => ?_⟩
  · obtain ⟨u, h1, h2, h3⟩ := h.call v (hbk _ _ (Ne.symm hd.1) hv)
    refine ⟨u, h1, h2, h3.turned hW (fun k _ hk e => ?_) (fun k _ hk => ⟨hk.1, fun hm => hk.2.1 (hbk _ _ (Ne.symm hd.2.2.1) hm), fun hm => hk.2.2 (hbk _ _ (Ne.symm hd.2.2.2) hm)⟩)⟩
    subst e
    rcases hia with e | e
    · rw [e] at hg; exact hk.2.1 hg
    · rw [e] at hg; exact hk.2.2 hg
  · have hv' := hbk _ _ (Ne.symm hd.2.1) hv
    obtain ⟨g', d0, d1, d2, d3, h1, h2, h3, h4⟩ := h.box v hv'
    have e := ptr_inj (h1.symm.trans (uq _ _ _ hv' hg))
    subst e
    exact ⟨g', c0, c1, c2, c3, h1, h2, hb, fun q va hq hva => uq _ _ _ (hbk _ _ (Ne.symm hd.1) hva) hc⟩
end
/-- Both. -/
structure TwinS (w0 : World) (a b : LT) (hs : Hist) (W : World) : Prop where
  turned : Turned (fun _ => False) w0 W
  one : Side w0.heap.size 1 4 6 a hs W
  two : Side w0.heap.size 3 5 7 b hs W
  apart : ∀ v v', (4, v) ∈ hs → (5, v') ∈ hs → v ≠ v'
  uniq : ∀ i v v', (i, v) ∈ hs → (i, v') ∈ hs → v = v'
section
variable {w0 : World} {a b : LT} {hs : Hist} {W W' : World}
theorem TwinS.start (T : Turned (fun _ => False) w0 W) : TwinS w0 a b [] W :=
  ⟨T, ⟨fun _ h => (List.not_mem_nil h).elim, fun _ h => (List.not_mem_nil h).elim⟩, ⟨fun _ h => (List.not_mem_nil h).elim, fun _ h => (List.not_mem_nil h).elim⟩, fun _ _ h => (List.not_mem_nil h).elim, fun _ _ _ h => (List.not_mem_nil h).elim⟩
theorem TwinS.turned0 (h : TwinS w0 a b hs W) (T : Turned (fun _ => False) W W') : TwinS w0 a b hs W' := ⟨h.turned.trans T, h.one.turned0 T, h.two.turned0 T, h.apart, h.uniq⟩
theorem TwinS.boxes (h : TwinS w0 a b hs W) : ∀ k, (4, ptr k) ∈ hs ∨ (5, ptr k) ∈ hs → k < W.heap.size := by
  intro k hk
  rcases hk with hk | hk
  · obtain ⟨g, _, _, _, _, h1, _, h3, _⟩ := h.one.box _ hk
    rw [ptr_inj h1]; exact (Array.getElem?_eq_some_iff.1 h3).1
  · obtain ⟨g, _, _, _, _, h1, _, h3, _⟩ := h.two.box _ hk
    rw [ptr_inj h1]; exact (Array.getElem?_eq_some_iff.1 h3).1
theorem uniq_snoc {i : Nat} {x : Value} (h : ∀ i v v', (i, v) ∈ hs → (i, v') ∈ hs → v = v') (hno : ∀ v, (i, v) ∉ hs) : ∀ j v v', (j, v) ∈ hs ++ [(i, x)] → (j, v') ∈ hs ++ [(i, x)] → v = v' := by
  intro j v v' h1 h2
  rcases mem_snoc h1 with h1 | ⟨e1, f1⟩ <;> rcases mem_snoc h2 with h2 | ⟨e2, f2⟩
  · exact h _ _ _ h1 h2
  · rw [e2] at h1; exact absurd h1 (hno _)
  · rw [e1] at h2; exact absurd h2 (hno _)
  · rw [f1, f2]
theorem TwinS.call1 {u : LT} (h : TwinS w0 a b hs W) (hno : ∀ v, (1, v) ∉ hs) (hst : ∀ q, (6, q) ∉ hs) (T : Turned (fun _ => False) W W') (hb : u.bare = a.bare) (hu : u.In (fun k => W.heap.size ≤ k) W') : TwinS w0 a b (hs ++ [(1, u.val)]) W' :=
  ⟨h.turned.trans T, h.one.called (by decide) hno hst T h.turned.size hb hu h.boxes, h.two.move (by decide) T (fun _ f => f.elim) (fun _ _ f => f) (fun k e => by omega),
    fun v v' h1 h2 => by
      rcases mem_snoc h1 with h1 | ⟨e, _⟩
      · rcases mem_snoc h2 with h2 | ⟨e, _⟩
        · exact h.apart _ _ h1 h2
        · exact absurd e (by decide)
      · exact absurd e (by decide), uniq_snoc h.uniq hno⟩
theorem TwinS.call3 {u : LT} (h : TwinS w0 a b hs W) (hno : ∀ v, (3, v) ∉ hs) (hst : ∀ q, (7, q) ∉ hs) (T : Turned (fun _ => False) W W') (hb : u.bare = b.bare) (hu : u.In (fun k => W.heap.size ≤ k) W') : TwinS w0 a b (hs ++ [(3, u.val)]) W' :=
  ⟨h.turned.trans T, h.one.move (by decide) T (fun _ f => f.elim) (fun _ _ f => f) (fun k e => by omega), h.two.called (by decide) hno hst T h.turned.size hb hu h.boxes,
    fun v v' h1 h2 => by
      rcases mem_snoc h1 with h1 | ⟨e, _⟩
      · rcases mem_snoc h2 with h2 | ⟨e, _⟩
        · exact h.apart _ _ h1 h2
        · exact absurd e (by decide)
      · exact absurd e (by decide), uniq_snoc h.uniq hno⟩
theorem TwinS.lay4 {c0 c1 c2 c3 : Value} (h : TwinS w0 a b hs W) (hno : ∀ v, (4, v) ∉ hs) (hst : ∀ q, (6, q) ∉ hs) : TwinS w0 a b (hs ++ [(4, ptr W.heap.size)]) (W.alloc (.cells #[c0, c1, c2, c3] 41)) :=
  ⟨h.turned.alloc _, h.one.laid (by decide) hno hst h.turned.size, h.two.move (S := fun _ => False) (by decide) ((Turned.refl _ W).alloc _) (fun _ f => f.elim) (fun _ _ f => f) (fun k _ e => by rw [ptr_inj e]; exact Nat.le_refl _),
    fun v v' h1 h2 => by
      rcases mem_snoc h2 with h2 | ⟨e, _⟩
      · rcases mem_snoc h1 with h1 | ⟨_, e⟩
        · exact h.apart _ _ h1 h2
        · intro e'
          have := h.boxes W.heap.size (.inr (by rw [← e, e']; exact h2))
          omega
      · exact absurd e (by decide), uniq_snoc h.uniq hno⟩
theorem TwinS.lay5 {c0 c1 c2 c3 : Value} (h : TwinS w0 a b hs W) (hno : ∀ v, (5, v) ∉ hs) (hst : ∀ q, (7, q) ∉ hs) : TwinS w0 a b (hs ++ [(5, ptr W.heap.size)]) (W.alloc (.cells #[c0, c1, c2, c3] 41)) :=
  ⟨h.turned.alloc _, h.one.move (S := fun _ => False) (by decide) ((Turned.refl _ W).alloc _) (fun _ f => f.elim) (fun _ _ f => f) (fun k _ e => by rw [ptr_inj e]; exact Nat.le_refl _), h.two.laid (by decide) hno hst h.turned.size,
    fun v v' h1 h2 => by
      rcases mem_snoc h1 with h1 | ⟨e, _⟩
      · rcases mem_snoc h2 with h2 | ⟨_, e⟩
        · exact h.apart _ _ h1 h2
        · intro e'
          have := h.boxes W.heap.size (.inl (by rw [← e, ← e']; exact h1))
          omega
      · exact absurd e (by decide), uniq_snoc h.uniq hno⟩
theorem set4_turned (W : World) (g : Nat) (c0 c1 c2 c3 : Value) : Turned (fun k => k = g) W ((((W.setCell ⟨g, 0, none⟩ c0).setCell ⟨g, 1, none⟩ c1).setCell ⟨g, 2, none⟩ c2).setCell ⟨g, 3, none⟩ c3) :=
  ((((Turned.refl (fun k => k = g) W).setCell (p := ⟨g, 0, none⟩) (.inr rfl) _).setCell (p := ⟨g, 1, none⟩) (.inr rfl) _).setCell (p := ⟨g, 2, none⟩) (.inr rfl) _).setCell (p := ⟨g, 3, none⟩) (.inr rfl) _
theorem TwinS.store6 {g : Nat} {c0 c1 c2 c3 x : Value} (h : TwinS w0 a b hs W) (hno : ∀ v, (6, v) ∉ hs) (hg : (4, ptr g) ∈ hs) (hc : (1, .agg #[c0, c1, c2, c3]) ∈ hs) :
    TwinS w0 a b (hs ++ [(6, x)]) ((((W.setCell ⟨g, 0, none⟩ c0).setCell ⟨g, 1, none⟩ c1).setCell ⟨g, 2, none⟩ c2).setCell ⟨g, 3, none⟩ c3) := by
  have T := set4_turned W g c0 c1 c2 c3
  obtain ⟨g', d0, d1, d2, d3, e, h2, h3, _⟩ := h.one.box _ hg
  have e := ptr_inj e
  subst e
  refine ⟨h.turned.step T (fun i hi e => by omega), h.one.stored (by decide) (.inl rfl) h.uniq hg hc T (set4 h3), h.two.move (by decide) T (fun k e => .inl (by rw [e]; exact hg)) (fun g' hm e => h.apart _ _ hg hm (by rw [e])) (fun k e => by omega), fun v v' h1 h2 => ?_, uniq_snoc h.uniq hno⟩
  rcases mem_snoc h1 with h1 | ⟨e, _⟩
  · rcases mem_snoc h2 with h2 | ⟨e, _⟩
    · exact h.apart _ _ h1 h2
    · exact absurd e (by decide)
  · exact absurd e (by decide)
theorem TwinS.store7 {g : Nat} {c0 c1 c2 c3 x : Value} (h : TwinS w0 a b hs W) (hno : ∀ v, (7, v) ∉ hs) (hg : (5, ptr g) ∈ hs) (hc : (3, .agg #[c0, c1, c2, c3]) ∈ hs) :
    TwinS w0 a b (hs ++ [(7, x)]) ((((W.setCell ⟨g, 0, none⟩ c0).setCell ⟨g, 1, none⟩ c1).setCell ⟨g, 2, none⟩ c2).setCell ⟨g, 3, none⟩ c3) := by
  have T := set4_turned W g c0 c1 c2 c3
  obtain ⟨g', d0, d1, d2, d3, e, h2, h3, _⟩ := h.two.box _ hg
  have e := ptr_inj e
  subst e
  refine ⟨h.turned.step T (fun i hi e => by omega), h.one.move (by decide) T (fun k e => .inr (by rw [e]; exact hg)) (fun g' hm e => h.apart _ _ hm hg (by rw [e])) (fun k e => by omega), h.two.stored (by decide) (.inr rfl) h.uniq hg hc T (set4 h3), fun v v' h1 h2 => ?_, uniq_snoc h.uniq hno⟩
  rcases mem_snoc h1 with h1 | ⟨e, _⟩
  · rcases mem_snoc h2 with h2 | ⟨e, _⟩
    · exact h.apart _ _ h1 h2
    · exact absurd e (by decide)
  · exact absurd e (by decide)
/-- The cells of the block, for the store. -/
theorem TwinS.cells4 (h : TwinS w0 a b hs W) {v : Value} (hm : (4, v) ∈ hs ∨ (5, v) ∈ hs) : ∃ g, v = .pointer (some ⟨g, 0, none⟩) ∧ (∃ c0 c1 c2 c3, W.cell? ⟨g, 0, none⟩ = some c0 ∧ W.cell? ⟨g, 1, none⟩ = some c1 ∧ W.cell? ⟨g, 2, none⟩ = some c2 ∧ W.cell? ⟨g, 3, none⟩ = some c3) ∧ W.frozen? ⟨g, 0, none⟩ = false ∧ W.frozen? ⟨g, 1, none⟩ = false ∧ W.frozen? ⟨g, 2, none⟩ = false ∧ W.frozen? ⟨g, 3, none⟩ = false := by
  have : ∃ g c0 c1 c2 c3, v = ptr g ∧ W.heap[g]? = some (.cells #[c0, c1, c2, c3] 41 (0, 0)) := by
    rcases hm with hm | hm
    · obtain ⟨g, c0, c1, c2, c3, h1, _, h3, _⟩ := h.one.box v hm
      exact ⟨g, c0, c1, c2, c3, h1, h3⟩
    · obtain ⟨g, c0, c1, c2, c3, h1, _, h3, _⟩ := h.two.box v hm
      exact ⟨g, c0, c1, c2, c3, h1, h3⟩
  obtain ⟨g, c0, c1, c2, c3, h1, h3⟩ := this
  obtain ⟨q0, q1, q2, q3, f0, f1, f2, f3⟩ := Go.Proofs.Ytoihjobdfjajfaa.cells4 h3
  exact ⟨g, h1, ⟨c0, c1, c2, c3, q0, q1, q2, q3⟩, f0, f1, f2, f3⟩
/-- At the region's end. -/
theorem TwinS.done (h : TwinS w0 a b hs W) (hall : ∀ i ∈ [1, 3, 4, 5, 6, 7], ∃ v, (i, v) ∈ hs) {v5 v6 : Value} (h5 : (4, v5) ∈ hs) (h6 : (5, v6) ∈ hs) :
    ∃ (x y : LT) (gx gy : Nat), v5 = .pointer (some ⟨gx, 0, none⟩) ∧ v6 = .pointer (some ⟨gy, 0, none⟩) ∧ x.bare = a.bare ∧ y.bare = b.bare ∧ w0.heap.size ≤ gx ∧ w0.heap.size ≤ gy ∧ gx ≠ gy ∧
      W.heap[gx]? = some (.cells #[.int .i64 x.kind, .int .i64 x.n, .string x.name, .slice x.at_.1 x.args.length x.at_.2] 41 (0, 0)) ∧ W.heap[gy]? = some (.cells #[.int .i64 y.kind, .int .i64 y.n, .string y.name, .slice y.at_.1 y.args.length y.at_.2] 41 (0, 0)) ∧
      x.In (fun k => w0.heap.size ≤ k ∧ k ≠ gx ∧ k ≠ gy) W ∧ y.In (fun k => w0.heap.size ≤ k ∧ k ≠ gx ∧ k ≠ gy) W := by
  obtain ⟨va, ha⟩ := hall 1 (by simp)
  obtain ⟨vb, hb⟩ := hall 3 (by simp)
  obtain ⟨q6, hq6⟩ := hall 6 (by simp)
  obtain ⟨q7, hq7⟩ := hall 7 (by simp)
  obtain ⟨gx, c0, c1, c2, c3, e1, n1, b1, s1⟩ := h.one.box _ h5
  obtain ⟨gy, d0, d1, d2, d3, e2, n2, b2, s2⟩ := h.two.box _ h6
  obtain ⟨x, rfl, hx, ix⟩ := h.one.call _ ha
  obtain ⟨y, rfl, hy, iy⟩ := h.two.call _ hb
  have t1 := s1 q6 _ hq6 ha
  have t2 := s2 q7 _ hq7 hb
  rw [LT.val_eq] at t1 t2
  injection t1 with t1
  injection t2 with t2
  rw [← t1] at b1
  rw [← t2] at b2
  subst e1 e2
  refine ⟨x, y, gx, gy, rfl, rfl, hx, hy, n1, n2, fun e => h.apart _ _ h5 h6 (by rw [e]), b1, b2, ix.mono (fun k _ hk => ⟨hk.1, fun e => hk.2.1 (by rw [e]; exact h5), fun e => hk.2.2 (by rw [e]; exact h6)⟩), iy.mono (fun k _ hk => ⟨hk.1, fun e => hk.2.1 (by rw [e]; exact h5), fun e => hk.2.2 (by rw [e]; exact h6)⟩)⟩
end
end Go.Proofs.Ytoihjobdfjajfaa

/- Merged texts: Any5, Twin, Ref2, SayP, TL1, LB2, AL1, RepP, Any6, TK1, AL3, AL4, BS, BS2, CB1, TV2, Key, AL5, RL3, RL4, CB2, BX1, CB3, CB4, CB5, BX2, CB6, CB7, CB7T, CB8. -/
import Derived.Test.YtoihjobdfjajfaaCb1
import Derived.RangeFuncNested
import Derived.Laws.StructEq
import Derived.Deep.LoopGhost
set_option linter.unusedVariables false
set_option linter.unusedSimpArgs false
namespace Go.Proofs.Ytoihjobdfjajfaa
open Go
def slotOp : List (Tmp × Nat) → Tmp → Option Nat
  | [], _ => none
  | (s, i) :: l, d => if s == d then some i else slotOp l d
def GK (hist : List (Tmp × Nat)) (GL : Tmp → Value → Prop) (hs : List (Nat × Value)) (d : Tmp) (v : Value) : Prop :=
  match slotOp hist d with
  | some i => (i, v) ∈ hs
  | none => GL d v
def StepK (P : Program) (hist : List (Tmp × Nat)) (GL : Tmp → Value → Prop) (ops : Array Oper) (a0 : Act) (st : List Nat) (R : List (Nat × Value) → World → Prop) (i : Nat) (o : Oper) : Prop :=
  match st.contains i with
  | false => ∀ hs, (∀ j n v, waits ops n j i = true → (j, v) ∉ hs) → StepG P (fun d v _ => GK hist GL hs d v) ops a0 (R hs) (fun v w w' => Turned (fun _ => False) w w' ∧ GDL GL o.dst v) o
  | true => ∀ hs, (∀ v, (i, v) ∉ hs) → (∀ j n v, waits ops n j i = true → (j, v) ∉ hs) → StepG P (fun d v _ => GK hist GL hs d v) ops a0 (R hs) (fun v _ w' => R (hs ++ [(i, v)]) w') o
def StepsK (P : Program) (hist : List (Tmp × Nat)) (GL : Tmp → Value → Prop) (ops : Array Oper) (a0 : Act) (st : List Nat) (R : List (Nat × Value) → World → Prop) : Nat → List Oper → Prop
  | _, [] => True
  | i, o :: l => StepK P hist GL ops a0 st R i o ∧ StepsK P hist GL ops a0 st R (i + 1) l
theorem StepsK.at {P : Program} {hist : List (Tmp × Nat)} {GL : Tmp → Value → Prop} {ops : Array Oper} {a0 : Act} {st : List Nat} {R : List (Nat × Value) → World → Prop} {l : List Oper} {b : Nat} (h : StepsK P hist GL ops a0 st R b l) {j : Nat} {o : Oper} (ho : l[j]? = some o) : StepK P hist GL ops a0 st R (b + j) o := by
  induction l generalizing b j with
  | nil => simp at ho
  | cons x l ih =>
    cases j with
    | zero => simp at ho; subst ho; exact h.1
    | succ j =>
      simp at ho; have := ih h.2 ho
      rwa [show b + 1 + j = b + (j + 1) from by omega] at this
def chkK (ops : Array Oper) (st : List Nat) (hist : List (Tmp × Nat)) : Bool :=
  st.all (fun i => decide (i < ops.size)) && (List.range ops.size).all fun i => match ops[i]? with
    | none => true
    | some o => match o.dst with
      | none => true
      | some d => match st.contains i with
        | true => slotOp hist d == some i
        | false => slotOp hist d == none
structure InvK (ops : Array Oper) (st : List Nat) (R : List (Nat × Value) → World → Prop) (listed : Array Bool) (hs : List (Nat × Value)) (w : World) : Prop where
  state : R hs w
  keys : ∀ i, i ∈ st → (listed.getD i false = true ↔ ∃ v, (i, v) ∈ hs)
  sub : ∀ i v, (i, v) ∈ hs → i ∈ st
  uniq : ∀ i v v', (i, v) ∈ hs → (i, v') ∈ hs → v = v'
  shut : ∀ j o, ops[j]? = some o → listed.getD j false = true → ∀ e ∈ o.after, Region.binds .any e = true → listed.getD e.on false = true
section
variable {P : Program} {hist : List (Tmp × Nat)} {GL : Tmp → Value → Prop} {ops : Array Oper} {a0 : Act} {w0 : World} {Q : Exit → Act → World → Prop} {st : List Nat} {R : List (Nat × Value) → World → Prop}
theorem unlisted {listed : Array Bool} {i : Nat} (h : i ∈ Region.ready .any ops listed) : listed.getD i false = false := by
  obtain ⟨hf, _⟩ := mem_ready.1 h; have hf' := hf; simp only [Array.getD_eq_getD_getElem?] at hf' ⊢
  cases h : listed[i]? with
  | none => rfl
  | some b => rw [h] at hf'; simpa using hf'
theorem InvK.later {listed : Array Bool} {hs : List (Nat × Value)} {w : World} (h : InvK ops st R listed hs w) {i : Nat} (hr : i ∈ Region.ready .any ops listed) : ∀ j n v, waits ops n j i = true → (j, v) ∉ hs := by
  intro j n v hw hm; have h1 := (h.keys j (h.sub j v hm)).2 ⟨v, hm⟩; have h2 := waits_listed h.shut n j i hw h1; rw [unlisted hr] at h2
  cases h2
theorem InvK.not {listed : Array Bool} {hs : List (Nat × Value)} {w : World} (h : InvK ops st R listed hs w) {i : Nat} (hr : i ∈ Region.ready .any ops listed) : ∀ v, (i, v) ∉ hs := by
  intro v hm; have h1 := (h.keys i (h.sub i v hm)).2 ⟨v, hm⟩; rw [unlisted hr] at h1
  cases h1
theorem k_go (hc : chkAny ops a0.tmps.size = true) (hk : chkK ops st hist = true) (hRt : ∀ hs w w', R hs w → Turned (fun _ => False) w w' → R hs w') (hs : StepsK P hist GL ops a0 st R 0 ops.toList)
    (hQ : ∀ hs a w, (∀ i ∈ st, ∃ v, (i, v) ∈ hs) → (∀ i v v', (i, v) ∈ hs → (i, v') ∈ hs → v = v') → R hs w → (∀ s, Looks (fun d v _ => GK hist GL hs d v) ops a0 a w s) → a.defers = a0.defers → a.tmps.size = a0.tmps.size → Q .normal a w) :
    ∀ (fuel : Nat) (listed : Array Bool) (a : Act) (w : World) (hs : List (Nat × Value)), listed.toList.count false ≤ fuel → InvK ops st R listed hs w → InvA (fun d v _ => GK hist GL hs d v) ops a0 a listed w → wpAny P .any ops Q fuel listed a w := by
  have hk1 : ∀ i ∈ st, i < ops.size := by
    simp only [chkK, Bool.and_eq_true, List.all_eq_true] at hk; intro i hi; simpa using hk.1 i hi
  have hk2 : ∀ i o d, ops[i]? = some o → o.dst = some d → slotOp hist d = (match st.contains i with | true => some i | false => none) := by
    intro i o d ho hd; simp only [chkK, Bool.and_eq_true, List.all_eq_true] at hk; have := hk.2 i (List.mem_range.2 (Array.getElem?_eq_some_iff.1 ho).1); rw [ho] at this; simp only [hd] at this
    cases hp : st.contains i with
    | true => rw [hp] at this; simpa using this
    | false => rw [hp] at this; simpa using this
  intro fuel
  have hend : ∀ (listed : Array Bool) (a : Act) (w : World) (hs : List (Nat × Value)), InvK ops st R listed hs w → InvA (fun d v _ => GK hist GL hs d v) ops a0 a listed w → Region.ready .any ops listed = [] → Q .normal a w := by
    intro listed a w hs hT hI hr; have hall := all_listed hc hI.lsize hr; refine hQ hs a w (fun i hi => (hT.keys i hi).1 (hall i (hk1 i hi))) hT.uniq hT.state (fun s => ?_) hI.defers hI.size; unfold Looks
    split
    · rename_i hm
      obtain ⟨oj, hoj, hd⟩ := List.mem_filterMap.1 hm; obtain ⟨j, hj⟩ := List.getElem?_of_mem hoj; rw [Array.getElem?_toList] at hj; exact hI.done j oj s hj hd (hall j (Array.getElem?_eq_some_iff.1 hj).1)
    · rename_i hm
      refine hI.rest s fun j oj hj hd => absurd (List.mem_filterMap.2 ⟨oj, ?_, hd⟩) hm
      exact List.mem_of_getElem? (by rw [Array.getElem?_toList]; exact hj)
  induction fuel with
  | zero =>
    intro listed a w hs' hf hT hI
    have hr : Region.ready .any ops listed = [] := by
      apply List.eq_nil_iff_forall_not_mem.2; intro i hi; obtain ⟨hfalse, o, ho, _⟩ := mem_ready.1 hi
      have hlt : i < listed.size := by rw [hI.lsize]; exact (Array.getElem?_eq_some_iff.1 ho).1
      simp [hlt] at hfalse
      have : false ∈ listed.toList := by rw [← hfalse]; exact Array.getElem_mem_toList hlt
      have := List.count_pos_iff.2 this; omega
    exact ⟨hr, hend _ _ _ _ hT hI hr⟩
  | succ fuel ih =>
    intro listed a w hs' hf hT hI; refine ⟨hend _ _ _ _ hT hI, fun i hi => ?_⟩; obtain ⟨hfalse, o, ho, _⟩ := mem_ready.1 hi
    have hlt : i < listed.size := by rw [hI.lsize]; exact (Array.getElem?_eq_some_iff.1 ho).1
    have hcnt : (listed.setIfInBounds i true).toList.count false ≤ fuel := by
      have h1 : listed.toList[i]? = some false := by
        simp [hlt] at hfalse; rw [Array.getElem?_toList, Array.getElem?_eq_getElem hlt, hfalse]
      have := count_set h1; rw [Array.toList_setIfInBounds]; omega
    have hst1 := hs.at (j := i) (o := o) (by rw [Array.getElem?_toList]; exact ho); rw [Nat.zero_add] at hst1; unfold wpOp; simp only [ho]; unfold StepK at hst1
    have hli : (listed.setIfInBounds i true).getD i false = true := by simp [hlt]
    cases hp : st.contains i with
    | false =>
      rw [hp] at hst1
      have hni : i ∉ st := by intro e; rw [← List.contains_iff_mem, hp] at e; cases e
      have hst2 := hst1 hs' (hT.later hi) a w hT.state (hI.looks hc ho hi)
      have hg : ∀ v, GDL GL o.dst v → ∀ w', GD (fun d v _ => GK hist GL hs' d v) o.dst v w' := by
        intro v hv w'
        cases hd : o.dst with
        | none => trivial
        | some d =>
          rw [hd] at hv; show GK hist GL hs' d v; unfold GK; rw [hk2 i o d ho hd, hp]; exact hv
      have hT' : ∀ w', R hs' w' → InvK ops st R (listed.setIfInBounds i true) hs' w' := fun w' hR => by
        refine ⟨hR, fun j hj => ?_, hT.sub, hT.uniq, shut_set hT.shut hI.lsize hi⟩; rw [getD_set_ne false (show i ≠ j from fun e => hni (by rw [e]; exact hj))]; exact hT.keys j hj
      split
      · rename_i hw
        refine .inl ?_
        exact Brings.upon (hst2.1 hw) fun v w' hv => ih _ _ _ hs' hcnt (hT' _ (hRt _ _ _ hT.state hv.1)) (hI.stepG hc (fun d v h => h) ho (hg _ hv.2 _))
      · rename_i hw
        have := hst2.2 (by simpa using hw); exact ih _ _ _ hs' hcnt (hT' _ hT.state) (hI.stepG hc (fun d v h => h) ho (hg _ this.2 _))
    | true =>
      rw [hp] at hst1
      have hni : i ∈ st := by rw [← List.contains_iff_mem]; exact hp
      have hst2 := hst1 hs' (hT.not hi) (hT.later hi) a w hT.state (hI.looks hc ho hi)
      have hg2 : ∀ v w', GD (fun d u _ => GK hist GL (hs' ++ [(i, v)]) d u) o.dst v w' := by
        intro v w'
        cases hd : o.dst with
        | none => trivial
        | some d =>
          show GK hist GL (hs' ++ [(i, v)]) d v; unfold GK; rw [hk2 i o d ho hd, hp]; simp
      have hmono : ∀ v d u, GK hist GL hs' d u → GK hist GL (hs' ++ [(i, v)]) d u := by
        intro v d u h; unfold GK at h ⊢
        split at h
        · exact List.mem_append_left _ h
        · exact h
      have hT' : ∀ v w', R (hs' ++ [(i, v)]) w' → InvK ops st R (listed.setIfInBounds i true) (hs' ++ [(i, v)]) w' := fun v w' hR => by
        refine ⟨hR, fun j hj => ?_, fun j u hm => ?_, fun j u u' h1 h2 => ?_, shut_set hT.shut hI.lsize hi⟩
        · by_cases e : j = i
          · subst e
            rw [hli]; exact ⟨fun _ => ⟨v, by simp⟩, fun _ => rfl⟩
          · rw [getD_set_ne false (Ne.symm e), hT.keys j hj]
            constructor
            · rintro ⟨u, hu⟩; exact ⟨u, List.mem_append_left _ hu⟩
            · rintro ⟨u, hu⟩
              rcases List.mem_append.1 hu with hu | hu
              · exact ⟨u, hu⟩
              · simp at hu; exact absurd hu.1 e
        · rcases List.mem_append.1 hm with hm | hm
          · exact hT.sub j u hm
          · simp at hm; rw [hm.1]; exact hni
        · rcases List.mem_append.1 h1 with h1 | h1 <;> rcases List.mem_append.1 h2 with h2 | h2
          · exact hT.uniq j u u' h1 h2
          · simp at h2; rw [h2.1] at h1; exact absurd h1 (hT.not hi _)
          · simp at h1; rw [h1.1] at h2; exact absurd h2 (hT.not hi _)
          · simp at h1 h2; rw [h1.2, h2.2]
      split
      · rename_i hw
        refine .inl ?_
        exact Brings.upon (hst2.1 hw) fun v w' hv => ih _ _ _ (hs' ++ [(i, v)]) hcnt (hT' v _ hv) (hI.stepG hc (fun d u h => hmono v d u h) ho (hg2 v w'))
      · rename_i hw
        have := hst2.2 (by simpa using hw); exact ih _ _ _ (hs' ++ [(i, undef)]) hcnt (hT' undef _ this) (hI.stepG hc (fun d u h => hmono undef d u h) ho (hg2 undef w))
theorem wp_region_k {id : Nat} (dl : List Tmp) (st : List Nat) (hist : List (Tmp × Nat)) (GL : Tmp → Value → Prop) (R : List (Nat × Value) → World → Prop) (hdl : ops.toList.filterMap (·.dst) = dl) (hm : P.follows .mixedOrders = true) (hc : chkAny ops a0.tmps.size = true) (hk : chkK ops st hist = true)
    (hR0 : ∀ w, Turned (fun _ => False) w0 w → R [] w) (hRt : ∀ hs w w', R hs w → Turned (fun _ => False) w w' → R hs w') (hs : StepsK P hist GL ops a0 st R 0 ops.toList)
    (hQ : ∀ (hs : List (Nat × Value)) (vs : Tmp → Value) w, (∀ i ∈ st, ∃ v, (i, v) ∈ hs) → (∀ i v v', (i, v) ∈ hs → (i, v') ∈ hs → v = v') → R hs w → (∀ s ∈ dl, GK hist GL hs s (vs s)) → Q .normal ⟨dl.foldl (fun t d => t.setIfInBounds d (vs d)) a0.tmps, a0.defers⟩ w) : (Code.region id ops true).wp P Q a0 w0 := by
  refine wp_region_any hm (k_go hc hk hRt hs ?_ _ _ _ _ [] ?_ ⟨hR0 _ ((Turned.refl _ w0).drew), fun i hi => ?_, fun i v h => (List.not_mem_nil h).elim, fun i v v' h => (List.not_mem_nil h).elim, fun j o ho hj => ?_⟩ ?_)
  · intro hs a w hall huniq hR hL hd hsz
    have := hQ hs (fun d => a.tmps.getD d undef) w hall huniq hR (fun s hs => by
      have := hL s; unfold Looks at this; rw [hdl, if_pos hs] at this
      exact this)
    have e : a = ⟨dl.foldl (fun t d => t.setIfInBounds d (a.tmps.getD d undef)) a0.tmps, a0.defers⟩ := by
      cases a with | mk tmps defers =>
      simp only at hd hsz this ⊢; subst hd; congr 1; apply Array.ext
      · rw [fold_size]; exact hsz
      · intro i h1 h2
        have h3 : i < a0.tmps.size := by rw [← hsz]; exact h1
        have hf := fold_getD (fun d => tmps.getD d undef) dl a0.tmps i h3; have hl := hL i; unfold Looks at hl; rw [hdl] at hl; have e1 := getD_lt tmps i h1; have e2 := getD_lt _ i h2; rw [← e1, ← e2, hf]
        by_cases hm : i ∈ dl
        · rw [if_pos hm]
        · rw [if_neg hm] at hl ⊢
          exact hl
    rw [e]; exact this
  · rw [Array.toList_replicate, List.count_replicate_self]
    exact Nat.le_refl _
  · constructor
    · intro h
      exfalso; simp only [Array.getD_eq_getD_getElem?] at h
      cases hx : (Array.replicate ops.size false)[i]? with
      | none => rw [hx] at h; cases h
      | some b =>
        rw [hx] at h; rw [Array.getElem?_replicate] at hx
        split at hx
        · injection hx with hx; subst hx; cases h
        · cases hx
    · rintro ⟨v, h⟩; exact (List.not_mem_nil h).elim
  · have hlt := (Array.getElem?_eq_some_iff.1 ho).1
    simp [hlt] at hj
  · refine ⟨rfl, rfl, by simp, fun j oj d hj hd hl => ?_, fun d _ => rfl⟩
    have hlt := (Array.getElem?_eq_some_iff.1 hj).1; simp [hlt] at hl
end
end Go.Proofs.Ytoihjobdfjajfaa
namespace Go.Proofs.Ytoihjobdfjajfaa
open Go.RowKit
abbrev Hist := List (Nat × Value)
def ptr (g : Nat) : Value := .pointer (some ⟨g, 0, none⟩)
theorem ptr_inj {a b : Nat} (h : ptr a = ptr b) : a = b := by unfold ptr at h; injection h with h; injection h with h; injection h
structure Side (n0 ic ia is : Nat) (t : LT) (hs : Hist) (W : World) : Prop where
  call : ∀ v, (ic, v) ∈ hs → ∃ u : LT, v = u.val ∧ u.bare = t.bare ∧ u.In (fun k => n0 ≤ k ∧ (4, ptr k) ∉ hs ∧ (5, ptr k) ∉ hs) W
  box : ∀ v, (ia, v) ∈ hs → ∃ g c0 c1 c2 c3, v = ptr g ∧ n0 ≤ g ∧ W.heap[g]? = some (.cells #[c0, c1, c2, c3] 41 (0, 0)) ∧ ∀ q va, (is, q) ∈ hs → (ic, va) ∈ hs → va = .agg #[c0, c1, c2, c3]
theorem mem_snoc {hs : Hist} {i j : Nat} {x v : Value} (h : (j, v) ∈ hs ++ [(i, x)]) : (j, v) ∈ hs ∨ (j = i ∧ v = x) := by
  rcases List.mem_append.1 h with h | h
  · exact .inl h
  · simp at h; exact .inr h
section
variable {n0 ic ia is : Nat} {t : LT} {hs : Hist} {W W' : World}
theorem Side.turned0 (h : Side n0 ic ia is t hs W) (T : Turned (fun _ => False) W W') : Side n0 ic ia is t hs W' := by
  refine ⟨fun v hv => ?_, fun v hv => ?_⟩
  · obtain ⟨u, h1, h2, h3⟩ := h.call v hv
    exact ⟨u, h1, h2, h3.turned0 T⟩
  · obtain ⟨g, c0, c1, c2, c3, h1, h2, h3, h4⟩ := h.box v hv
    exact ⟨g, c0, c1, c2, c3, h1, h2, (T.block g (Array.getElem?_eq_some_iff.1 h3).1 (fun f => f)).trans h3, h4⟩
theorem Side.called {u : LT} (h : Side n0 ic ia is t hs W) (hd : ic ≠ ia ∧ ic ≠ is ∧ ic ≠ 4 ∧ ic ≠ 5) (hno : ∀ v, (ic, v) ∉ hs) (hst : ∀ q, (is, q) ∉ hs) (T : Turned (fun _ => False) W W') (hn : n0 ≤ W.heap.size) (hb : u.bare = t.bare) (hu : u.In (fun k => W.heap.size ≤ k) W')
    (hbox : ∀ k, (4, ptr k) ∈ hs ∨ (5, ptr k) ∈ hs → k < W.heap.size) : Side n0 ic ia is t (hs ++ [(ic, u.val)]) W' := by
  refine ⟨fun v hv => ?_, fun v hv => ?_⟩
  · rcases mem_snoc hv with hm | ⟨_, e⟩
    · exact absurd hm (hno v)
    · refine ⟨u, e, hb, hu.mono (fun k _ hk => ⟨by omega, fun hm => ?_, fun hm => ?_⟩)⟩
      · rcases mem_snoc hm with hm | ⟨e, _⟩
        · have := hbox k (.inl hm); omega
        · exact hd.2.2.1 e.symm
      · rcases mem_snoc hm with hm | ⟨e, _⟩
        · have := hbox k (.inr hm); omega
        · exact hd.2.2.2 e.symm
  · rcases mem_snoc hv with hm | ⟨e, _⟩
    · obtain ⟨g, c0, c1, c2, c3, h1, h2, h3, h4⟩ := h.box v hm
      refine ⟨g, c0, c1, c2, c3, h1, h2, (T.block g (Array.getElem?_eq_some_iff.1 h3).1 (fun f => f)).trans h3, fun q va hq hva => ?_⟩
      rcases mem_snoc hq with hq | ⟨e, _⟩
      · exact absurd hq (hst q)
      · exact absurd e.symm hd.2.1
    · exact absurd e.symm hd.1
theorem Side.laid {c0 c1 c2 c3 : Value} (h : Side n0 ic ia is t hs W) (hd : ia ≠ ic ∧ ia ≠ is) (hno : ∀ v, (ia, v) ∉ hs) (hst : ∀ q, (is, q) ∉ hs) (hn : n0 ≤ W.heap.size) : Side n0 ic ia is t (hs ++ [(ia, ptr W.heap.size)]) (W.alloc (.cells #[c0, c1, c2, c3] 41)) := by
  have T : Turned (fun _ => False) W (W.alloc (.cells #[c0, c1, c2, c3] 41)) := (Turned.refl _ W).alloc _; refine ⟨fun v hv => ?_, fun v hv => ?_⟩
  · rcases mem_snoc hv with hm | ⟨e, _⟩
    · obtain ⟨u, h1, h2, h3⟩ := h.call v hm
      refine ⟨u, h1, h2, h3.turned T (fun _ _ _ f => f) (fun k hl hk => ⟨hk.1, fun hm => ?_, fun hm => ?_⟩)⟩
      · rcases mem_snoc hm with hm | ⟨_, e⟩
        · exact hk.2.1 hm
        · have := ptr_inj e; omega
      · rcases mem_snoc hm with hm | ⟨_, e⟩
        · exact hk.2.2 hm
        · have := ptr_inj e; omega
    · exact absurd e.symm hd.1
  · rcases mem_snoc hv with hm | ⟨_, e⟩
    · exact absurd hm (hno v)
    · refine ⟨W.heap.size, c0, c1, c2, c3, e, hn, heap_alloc_new W _, fun q va hq hva => ?_⟩
      rcases mem_snoc hq with hq | ⟨e, _⟩
      · exact absurd hq (hst q)
      · exact absurd e.symm hd.2
theorem Side.stored {g : Nat} {c0 c1 c2 c3 x : Value} (h : Side n0 ic ia is t hs W) (hd : is ≠ ic ∧ is ≠ ia ∧ is ≠ 4 ∧ is ≠ 5) (hia : ia = 4 ∨ ia = 5) (uq : ∀ i v v', (i, v) ∈ hs → (i, v') ∈ hs → v = v') (hg : (ia, ptr g) ∈ hs) (hc : (ic, .agg #[c0, c1, c2, c3]) ∈ hs)
    (hW : Turned (fun k => k = g) W W') (hb : W'.heap[g]? = some (.cells #[c0, c1, c2, c3] 41 (0, 0))) : Side n0 ic ia is t (hs ++ [(is, x)]) W' := by
  have hbk : ∀ j v, j ≠ is → (j, v) ∈ hs ++ [(is, x)] → (j, v) ∈ hs := fun j v hj hm => by
    rcases mem_snoc hm with hm | ⟨e, _⟩
    · exact hm
    · exact absurd e hj
  refine ⟨fun v hv => ?_, fun v hv => ?_⟩
  · obtain ⟨u, h1, h2, h3⟩ := h.call v (hbk _ _ (Ne.symm hd.1) hv)
    refine ⟨u, h1, h2, h3.turned hW (fun k _ hk e => ?_) (fun k _ hk => ⟨hk.1, fun hm => hk.2.1 (hbk _ _ (Ne.symm hd.2.2.1) hm), fun hm => hk.2.2 (hbk _ _ (Ne.symm hd.2.2.2) hm)⟩)⟩; subst e
    rcases hia with e | e
    · rw [e] at hg; exact hk.2.1 hg
    · rw [e] at hg; exact hk.2.2 hg
  · have hv' := hbk _ _ (Ne.symm hd.2.1) hv
    obtain ⟨g', d0, d1, d2, d3, h1, h2, h3, h4⟩ := h.box v hv'; have e := ptr_inj (h1.symm.trans (uq _ _ _ hv' hg)); subst e; exact ⟨g', c0, c1, c2, c3, h1, h2, hb, fun q va hq hva => uq _ _ _ (hbk _ _ (Ne.symm hd.1) hva) hc⟩
end
structure TwinS (w0 : World) (a b : LT) (hs : Hist) (W : World) : Prop where
  turned : Turned (fun _ => False) w0 W
  one : Side w0.heap.size 1 4 6 a hs W
  two : Side w0.heap.size 3 5 7 b hs W
  apart : ∀ v v', (4, v) ∈ hs → (5, v') ∈ hs → v ≠ v'
  uniq : ∀ i v v', (i, v) ∈ hs → (i, v') ∈ hs → v = v'
section
variable {w0 : World} {a b : LT} {hs : Hist} {W W' : World}
theorem TwinS.start (T : Turned (fun _ => False) w0 W) : TwinS w0 a b [] W :=
  ⟨T, ⟨fun _ h => (List.not_mem_nil h).elim, fun _ h => (List.not_mem_nil h).elim⟩, ⟨fun _ h => (List.not_mem_nil h).elim, fun _ h => (List.not_mem_nil h).elim⟩, fun _ _ h => (List.not_mem_nil h).elim, fun _ _ _ h => (List.not_mem_nil h).elim⟩
theorem TwinS.turned0 (h : TwinS w0 a b hs W) (T : Turned (fun _ => False) W W') : TwinS w0 a b hs W' := ⟨h.turned.trans T, h.one.turned0 T, h.two.turned0 T, h.apart, h.uniq⟩
theorem TwinS.boxes (h : TwinS w0 a b hs W) : ∀ k, (4, ptr k) ∈ hs ∨ (5, ptr k) ∈ hs → k < W.heap.size := by
  intro k hk
  rcases hk with hk | hk
  · obtain ⟨g, _, _, _, _, h1, _, h3, _⟩ := h.one.box _ hk
    rw [ptr_inj h1]; exact (Array.getElem?_eq_some_iff.1 h3).1
  · obtain ⟨g, _, _, _, _, h1, _, h3, _⟩ := h.two.box _ hk
    rw [ptr_inj h1]; exact (Array.getElem?_eq_some_iff.1 h3).1
theorem TwinS.cells4 (h : TwinS w0 a b hs W) {v : Value} (hm : (4, v) ∈ hs ∨ (5, v) ∈ hs) : ∃ g, v = .pointer (some ⟨g, 0, none⟩) ∧ (∃ c0 c1 c2 c3, W.cell? ⟨g, 0, none⟩ = some c0 ∧ W.cell? ⟨g, 1, none⟩ = some c1 ∧ W.cell? ⟨g, 2, none⟩ = some c2 ∧ W.cell? ⟨g, 3, none⟩ = some c3) ∧ W.frozen? ⟨g, 0, none⟩ = false ∧ W.frozen? ⟨g, 1, none⟩ = false ∧ W.frozen? ⟨g, 2, none⟩ = false ∧ W.frozen? ⟨g, 3, none⟩ = false := by
  have : ∃ g c0 c1 c2 c3, v = ptr g ∧ W.heap[g]? = some (.cells #[c0, c1, c2, c3] 41 (0, 0)) := by
    rcases hm with hm | hm
    · obtain ⟨g, c0, c1, c2, c3, h1, _, h3, _⟩ := h.one.box v hm
      exact ⟨g, c0, c1, c2, c3, h1, h3⟩
    · obtain ⟨g, c0, c1, c2, c3, h1, _, h3, _⟩ := h.two.box v hm
      exact ⟨g, c0, c1, c2, c3, h1, h3⟩
  obtain ⟨g, c0, c1, c2, c3, h1, h3⟩ := this; obtain ⟨q0, q1, q2, q3, f0, f1, f2, f3⟩ := Go.Proofs.Ytoihjobdfjajfaa.cells4 h3; exact ⟨g, h1, ⟨c0, c1, c2, c3, q0, q1, q2, q3⟩, f0, f1, f2, f3⟩
theorem TwinS.done (h : TwinS w0 a b hs W) (hall : ∀ i ∈ [1, 3, 4, 5, 6, 7], ∃ v, (i, v) ∈ hs) {v5 v6 : Value} (h5 : (4, v5) ∈ hs) (h6 : (5, v6) ∈ hs) :
    ∃ (x y : LT) (gx gy : Nat), v5 = .pointer (some ⟨gx, 0, none⟩) ∧ v6 = .pointer (some ⟨gy, 0, none⟩) ∧ x.bare = a.bare ∧ y.bare = b.bare ∧ w0.heap.size ≤ gx ∧ w0.heap.size ≤ gy ∧ gx ≠ gy ∧
      W.heap[gx]? = some (.cells #[.int .i64 x.kind, .int .i64 x.n, .string x.name, .slice x.at_.1 x.args.length x.at_.2] 41 (0, 0)) ∧ W.heap[gy]? = some (.cells #[.int .i64 y.kind, .int .i64 y.n, .string y.name, .slice y.at_.1 y.args.length y.at_.2] 41 (0, 0)) ∧
      x.In (fun k => w0.heap.size ≤ k ∧ k ≠ gx ∧ k ≠ gy) W ∧ y.In (fun k => w0.heap.size ≤ k ∧ k ≠ gx ∧ k ≠ gy) W := by
  obtain ⟨va, ha⟩ := hall 1 (by simp); obtain ⟨vb, hb⟩ := hall 3 (by simp); obtain ⟨q6, hq6⟩ := hall 6 (by simp); obtain ⟨q7, hq7⟩ := hall 7 (by simp); obtain ⟨gx, c0, c1, c2, c3, e1, n1, b1, s1⟩ := h.one.box _ h5; obtain ⟨gy, d0, d1, d2, d3, e2, n2, b2, s2⟩ := h.two.box _ h6; obtain ⟨x, rfl, hx, ix⟩ := h.one.call _ ha; obtain ⟨y, rfl, hy, iy⟩ := h.two.call _ hb; have t1 := s1 q6 _ hq6 ha; have t2 := s2 q7 _ hq7 hb; rw [LT.val_eq] at t1 t2
  injection t1 with t1
  injection t2 with t2
  rw [← t1] at b1; rw [← t2] at b2; subst e1 e2; refine ⟨x, y, gx, gy, rfl, rfl, hx, hy, n1, n2, fun e => h.apart _ _ h5 h6 (by rw [e]), b1, b2, ix.mono (fun k _ hk => ⟨hk.1, fun e => hk.2.1 (by rw [e]; exact h5), fun e => hk.2.2 (by rw [e]; exact h6)⟩), iy.mono (fun k _ hk => ⟨hk.1, fun e => hk.2.1 (by rw [e]; exact h5), fun e => hk.2.2 (by rw [e]; exact h6)⟩)⟩
end
end Go.Proofs.Ytoihjobdfjajfaa
namespace Go.Proofs.Ytoihjobdfjajfaa
open Lib (hid)
open Go.RowKit
set_option maxRecDepth 100000 in
set_option maxHeartbeats 1600000 in
theorem rSame48 {p : Nat → Prop} (n : Nat) : ∀ (a b : LT) (w : World), a.depth ≤ n → a.In p w → b.In p w →
    Calls Try.prog 48 #[a.val, b.val] w fun e w' => e = .returned (.bool (Tm.same a b)) ∧ Turned (fun _ => False) w w' := by
  induction n with
  | zero => intro a b w h; have := Tm.depth_pos a; omega
  | succ n ih =>
    intro a b w hd ha hb; have T1 : Turned (fun _ => False) w ((w.alloc (.cells #[.int .i64 a.kind, .int .i64 a.n, .string a.name, .slice a.at_.1 a.args.length a.at_.2] 41)).alloc (.cells #[.int .i64 b.kind, .int .i64 b.n, .string b.name, .slice b.at_.1 b.args.length b.at_.2] 41)) := ((Turned.refl _ w).alloc _).alloc _
    have hbox : ∀ W, Turned (fun _ => False) ((w.alloc (.cells #[.int .i64 a.kind, .int .i64 a.n, .string a.name, .slice a.at_.1 a.args.length a.at_.2] 41)).alloc (.cells #[.int .i64 b.kind, .int .i64 b.n, .string b.name, .slice b.at_.1 b.args.length b.at_.2] 41)) W → W.cell? ⟨w.heap.size, 3, none⟩ = some (.slice a.at_.1 a.args.length a.at_.2) ∧ W.cell? ⟨w.heap.size + 1, 3, none⟩ = some (.slice b.at_.1 b.args.length b.at_.2) := by
      intro W h; have h1 := (h.block w.heap.size (by simp; omega) (fun f => f)).trans (heap_alloc2_old w _ _); have h2 := (h.block (w.heap.size + 1) (by simp) (fun f => f)).trans (heap_alloc2_new w _ _); obtain ⟨_, _, _, x3, _⟩ := cells4 h1; obtain ⟨_, _, _, y3, _⟩ := cells4 h2; exact ⟨x3, y3⟩
    have HDD := hid hd; have HAI := hid ha; have HBI := hid hb; have l1 := ha.len; have l2 := hb.len
    have hm1 : a.args.length ≤ 9223372036854775807 := by have := l1.1; have := l1.2.1; unfold maxLen at this; omega
    have hm2 : b.args.length ≤ 9223372036854775807 := by have := l2.1; have := l2.2.1; unfold maxLen at this; omega
    have HV := hid (same_eq a b); have HIH := hid ih; rw [LT.val_eq a, LT.val_eq b]; obtain ⟨a1, ha1⟩ : ∃ z, z = a.at_.1 := ⟨_, rfl⟩; obtain ⟨c1, hc1⟩ : ∃ z, z = a.at_.2 := ⟨_, rfl⟩; obtain ⟨a2, ha2⟩ : ∃ z, z = b.at_.1 := ⟨_, rfl⟩; obtain ⟨c2, hc2⟩ : ∃ z, z = b.at_.2 := ⟨_, rfl⟩; have HL1 := hid (fun W h => (LT.In.lies (p := p) (w := W) (t := a) h)); have HL2 := hid (fun W h => (LT.In.lies (p := p) (w := W) (t := b) h)); rw [← ha1, ← hc1, ← ha2, ← hc2] at T1 hbox; rw [← ha1] at HL1; rw [← ha2] at HL2; rw [← ha1, ← hc1, ← ha2, ← hc2]; clear ha1 hc1 ha2 hc2 ih ha hb hd l1 l2; have HT1 := hid T1; have HBX := hid hbox; clear T1 hbox
    by_cases hk : a.kind = b.kind
    rotate_left
    · have kb : (a.kind != b.kind) = true := by simp [hk]
      have HR : Hid (Tm.same a b = false) := by show _ = _; rw [HV.out]; simp [hk]
      clear hk; go_enter Try.func48, Try.ntmps48
      go_wp2_with fail
      go_ret; exact ⟨ret_bool HR.out.symm, HT1.out⟩
    have kb : (a.kind != b.kind) = false := by simp [hk]
    have HK := hid hk; clear hk
    by_cases hn : a.n = b.n
    rotate_left
    · have nb : (a.n != b.n) = true := by simp [hn]
      have HR : Hid (Tm.same a b = false) := by show _ = _; rw [HV.out]; simp [hn]
      clear hn; go_enter Try.func48, Try.ntmps48
      go_wp2_with fail
      go_ret; exact ⟨ret_bool HR.out.symm, HT1.out⟩
    have nb : (a.n != b.n) = false := by simp [hn]
    have HN := hid hn; clear hn
    by_cases hs : a.name = b.name
    rotate_left
    · have sb0 : (a.name.toList == b.name.toList) = false := str_neq hs
      have sb : ¬ (a.name.toList = b.name.toList) := by simpa using sb0
      have HR : Hid (Tm.same a b = false) := by show _ = _; rw [HV.out]; simp [hs]
      clear hs sb0; go_enter Try.func48, Try.ntmps48
      go_wp2_with fail
      go_ret; exact ⟨ret_bool HR.out.symm, HT1.out⟩
    have sb0 : (a.name.toList == b.name.toList) = true := by rw [hs]; exact str_same _
    have sb : a.name.toList = b.name.toList := by rw [hs]
    have HS := hid hs; clear hs sb0
    have HR : Hid (Tm.same a b = Tm.sames a.args b.args) := by show _ = _; rw [HV.out, HK.out, HN.out, HS.out]; simp
    by_cases hl : a.args.length = b.args.length
    rotate_left
    · have lb : ((a.args.length : Int) != (b.args.length : Int)) = true := by simp; omega
      have HR2 := hid (HR.out.trans (sames_len hl)); clear hl; go_enter Try.func48, Try.ntmps48
      go_wp2_with fail
      go_ret; exact ⟨ret_bool HR2.out.symm, HT1.out⟩
    have lb : ((a.args.length : Int) != (b.args.length : Int)) = false := by simp; omega
    have hl1 : a.args.length ≤ b.args.length := by omega
    have hl2 : b.args.length ≤ a.args.length := by omega
    clear hl
    have HS12 : Hid (((w.alloc (.cells #[.int .i64 a.kind, .int .i64 a.n, .string a.name, .slice a1 a.args.length c1] 41)).alloc (.cells #[.int .i64 b.kind, .int .i64 b.n, .string b.name, .slice a2 b.args.length c2] 41)).heap.size = w.heap.size + 2) := by show _ = _; simp
    go_enter Try.func48, Try.ntmps48
    go_wp2_with fail
    have HTB := And.intro HT1 (And.intro HBX HS12); clear HT1 HBX HS12; revert HTB; generalize (w.alloc (.cells #[.int .i64 a.kind, .int .i64 a.n, .string a.name, .slice a1 a.args.length c1] 41)).alloc (.cells #[.int .i64 b.kind, .int .i64 b.n, .string b.name, .slice a2 b.args.length c2] 41) = w1; intro HTB; obtain ⟨HT1, HBX, _⟩ := HTB; revert HBX; generalize hA : w.heap.size = A; generalize hB : A + 1 = B; intro HBX; clear hA hB
    go_loopg [5] a.args.length (fun g i wr => ∃ j : Nat, Hid (j + g = a.args.length) ∧ j ≤ a.args.length ∧ i = .int .i64 j ∧ Hid (Tm.bares (a.args.take j) = Tm.bares (b.args.take j)) ∧ Turned (fun _ => False) w1 wr)
    case atStart => exact ⟨0, Nat.zero_add _, Nat.zero_le _, rfl, rfl, Turned.refl _ _⟩
    case round =>
      obtain ⟨j, HG, hj, rfl, HE, Tr⟩ := hrel; obtain ⟨q1, q2⟩ := HBX.out _ Tr
      by_cases hjl : j < a.args.length
      · have hx : a.args[j]? = some a.args[j] := List.getElem?_eq_getElem hjl
        have hy : b.args[j]? = some (b.args[j]'(by omega)) := List.getElem?_eq_getElem (by omega); obtain ⟨x, hxe⟩ : ∃ x : LT, x = a.args[j] := ⟨_, rfl⟩; obtain ⟨y, hye⟩ : ∃ y : LT, y = b.args[j]'(by omega) := ⟨_, rfl⟩; rw [← hxe] at hx; rw [← hye] at hy; clear hxe hye; have ain := HAI.out.turned0 (HT1.out.trans Tr); have bin := HBI.out.turned0 (HT1.out.trans Tr); have xin := (LT.ins_iff _).1 ain.args x (List.mem_of_getElem? hx); have yin := (LT.ins_iff _).1 bin.args y (List.mem_of_getElem? hy); obtain ⟨b1, o1, rfl, _, k0, k1, k2, k3⟩ := (HL1.out _ ain).cell hx; obtain ⟨b2, o2, rfl, _, g0, g1, g2, g3⟩ := (HL2.out _ bin).cell hy
        have hcx := fun W (h : Turned (fun _ => False) wr W) => HIH.out x y W (by have := arg_depth (List.mem_of_getElem? hx); have := HDD.out; omega) (xin.turned0 h) (yin.turned0 h)
        rw [LT.val_eq x, LT.val_eq y] at hcx
        have hkp : ∀ W, Turned (fun _ => False) wr W → W.cell? ⟨A, 3, none⟩ = some (.slice (some ⟨b1, o1, none⟩) a.args.length c1) ∧ W.cell? ⟨B, 3, none⟩ = some (.slice (some ⟨b2, o2, none⟩) b.args.length c2) ∧ W.cell? ⟨b1, o1 + j * 4, none⟩ = some (.int .i64 x.kind) ∧ W.cell? ⟨b1, o1 + j * 4 + 1, none⟩ = some (.int .i64 x.n) ∧ W.cell? ⟨b1, o1 + j * 4 + 2, none⟩ = some (.string x.name) ∧ W.cell? ⟨b1, o1 + j * 4 + 3, none⟩ = some (.slice x.at_.1 x.args.length x.at_.2) ∧ W.cell? ⟨b2, o2 + j * 4, none⟩ = some (.int .i64 y.kind) ∧ W.cell? ⟨b2, o2 + j * 4 + 1, none⟩ = some (.int .i64 y.n) ∧ W.cell? ⟨b2, o2 + j * 4 + 2, none⟩ = some (.string y.name) ∧ W.cell? ⟨b2, o2 + j * 4 + 3, none⟩ = some (.slice y.at_.1 y.args.length y.at_.2) := fun W h => ⟨h.cell0 q1, h.cell0 q2, h.cell0 k0, h.cell0 k1, h.cell0 k2, h.cell0 k3, h.cell0 g0, h.cell0 g1, h.cell0 g2, h.cell0 g3⟩
        have HKP := hid hkp; have HX := hid hx; have HY := hid hy; have HCX := hid hcx; clear hx hy hcx xin yin ain bin hkp k0 k1 k2 k3 g0 g1 g2 g3
        have z2 : (j : Int) < (b.args.length : Int) := by omega
        have z3 : j < b.args.length := by omega
        go_wp2_with fail
        · skip
          obtain ⟨B52, HB52⟩ : ∃ B, Hid (B = (!(Tm.same x y))) := ⟨_, rfl⟩; refine wp_region_hs [41, 42, 43, 44, 45, 46, 47, 48, 49, 50, 51, 52] [] [0, 0, 0, 0, 0, 0, 0, 0, 0, 0, 0, 0] [] (fun d v => (match d with | 41 => v = .pointer (some ⟨A, 3, none⟩) | 42 => v = .slice (some ⟨b1, o1, none⟩) a.args.length c1 | 43 => v = .int .i64 (j : Int) | 44 => v = .pointer (some ⟨b1, o1 + j * 4, none⟩) | 45 => v = .agg #[.int .i64 x.kind, .int .i64 x.n, .string x.name, .slice x.at_.1 x.args.length x.at_.2] | 46 => v = .pointer (some ⟨B, 3, none⟩) | 47 => v = .slice (some ⟨b2, o2, none⟩) b.args.length c2 | 48 => v = .int .i64 (j : Int) | 49 => v = .pointer (some ⟨b2, o2 + j * 4, none⟩) | 50 => v = .agg #[.int .i64 y.kind, .int .i64 y.n, .string y.name, .slice y.at_.1 y.args.length y.at_.2] | 51 => v = .bool (Tm.same x y) | 52 => v = .bool B52 | _ => True : Prop)) (fun _ W => Turned (fun _ => False) wr W) (by kernel_rfl) rfl (by kernel_rfl) (by kernel_rfl) (by kernel_rfl) (by kernel_rfl) (fun _ h => h) (fun _ _ _ h ht => h.trans ht) ?hs ?hQ
          case hs =>
            refine ⟨?s0, ?s1, ?s2, ?s3, ?s4, ?s5, ?s6, ?s7, ?s8, ?s9, ?s10, ?s11, trivial⟩
            case s0 =>
              refine fun hs hle => stepG_free [] [2] (by kernel_rfl) rfl ?_
              · intro ac W hT hI hO
                have h2 : ac.tmps.getD 2 undef = .pointer (some ⟨A, 0, none⟩) := hO 2 (by simp); show Brings Try.prog (fun v w' => Turned (fun _ => False) W w' ∧ v = .pointer (some ⟨A, 3, none⟩)) _; simp only [execOp, Act.eval, h2]; go_simp
                try exact tq
            case s1 =>
              refine fun hs hle => stepG_free [41] [] (by kernel_rfl) rfl ?_
              · intro ac W hT hI hO
                have h41 : ac.tmps.getD 41 undef = _ := hI 41 (by simp); show Brings Try.prog (fun v w' => Turned (fun _ => False) W w' ∧ v = .slice (some ⟨b1, o1, none⟩) a.args.length c1) _; obtain ⟨p1, p2, k0, k1, k2, k3, g0, g1, g2, g3⟩ := HKP.out W hT; simp only [execOp, Act.eval, h41]; go_simp; exact ⟨Turned.refl _ _, rfl⟩
            case s2 =>
              refine fun hs hle => stepG_free [] [5] (by kernel_rfl) rfl ?_
              · intro ac W hT hI hO
                have h5 : ac.tmps.getD 5 undef = .int .i64 (j : Int) := hO 5 (by simp); show Brings Try.prog (fun v w' => Turned (fun _ => False) W w' ∧ v = .int .i64 (j : Int)) _; simp only [execOp, Act.eval, h5]; go_simp
                try exact tq
            case s3 =>
              refine fun hs hle => stepG_free [42, 43] [] (by kernel_rfl) rfl ?_
              · intro ac W hT hI hO
                have h42 : ac.tmps.getD 42 undef = _ := hI 42 (by simp); have h43 : ac.tmps.getD 43 undef = _ := hI 43 (by simp); show Brings Try.prog (fun v w' => Turned (fun _ => False) W w' ∧ v = .pointer (some ⟨b1, o1 + j * 4, none⟩)) _; simp only [execOp, Act.eval, h42, h43]; go_simp
                try rw [if_pos (by omega)]
                try exact tq
            case s4 =>
              refine fun hs hle => stepG_free [44] [] (by kernel_rfl) rfl ?_
              · intro ac W hT hI hO
                have h44 : ac.tmps.getD 44 undef = _ := hI 44 (by simp); show Brings Try.prog (fun v w' => Turned (fun _ => False) W w' ∧ v = .agg #[.int .i64 x.kind, .int .i64 x.n, .string x.name, .slice x.at_.1 x.args.length x.at_.2]) _; obtain ⟨p1, p2, k0, k1, k2, k3, g0, g1, g2, g3⟩ := HKP.out W hT; simp only [execOp, Act.eval, h44]; go_simp; exact ⟨Turned.refl _ _, rfl⟩
            case s5 =>
              refine fun hs hle => stepG_free [] [3] (by kernel_rfl) rfl ?_
              · intro ac W hT hI hO
                have h3 : ac.tmps.getD 3 undef = .pointer (some ⟨B, 0, none⟩) := hO 3 (by simp); show Brings Try.prog (fun v w' => Turned (fun _ => False) W w' ∧ v = .pointer (some ⟨B, 3, none⟩)) _; simp only [execOp, Act.eval, h3]; go_simp
                try exact tq
            case s6 =>
              refine fun hs hle => stepG_free [46] [] (by kernel_rfl) rfl ?_
              · intro ac W hT hI hO
                have h46 : ac.tmps.getD 46 undef = _ := hI 46 (by simp); show Brings Try.prog (fun v w' => Turned (fun _ => False) W w' ∧ v = .slice (some ⟨b2, o2, none⟩) b.args.length c2) _; obtain ⟨p1, p2, k0, k1, k2, k3, g0, g1, g2, g3⟩ := HKP.out W hT; simp only [execOp, Act.eval, h46]; go_simp; exact ⟨Turned.refl _ _, rfl⟩
            case s7 =>
              refine fun hs hle => stepG_free [] [5] (by kernel_rfl) rfl ?_
              · intro ac W hT hI hO
                have h5 : ac.tmps.getD 5 undef = .int .i64 (j : Int) := hO 5 (by simp); show Brings Try.prog (fun v w' => Turned (fun _ => False) W w' ∧ v = .int .i64 (j : Int)) _; simp only [execOp, Act.eval, h5]; go_simp
                try exact tq
            case s8 =>
              refine fun hs hle => stepG_free [47, 48] [] (by kernel_rfl) rfl ?_
              · intro ac W hT hI hO
                have h47 : ac.tmps.getD 47 undef = _ := hI 47 (by simp); have h48 : ac.tmps.getD 48 undef = _ := hI 48 (by simp); show Brings Try.prog (fun v w' => Turned (fun _ => False) W w' ∧ v = .pointer (some ⟨b2, o2 + j * 4, none⟩)) _; simp only [execOp, Act.eval, h47, h48]; go_simp
                try rw [if_pos (by omega)]
                try exact tq
            case s9 =>
              refine fun hs hle => stepG_free [49] [] (by kernel_rfl) rfl ?_
              · intro ac W hT hI hO
                have h49 : ac.tmps.getD 49 undef = _ := hI 49 (by simp); show Brings Try.prog (fun v w' => Turned (fun _ => False) W w' ∧ v = .agg #[.int .i64 y.kind, .int .i64 y.n, .string y.name, .slice y.at_.1 y.args.length y.at_.2]) _; obtain ⟨p1, p2, k0, k1, k2, k3, g0, g1, g2, g3⟩ := HKP.out W hT; simp only [execOp, Act.eval, h49]; go_simp; exact ⟨Turned.refl _ _, rfl⟩
            case s10 =>
              refine fun hs hle => stepG_free [45, 50] [] (by kernel_rfl) rfl ?_
              · intro ac W hT hI hO
                have h45 : ac.tmps.getD 45 undef = _ := hI 45 (by simp); have h50 : ac.tmps.getD 50 undef = _ := hI 50 (by simp); show Brings Try.prog (fun v w' => Turned (fun _ => False) W w' ∧ v = .bool (Tm.same x y)) _; simp only [execOp, Act.eval, h45, h50]; go_simp; show Calls Try.prog 48 _ W _
                (with_reducible refine (HCX.out W hT).mono ?_)
                rintro e w' ⟨rfl, T'⟩
                exact ⟨_, rfl, T', rfl⟩
            case s11 =>
              refine fun hs hle => stepG_free [51] [] (by kernel_rfl) rfl ?_
              · intro ac W hT hI hO
                have h51 : ac.tmps.getD 51 undef = _ := hI 51 (by simp); show Brings Try.prog (fun v w' => Turned (fun _ => False) W w' ∧ v = .bool B52) _; rw [HB52.out]; simp only [execOp, Act.eval, h51]; go_simp
                try exact tq
          case hQ =>
            intro hs vs w2 hlen T2 hV; have q52 : vs 52 = .bool B52 := hV 52 (by simp); rw [HB52.out] at q52; clear hV hlen hs
            cases hs : Tm.same x y with
            | true =>
              rw [hs] at q52; replace q52 : vs 52 = .bool false := q52; have HSE := hid hs; simp only [List.foldl_cons, List.foldl_nil, List.setIfInBounds_toArray, List.set_cons_zero, List.set_cons_succ, q52]; clear q52 hs
              go_wp2_with fail
              go_roundg (gk - 1)
              case measure => have := HG.out; omega
              case rel =>
                refine ⟨j + 1, show _ = _ by have := HG.out; omega, by omega, by go_num, ?_, Tr.trans T2⟩; show _ = _; rw [bares_snoc _ _ _ HX.out, bares_snoc _ _ _ HY.out, HE.out, (Tm.same_iff x y).1 HSE.out]
            | false =>
              rw [hs] at q52; replace q52 : vs 52 = .bool true := q52; have HSE := hid hs; simp only [List.foldl_cons, List.foldl_nil, List.setIfInBounds_toArray, List.set_cons_zero, List.set_cons_succ, q52]; clear q52 hs
              go_wp2_with fail
              go_ret; exact ⟨ret_bool (HR.out.trans (sames_no HX.out HY.out HSE.out)).symm, HT1.out.trans (Tr.trans T2)⟩
      · go_wp2_with fail
        go_ret; refine ⟨ret_bool ?_, HT1.out.trans Tr⟩; symm; rw [HR.out, Tm.sames_iff]; have h := HE.out
        rwa [List.take_of_length_le (by omega), List.take_of_length_le (by omega)] at h
end Go.Proofs.Ytoihjobdfjajfaa
namespace Go.Proofs.Ytoihjobdfjajfaa
open Go.RowKit
def OneS (wr : World) (t : LT) : List Value → World → Prop
  | [], W => Turned (fun _ => False) wr W
  | [uv], W => Turned (fun _ => False) wr W ∧ ∃ u : LT, uv = u.val ∧ u.bare = t.bare ∧ u.In (fun _ => True) W
  | _, _ => False
theorem OneS.turned {wr : World} {t : LT} : ∀ (hs : List Value) (W : World), OneS wr t hs W → Turned (fun _ => False) wr W
  | [], _, h => h
  | [_], _, h => h.1
  | _ :: _ :: _, _, h => h.elim
theorem OneS.turned0 {wr : World} {t : LT} : ∀ (hs : List Value) (w w' : World), OneS wr t hs w → Turned (fun _ => False) w w' → OneS wr t hs w'
  | [], _, _, h, ht => Turned.trans h ht
  | [_], _, _, h, ht => by obtain ⟨h1, u, h2, h3, h4⟩ := h; exact ⟨h1.trans ht, u, h2, h3, h4.turned0 ht⟩
  | _ :: _ :: _, _, _, h, _ => h.elim
theorem OneS.at {wr W : World} {t : LT} {hs : List Value} (h : OneS wr t hs W) {v : Value} (hv : hs[0]? = some v) : ∃ u : LT, v = u.val ∧ u.bare = t.bare ∧ u.In (fun _ => True) W := by
  match hs, h, hv with
  | [_], h, hv => simp at hv; subst hv; exact h.2
def VarsS (wr : World) (xs : List Int) : List Value → World → Prop
  | [], W => Turned (fun _ => False) wr W
  | [v], W => Turned (fun _ => False) wr W ∧ Row W 2 1 v xs.length (xs.map (Value.int .i64))
  | [v, v'], W => Turned (fun _ => False) wr W ∧ Row W 2 1 v xs.length (xs.map (Value.int .i64)) ∧ Row W 2 1 v' xs.length (xs.map (Value.int .i64))
  | _, _ => False
theorem VarsS.turned {wr : World} {xs : List Int} : ∀ (hs : List Value) (W : World), VarsS wr xs hs W → Turned (fun _ => False) wr W
  | [], _, h => h
  | [_], _, h => h.1
  | [_, _], _, h => h.1
  | _ :: _ :: _ :: _, _, h => h.elim
theorem VarsS.turned0 {wr : World} {xs : List Int} : ∀ (hs : List Value) (w w' : World), VarsS wr xs hs w → Turned (fun _ => False) w w' → VarsS wr xs hs w'
  | [], _, _, h, ht => Turned.trans h ht
  | [_], _, _, h, ht => ⟨h.1.trans ht, h.2.turned0 ht⟩
  | [_, _], _, _, h, ht => ⟨h.1.trans ht, h.2.1.turned0 ht, h.2.2.turned0 ht⟩
  | _ :: _ :: _ :: _, _, _, h, _ => h.elim
structure SaysI (A B gx gy bT bE : Nat) (a b x y tl en : LT) (us vs : List LT) (lv mv : Value) (W : World) : Prop where
  ca : (W.cell? ⟨A, 0, none⟩ = some (.int .i64 a.kind) ∧ W.cell? ⟨A, 1, none⟩ = some (.int .i64 a.n) ∧ W.cell? ⟨A, 2, none⟩ = some (.string a.name) ∧ W.cell? ⟨A, 3, none⟩ = some (.slice a.at_.1 a.args.length a.at_.2))
  cb : (W.cell? ⟨B, 0, none⟩ = some (.int .i64 b.kind) ∧ W.cell? ⟨B, 1, none⟩ = some (.int .i64 b.n) ∧ W.cell? ⟨B, 2, none⟩ = some (.string b.name) ∧ W.cell? ⟨B, 3, none⟩ = some (.slice b.at_.1 b.args.length b.at_.2))
  cx : (W.cell? ⟨gx, 0, none⟩ = some (.int .i64 x.kind) ∧ W.cell? ⟨gx, 1, none⟩ = some (.int .i64 x.n) ∧ W.cell? ⟨gx, 2, none⟩ = some (.string x.name) ∧ W.cell? ⟨gx, 3, none⟩ = some (.slice x.at_.1 x.args.length x.at_.2))
  cy : (W.cell? ⟨gy, 0, none⟩ = some (.int .i64 y.kind) ∧ W.cell? ⟨gy, 1, none⟩ = some (.int .i64 y.n) ∧ W.cell? ⟨gy, 2, none⟩ = some (.string y.name) ∧ W.cell? ⟨gy, 3, none⟩ = some (.slice y.at_.1 y.args.length y.at_.2))
  ct : (W.cell? ⟨bT, 0, none⟩ = some (.int .i64 tl.kind) ∧ W.cell? ⟨bT, 1, none⟩ = some (.int .i64 tl.n) ∧ W.cell? ⟨bT, 2, none⟩ = some (.string tl.name) ∧ W.cell? ⟨bT, 3, none⟩ = some (.slice tl.at_.1 tl.args.length tl.at_.2))
  ce : (W.cell? ⟨bE, 0, none⟩ = some (.int .i64 en.kind) ∧ W.cell? ⟨bE, 1, none⟩ = some (.int .i64 en.n) ∧ W.cell? ⟨bE, 2, none⟩ = some (.string en.name) ∧ W.cell? ⟨bE, 3, none⟩ = some (.slice en.at_.1 en.args.length en.at_.2))
  ia : a.In (fun _ => True) W
  ib : b.In (fun _ => True) W
  ix : x.In (fun _ => True) W
  iy : y.In (fun _ => True) W
  it : tl.In (fun _ => True) W
  ie : en.In (fun _ => True) W
  iu : ∀ u ∈ us, LT.In (fun _ => True) W u
  iv : ∀ u ∈ vs, LT.In (fun _ => True) W u
  rl : Row W 27 4 lv us.length (us.flatMap LT.cells)
  rm : Row W 41 4 mv vs.length (vs.flatMap LT.cells)
theorem SaysI.turned0 {A B gx gy bT bE : Nat} {a b x y tl en : LT} {us vs : List LT} {lv mv : Value} {W W' : World} (h : SaysI A B gx gy bT bE a b x y tl en us vs lv mv W) (T : Turned (fun _ => False) W W') : SaysI A B gx gy bT bE a b x y tl en us vs lv mv W' :=
  ⟨⟨T.cell0 h.ca.1, T.cell0 h.ca.2.1, T.cell0 h.ca.2.2.1, T.cell0 h.ca.2.2.2⟩, ⟨T.cell0 h.cb.1, T.cell0 h.cb.2.1, T.cell0 h.cb.2.2.1, T.cell0 h.cb.2.2.2⟩, ⟨T.cell0 h.cx.1, T.cell0 h.cx.2.1, T.cell0 h.cx.2.2.1, T.cell0 h.cx.2.2.2⟩, ⟨T.cell0 h.cy.1, T.cell0 h.cy.2.1, T.cell0 h.cy.2.2.1, T.cell0 h.cy.2.2.2⟩, ⟨T.cell0 h.ct.1, T.cell0 h.ct.2.1, T.cell0 h.ct.2.2.1, T.cell0 h.ct.2.2.2⟩, ⟨T.cell0 h.ce.1, T.cell0 h.ce.2.1, T.cell0 h.ce.2.2.1, T.cell0 h.ce.2.2.2⟩,
   h.ia.turned0 T, h.ib.turned0 T, h.ix.turned0 T, h.iy.turned0 T, h.it.turned0 T, h.ie.turned0 T, fun u hu => (h.iu u hu).turned0 T, fun u hu => (h.iv u hu).turned0 T, h.rl.turned0 T, h.rm.turned0 T⟩
theorem row_at {w : World} {ty : TypeId} {la : Option Addr} {n c : Nat} {us : List LT} (h : Row w ty 4 (.slice la n c) n (us.flatMap LT.cells)) {j : Nat} {u : LT} (hj : us[j]? = some u) : ∃ g, la = some ⟨g, 0, none⟩ ∧ w.cell? ⟨g, j * 4, none⟩ = some (.int .i64 u.kind) ∧ w.cell? ⟨g, j * 4 + 1, none⟩ = some (.int .i64 u.n) ∧ w.cell? ⟨g, j * 4 + 2, none⟩ = some (.string u.name) ∧ w.cell? ⟨g, j * 4 + 3, none⟩ = some (.slice u.at_.1 u.args.length u.at_.2) := by
  have hn : n = us.length := by have := h.1; rw [LT.flat_length] at this; omega
  obtain ⟨g, q, e⟩ := h.shape_pos (by have := (List.getElem?_eq_some_iff.1 hj).1; omega)
  injection e with e1 _ e2
  subst e1 e2; refine ⟨g, rfl, ?_, ?_, ?_, ?_⟩
  · have := LT.flat_at hj 0 (by omega); rw [Nat.add_zero] at this; exact h.cells rfl _ _ (by rw [this, LT.cells_eq]; rfl)
  · exact h.cells rfl _ _ (by rw [LT.flat_at hj 1 (by omega), LT.cells_eq]; rfl)
  · exact h.cells rfl _ _ (by rw [LT.flat_at hj 2 (by omega), LT.cells_eq]; rfl)
  · exact h.cells rfl _ _ (by rw [LT.flat_at hj 3 (by omega), LT.cells_eq]; rfl)
theorem twoBox (w : World) (x y : Obj) : Turned (fun _ => False) w ((w.alloc x).alloc y) ∧ ((w.alloc x).alloc y).heap.size = w.heap.size + 2 ∧ ((w.alloc x).alloc y).heap[w.heap.size]? = some x ∧ ((w.alloc x).alloc y).heap[w.heap.size + 1]? = some y :=
  ⟨((Turned.refl _ w).alloc _).alloc _, by simp, heap_alloc2_old w x y, heap_alloc2_new w x y⟩
end Go.Proofs.Ytoihjobdfjajfaa
namespace Go.Proofs.Ytoihjobdfjajfaa
namespace Tm
mutual
theorem bare_unit : ∀ t : Tm Unit, t.bare = t
  | .mk k n s e aa => by simp only [bare, bares_unit aa]
theorem bares_unit : ∀ l : List (Tm Unit), bares l = l
  | [] => rfl
  | x :: l => by simp only [bares, bare_unit x, bares_unit l]
end
end Tm
theorem sizes_take {α : Type} (l : List (Tm α)) (j : Nat) : Tm.sizes (l.take j) ≤ Tm.sizes l := by
  have h := Tm.sizes_append (l.take j) (l.drop j); rw [List.take_append_drop] at h; omega
end Go.Proofs.Ytoihjobdfjajfaa
namespace Go.Proofs.Ytoihjobdfjajfaa
open Go.RowKit Go.Shelf
attribute [local go_sem] Oper.semAt_some
mutual
theorem LT.In.kept {p : Nat → Prop} {w w' : World} (hk : ∀ a v, w.cell? a = some v → w'.cell? a = some v) : ∀ t : LT, LT.In p w t → LT.In p w' t
  | .mk k n s e aa, h => by
    obtain ⟨h1, h2, h3, h4, h5, h6, h7, h8⟩ := h; refine ⟨h1, h2, h3, h4, h5, h6, fun hp => ?_, LT.Ins.kept hk aa h8⟩; obtain ⟨b, o, he, hb, hc⟩ := h7 hp; exact ⟨b, o, he, hb, fun j u hu => hk _ _ (hc j u hu)⟩
theorem LT.Ins.kept {p : Nat → Prop} {w w' : World} (hk : ∀ a v, w.cell? a = some v → w'.cell? a = some v) : ∀ l : List LT, LT.Ins p w l → LT.Ins p w' l
  | [], _ => trivial
  | x :: l, h => ⟨LT.In.kept hk x h.1, LT.Ins.kept hk l h.2⟩
end
theorem LT.Sl.kept {p : Nat → Prop} {w w' : World} {a : Option Addr} {c : Nat} {l : List LT} (hk : ∀ a v, w.cell? a = some v → w'.cell? a = some v) (h : LT.Sl p w a c l) : LT.Sl p w' a c l :=
  ⟨h.none_, fun hp => by obtain ⟨b, o, he, hb, hc⟩ := h.lies hp; exact ⟨b, o, he, hb, fun j u hu => hk _ _ (hc j u hu)⟩, LT.Ins.kept hk l h.ins, h.cap, h.max⟩
theorem below_cells {w W : World} (h : Below w.heap.size w W) : ∀ a v, w.cell? a = some v → W.cell? a = some v :=
  fun a v hc => (h.cell (World.block_lt_of_cell? w a hc)).trans hc
theorem keepsFrom_turned {B b3 : Nat} {W W' : World} (h : Turned (fun k => k = b3) W W') {c : Array Value} {T : TypeId} {z : Nat × Nat} (hc : W.heap[b3]? = some (.cells c T z)) : KeepsFrom B W W' :=
  ⟨h.size, fun k o _ hk ho => (h.block k (Array.getElem?_eq_some_iff.1 hk).1 (fun e => by subst e; rw [hk] at hc; cases hc; cases ho)).trans hk⟩
theorem kpB_of {n₀ b3 : Nat} {W W' : World} (h : Turned (fun k => k = b3) W W') : KpB n₀ b3 W W' := h.mono (fun _ _ e => .inr e)
theorem kpB_of0 {n₀ b3 : Nat} {W W' : World} (h : Turned (fun _ => False) W W') : KpB n₀ b3 W W' := h.mono (fun _ _ e => e.elim)
theorem keepsFrom_turned0 {B : Nat} {W W' : World} (h : Turned (fun _ => False) W W') : KeepsFrom B W W' :=
  ⟨h.size, fun k o _ hk ho => (h.block k (Array.getElem?_eq_some_iff.1 hk).1 (fun e => e)).trans hk⟩
end Go.Proofs.Ytoihjobdfjajfaa
namespace Go.Proofs.Ytoihjobdfjajfaa
namespace Tm
def V (n : Int) : Tm Unit := .mk 0 n ByteArray.empty () []
mutual
def subT (σ : Int → Tm Unit) : Tm Unit → Tm Unit
  | .mk k n s e aa => if k = 0 then σ n else .mk k n s e (subTs σ aa)
def subTs (σ : Int → Tm Unit) : List (Tm Unit) → List (Tm Unit)
  | [] => []
  | x :: l => subT σ x :: subTs σ l
end
theorem subTs_eq (σ : Int → Tm Unit) (l : List (Tm Unit)) : subTs σ l = l.map (subT σ) := by
  induction l with
  | nil => rfl
  | cons x l ih => simp only [subTs, List.map_cons, ih]
def leafy (t : Tm Unit) : Prop := ∀ x ∈ t.flat, x.kind = 0 → x = V x.n
theorem leafy_args {k n : Int} {s : ByteArray} {aa : List (Tm Unit)} (h : leafy (.mk k n s () aa)) : ∀ x ∈ aa, leafy x := by
  intro x hx y hy; refine h y ?_; rw [flat_eq]; refine List.mem_cons_of_mem _ ?_; clear h
  induction aa with
  | nil => cases hx
  | cons z aa ih =>
    simp only [args, flats, List.mem_append] at ih ⊢
    rcases List.mem_cons.1 hx with rfl | hx
    · exact .inl hy
    · exact .inr (ih hx)
theorem leafy_good {t : Tm Unit} (h : ∀ x ∈ t.flat, goodOneB x = true) : leafy t := by
  intro x hx hk; have := h x hx; rw [goodOneB_0 x hk] at this; simp only [Bool.and_eq_true, decide_eq_true_eq] at this; obtain ⟨_, _, h3, h4⟩ := this
  cases x with | mk k n s e aa =>
  simp only [kind] at hk; simp only [name] at h3; simp only [args] at h4; have : aa = [] := List.eq_nil_of_length_eq_zero h4; subst this; have hs : s = ByteArray.empty := (bytes_nil s).1 h3; subst hs hk; rfl
def numsIn (t : Tm Unit) (n : Int) : Prop := ∃ x ∈ t.flat, x.kind = 0 ∧ x.n = n
mutual
theorem subT_congr {σ τ : Int → Tm Unit} : ∀ t : Tm Unit, (∀ x ∈ t.flat, x.kind = 0 → σ x.n = τ x.n) → subT σ t = subT τ t
  | .mk k n s e aa, h => by
    by_cases hk : k = 0
    · have := h (.mk k n s e aa) (by rw [flat_eq]; exact List.mem_cons_self ..) hk
      simp only [subT, if_pos hk]; exact this
    · simp only [subT, if_neg hk]
      rw [subTs_congr aa (fun x hx => h x (by rw [flat_eq]; exact List.mem_cons_of_mem _ hx))]
theorem subTs_congr {σ τ : Int → Tm Unit} : ∀ l : List (Tm Unit), (∀ x ∈ flats l, x.kind = 0 → σ x.n = τ x.n) → subTs σ l = subTs τ l
  | [], _ => rfl
  | x :: l, h => by
    simp only [subTs]; rw [subT_congr x (fun y hy => h y (by simp only [flats]; exact List.mem_append_left _ hy)), subTs_congr l (fun y hy => h y (by simp only [flats]; exact List.mem_append_right _ hy))]
end
mutual
theorem subT_subT {σ τ : Int → Tm Unit} : ∀ t : Tm Unit, subT τ (subT σ t) = subT (fun n => subT τ (σ n)) t
  | .mk k n s e aa => by
    by_cases hk : k = 0
    · simp only [subT, if_pos hk]
    · simp only [subT, if_neg hk, subTs_subTs aa]
theorem subTs_subTs {σ τ : Int → Tm Unit} : ∀ l : List (Tm Unit), subTs τ (subTs σ l) = subTs (fun n => subT τ (σ n)) l
  | [] => rfl
  | x :: l => by simp only [subTs, subT_subT x, subTs_subTs l]
end
mutual
theorem subT_V : ∀ t : Tm Unit, leafy t → subT V t = t
  | .mk k n s e aa, h => by
    by_cases hk : k = 0
    · have := h (.mk k n s e aa) (by rw [flat_eq]; exact List.mem_cons_self ..) hk
      simp only [subT, if_pos hk]; exact this.symm
    · simp only [subT, if_neg hk]
      rw [subTs_V aa (fun x hx => h x (by rw [flat_eq]; exact List.mem_cons_of_mem _ hx))]
theorem subTs_V : ∀ l : List (Tm Unit), (∀ x ∈ flats l, x.kind = 0 → x = V x.n) → subTs V l = l
  | [], _ => rfl
  | x :: l, h => by
    simp only [subTs]; rw [subT_V x (fun y hy => h y (by simp only [flats]; exact List.mem_append_left _ hy)), subTs_V l (fun y hy => h y (by simp only [flats]; exact List.mem_append_right _ hy))]
end
def ren (s : Int → Int) (t : Tm Unit) : Tm Unit := subT (fun n => V (s n)) t
def rens (s : Int → Int) (l : List (Tm Unit)) : List (Tm Unit) := subTs (fun n => V (s n)) l
theorem ren_kind (s : Int → Int) (t : Tm Unit) : (ren s t).kind = t.kind := by
  cases t with | mk k n nm e aa =>
  unfold ren
  by_cases hk : k = 0
  · simp only [subT, if_pos hk, V, kind]; exact hk.symm
  · simp only [subT, if_neg hk, kind]
theorem ren_n {s : Int → Int} {t : Tm Unit} (h : t.kind = 0) : (ren s t).n = s t.n := by
  cases t with | mk k n nm e aa =>
  unfold ren; simp only [kind] at h; simp only [subT, if_pos h, V, Tm.n]
mutual
theorem flat_ren (s : Int → Int) : ∀ t : Tm Unit, leafy t → (ren s t).flat = t.flat.map (ren s)
  | .mk k n nm e aa, h => by
    by_cases hk : k = 0
    · have := h (.mk k n nm e aa) (by rw [flat_eq]; exact List.mem_cons_self ..) hk
      rw [this]; simp only [Tm.n, V, flat, flats, ren, subT, if_pos, List.map_cons, List.map_nil]
    · have hr : ren s (.mk k n nm e aa) = .mk k n nm e (rens s aa) := by unfold ren rens; simp only [subT, if_neg hk]
      rw [flat_eq (.mk k n nm e aa), List.map_cons, hr, flat]; congr 1; exact flats_ren s aa (fun x hx => h x (by rw [flat_eq]; exact List.mem_cons_of_mem _ hx))
theorem flats_ren (s : Int → Int) : ∀ l : List (Tm Unit), (∀ x ∈ flats l, x.kind = 0 → x = V x.n) → flats (rens s l) = (flats l).map (ren s)
  | [], _ => rfl
  | x :: l, h => by
    show flats (ren s x :: rens s l) = _; simp only [flats, List.map_append]; rw [flat_ren s x (fun y hy => h y (by simp only [flats]; exact List.mem_append_left _ hy)), flats_ren s l (fun y hy => h y (by simp only [flats]; exact List.mem_append_right _ hy))]
end
theorem size_ren (s : Int → Int) {t : Tm Unit} (h : leafy t) : (ren s t).size = t.size := by rw [← flat_length, flat_ren s t h, List.length_map, flat_length]
mutual
theorem depth_ren (s : Int → Int) : ∀ t : Tm Unit, leafy t → (ren s t).depth = t.depth
  | .mk k n nm e aa, h => by
    by_cases hk : k = 0
    · have := h (.mk k n nm e aa) (by rw [flat_eq]; exact List.mem_cons_self ..) hk
      rw [this]; simp only [Tm.n, V, ren, subT, if_pos, depth, depths]
    · have hr : ren s (.mk k n nm e aa) = .mk k n nm e (rens s aa) := by unfold ren rens; simp only [subT, if_neg hk]
      rw [hr, depth, depth, depths_ren s aa (fun x hx => h x (by rw [flat_eq]; exact List.mem_cons_of_mem _ hx))]
theorem depths_ren (s : Int → Int) : ∀ l : List (Tm Unit), (∀ x ∈ flats l, x.kind = 0 → x = V x.n) → depths (rens s l) = depths l
  | [], _ => rfl
  | x :: l, h => by
    show depths (ren s x :: rens s l) = _; simp only [depths]; rw [depth_ren s x (fun y hy => h y (by simp only [flats]; exact List.mem_append_left _ hy)), depths_ren s l (fun y hy => h y (by simp only [flats]; exact List.mem_append_right _ hy))]
end
theorem vars_mem {t : Tm Unit} (n : Int) : n ∈ t.vars ↔ numsIn t n := by
  unfold vars numsIn; generalize t.flat = l
  suffices h : ∀ (l : List (Tm Unit)) (vs : List Int), n ∈ l.foldl addVar vs ↔ n ∈ vs ∨ ∃ x ∈ l, x.kind = 0 ∧ x.n = n by
    rw [h]; simp
  intro l
  induction l with
  | nil => intro vs; simp
  | cons y l ih =>
    intro vs; rw [List.foldl_cons, ih]; unfold addVar
    by_cases h : y.kind = 0 ∧ y.n ∉ vs
    · rw [if_pos h]
      simp only [List.mem_append, List.mem_cons, List.not_mem_nil, or_false, exists_eq_or_imp]; constructor
      · rintro ((h1 | h1) | h1)
        · exact .inl h1
        · exact .inr (.inl ⟨h.1, h1.symm⟩)
        · exact .inr (.inr h1)
      · rintro (h1 | h1 | h1)
        · exact .inl (.inl h1)
        · exact .inl (.inr h1.2.symm)
        · exact .inr h1
    · rw [if_neg h]
      simp only [List.mem_cons, exists_eq_or_imp]; constructor
      · rintro (h1 | h1)
        · exact .inl h1
        · exact .inr (.inr h1)
      · rintro (h1 | h1 | h1)
        · exact .inl h1
        · refine .inl ?_
          by_cases hm : y.n ∈ vs
          · rw [← h1.2]; exact hm
          · exact absurd ⟨h1.1, hm⟩ h
        · exact .inr h1
theorem vars_nodup {α : Type} (t : Tm α) : t.vars.Nodup := by
  unfold vars
  suffices h : ∀ (l : List (Tm α)) (vs : List Int), vs.Nodup → (l.foldl addVar vs).Nodup from h _ _ List.nodup_nil
  intro l
  induction l with
  | nil => intro vs h; exact h
  | cons y l ih =>
    intro vs h; rw [List.foldl_cons]; apply ih; unfold addVar
    split
    · rename_i hc
      rw [List.nodup_append]; exact ⟨h, List.nodup_cons.2 ⟨List.not_mem_nil, List.nodup_nil⟩, fun a ha b hb => by simp at hb; subst hb; exact fun e => hc.2 (e ▸ ha)⟩
    · exact h
def InjOn (s : Int → Int) (l : List Int) : Prop := ∀ a ∈ l, ∀ b ∈ l, s a = s b → a = b
theorem vars_ren {s : Int → Int} {t : Tm Unit} (h : leafy t) (hs : InjOn s t.vars) : (ren s t).vars = t.vars.map s := by
  have hs' : ∀ a b, numsIn t a → numsIn t b → s a = s b → a = b := fun a b ha hb => hs a ((vars_mem a).2 ha) b ((vars_mem b).2 hb)
  unfold vars; rw [flat_ren s t h]; unfold numsIn at hs'; revert hs'; clear hs h; generalize t.flat = l; intro hs'
  suffices hh : ∀ (r : List (Tm Unit)) (vs : List Int), (∀ x ∈ r, x ∈ l) → (∀ v ∈ vs, ∃ x ∈ l, x.kind = 0 ∧ x.n = v) → (r.map (ren s)).foldl addVar (vs.map s) = (r.foldl addVar vs).map s from
    hh l [] (fun _ h => h) (fun _ h => by cases h)
  intro r
  induction r with
  | nil => intro vs _ _; rfl
  | cons y r ih =>
    intro vs hr hv; simp only [List.map_cons, List.foldl_cons]; have hy := hr y (List.mem_cons_self ..)
    have e : addVar (vs.map s) (ren s y) = (addVar vs y).map s := by
      unfold addVar; rw [ren_kind]
      by_cases hk : y.kind = 0
      · rw [ren_n hk]
        have hm : s y.n ∈ vs.map s ↔ y.n ∈ vs := by
          constructor
          · intro hm
            obtain ⟨v, hv1, hv2⟩ := List.mem_map.1 hm; have := hs' v y.n (hv v hv1) ⟨y, hy, hk, rfl⟩ hv2; rw [← this]; exact hv1
          · exact fun hm => List.mem_map_of_mem hm
        by_cases hn : y.n ∈ vs
        · rw [if_neg (fun c => c.2 (hm.2 hn)), if_neg (fun c => c.2 hn)]
        · rw [if_pos ⟨hk, fun c => hn (hm.1 c)⟩, if_pos ⟨hk, hn⟩, List.map_append]; rfl
      · rw [if_neg (fun c => hk c.1), if_neg (fun c => hk c.1)]
    rw [e]; refine ih _ (fun x hx => hr x (List.mem_cons_of_mem _ hx)) ?_; intro v hv'; unfold addVar at hv'
    split at hv'
    · rename_i hc
      rcases List.mem_append.1 hv' with h1 | h1
      · exact hv v h1
      · simp at h1; exact ⟨y, hy, hc.1, h1.symm⟩
    · exact hv v hv'
def posOf (vs : List Int) (n : Int) : Nat := vs.idxOf n
theorem posOf_at {vs : List Int} (h : vs.Nodup) {i : Nat} {v : Int} (hi : vs[i]? = some v) : posOf vs v = i := by
  unfold posOf; obtain ⟨hl, rfl⟩ := List.getElem?_eq_some_iff.1 hi; exact List.Nodup.idxOf_getElem h i hl
theorem posOf_mem {vs : List Int} {n : Int} (h : n ∈ vs) : vs[posOf vs n]? = some n := by
  have hl := List.idxOf_lt_length_of_mem h; unfold posOf; rw [List.getElem?_eq_getElem hl, List.getElem_idxOf hl]
theorem posOf_map {vs : List Int} {s : Int → Int} (hs : InjOn s vs) (hnd : vs.Nodup) {n : Int} (h : n ∈ vs) : posOf (vs.map s) (s n) = posOf vs n := by
  have hnd' : (vs.map s).Nodup := by
    clear h
    induction vs with
    | nil => exact List.nodup_nil
    | cons v vs ih =>
      rw [List.map_cons, List.nodup_cons]; rw [List.nodup_cons] at hnd; refine ⟨fun hm => ?_, ih (fun a ha b hb => hs a (List.mem_cons_of_mem _ ha) b (List.mem_cons_of_mem _ hb)) hnd.2⟩; obtain ⟨u, hu1, hu2⟩ := List.mem_map.1 hm; have := hs u (List.mem_cons_of_mem _ hu1) v (List.mem_cons_self ..) hu2; exact hnd.1 (this ▸ hu1)
  refine posOf_at hnd' ?_; rw [List.getElem?_map, posOf_mem h]; rfl
def fromS (vs : List Int) (first : Int) (n : Int) : Int := first + (posOf vs n : Nat)
theorem fromS_inj (vs : List Int) (first : Int) : InjOn (fromS vs first) vs := by
  intro a ha b hb e; unfold fromS at e
  have e' : posOf vs a = posOf vs b := by omega
  have h1 := posOf_mem ha; have h2 := posOf_mem hb; rw [e', h2] at h1
  injection h1 with h1
  exact h1.symm
def fromT (t : Tm Unit) (first : Int) : Tm Unit := ren (fromS t.vars first) t
theorem ren_ren (s r : Int → Int) (t : Tm Unit) : ren r (ren s t) = ren (fun n => r (s n)) t := by
  unfold ren; rw [subT_subT]; congr 1
theorem ren_congr {s r : Int → Int} {t : Tm Unit} (h : ∀ n ∈ t.vars, s n = r n) : ren s t = ren r t :=
  subT_congr t (fun x hx hk => by rw [h x.n ((vars_mem _).2 ⟨x, hx, hk, rfl⟩)])
theorem fromT_ren {s : Int → Int} {t : Tm Unit} (h : leafy t) (hs : InjOn s t.vars) (first : Int) : fromT (ren s t) first = fromT t first := by
  unfold fromT; rw [vars_ren h hs, ren_ren]; refine ren_congr (fun n hn => ?_); unfold fromS; rw [posOf_map hs (vars_nodup t) hn]
end Tm
theorem good_leafy {t : Tm Unit} (h : goodB t = true) : Tm.leafy t := by
  unfold goodB at h; simp only [Bool.and_eq_true, decide_eq_true_eq, List.all_eq_true] at h; exact Tm.leafy_good h.2.2
theorem goodB_ren {s : Int → Int} {t : Tm Unit} (h : goodB t = true) (hs : ∀ n ∈ t.vars, 0 ≤ s n ∧ s n ≤ 2147483647) : goodB (Tm.ren s t) = true := by
  have hl := good_leafy h; unfold goodB at h ⊢; rw [Tm.size_ren s hl, Tm.depth_ren s t hl, Tm.flat_ren s t hl]; simp only [Bool.and_eq_true, decide_eq_true_eq, List.all_eq_true] at h ⊢; refine ⟨h.1, h.2.1, ?_⟩; intro x hx; obtain ⟨y, hy, rfl⟩ := List.mem_map.1 hx
  by_cases hk : y.kind = 0
  · have := hs y.n ((Tm.vars_mem _).2 ⟨y, hy, hk, rfl⟩)
    rw [hl y hy hk]; simp only [Tm.V, Tm.n, Tm.ren, Tm.subT, if_pos]; rw [goodOneB_0 _ rfl]; show (decide (0 ≤ s y.n) && (decide (s y.n ≤ 2147483647) && (decide (ByteArray.empty.toList = []) && decide (0 = 0)))) = true; rw [decide_eq_true this.1, decide_eq_true this.2, decide_eq_true ((bytes_nil _).2 rfl)]; rfl
  · have hy' := h.2.2 y hy
    cases y with | mk k n nm e aa =>
    have hr : Tm.ren s (.mk k n nm e aa) = .mk k n nm e (Tm.rens s aa) := by unfold Tm.ren Tm.rens; simp only [Tm.kind] at hk; simp only [Tm.subT, if_neg hk]
    rw [hr]; unfold goodOneB at hy' ⊢
    have e1 : (Tm.rens s aa).length = aa.length := by unfold Tm.rens; rw [Tm.subTs_eq, List.length_map]
    simp only [Tm.kind, Tm.n, Tm.name, Tm.args, e1] at hy' ⊢; exact hy'
theorem goodB_fromT {t : Tm Unit} {first : Int} (h : goodB t = true) (h0 : 0 ≤ first) (h1 : first + t.vars.length ≤ 2147483648) : goodB (Tm.fromT t first) = true := by
  refine goodB_ren h (fun n hn => ?_); have := List.idxOf_lt_length_of_mem hn; unfold Tm.fromS Tm.posOf; omega
namespace Tm
theorem same_unit (a b : Tm Unit) : same a b = true ↔ a = b := by rw [same_iff, bare_unit, bare_unit]
abbrev MM := Int → Option (Tm Unit)
def setM (m : MM) (n : Int) (b : Tm Unit) : MM := fun j => if j = n then some b else m j
mutual
def moreM (a b : Tm Unit) (m : MM) : Option MM :=
  match a with
  | .mk k n s _ aa =>
    if k = 0 then (match m n with | none => some (setM m n b) | some x => if same x b = true then some m else none)
    else if k = b.kind ∧ n = b.n ∧ s = b.name ∧ aa.length = b.args.length then moresM aa b.args m else none
def moresM (l r : List (Tm Unit)) (m : MM) : Option MM :=
  match l with
  | [] => some m
  | x :: l => (match r with | [] => some m | y :: r => (match moreM x y m with | none => none | some m => moresM l r m))
end
def Sub (m m' : MM) : Prop := ∀ n x, m n = some x → m' n = some x
theorem Sub.refl (m : MM) : Sub m m := fun _ _ h => h
theorem Sub.trans {a b c : MM} (h : Sub a b) (k : Sub b c) : Sub a c := fun n x e => k n x (h n x e)
def plainT (t : Tm Unit) : Tm Unit := fromT t 0
end Tm
end Go.Proofs.Ytoihjobdfjajfaa
namespace Go.Proofs.Ytoihjobdfjajfaa
open Go.RowKit
def valsM (g : Int → Option LT) : Int → Option Value := fun i => (g i).map LT.val
def baresM (g : Int → Option LT) : Int → Option (Tm Unit) := fun i => (g i).map Tm.bare
structure RepI (p : Nat → Prop) (σ : Tm Unit → Tm Unit) (N B2 : Nat) (t : LT) (w1 : World) (j : Nat) (us : List LT) (a : Option Addr) (c : Nat) (W : World) : Prop where
  bares : us.map Tm.bare = (t.args.take j).map fun x => σ x.bare
  blk : W.heap[B2]? = some (.cells #[.int .i64 t.kind, .int .i64 t.n, .string t.name, .slice a j c] 27 (0, 0))
  row : Row W 27 4 (.slice a j c) j (us.flatMap LT.cells)
  ins : LT.Ins (fun k => (p k ∨ N ≤ k) ∧ (Value.slice a j c).ownBlock ≠ some k) W us
  own : ∀ b, (Value.slice a j c).ownBlock = some b → N ≤ b
  turned : Turned (fun k => k = B2) w1 W
def RepS (p : Nat → Prop) (σ : Tm Unit → Tm Unit) (N B2 : Nat) (t x : LT) (w1 : World) (j : Nat) (us : List LT) (a : Option Addr) (c : Nat) (wr : World) : List Value → World → Prop
  | [], W => Turned (fun _ => False) wr W
  | [uv], W => Turned (fun _ => False) wr W ∧ ∃ u : LT, uv = u.val ∧ u.bare = σ x.bare ∧ u.In (fun k => p k ∨ wr.heap.size ≤ k) W
  | [_, sv], W => Turned (fun _ => False) wr W ∧ ∃ (u : LT) (g : Nat), sv = .slice (some ⟨g, 0, none⟩) 1 1 ∧ u.bare = σ x.bare ∧ u.In (fun k => p k ∨ wr.heap.size ≤ k) W ∧ W.heap[g]? = some (.cells u.cells.toArray 27 (0, 0))
  | [_, _, av], W => ∃ (u : LT) (g cap : Nat), av = .slice (some ⟨g, 0, none⟩) (j + 1) cap ∧ u.bare = σ x.bare ∧ Row W 27 4 av (j + 1) (us.flatMap LT.cells ++ u.cells) ∧ LT.In (fun k => (p k ∨ wr.heap.size ≤ k) ∧ k ≠ g) W u ∧ Turned (fun k => (Value.slice a j c).ownBlock = some k) wr W ∧ (some g = (Value.slice a j c).ownBlock ∨ wr.heap.size ≤ g)
  | [_, _, _, _], W => ∃ us' a' c', RepI p σ N B2 t w1 (j + 1) us' a' c' W
  | _, _ => False
theorem RepI.turned0 {p : Nat → Prop} {σ : Tm Unit → Tm Unit} {N B2 : Nat} {t : LT} {w1 : World} {j : Nat} {us : List LT} {a : Option Addr} {c : Nat} {w w' : World} (h : RepI p σ N B2 t w1 j us a c w) (ht : Turned (fun _ => False) w w') : RepI p σ N B2 t w1 j us a c w' :=
  ⟨h.bares, (ht.block B2 (Array.getElem?_eq_some_iff.1 h.blk).1 (fun f => f)).trans h.blk, h.row.turned0 ht, h.ins.turned0 ht, h.own, h.turned.trans (ht.mono (fun _ _ f => f.elim))⟩
theorem RepS.turned0 {p : Nat → Prop} {σ : Tm Unit → Tm Unit} {N B2 : Nat} {t x : LT} {w1 wr : World} {j : Nat} {us : List LT} {a : Option Addr} {c : Nat} : ∀ (hs : List Value) (w w' : World), RepS p σ N B2 t x w1 j us a c wr hs w → Turned (fun _ => False) w w' → RepS p σ N B2 t x w1 j us a c wr hs w'
  | [], w, w', h, ht => Turned.trans h ht
  | [uv], w, w', h, ht => by
    obtain ⟨h1, u, h2, h3, h4⟩ := h; exact ⟨h1.trans ht, u, h2, h3, h4.turned0 ht⟩
  | [_, sv], w, w', h, ht => by
    obtain ⟨h1, u, g, h2, h3, h4, h5⟩ := h; exact ⟨h1.trans ht, u, g, h2, h3, h4.turned0 ht, (ht.block g (Array.getElem?_eq_some_iff.1 h5).1 (fun f => f)).trans h5⟩
  | [_, _, av], w, w', h, ht => by
    obtain ⟨u, g, cap, h1, h2, h3, h4, h5, h6⟩ := h; exact ⟨u, g, cap, h1, h2, h3.turned0 ht, h4.turned0 ht, h5.trans (ht.mono (fun _ _ f => f.elim)), h6⟩
  | [_, _, _, _], w, w', h, ht => by
    obtain ⟨us', a', c', h⟩ := h; exact ⟨us', a', c', h.bares, (ht.block B2 (Array.getElem?_eq_some_iff.1 h.blk).1 (fun f => f)).trans h.blk, h.row.turned0 ht, h.ins.turned0 ht, h.own, h.turned.trans (ht.mono (fun _ _ f => f.elim))⟩
  | _ :: _ :: _ :: _ :: _ :: _, _, _, h, _ => h.elim
theorem RepS.blk {p : Nat → Prop} {σ : Tm Unit → Tm Unit} {N B2 : Nat} {t x : LT} {w1 wr : World} {j : Nat} {us : List LT} {a : Option Addr} {c : Nat} (h : RepI p σ N B2 t w1 j us a c wr) (hs : List Value) (W : World) (hle : hs.length ≤ 2) (hS : RepS p σ N B2 t x w1 j us a c wr hs W) :
    W.cell? ⟨B2, 0, none⟩ = some (.int .i64 t.kind) ∧ W.cell? ⟨B2, 1, none⟩ = some (.int .i64 t.n) ∧ W.cell? ⟨B2, 2, none⟩ = some (.string t.name) ∧ W.cell? ⟨B2, 3, none⟩ = some (.slice a j c) := by
  have hT : Turned (fun _ => False) wr W := by
    match hs, hle, hS with
    | [], _, h => exact h
    | [_], _, h => exact h.1
    | [_, _], _, h => exact h.1
  obtain ⟨q0, q1, q2, q3, _⟩ := cells4 ((hT.block B2 (Array.getElem?_eq_some_iff.1 h.blk).1 (fun f => f)).trans h.blk); exact ⟨q0, q1, q2, q3⟩
end Go.Proofs.Ytoihjobdfjajfaa
namespace Go.Proofs.Ytoihjobdfjajfaa
open Go
def edgeMask (ops : Array Oper) (i : Nat) : Nat := match ops[i]? with
  | none => 0
  | some o => o.after.toList.foldl (fun m e => if Region.binds .any e then m ||| 1 <<< e.on else m) 0
def reachMask (ops : Array Oper) (j : Nat) : Nat := (List.range (j + 1)).reverse.foldl (fun m i => if m.testBit i then m ||| edgeMask ops i else m) (1 <<< j)
theorem bit_one (k i : Nat) : (1 <<< k).testBit i = true ↔ k = i := by
  rw [Nat.one_shiftLeft, Nat.testBit_two_pow, decide_eq_true_eq]
theorem edgeMask_bit {ops : Array Oper} {i k : Nat} (h : (edgeMask ops i).testBit k = true) : ∃ o, ops[i]? = some o ∧ ∃ e ∈ o.after, Region.binds .any e = true ∧ e.on = k := by
  unfold edgeMask at h
  cases ho : ops[i]? with
  | none => rw [ho] at h; simp at h
  | some o =>
    rw [ho] at h; simp only at h; refine ⟨o, rfl, ?_⟩
    have key : ∀ (l : List Edge) (m : Nat), (l.foldl (fun m e => if Region.binds .any e then m ||| 1 <<< e.on else m) m).testBit k = true → m.testBit k = true ∨ ∃ e ∈ l, Region.binds .any e = true ∧ e.on = k := by
      intro l
      induction l with
      | nil => intro m h; exact .inl h
      | cons x l ih =>
        intro m h; rw [List.foldl_cons] at h
        rcases ih _ h with h | ⟨e, he, hb⟩
        · split at h
          · rename_i hb
            rw [Nat.testBit_or, Bool.or_eq_true] at h
            rcases h with h | h
            · exact .inl h
            · exact .inr ⟨x, List.mem_cons_self .., hb, (bit_one _ _).1 h⟩
          · exact .inl h
        · exact .inr ⟨e, List.mem_cons_of_mem _ he, hb⟩
    rcases key _ _ h with h | ⟨e, he, hb⟩
    · simp at h
    · exact ⟨e, by simpa using he, hb⟩
theorem waits_edge {ops : Array Oper} {i k : Nat} (he : ∃ o, ops[i]? = some o ∧ ∃ e ∈ o.after, Region.binds .any e = true ∧ e.on = k) : ∀ (n j : Nat), waits ops n j i = true → waits ops (n + 1) j k = true := by
  intro n
  induction n with
  | zero => intro j h; cases h
  | succ n ih =>
    intro j h; unfold waits at h ⊢
    cases ho : ops[j]? with
    | none => rw [ho] at h; cases h
    | some o =>
      rw [ho] at h; simp only at h ⊢; obtain ⟨e, hm, hb⟩ := (Array.any_eq_true').1 h; simp only [Bool.and_eq_true, Bool.or_eq_true, beq_iff_eq] at hb; refine (Array.any_eq_true').2 ⟨e, hm, ?_⟩; simp only [Bool.and_eq_true, Bool.or_eq_true, beq_iff_eq]; refine ⟨hb.1, .inr ?_⟩
      rcases hb.2 with hq | hq
      · subst hq
        obtain ⟨o', ho', e', he', hb', hon⟩ := he; unfold waits; rw [ho']; refine (Array.any_eq_true').2 ⟨e', he', ?_⟩; simp only [Bool.and_eq_true, Bool.or_eq_true, beq_iff_eq]; exact ⟨hb', .inl hon⟩
      · exact ih _ hq
theorem waits_one {ops : Array Oper} {i k : Nat} (he : ∃ o, ops[i]? = some o ∧ ∃ e ∈ o.after, Region.binds .any e = true ∧ e.on = k) : waits ops 1 i k = true := by
  obtain ⟨o', ho', e', he', hb', hon⟩ := he; unfold waits; rw [ho']; refine (Array.any_eq_true').2 ⟨e', he', ?_⟩; simp only [Bool.and_eq_true, Bool.or_eq_true, beq_iff_eq]; exact ⟨hb', .inl hon⟩
theorem reachMask_bit {ops : Array Oper} {j i : Nat} (h : (reachMask ops j).testBit i = true) : i = j ∨ ∃ n, waits ops n j i = true := by
  unfold reachMask at h
  have key : ∀ (l : List Nat) (m : Nat), (∀ i, m.testBit i = true → i = j ∨ ∃ n, waits ops n j i = true) → ∀ i, (l.foldl (fun m i => if m.testBit i then m ||| edgeMask ops i else m) m).testBit i = true → i = j ∨ ∃ n, waits ops n j i = true := by
    intro l
    induction l with
    | nil => intro m hm i h; exact hm i h
    | cons x l ih =>
      intro m hm i h; rw [List.foldl_cons] at h; refine ih _ ?_ i h; intro k hk
      split at hk
      · rename_i hx
        rw [Nat.testBit_or, Bool.or_eq_true] at hk
        rcases hk with hk | hk
        · exact hm k hk
        · have he := edgeMask_bit hk
          rcases hm x hx with rfl | ⟨n, hn⟩
          · exact .inr ⟨1, waits_one he⟩
          · exact .inr ⟨n + 1, waits_edge he n j hn⟩
      · exact hm k hk
  refine key _ _ (fun i h => ?_) i h; exact .inl ((bit_one _ _).1 h).symm
def chkStW (ops : Array Oper) (st : List Nat) : Bool :=
  st.all (fun i => decide (i < ops.size)) && (List.range st.length).all fun k => match st[k]?, st[k + 1]? with
    | some i, some j => decide (i < j) && (reachMask ops j).testBit i
    | _, _ => true
theorem chkSt_ltW {ops : Array Oper} {st : List Nat} (h : chkStW ops st = true) {k i : Nat} (hi : st[k]? = some i) : i < ops.size := by
  simp only [chkStW, Bool.and_eq_true, List.all_eq_true] at h; simpa using h.1 i (List.mem_of_getElem? hi)
theorem chkSt_nextW {ops : Array Oper} {st : List Nat} (h : chkStW ops st = true) {k i j : Nat} (hi : st[k]? = some i) (hj : st[k + 1]? = some j) : i < j ∧ ∃ n, waits ops n j i = true := by
  simp only [chkStW, Bool.and_eq_true, List.all_eq_true] at h; have := h.2 k (List.mem_range.2 (List.getElem?_eq_some_iff.1 hi).1); rw [hi, hj] at this; simp only [Bool.and_eq_true, decide_eq_true_eq] at this; refine ⟨this.1, ?_⟩
  rcases reachMask_bit this.2 with e | e
  · omega
  · exact e
theorem chkSt_monoW {ops : Array Oper} {st : List Nat} (h : chkStW ops st = true) (d : Nat) : ∀ {k i j : Nat}, st[k]? = some i → st[k + d + 1]? = some j → i < j := by
  induction d with
  | zero => intro k i j hi hj; exact (chkSt_nextW h hi hj).1
  | succ d ih =>
    intro k i j hi hj
    have hlt : k + d + 1 < st.length := by have := (List.getElem?_eq_some_iff.1 hj).1; omega
    have hm : st[k + d + 1]? = some st[k + d + 1] := List.getElem?_eq_getElem hlt; have h1 := ih hi hm; have h2 := (chkSt_nextW h hm (by rw [show k + d + 1 + 1 = k + (d + 1) + 1 from by omega]; exact hj)).1; omega
theorem chkSt_injW {ops : Array Oper} {st : List Nat} (h : chkStW ops st = true) {k k' i : Nat} (hi : st[k]? = some i) (hj : st[k']? = some i) : k = k' := by
  rcases Nat.lt_trichotomy k k' with hl | hl | hl
  · have := chkSt_monoW h (k' - k - 1) hi (by rw [show k + (k' - k - 1) + 1 = k' from by omega]; exact hj)
    omega
  · exact hl
  · have := chkSt_monoW h (k - k' - 1) hj (by rw [show k' + (k - k' - 1) + 1 = k from by omega]; exact hi)
    omega
section
variable {P : Program} {G : List Value → Tmp → Value → World → Prop} {ops : Array Oper} {a0 : Act} {w0 : World} {Q : Exit → Act → World → Prop} {st : List Nat} {R : List Value → World → Prop} {Step : World → World → Prop}
theorem InvS.hereW {listed : Array Bool} {hs : List Value} {m : Nat} {w : World} (h : InvS ops st R listed hs m w) (hst : chkStW ops st = true) {i k : Nat} (hp : posOf st i = some k) (hr : i ∈ Region.ready .any ops listed) : k = m := by
  obtain ⟨hf, o, ho, hall⟩ := mem_ready.1 hr; have hk := posOf_some hp; have h1 := h.done k i hk
  have hmk : m ≤ k := by
    have : listed.getD i false = false := by
      have hf' := hf; simp only [Array.getD_eq_getD_getElem?] at hf' ⊢
      cases h : listed[i]? with
      | none => rfl
      | some b => rw [h] at hf'; simpa using hf'
    rw [this] at h1; have := of_decide_eq_false h1.symm; omega
  by_cases e : k = m
  · exact e
  · exfalso
    have hk1 : st[k - 1]? = some (st[k - 1]'(by have := (List.getElem?_eq_some_iff.1 hk).1; omega)) := List.getElem?_eq_getElem _; obtain ⟨_, hedge⟩ := chkSt_nextW hst hk1 (by rw [show k - 1 + 1 = k from by omega]; exact hk); have h2 := h.done _ _ hk1
    have h3 : listed.getD (st[k - 1]'(by have := (List.getElem?_eq_some_iff.1 hk).1; omega)) false = true := by
      obtain ⟨n, hedge⟩ := hedge
      cases n with
      | zero => cases hedge
      | succ n =>
      unfold waits at hedge; rw [ho] at hedge; obtain ⟨e', he', hb⟩ := (Array.any_eq_true').1 hedge; simp only [Bool.and_eq_true, Bool.or_eq_true, beq_iff_eq] at hb; have h4 := hall e' he' hb.1
      rcases hb.2 with hq | hq
      · rw [← hq]; exact h4
      · exact waits_listed h.shut n _ _ hq h4
    rw [h3] at h2; have := of_decide_eq_true h2.symm; omega
theorem InvS.nextW {listed : Array Bool} {hs : List Value} {m : Nat} {w w' : World} (h : InvS ops st R listed hs m w) (hst : chkStW ops st = true) (hl : listed.size = ops.size) {i : Nat} (hr : i ∈ Region.ready .any ops listed) (hp : posOf st i = some m) {v : Value} (hR : R (hs ++ [v]) w') : InvS ops st R (listed.setIfInBounds i true) (hs ++ [v]) (m + 1) w' := by
  have hk := posOf_some hp; have hlt := (List.getElem?_eq_some_iff.1 hk).1; refine ⟨hlt, by rw [List.length_append, h.len]; rfl, hR, fun k j hj => ?_, shut_set h.shut hl hr⟩
  by_cases e : j = i
  · subst e
    have := chkSt_injW hst hj hk; subst this
    have hb : j < listed.size := by rw [hl]; exact chkSt_ltW hst hk
    simp [hb]
  · rw [getD_set_ne false (Ne.symm e), h.done k j hj, decide_eq_decide]
    have hne : k ≠ m := fun e' => by subst e'; rw [hk] at hj; injection hj with hj; exact e hj.symm
    omega
theorem st_goW (hc : chkAny ops a0.tmps.size = true) (hst : chkStW ops st = true) (hG : ∀ hs d v w w', Step w w' → G hs d v w → G hs d v w') (hG2 : ∀ hs x d v w, G hs d v w → G (hs ++ [x]) d v w) (hs : StepsAt P G ops a0 st R Step 0 ops.toList)
    (hQ : ∀ hs a w, hs.length = st.length → R hs w → (∀ s, Looks (G hs) ops a0 a w s) → a.defers = a0.defers → a.tmps.size = a0.tmps.size → Q .normal a w) :
    ∀ (fuel : Nat) (listed : Array Bool) (a : Act) (w : World) (hs : List Value) (m : Nat), listed.toList.count false ≤ fuel → InvS ops st R listed hs m w → InvA (G hs) ops a0 a listed w → wpAny P .any ops Q fuel listed a w := by
  intro fuel
  have hend : ∀ (listed : Array Bool) (a : Act) (w : World) (hs : List Value) (m : Nat), InvS ops st R listed hs m w → InvA (G hs) ops a0 a listed w → Region.ready .any ops listed = [] → Q .normal a w := by
    intro listed a w hs m hT hI hr; have hall := all_listed hc hI.lsize hr
    have hm : m = st.length := by
      rcases Nat.lt_or_ge m st.length with hl | hl
      · have hk : st[m]? = some st[m] := List.getElem?_eq_getElem hl
        have h1 := hT.done m _ hk; rw [hall _ (chkSt_ltW hst hk)] at h1; have := of_decide_eq_true h1.symm; omega
      · have := hT.le; omega
    subst hm; refine hQ hs a w hT.len hT.state (fun s => ?_) hI.defers hI.size; unfold Looks
    split
    · rename_i hm
      obtain ⟨oj, hoj, hd⟩ := List.mem_filterMap.1 hm; obtain ⟨j, hj⟩ := List.getElem?_of_mem hoj; rw [Array.getElem?_toList] at hj; exact hI.done j oj s hj hd (hall j (Array.getElem?_eq_some_iff.1 hj).1)
    · rename_i hm
      refine hI.rest s fun j oj hj hd => absurd (List.mem_filterMap.2 ⟨oj, ?_, hd⟩) hm
      exact List.mem_of_getElem? (by rw [Array.getElem?_toList]; exact hj)
  induction fuel with
  | zero =>
    intro listed a w hs' m hf hT hI
    have hr : Region.ready .any ops listed = [] := by
      apply List.eq_nil_iff_forall_not_mem.2; intro i hi; obtain ⟨hfalse, o, ho, _⟩ := mem_ready.1 hi
      have hlt : i < listed.size := by rw [hI.lsize]; exact (Array.getElem?_eq_some_iff.1 ho).1
      simp [hlt] at hfalse
      have : false ∈ listed.toList := by rw [← hfalse]; exact Array.getElem_mem_toList hlt
      have := List.count_pos_iff.2 this; omega
    exact ⟨hr, hend _ _ _ _ _ hT hI hr⟩
  | succ fuel ih =>
    intro listed a w hs' m hf hT hI; refine ⟨hend _ _ _ _ _ hT hI, fun i hi => ?_⟩; obtain ⟨hfalse, o, ho, _⟩ := mem_ready.1 hi
    have hlt : i < listed.size := by rw [hI.lsize]; exact (Array.getElem?_eq_some_iff.1 ho).1
    have hcnt : (listed.setIfInBounds i true).toList.count false ≤ fuel := by
      have h1 : listed.toList[i]? = some false := by
        simp [hlt] at hfalse; rw [Array.getElem?_toList, Array.getElem?_eq_getElem hlt, hfalse]
      have := count_set h1; rw [Array.toList_setIfInBounds]; omega
    have hst1 := hs.at (j := i) (o := o) (by rw [Array.getElem?_toList]; exact ho); rw [Nat.zero_add] at hst1; unfold wpOp; simp only [ho]; unfold StepAt at hst1
    cases hp : posOf st i with
    | none =>
      rw [hp] at hst1
      have hst2 := hst1 hs' (by rw [hT.len]; exact hT.le) (fun k j n hk hedge => by
        rw [hT.len]; have h1 := hT.done k j hk
        rcases Nat.lt_or_ge k m with hl | hl
        · exfalso
          have h2 := waits_listed hT.shut n j i hedge (by rw [h1]; exact decide_eq_true hl)
          have h3 : listed.getD i true = false := by simpa using hfalse
          simp only [Array.getD_eq_getD_getElem?] at h2 h3
          cases hx : listed[i]? with
          | none => rw [hx] at h2; simp at h2
          | some b => rw [hx] at h2 h3; simp at h2 h3; rw [h2] at h3; cases h3
        · exact hl) a w hT.state (hI.looks hc ho hi)
      split
      · rename_i hw
        refine .inl ?_
        exact Brings.upon (hst2.1 hw) fun v w' hv => ih _ _ _ hs' m hcnt (hT.other hp hI.lsize hi hv.1) (hI.stepG hc (fun d v => hG hs' d v _ _ hv.2.1) ho hv.2.2)
      · rename_i hw
        have := hst2.2 (by simpa using hw); exact ih _ _ _ hs' m hcnt (hT.other hp hI.lsize hi this.1) (hI.stepG hc (fun d v h => h) ho this.2.2)
    | some k =>
      rw [hp] at hst1; have hkm := InvS.hereW hT hst hp hi; subst hkm; have hst2 := hst1 hs' hT.len a w hT.state (hI.looks hc ho hi)
      split
      · rename_i hw
        refine .inl ?_
        exact Brings.upon (hst2.1 hw) fun v w' hv => ih _ _ _ (hs' ++ [v]) (k + 1) hcnt (InvS.nextW hT hst hI.lsize hi hp hv.1) (hI.stepG hc (fun d u h => hG2 _ _ _ _ _ (hG hs' d u _ _ hv.2.1 h)) ho hv.2.2)
      · rename_i hw
        have := hst2.2 (by simpa using hw); exact ih _ _ _ (hs' ++ [undef]) (k + 1) hcnt (InvS.nextW hT hst hI.lsize hi hp this.1) (hI.stepG hc (fun d u h => hG2 _ _ _ _ _ h) ho this.2.2)
theorem wp_region_stW {id : Nat} (dl : List Tmp) (st : List Nat) (R : List Value → World → Prop) (Step : World → World → Prop) (hdl : ops.toList.filterMap (·.dst) = dl) (hm : P.follows .mixedOrders = true) (hc : chkAny ops a0.tmps.size = true) (hst : chkStW ops st = true) (hR : ∀ w, Turned (fun _ => False) w0 w → R [] w) (hG : ∀ hs d v w w', Step w w' → G hs d v w → G hs d v w') (hG2 : ∀ hs x d v w, G hs d v w → G (hs ++ [x]) d v w) (hs : StepsAt P G ops a0 st R Step 0 ops.toList)
    (hQ : ∀ (hs : List Value) (vs : Tmp → Value) w, hs.length = st.length → R hs w → (∀ s ∈ dl, G hs s (vs s) w) → Q .normal ⟨dl.foldl (fun t d => t.setIfInBounds d (vs d)) a0.tmps, a0.defers⟩ w) : (Code.region id ops true).wp P Q a0 w0 := by
  refine wp_region_any hm (st_goW hc hst hG hG2 hs ?_ _ _ _ _ [] 0 ?_ ⟨Nat.zero_le _, rfl, hR _ ((Turned.refl _ w0).drew), fun k i hi => ?_, fun j o ho hj => ?_⟩ ?_)
  · intro hs a w hlen hR hL hd hsz
    have := hQ hs (fun d => a.tmps.getD d undef) w hlen hR (fun s hs => by
      have := hL s; unfold Looks at this; rw [hdl, if_pos hs] at this
      exact this)
    have e : a = ⟨dl.foldl (fun t d => t.setIfInBounds d (a.tmps.getD d undef)) a0.tmps, a0.defers⟩ := by
      cases a with | mk tmps defers =>
      simp only at hd hsz this ⊢; subst hd; congr 1; apply Array.ext
      · rw [fold_size]; exact hsz
      · intro i h1 h2
        have h3 : i < a0.tmps.size := by rw [← hsz]; exact h1
        have hf := fold_getD (fun d => tmps.getD d undef) dl a0.tmps i h3; have hl := hL i; unfold Looks at hl; rw [hdl] at hl; have e1 := getD_lt tmps i h1; have e2 := getD_lt _ i h2; rw [← e1, ← e2, hf]
        by_cases hm : i ∈ dl
        · rw [if_pos hm]
        · rw [if_neg hm] at hl ⊢
          exact hl
    rw [e]; exact this
  · rw [Array.toList_replicate, List.count_replicate_self]
    exact Nat.le_refl _
  · have hlt := chkSt_ltW hst hi
    simp [hlt]
  · have hlt := (Array.getElem?_eq_some_iff.1 ho).1
    simp [hlt] at hj
  · refine ⟨rfl, rfl, by simp, fun j oj d hj hd hl => ?_, fun d _ => rfl⟩
    have hlt := (Array.getElem?_eq_some_iff.1 hj).1; simp [hlt] at hl
end
def chkBdW (ops : Array Oper) (st bd : List Nat) : Bool :=
  (List.range ops.size).all fun i => bd.getD i st.length == st.length || match st[bd.getD i st.length]? with
    | none => false
    | some j => !(j == i) && (reachMask ops j).testBit i
theorem chkBd_atW {ops : Array Oper} {st bd : List Nat} (h : chkBdW ops st bd = true) {i : Nat} {o : Oper} (ho : ops[i]? = some o) {hs : List Value} (h1 : hs.length ≤ st.length)
    (h2 : ∀ k j n, st[k]? = some j → waits ops n j i = true → hs.length ≤ k) : hs.length ≤ bd.getD i st.length := by
  have := List.all_eq_true.1 h i (List.mem_range.2 (Array.getElem?_eq_some_iff.1 ho).1); rw [Bool.or_eq_true] at this
  rcases this with this | this
  · rw [beq_iff_eq] at this; omega
  · cases hj : st[bd.getD i st.length]? with
    | none => rw [hj] at this; cases this
    | some j =>
      rw [hj] at this; simp only [Bool.and_eq_true, Bool.not_eq_true', beq_eq_false_iff_ne] at this
      rcases reachMask_bit this.2 with e | ⟨n, hn⟩
      · exact absurd e.symm this.1
      · exact h2 _ j n hj hn
section
variable {P : Program} {hist : List Tmp} {GL : Tmp → Value → Prop} {ops : Array Oper} {a0 : Act} {w0 : World} {Q : Exit → Act → World → Prop} {st bd : List Nat} {R : List Value → World → Prop}
theorem StepsH.upW (hh : chkHist ops st hist = true) (hb0 : chkBdW ops st bd = true) (hRt : ∀ hs w w', R hs w → Turned (fun _ => False) w w' → R hs w') : ∀ (l : List Oper) (b : Nat), (∀ j o, l[j]? = some o → ops[b + j]? = some o) → StepsH P hist GL ops a0 st bd R b l → StepsAt P (fun hs d v _ => GH hist GL hs d v) ops a0 st R (fun _ _ => True) b l := by
  intro l
  induction l with
  | nil => intro b _ _; trivial
  | cons o l ih =>
    intro b hb hs; refine ⟨?_, ih (b + 1) (fun j x hx => by have := hb (j + 1) x (by simpa using hx); rwa [show b + (j + 1) = b + 1 + j from by omega] at this) hs.2⟩; have ho : ops[b]? = some o := hb 0 o (by simp); have h1 := hs.1; unfold StepH at h1; unfold StepAt
    cases hp : posOf st b with
    | none =>
      rw [hp] at h1; intro hl hl1 hl2 a w hR hL; obtain ⟨k1, k2⟩ := h1 hl (chkBd_atW hb0 ho hl1 hl2) a w hR hL
      have hg : ∀ v, GDL GL o.dst v → ∀ w', GD (fun d v _ => GH hist GL hl d v) o.dst v w' := by
        intro v hv w'
        cases hd : o.dst with
        | none => trivial
        | some d =>
          rw [hd] at hv; show GH hist GL hl d v; unfold GH; rw [chkHist_at hh ho hd, hp]; exact hv
      refine ⟨fun hw => (k1 hw).mono fun v w' hv => ⟨hRt _ _ _ hR hv.1, trivial, hg v hv.2 _⟩, fun hw => ⟨hR, trivial, hg _ (k2 hw).2 _⟩⟩
    | some k =>
      rw [hp] at h1; intro hl hk a w hR hL; obtain ⟨k1, k2⟩ := h1 hl hk a w hR hL
      have hg : ∀ v w', GD (fun d v _ => GH hist GL (hl ++ [v]) d v) o.dst v w' := by
        intro v w'
        cases hd : o.dst with
        | none => trivial
        | some d =>
          show GH hist GL (hl ++ [v]) d v; unfold GH; rw [chkHist_at hh ho hd, hp]; simp only; rw [← hk]; simp
      refine ⟨fun hw => (k1 hw).mono fun v w' hv => ⟨hv, trivial, ?_⟩, fun hw => ⟨k2 hw, trivial, ?_⟩⟩
      · have := hg v w'
        cases hd : o.dst with
        | none => trivial
        | some d => rw [hd] at this; exact this
      · have := hg undef w
        cases hd : o.dst with
        | none => trivial
        | some d => rw [hd] at this; exact this
theorem wp_region_hsW {id : Nat} (dl : List Tmp) (st bd : List Nat) (hist : List Tmp) (GL : Tmp → Value → Prop) (R : List Value → World → Prop) (hdl : ops.toList.filterMap (·.dst) = dl) (hm : P.follows .mixedOrders = true) (hc : chkAny ops a0.tmps.size = true) (hst : chkStW ops st = true) (hh : chkHist ops st hist = true) (hb : chkBdW ops st bd = true)
    (hR0 : ∀ w, Turned (fun _ => False) w0 w → R [] w) (hRt : ∀ hs w w', R hs w → Turned (fun _ => False) w w' → R hs w') (hs : StepsH P hist GL ops a0 st bd R 0 ops.toList)
    (hQ : ∀ (hs : List Value) (vs : Tmp → Value) w, hs.length = st.length → R hs w → (∀ s ∈ dl, GH hist GL hs s (vs s)) → Q .normal ⟨dl.foldl (fun t d => t.setIfInBounds d (vs d)) a0.tmps, a0.defers⟩ w) : (Code.region id ops true).wp P Q a0 w0 := by
  refine wp_region_stW (G := fun hs d v _ => GH hist GL hs d v) dl st R (fun _ _ => True) hdl hm hc hst hR0 (fun _ _ _ _ _ _ h => h) (fun hl x d v _ h => ?_) (StepsH.upW hh hb hRt _ 0 (fun j o ho => by rw [Nat.zero_add]; rwa [Array.getElem?_toList] at ho) hs) hQ; show GH hist GL (hl ++ [x]) d v; have h' : GH hist GL hl d v := h; unfold GH at h' ⊢
  split at h'
  · rename_i k hk
    exact (List.getElem?_append_left (List.getElem?_eq_some_iff.1 h').1).trans h'
  · exact h'
end
end Go.Proofs.Ytoihjobdfjajfaa
namespace Go.Proofs.Ytoihjobdfjajfaa
open Go.RowKit
theorem leafIn' {p : Nat → Prop} {w : World} {k n : Int} {s : ByteArray} (h1 : I64 k) (h2 : I64 n) (h3 : s.size ≤ maxLen) : (leaf k n s).In p w :=
  LT.In.mk h1 h2 h3 (Nat.le_refl _) (by unfold maxLen; omega) (fun _ => ⟨rfl, rfl⟩) (fun h => absurd h (by decide)) trivial
end Go.Proofs.Ytoihjobdfjajfaa
namespace Go.Proofs.Ytoihjobdfjajfaa
open Go.RowKit Go.Maps
def gmap (vs : List Int) (first : Int) (j : Nat) : Int → Option LT := fun n => if n ∈ vs.take j then some (leaf 0 (Tm.fromS vs first n) ByteArray.empty) else none
theorem gmap_none {vs : List Int} {first : Int} {j : Nat} {n : Int} (hnd : vs.Nodup) (h : vs[j]? = some n) : gmap vs first j n = none := by
  unfold gmap; rw [if_neg]; intro hm; obtain ⟨i, hi⟩ := List.getElem?_of_mem hm; obtain ⟨hl, _⟩ := List.getElem?_eq_some_iff.1 hi; rw [List.length_take] at hl; rw [List.getElem?_take_of_lt (by omega)] at hi; have h1 := Tm.posOf_at hnd hi; have h2 := Tm.posOf_at hnd h; omega
theorem gmap_succ {vs : List Int} {first : Int} {j : Nat} {n : Int} (hnd : vs.Nodup) (h : vs[j]? = some n) :
    upd (valsM (gmap vs first j)) n (.agg #[.int .i64 0, .int .i64 (first + (j : Int)), .string ByteArray.empty, .slice none 0 0]) = valsM (gmap vs first (j + 1)) := by
  funext m
  unfold upd valsM gmap
  have e : vs.take (j + 1) = vs.take j ++ [n] := by rw [List.take_add_one, h]; rfl
  by_cases hm : m = n
  · subst hm
    rw [if_pos rfl, if_pos (by rw [e]; simp)]; unfold Tm.fromS; rw [Tm.posOf_at hnd h]; rfl
  · rw [if_neg hm]
    have : m ∈ vs.take (j + 1) ↔ m ∈ vs.take j := by rw [e]; simp [hm]
    by_cases hq : m ∈ vs.take j
    · rw [if_pos hq, if_pos (this.2 hq)]
    · rw [if_neg hq, if_neg (fun c => hq (this.1 c))]
theorem good_nums {t : LT} (hg : goodB t = true) : ∀ n ∈ t.vars, 0 ≤ n ∧ n ≤ 2147483647 := by
  intro n hn; rw [← Tm.vars_bare] at hn; obtain ⟨x, hx, hk, rfl⟩ := (Tm.vars_mem n).1 hn; rw [← goodB_bare] at hg; unfold goodB at hg; simp only [Bool.and_eq_true, decide_eq_true_eq, List.all_eq_true] at hg; have := hg.2.2 x hx; rw [goodOneB_0 x hk] at this; simp only [Bool.and_eq_true, decide_eq_true_eq] at this; exact ⟨this.1, this.2.1⟩
theorem results_cell_tmp2 {P : Program} {fn : Func} {s q p : Tmp} {ty : TypeId} (h : fn.results = #[.cell p ty, .tmp s, .tmp q]) (tmps : Array Value) (w : World) (g : Nat) (t : TypeId) (cs : Array Value) (fr : Nat × Nat) (d : TypeDesc)
    (hp : tmps.getD p undef = .pointer (some ⟨g, 0, none⟩)) (hg : w.heap[g]? = some (.cells cs t fr))
    (hu : P.underlying ty = some d) (hd : (match d with | .struct _ | .array _ _ => true | _ => false) = true) (hi : (P.info? ty).map (·.size) = some cs.size) :
    (results fn tmps).run P w = .ok (.tuple #[.agg cs, tmps.getD s undef, tmps.getD q undef]) w := by
  have hp' : tmps[p]?.getD undef = .pointer (some ⟨g, 0, none⟩) := by simpa using hp
  simp [results, h, hp', asAddr, run_loadVar_row w g t ty cs fr d hg hu hd hi]
theorem results_cell_tmp1 {P : Program} {fn : Func} {s p : Tmp} {ty : TypeId} (h : fn.results = #[.cell p ty, .tmp s]) (tmps : Array Value) (w : World) (g : Nat) (t : TypeId) (cs : Array Value) (fr : Nat × Nat) (d : TypeDesc)
    (hp : tmps.getD p undef = .pointer (some ⟨g, 0, none⟩)) (hg : w.heap[g]? = some (.cells cs t fr))
    (hu : P.underlying ty = some d) (hd : (match d with | .struct _ | .array _ _ => true | _ => false) = true) (hi : (P.info? ty).map (·.size) = some cs.size) :
    (results fn tmps).run P w = .ok (.tuple #[.agg cs, tmps.getD s undef]) w := by
  have hp' : tmps[p]?.getD undef = .pointer (some ⟨g, 0, none⟩) := by simpa using hp
  simp [results, h, hp', asAddr, run_loadVar_row w g t ty cs fr d hg hu hd hi]
def FromR (t : Tm Unit) (first : Int) (u : Tm Unit) (m er : Int) : Prop :=
  if goodB t = true ∧ 0 ≤ first ∧ first ≤ 2147483647 then
    (if first + (t.vars.length : Int) ≤ 2147483648 then er = 0 ∧ m = first + (t.vars.length : Int) ∧ u = Tm.fromT t first else er = 3 ∧ m = 0 ∧ u = Tm.V 0)
  else er = 1 ∧ m = 0 ∧ u = Tm.V 0
structure FromI (w : World) (mb : Nat) (t : LT) (vs : List Int) (first : Int) (v : Value) (j : Nat) (W : World) : Prop where
  b0 : W.heap[w.heap.size]? = some (.cells #[.int .i64 t.kind, .int .i64 t.n, .string t.name, .slice t.at_.1 t.args.length t.at_.2] 27 (0, 0))
  b1 : W.heap[w.heap.size + 1]? = some (.cells #[.int .i64 0, .int .i64 0, .string ⟨#[]⟩, .slice none 0 0] 27 (0, 0))
  map : IMap Try.prog 2 W mb j (valsM (gmap vs first j))
  row : Row W 2 1 v vs.length (vs.map (Value.int .i64))
  turned : Turned (fun _ => False) w W
  ne : v.ownBlock ≠ some mb
  lt : w.heap.size + 1 < mb
theorem FromI.turned0 {w w1 w2 : World} {mb : Nat} {t : LT} {vs : List Int} {first : Int} {v : Value} {j : Nat} (h : FromI w mb t vs first v j w1) (ht : Turned (fun _ => False) w1 w2) : FromI w mb t vs first v j w2 :=
  ⟨(ht.block _ (Array.getElem?_eq_some_iff.1 h.b0).1 (fun f => f)).trans h.b0, (ht.block _ (Array.getElem?_eq_some_iff.1 h.b1).1 (fun f => f)).trans h.b1, h.map.turned ht (fun f => f), h.row.turned0 ht, h.turned.trans ht, h.ne, h.lt⟩
theorem FromI.put {w w1 w2 : World} {mb : Nat} {t : LT} {vs : List Int} {first : Int} {v : Value} {j : Nat} {n : Int} (h : FromI w mb t vs first v j w1) (hnd : vs.Nodup) (hn : vs[j]? = some n) (ht : Turned (· = mb) w1 w2)
    (hm : IMap Try.prog 2 w2 mb (if (valsM (gmap vs first j) n).isSome then j else j + 1) (upd (valsM (gmap vs first j)) n (.agg #[.int .i64 0, .int .i64 (first + (j : Int)), .string ByteArray.empty, .slice none 0 0]))) : FromI w mb t vs first v (j + 1) w2 := by
  have h0 : valsM (gmap vs first j) n = none := by unfold valsM; rw [gmap_none hnd hn]; rfl
  rw [h0, gmap_succ hnd hn] at hm; have hlt := h.lt
  exact ⟨(ht.block _ (Array.getElem?_eq_some_iff.1 h.b0).1 (by omega)).trans h.b0, (ht.block _ (Array.getElem?_eq_some_iff.1 h.b1).1 (by omega)).trans h.b1, hm, h.row.turned ht (fun k hk e => h.ne (by rw [hk, e])),
    h.turned.step ht (fun i hi e => by omega), h.ne, h.lt⟩
theorem varE (n : Int) (hn : I64 n) (w : World) : Calls Try.prog 62 #[.int .i64 n] w fun e w' => e = .returned (.agg #[.int .i64 0, .int .i64 n, .string ByteArray.empty, .slice none 0 0]) ∧ Turned (fun _ => False) w w' :=
  (varV n hn w).mono fun e w' ⟨h1, _, h3⟩ => ⟨h1, h3⟩
theorem vtIn {p : Nat → Prop} {W : World} : (leaf 0 0 ByteArray.empty).In p W := leafIn' (i64_lit _ (by omega)) (i64_lit _ (by omega)) (by unfold maxLen; decide)
end Go.Proofs.Ytoihjobdfjajfaa
namespace Go.Proofs.Ytoihjobdfjajfaa
open Go.RowKit Go.Maps
theorem fromR_good {t u : Tm Unit} {m er : Int} (hg : goodB t = true) (h : FromR t 0 u m er) : er = 0 ∧ m = (t.vars.length : Int) ∧ u = Tm.plainT t := by
  have hle := varsB_le t; unfold varsB at hle; rw [if_pos hg] at hle; unfold FromR at h; rw [if_pos ⟨hg, by omega, by omega⟩, if_pos (by omega)] at h; exact ⟨h.1, by rw [h.2.1]; omega, h.2.2⟩
theorem fromR_bad {t u : Tm Unit} {first m er : Int} (hg : goodB t = false) (h : FromR t first u m er) : er = 1 ∧ m = 0 ∧ u = Tm.V 0 := by
  unfold FromR at h; rw [if_neg (by rw [hg]; simp)] at h; exact h
theorem plain_good {t : Tm Unit} (hg : goodB t = true) : goodB (Tm.plainT t) = true := by
  have hle := varsB_le t; unfold varsB at hle; rw [if_pos hg] at hle; exact goodB_fromT hg (by omega) (by omega)
theorem same_bares {α β : Type} (a : Tm α) (b : Tm β) : Tm.same a b = Tm.same a.bare b.bare := by
  rw [Bool.eq_iff_iff, Tm.same_iff, Tm.same_iff, Tm.bare_unit, Tm.bare_unit]
def alikeB {α β : Type} (a : Tm α) (b : Tm β) : Bool := goodB a && (goodB b && Tm.same (Tm.plainT a.bare) (Tm.plainT b.bare))
end Go.Proofs.Ytoihjobdfjajfaa
namespace Go.Proofs.Ytoihjobdfjajfaa
namespace Tm
theorem numsIn_V {i v : Int} : numsIn (V i) v ↔ v = i := by
  unfold numsIn V; constructor
  · rintro ⟨x, hx, _, rfl⟩
    simp only [flat, flats, List.mem_cons, List.not_mem_nil, or_false] at hx; subst hx; rfl
  · rintro rfl
    exact ⟨_, by simp only [flat, flats]; exact List.mem_cons_self .., rfl, rfl⟩
theorem flat_V (i : Int) : (V i).flat = [V i] := by unfold V; simp only [flat, flats]
theorem leafy_V (i : Int) : leafy (V i) := by
  intro x hx hk; rw [flat_V] at hx; simp only [List.mem_cons, List.not_mem_nil, or_false] at hx; subst hx; rfl
theorem leafy_self {t : Tm Unit} (h : leafy t) (hk : t.kind = 0) : t = V t.n := h t (by rw [flat_eq]; exact List.mem_cons_self ..) hk
theorem numsIn_mk {k n : Int} {s : ByteArray} {e : Unit} {aa : List (Tm Unit)} {v : Int} (hk : ¬ k = 0) : numsIn (.mk k n s e aa) v ↔ ∃ x ∈ flats aa, x.kind = 0 ∧ x.n = v := by
  unfold numsIn; constructor
  · rintro ⟨x, hx, h1, h2⟩
    rw [flat_eq] at hx
    rcases List.mem_cons.1 hx with rfl | hx
    · exact absurd h1 hk
    · exact ⟨x, hx, h1, h2⟩
  · rintro ⟨x, hx, h1, h2⟩
    exact ⟨x, by rw [flat_eq]; exact List.mem_cons_of_mem _ hx, h1, h2⟩
mutual
theorem numsIn_subT {σ : Int → Tm Unit} {v : Int} : ∀ t : Tm Unit, leafy t → (numsIn (subT σ t) v ↔ ∃ u, numsIn t u ∧ numsIn (σ u) v)
  | .mk k n s e aa, h => by
    by_cases hk : k = 0
    · have := leafy_self h hk
      rw [this]; simp only [Tm.n, V, subT, if_pos]; constructor
      · intro hv; exact ⟨n, numsIn_V.2 rfl, hv⟩
      · rintro ⟨u, hu, hv⟩
        have := numsIn_V.1 hu; subst this; exact hv
    · simp only [subT, if_neg hk]
      rw [numsIn_mk hk, numsIn_subTs aa (fun x hx => h x (by rw [flat_eq]; exact List.mem_cons_of_mem _ hx))]; constructor
      · rintro ⟨u, hu, hv⟩; exact ⟨u, (numsIn_mk hk).2 hu, hv⟩
      · rintro ⟨u, hu, hv⟩; exact ⟨u, (numsIn_mk hk).1 hu, hv⟩
theorem numsIn_subTs {σ : Int → Tm Unit} {v : Int} : ∀ l : List (Tm Unit), (∀ x ∈ flats l, x.kind = 0 → x = V x.n) → ((∃ x ∈ flats (subTs σ l), x.kind = 0 ∧ x.n = v) ↔ ∃ u, (∃ x ∈ flats l, x.kind = 0 ∧ x.n = u) ∧ numsIn (σ u) v)
  | [], _ => by simp [flats, subTs]
  | y :: l, h => by
    have h1 := numsIn_subT (σ := σ) (v := v) y (fun x hx => h x (by simp only [flats]; exact List.mem_append_left _ hx)); have h2 := numsIn_subTs (σ := σ) (v := v) l (fun x hx => h x (by simp only [flats]; exact List.mem_append_right _ hx)); unfold numsIn at h1; simp only [subTs, flats, List.mem_append]; constructor
    · rintro ⟨x, hx | hx, hk, hn⟩
      · obtain ⟨u, ⟨z, hz, h3, h4⟩, hv⟩ := h1.1 ⟨x, hx, hk, hn⟩
        exact ⟨u, ⟨z, .inl hz, h3, h4⟩, hv⟩
      · obtain ⟨u, ⟨z, hz, h3, h4⟩, hv⟩ := h2.1 ⟨x, hx, hk, hn⟩
        exact ⟨u, ⟨z, .inr hz, h3, h4⟩, hv⟩
    · rintro ⟨u, ⟨z, hz | hz, h3, h4⟩, hv⟩
      · obtain ⟨x, hx, hk, hn⟩ := h1.2 ⟨u, ⟨z, hz, h3, h4⟩, hv⟩
        exact ⟨x, .inl hx, hk, hn⟩
      · obtain ⟨x, hx, hk, hn⟩ := h2.2 ⟨u, ⟨z, hz, h3, h4⟩, hv⟩
        exact ⟨x, .inr hx, hk, hn⟩
end
def allN (P : Tm Unit → Prop) (t : Tm Unit) : Prop := ∀ x ∈ t.flat, P x
mutual
theorem allN_subT {P : Tm Unit → Prop} {σ : Int → Tm Unit} (hP : ∀ k n s aa bb, P (.mk k n s () aa) → aa.length = bb.length → ¬ k = 0 → P (.mk k n s () bb)) : ∀ t : Tm Unit, allN P t → (∀ u, numsIn t u → allN P (σ u)) → allN P (subT σ t)
  | .mk k n s e aa, h, hσ => by
    by_cases hk : k = 0
    · simp only [subT, if_pos hk]
      exact hσ n ⟨.mk k n s e aa, by rw [flat_eq]; exact List.mem_cons_self .., hk, rfl⟩
    · simp only [subT, if_neg hk]
      intro x hx; rw [flat_eq] at hx
      rcases List.mem_cons.1 hx with rfl | hx
      · exact hP k n s aa _ (h _ (by rw [flat_eq]; exact List.mem_cons_self ..)) (by rw [subTs_eq, List.length_map]) hk
      · exact allN_subTs hP aa (fun x hx => h x (by rw [flat_eq]; exact List.mem_cons_of_mem _ hx)) (fun u hu => hσ u ((numsIn_mk hk).2 hu)) x hx
theorem allN_subTs {P : Tm Unit → Prop} {σ : Int → Tm Unit} (hP : ∀ k n s aa bb, P (.mk k n s () aa) → aa.length = bb.length → ¬ k = 0 → P (.mk k n s () bb)) : ∀ l : List (Tm Unit), (∀ x ∈ flats l, P x) → (∀ u, (∃ x ∈ flats l, x.kind = 0 ∧ x.n = u) → allN P (σ u)) → ∀ x ∈ flats (subTs σ l), P x
  | [], _, _ => by simp [flats, subTs]
  | y :: l, h, hσ => by
    intro x hx; simp only [subTs, flats, List.mem_append] at hx
    rcases hx with hx | hx
    · exact allN_subT hP y (fun x hx => h x (by simp only [flats]; exact List.mem_append_left _ hx)) (fun u ⟨z, hz, h3⟩ => hσ u ⟨z, by simp only [flats]; exact List.mem_append_left _ hz, h3⟩) x hx
    · exact allN_subTs hP l (fun x hx => h x (by simp only [flats]; exact List.mem_append_right _ hx)) (fun u ⟨z, hz, h3⟩ => hσ u ⟨z, by simp only [flats]; exact List.mem_append_right _ hz, h3⟩) x hx
end
theorem leafy_subT {σ : Int → Tm Unit} {t : Tm Unit} (h : leafy t) (hσ : ∀ u, numsIn t u → leafy (σ u)) : leafy (subT σ t) :=
  allN_subT (P := fun x => x.kind = 0 → x = V x.n) (fun k n s aa bb _ _ hk h => absurd h hk) t h hσ
def put (n : Int) (x : Tm Unit) : Int → Tm Unit := fun i => if i = n then x else V i
theorem put_self (n : Int) (x : Tm Unit) : put n x n = x := by unfold put; rw [if_pos rfl]
theorem put_ne {n i : Int} (x : Tm Unit) (h : ¬ i = n) : put n x i = V i := by unfold put; rw [if_neg h]
abbrev Trail := List (Int × Tm Unit)
def sig : Trail → Int → Tm Unit
  | [] => V
  | b :: l => fun i => subT (put b.1 (subT (sig l) b.2)) (sig l i)
def img (l : Trail) (t : Tm Unit) : Tm Unit := subT (sig l) t
def dom (l : Trail) : List Int := l.map (·.1)
def look : Trail → Int → Option (Tm Unit)
  | [], _ => none
  | b :: l, n => if b.1 = n then some b.2 else look l n
def okT (m : Nat) : Trail → Prop
  | [] => True
  | b :: l => okT m l ∧ 0 ≤ b.1 ∧ b.1 < m ∧ b.1 ∉ dom l ∧ goodB b.2 = true ∧ (∀ v, numsIn b.2 v → v < (m : Int)) ∧ ¬ numsIn (img l b.2) b.1
theorem okT.more {m m' : Nat} (h : m ≤ m') : ∀ {l : Trail}, okT m l → okT m' l
  | [], _ => trivial
  | b :: l, ⟨h1, h2, h3, h4, h5, h6, h7⟩ => ⟨okT.more h h1, h2, by omega, h4, h5, fun v hv => by have := h6 v hv; omega, h7⟩
theorem look_none {l : Trail} {n : Int} : look l n = none ↔ n ∉ dom l := by
  induction l with
  | nil => simp [look, dom]
  | cons b l ih =>
    simp only [look, dom, List.map_cons, List.mem_cons, not_or]
    by_cases h : b.1 = n
    · rw [if_pos h]; simp [h]
    · rw [if_neg h]
      rw [ih]
      have h' : ¬ n = b.1 := fun e => h e.symm
      unfold dom; exact ⟨fun c => ⟨h', c⟩, fun c => c.2⟩
theorem look_mem {l : Trail} {n : Int} {t : Tm Unit} (h : look l n = some t) : (n, t) ∈ l := by
  induction l with
  | nil => simp [look] at h
  | cons b l ih =>
    simp only [look] at h
    split at h
    · rename_i e; injection h with h; subst e h; exact List.mem_cons_self ..
    · exact List.mem_cons_of_mem _ (ih h)
theorem okT_mem {m : Nat} {l : Trail} (h : okT m l) {b : Int × Tm Unit} (hb : b ∈ l) : 0 ≤ b.1 ∧ b.1 < m ∧ goodB b.2 = true ∧ ∀ v, numsIn b.2 v → v < (m : Int) := by
  induction l with
  | nil => cases hb
  | cons c l ih =>
    obtain ⟨h1, h2, h3, h4, h5, h6, h7⟩ := h
    rcases List.mem_cons.1 hb with rfl | hb
    · exact ⟨h2, h3, h5, h6⟩
    · exact ih h1 hb
theorem sig_free {m : Nat} {l : Trail} (h : okT m l) {i : Int} (hi : i ∉ dom l) : sig l i = V i := by
  induction l with
  | nil => rfl
  | cons b l ih =>
    simp only [dom, List.map_cons, List.mem_cons, not_or] at hi; simp only [sig]; rw [ih h.1 hi.2]; simp only [V, subT, if_pos]; exact put_ne _ hi.1
theorem sig_leafy {m : Nat} {l : Trail} (h : okT m l) (i : Int) : leafy (sig l i) := by
  induction l generalizing i with
  | nil => exact leafy_V i
  | cons b l ih =>
    simp only [sig]; refine leafy_subT (ih h.1 i) (fun u _ => ?_); unfold put
    split
    · exact leafy_subT (good_leafy h.2.2.2.2.1) (fun u _ => ih h.1 u)
    · exact leafy_V u
theorem img_leafy {m : Nat} {l : Trail} (h : okT m l) {t : Tm Unit} (ht : leafy t) : leafy (img l t) := leafy_subT ht (fun u _ => sig_leafy h u)
theorem img_cons {m : Nat} {b : Int × Tm Unit} {l : Trail} (t : Tm Unit) : img (b :: l) t = subT (put b.1 (img l b.2)) (img l t) := by
  unfold img; rw [subT_subT]; rfl
theorem put_none {n : Int} {x t : Tm Unit} (ht : leafy t) (h : ¬ numsIn t n) : subT (put n x) t = t := by
  rw [subT_congr (τ := V) t (fun y hy hk => put_ne _ (fun e => h ⟨y, hy, hk, e⟩)), subT_V t ht]
theorem sig_look {m : Nat} {l : Trail} (h : okT m l) {i : Int} {t : Tm Unit} (hi : look l i = some t) : sig l i = img l t := by
  induction l generalizing i t with
  | nil => simp [look] at hi
  | cons b l ih =>
    have hg := good_leafy h.2.2.2.2.1; rw [img_cons (m := m)]; simp only [look] at hi; simp only [sig]
    split at hi
    · rename_i e
      injection hi with hi
      subst hi; rw [sig_free h.1 (by rw [← e]; exact h.2.2.2.1), put_none (img_leafy h.1 hg) h.2.2.2.2.2.2]; simp only [V, subT, if_pos]; rw [← e, put_self]; rfl
    · rw [ih h.1 hi]
      rfl
theorem img_V (l : Trail) (i : Int) : img l (V i) = sig l i := by unfold img V; simp only [subT, if_pos]
theorem img_mk {k n : Int} {s : ByteArray} {e : Unit} {aa : List (Tm Unit)} (l : Trail) (hk : ¬ k = 0) : img l (.mk k n s e aa) = .mk k n s () (aa.map (img l)) := by
  unfold img; simp only [subT, if_neg hk, subTs_eq]
theorem img_goodOne {m : Nat} {l : Trail} (h : okT m l) {t : Tm Unit} (ht : ∀ x ∈ t.flat, goodOneB x = true) : ∀ x ∈ (img l t).flat, goodOneB x = true := by
  have hP : ∀ k n s (aa bb : List (Tm Unit)), goodOneB (.mk k n s () aa) = true → aa.length = bb.length → ¬ k = 0 → goodOneB (.mk k n s () bb) = true := by
    intro k n s aa bb h1 h2 h3; unfold goodOneB at h1 ⊢; simp only [kind, Tm.n, name, args] at h1 ⊢; simp only [h2] at h1; exact h1
  have hs : ∀ (l : Trail), okT m l → ∀ i, 0 ≤ i ∧ i < 2147483648 → allN (fun x => goodOneB x = true) (sig l i) := by
    intro l
    induction l with
    | nil =>
      intro _ i hi x hx; simp only [sig] at hx; rw [flat_V] at hx; simp only [List.mem_cons, List.not_mem_nil, or_false] at hx; subst hx; rw [goodOneB_0 _ rfl]; simp only [V, Tm.n, name, args, List.length_nil, Bool.and_eq_true, decide_eq_true_eq]; refine ⟨decide_eq_true (show 0 ≤ i by omega), decide_eq_true (show i ≤ 2147483647 by omega), ?_, ?_⟩
      · first | rfl | (exact decide_eq_true rfl) | simp
      · first | rfl | trivial | simp
    | cons b l ih =>
      intro hok i hi; simp only [sig]; refine allN_subT hP _ (ih hok.1 i hi) (fun u hu => ?_); have hgb := hok.2.2.2.2.1
      have hones : ∀ x ∈ b.2.flat, goodOneB x = true := by
        unfold goodB at hgb; simp only [Bool.and_eq_true, List.all_eq_true] at hgb; exact hgb.2.2
      have hnum : ∀ {t : Tm Unit}, allN (fun x => goodOneB x = true) t → ∀ u, numsIn t u → 0 ≤ u ∧ u < 2147483648 := by
        rintro t ht u ⟨x, hx, hk, rfl⟩
        have := ht x hx; simp only [goodOneB_0 x hk, Bool.and_eq_true, decide_eq_true_eq] at this; omega
      unfold put
      split
      · exact allN_subT hP _ hones (fun u hu => ih hok.1 u (hnum hones u hu))
      · have h1 := hnum (ih hok.1 i hi) u hu
        have := ih hok.1 i hi; intro x hx; rw [flat_V] at hx; simp only [List.mem_cons, List.not_mem_nil, or_false] at hx; subst hx; rw [goodOneB_0 _ rfl]; simp only [V, Tm.n, name, args, List.length_nil, Bool.and_eq_true, decide_eq_true_eq]; refine ⟨decide_eq_true (show 0 ≤ u by omega), decide_eq_true (show u ≤ 2147483647 by omega), ?_, ?_⟩
        · first | rfl | (exact decide_eq_true rfl) | simp
        · first | rfl | trivial | simp
  refine allN_subT hP t ht (fun u hu => hs l h u ?_); obtain ⟨x, hx, hk, rfl⟩ := hu; have := ht x hx; simp only [goodOneB_0 x hk, Bool.and_eq_true, decide_eq_true_eq] at this; omega
theorem img_lt {m : Nat} {l : Trail} (h : okT m l) {t : Tm Unit} (ht : leafy t) (hv : ∀ v, numsIn t v → v < (m : Int)) : ∀ v, numsIn (img l t) v → v < (m : Int) := by
  have hs : ∀ (l : Trail), okT m l → ∀ i, i < (m : Int) → ∀ v, numsIn (sig l i) v → v < (m : Int) := by
    intro l
    induction l with
    | nil => intro _ i hi v hv; have := numsIn_V.1 hv; omega
    | cons b l ih =>
      intro hok i hi v hv; simp only [sig] at hv; obtain ⟨u, hu, hv⟩ := (numsIn_subT _ (sig_leafy hok.1 i)).1 hv; unfold put at hv
      split at hv
      · obtain ⟨z, hz, hv⟩ := (numsIn_subT _ (good_leafy hok.2.2.2.2.1)).1 hv
        exact ih hok.1 z (hok.2.2.2.2.2.1 z hz) v hv
      · have := numsIn_V.1 hv
        subst this; exact ih hok.1 i hi _ hu
  intro v hv'; obtain ⟨u, hu, hv'⟩ := (numsIn_subT _ ht).1 hv'; exact hs l h u (hv u hu) v hv'
def total (f : Int → Nat) (l : List Int) : Nat := (l.map f).sum
theorem total_mem {f : Int → Nat} {l : List Int} {v : Int} (h : v ∈ l) : f v ≤ total f l := by
  unfold total
  induction l with
  | nil => cases h
  | cons a l ih =>
    simp only [List.map_cons, List.sum_cons]
    rcases List.mem_cons.1 h with rfl | h
    · omega
    · have := ih h; omega
open Classical in
noncomputable def rk : Trail → Int → Nat
  | [], _ => 0
  | b :: l, i => if numsIn (sig l i) b.1 then rk l i + total (rk l) b.2.vars + 1 else rk l i
theorem rk_lt {m : Nat} {l : Trail} (h : okT m l) {i v : Int} {t : Tm Unit} (hi : look l i = some t) (hv : numsIn t v) : rk l v < rk l i := by
  induction l generalizing i t v with
  | nil => simp [look] at hi
  | cons b l ih =>
    have hg := good_leafy h.2.2.2.2.1; simp only [look] at hi; simp only [rk]
    split at hi
    · rename_i e
      injection hi with hi
      subst hi
      have h0 : ¬ numsIn (sig l v) b.1 := fun c => h.2.2.2.2.2.2 ((numsIn_subT _ hg).2 ⟨v, hv, c⟩)
      rw [if_neg h0, if_pos]
      · have := total_mem (f := rk l) ((vars_mem v).2 hv)
        omega
      · rw [← e, sig_free h.1 h.2.2.2.1]
        exact numsIn_V.2 rfl
    · have h1 := ih h.1 hi hv
      have hl : leafy t := by
        have := okT_mem h.1 (look_mem hi); exact good_leafy this.2.2.1
      by_cases hc : numsIn (sig l v) b.1
      · rw [if_pos hc, if_pos]
        · omega
        · rw [sig_look h.1 hi]
          exact (numsIn_subT _ hl).2 ⟨v, hv, hc⟩
      · rw [if_neg hc]
        split <;> omega
end Tm
end Go.Proofs.Ytoihjobdfjajfaa
namespace Go.Proofs.Ytoihjobdfjajfaa
namespace Tm
def lower (l : Trail) (y : Tm Unit) (h : Int) : Prop := ∀ v, numsIn y v → rk l v < rk l h
structure Seek (l : Trail) (n : Int) (t : Tm Unit) (todo : List (Tm Unit)) (had : List Int) : Prop where
  leafy : ∀ y ∈ todo, leafy y
  sound : ∀ y ∈ todo, numsIn (img l y) n → numsIn (img l t) n
  met : ∀ h ∈ had, numsIn (sig l h) n → ∃ y ∈ todo, numsIn (img l y) n ∧ lower l y h
  whole : numsIn (img l t) n → ∃ y ∈ todo, numsIn (img l y) n
theorem Seek.start {l : Trail} {n : Int} {t : Tm Unit} (ht : Tm.leafy t) : Seek l n t [t] [] :=
  ⟨fun y hy => by rw [List.mem_singleton] at hy; rw [hy]; exact ht, fun y hy h => by rw [List.mem_singleton] at hy; rwa [← hy], fun h hh => (by cases hh), fun h => ⟨t, List.mem_singleton.2 rfl, h⟩⟩
theorem Seek.stop {l : Trail} {n : Int} {t : Tm Unit} {had : List Int} (h : Seek l n t [] had) : ¬ numsIn (img l t) n := fun c => by
  obtain ⟨y, hy, _⟩ := h.whole c
  cases hy
theorem mem_flats_iff {α : Type} {l : List (Tm α)} {x : Tm α} : x ∈ flats l ↔ ∃ y ∈ l, x ∈ y.flat := by
  induction l with
  | nil => simp [flats]
  | cons z l ih => simp only [flats, List.mem_append, ih, List.mem_cons]; constructor
                   · rintro (h | ⟨y, hy, h⟩)
                     · exact ⟨z, .inl rfl, h⟩
                     · exact ⟨y, .inr hy, h⟩
                   · rintro ⟨y, rfl | hy, h⟩
                     · exact .inl h
                     · exact .inr ⟨y, hy, h⟩
theorem numsIn_args {y : Tm Unit} (hk : ¬ y.kind = 0) {v : Int} : numsIn y v ↔ ∃ a ∈ y.args, numsIn a v := by
  cases y with | mk k n s e aa =>
  rw [numsIn_mk (by exact hk)]; simp only [mem_flats_iff, args]; unfold numsIn; constructor
  · rintro ⟨x, ⟨a, ha, hx⟩, h1, h2⟩; exact ⟨a, ha, x, hx, h1, h2⟩
  · rintro ⟨a, ha, x, hx, h1, h2⟩; exact ⟨x, ⟨a, ha, hx⟩, h1, h2⟩
theorem img_args {l : Trail} {y : Tm Unit} (hk : ¬ y.kind = 0) : img l y = .mk y.kind y.n y.name () (y.args.map (img l)) := by
  cases y with | mk k n s e aa => exact img_mk l hk
theorem leafy_arg {y : Tm Unit} (h : Tm.leafy y) : ∀ a ∈ y.args, Tm.leafy a := by
  cases y with | mk k n s e aa => exact leafy_args h
theorem Seek.args {l : Trail} {n : Int} {t y : Tm Unit} {todo : List (Tm Unit)} {had : List Int} (h : Seek l n t (todo ++ [y]) had) (hk : ¬ y.kind = 0) : Seek l n t (todo ++ y.args) had := by
  have hi : numsIn (img l y) n ↔ ∃ a ∈ y.args, numsIn (img l a) n := by
    rw [img_args hk, numsIn_args (by exact hk)]; simp only [Tm.args, List.mem_map]; constructor
    · rintro ⟨_, ⟨a, ha, rfl⟩, h⟩; exact ⟨a, ha, h⟩
    · rintro ⟨a, ha, h⟩; exact ⟨_, ⟨a, ha, rfl⟩, h⟩
  have hy : y ∈ todo ++ [y] := by simp
  refine ⟨fun x hx => ?_, fun x hx hn => ?_, fun m hm hn => ?_, fun hn => ?_⟩
  · rcases List.mem_append.1 hx with hx | hx
    · exact h.leafy x (List.mem_append_left _ hx)
    · exact leafy_arg (h.leafy y hy) x hx
  · rcases List.mem_append.1 hx with hx | hx
    · exact h.sound x (List.mem_append_left _ hx) hn
    · exact h.sound y hy (hi.2 ⟨x, hx, hn⟩)
  · obtain ⟨z, hz, h1, h2⟩ := h.met m hm hn
    rcases List.mem_append.1 hz with hz | hz
    · exact ⟨z, List.mem_append_left _ hz, h1, h2⟩
    · rw [List.mem_singleton] at hz
      subst hz; obtain ⟨a, ha, h3⟩ := hi.1 h1; exact ⟨a, List.mem_append_right _ ha, h3, fun v hv => h2 v ((numsIn_args hk).2 ⟨a, ha, hv⟩)⟩
  · obtain ⟨z, hz, h1⟩ := h.whole hn
    rcases List.mem_append.1 hz with hz | hz
    · exact ⟨z, List.mem_append_left _ hz, h1⟩
    · rw [List.mem_singleton] at hz
      subst hz; obtain ⟨a, ha, h3⟩ := hi.1 h1; exact ⟨a, List.mem_append_right _ ha, h3⟩
theorem Seek.skip {l : Trail} {n k : Int} {t : Tm Unit} {todo : List (Tm Unit)} {had : List Int} (h : Seek l n t (todo ++ [V k]) had) (hk : k ∈ had) : Seek l n t todo had := by
  have hR : numsIn (img l (V k)) n → ∃ y ∈ todo, numsIn (img l y) n ∧ lower l y k := by
    intro hr; rw [img_V] at hr; obtain ⟨z, hz, h1, h2⟩ := h.met k hk hr
    rcases List.mem_append.1 hz with hz | hz
    · exact ⟨z, hz, h1, h2⟩
    · rw [List.mem_singleton] at hz
      subst hz; have := h2 k (numsIn_V.2 rfl); omega
  refine ⟨fun x hx => h.leafy x (List.mem_append_left _ hx), fun x hx hn => h.sound x (List.mem_append_left _ hx) hn, fun m hm hn => ?_, fun hn => ?_⟩
  · obtain ⟨z, hz, h1, h2⟩ := h.met m hm hn
    rcases List.mem_append.1 hz with hz | hz
    · exact ⟨z, hz, h1, h2⟩
    · rw [List.mem_singleton] at hz
      subst hz; obtain ⟨z', hz', h3, h4⟩ := hR h1; have := h2 k (numsIn_V.2 rfl); exact ⟨z', hz', h3, fun v hv => by have := h4 v hv; omega⟩
  · obtain ⟨z, hz, h1⟩ := h.whole hn
    rcases List.mem_append.1 hz with hz | hz
    · exact ⟨z, hz, h1⟩
    · rw [List.mem_singleton] at hz
      subst hz; obtain ⟨z', hz', h3, _⟩ := hR h1; exact ⟨z', hz', h3⟩
theorem Seek.found {m : Nat} {l : Trail} {n : Int} {t : Tm Unit} {todo : List (Tm Unit)} {had : List Int} (hl : okT m l) (h : Seek l n t (todo ++ [V n]) had) (hn : n ∉ dom l) : numsIn (img l t) n :=
  h.sound (V n) (by simp) (by rw [img_V, sig_free hl hn]; exact numsIn_V.2 rfl)
theorem Seek.free {m : Nat} {l : Trail} {n k : Int} {t : Tm Unit} {todo : List (Tm Unit)} {had : List Int} (hl : okT m l) (h : Seek l n t (todo ++ [V k]) had) (hk : look l k = none) (hne : ¬ k = n) : Seek l n t todo (k :: had) := by
  have hR : ¬ numsIn (img l (V k)) n := by
    rw [img_V, sig_free hl (look_none.1 hk), numsIn_V]
    exact fun e => hne e.symm
  have hR' : ¬ numsIn (sig l k) n := by rwa [img_V] at hR
  have hf : ∀ P : Tm Unit → Prop, (∃ y ∈ todo ++ [V k], numsIn (img l y) n ∧ P y) → ∃ y ∈ todo, numsIn (img l y) n ∧ P y := by
    rintro P ⟨z, hz, h1, h2⟩
    rcases List.mem_append.1 hz with hz | hz
    · exact ⟨z, hz, h1, h2⟩
    · rw [List.mem_singleton] at hz
      subst hz; exact absurd h1 hR
  refine ⟨fun x hx => h.leafy x (List.mem_append_left _ hx), fun x hx hn => h.sound x (List.mem_append_left _ hx) hn, fun m hm hn => ?_, fun hn => ?_⟩
  · rcases List.mem_cons.1 hm with rfl | hm
    · exact absurd hn hR'
    · exact hf _ (h.met m hm hn)
  · obtain ⟨z, hz, h1⟩ := h.whole hn
    obtain ⟨z', hz', h3, _⟩ := hf (fun _ => True) ⟨z, hz, h1, trivial⟩; exact ⟨z', hz', h3⟩
theorem Seek.bound {m : Nat} {l : Trail} {n k : Int} {t p : Tm Unit} {todo : List (Tm Unit)} {had : List Int} (hl : okT m l) (h : Seek l n t (todo ++ [V k]) had) (hk : look l k = some p) : Seek l n t (todo ++ [p]) (k :: had) := by
  have hp : Tm.leafy p := good_leafy (okT_mem hl (look_mem hk)).2.2.1
  have hR : numsIn (img l (V k)) n → numsIn (img l p) n := by rw [img_V, sig_look hl hk]; exact id
  have hR' : numsIn (img l p) n → numsIn (img l (V k)) n := by rw [img_V, sig_look hl hk]; exact id
  have hbl : lower l p k := fun v hv => rk_lt hl hk hv
  refine ⟨fun x hx => ?_, fun x hx hn => ?_, fun m hm hn => ?_, fun hn => ?_⟩
  · rcases List.mem_append.1 hx with hx | hx
    · exact h.leafy x (List.mem_append_left _ hx)
    · rw [List.mem_singleton] at hx; rw [hx]; exact hp
  · rcases List.mem_append.1 hx with hx | hx
    · exact h.sound x (List.mem_append_left _ hx) hn
    · rw [List.mem_singleton] at hx
      rw [hx] at hn; exact h.sound (V k) (by simp) (hR' hn)
  · rcases List.mem_cons.1 hm with rfl | hm
    · refine ⟨p, by simp, ?_, hbl⟩
      rw [← sig_look hl hk]; exact hn
    · obtain ⟨z, hz, h1, h2⟩ := h.met m hm hn
      rcases List.mem_append.1 hz with hz | hz
      · exact ⟨z, List.mem_append_left _ hz, h1, h2⟩
      · rw [List.mem_singleton] at hz
        subst hz; have := h2 k (numsIn_V.2 rfl); exact ⟨p, by simp, hR h1, fun v hv => by have := hbl v hv; omega⟩
  · obtain ⟨z, hz, h1⟩ := h.whole hn
    rcases List.mem_append.1 hz with hz | hz
    · exact ⟨z, List.mem_append_left _ hz, h1⟩
    · rw [List.mem_singleton] at hz
      subst hz; exact ⟨p, by simp, hR h1⟩
def gasT : Trail → List Int → Nat
  | [], _ => 0
  | b :: l, had => (if b.1 ∈ had then 0 else b.2.size) + gasT l had
theorem gasT_mono {l : Trail} {had : List Int} (k : Int) : gasT l (k :: had) ≤ gasT l had := by
  induction l with
  | nil => exact Nat.le_refl _
  | cons b l ih =>
    simp only [gasT]
    by_cases h : b.1 ∈ had
    · rw [if_pos h, if_pos (List.mem_cons_of_mem _ h)]; omega
    · rw [if_neg h]
      split <;> omega
theorem gasT_met {l : Trail} {had : List Int} {k : Int} {p : Tm Unit} (h : look l k = some p) (hk : k ∉ had) : gasT l (k :: had) + p.size ≤ gasT l had := by
  induction l with
  | nil => simp [look] at h
  | cons b l ih =>
    simp only [look] at h; simp only [gasT]
    split at h
    · rename_i e
      injection h with h
      subst h; rw [if_pos (by rw [e]; exact List.mem_cons_self ..), if_neg (by rw [e]; exact hk)]; have := gasT_mono (l := l) (had := had) k; omega
    · have := ih h
      by_cases hb : b.1 ∈ had
      · rw [if_pos hb, if_pos (List.mem_cons_of_mem _ hb)]; omega
      · rw [if_neg hb]
        split <;> omega
theorem gasT_le {m : Nat} {l : Trail} (h : okT m l) (had : List Int) : gasT l had ≤ 2000 * l.length := by
  induction l with
  | nil => exact Nat.zero_le _
  | cons b l ih =>
    have hg := h.2.2.2.2.1; have h1 := ih h.1; unfold goodB at hg; simp only [Bool.and_eq_true, decide_eq_true_eq] at hg; simp only [gasT, List.length_cons]
    split <;> omega
structure Walked (m : Nat) (l : Trail) (t x : Tm Unit) : Prop where
  img : img l x = img l t
  free : x.kind = 0 → x.n ∉ dom l
  leafy : leafy x
  ones : ∀ y ∈ x.flat, goodOneB y = true
  lt : (∀ v, numsIn t v → v < (m : Int)) → ∀ v, numsIn x v → v < (m : Int)
theorem Walked.self {m : Nat} {l : Trail} {t : Tm Unit} (ht : ∀ y ∈ t.flat, goodOneB y = true) (h : t.kind = 0 → t.n ∉ dom l) : Walked m l t t :=
  ⟨rfl, h, leafy_good ht, ht, fun h => h⟩
theorem Walked.step {m : Nat} {l : Trail} {t p x : Tm Unit} (hl : okT m l) (ht : Tm.leafy t) (hk : t.kind = 0) (hp : look l t.n = some p) (h : Walked m l p x) : Walked m l t x :=
  ⟨by rw [h.img, leafy_self ht hk, img_V, sig_look hl hp], h.free, h.leafy, h.ones, fun _ => h.lt (okT_mem hl (look_mem hp)).2.2.2⟩
theorem Walked.var {m : Nat} {l : Trail} {t x : Tm Unit} (hl : okT m l) (h : Walked m l t x) (hk : x.kind = 0) : Tm.img l t = x := by
  rw [← h.img, leafy_self h.leafy hk, img_V, sig_free hl (h.free hk)]
theorem Walked.flat {m : Nat} {l : Trail} {t x : Tm Unit} (hl : okT m l) (h : Walked m l t x) (ha : x.args = []) : Tm.img l t = x := by
  by_cases hk : x.kind = 0
  · exact h.var hl hk
  · rw [← h.img, img_args hk, ha]
    cases x with | mk k n s e aa =>
    simp only [args] at ha; subst ha; rfl
theorem one_args {α : Type} {x : Tm α} (h : goodOneB x = true) (ha : ¬ x.args = []) : x.kind = 2 ∧ x.n = 0 ∧ x.args.length ≤ 8 := by
  have hl : ¬ x.args.length = 0 := fun c => ha (List.eq_nil_of_length_eq_zero c)
  by_cases h0 : x.kind = 0
  · rw [goodOneB_0 x h0] at h
    simp only [Bool.and_eq_true, decide_eq_true_eq] at h; exact absurd h.2.2.2 hl
  · by_cases h1 : x.kind = 1
    · rw [goodOneB_1 x h1] at h
      simp only [Bool.and_eq_true, decide_eq_true_eq] at h; exact absurd h.2 hl
    · by_cases h2 : x.kind = 2
      · rw [goodOneB_2 x h2] at h
        simp only [Bool.and_eq_true, decide_eq_true_eq] at h; exact ⟨h2, h.1, h.2.2⟩
      · rw [goodOneB_3 x h0 h1 h2] at h
        cases h
theorem Walked.args {m : Nat} {l : Trail} {t x : Tm Unit} (h : Walked m l t x) (ha : ¬ x.args = []) : Tm.img l t = .mk x.kind 0 x.name () (x.args.map (Tm.img l)) := by
  obtain ⟨h1, h2, _⟩ := one_args (h.ones x (by rw [flat_eq]; exact List.mem_cons_self ..)) ha; rw [← h.img, img_args (by omega), h2]
def makeOk (s d : Nat) (u : Tm Unit) : Bool := decide (s + u.size ≤ 2000) && decide (d + u.depth ≤ 65)
theorem makeOk_iff {s d : Nat} {u : Tm Unit} : makeOk s d u = true ↔ s + u.size ≤ 2000 ∧ d + u.depth ≤ 65 := by
  unfold makeOk; simp only [Bool.and_eq_true, decide_eq_true_eq]
theorem depths_mem {α : Type} {l : List (Tm α)} {x : Tm α} (h : x ∈ l) : x.depth ≤ depths l := by
  induction l with
  | nil => cases h
  | cons z l ih =>
    simp only [depths]
    rcases List.mem_cons.1 h with rfl | h
    · omega
    · have := ih h; omega
theorem depths_le {α : Type} {l : List (Tm α)} {d : Nat} (h : ∀ x ∈ l, x.depth ≤ d) : depths l ≤ d := by
  induction l with
  | nil => exact Nat.zero_le _
  | cons z l ih =>
    simp only [depths]; have := h z (List.mem_cons_self ..); have := ih (fun x hx => h x (List.mem_cons_of_mem _ hx)); omega
theorem sizes_take {α : Type} {l : List (Tm α)} {i : Nat} {x : Tm α} (h : l[i]? = some x) : sizes (l.take (i + 1)) = sizes (l.take i) + x.size := by
  rw [List.take_add_one, h, sizes_append]; simp only [Option.toList, sizes]; omega
theorem sizes_take_le {α : Type} (l : List (Tm α)) (i : Nat) : sizes (l.take i) ≤ sizes l := by
  have := sizes_append (l.take i) (l.drop i); rw [List.take_append_drop] at this; omega
theorem makeOk_no {s d i : Nat} {u x : Tm Unit} (h : u.args[i]? = some x) (hx : makeOk (s + 1 + sizes (u.args.take i)) (d + 1) x = false) : makeOk s d u = false := by
  rw [Bool.eq_false_iff, ne_eq, makeOk_iff] at hx ⊢; intro c; apply hx; have h1 := sizes_take h; have h2 := sizes_take_le u.args (i + 1); have h3 := depths_mem (List.mem_of_getElem? h); have h4 := size_eq u; have h5 := depth_eq u; omega
theorem makeOk_yes {s d : Nat} {u : Tm Unit} (h0 : s + 1 ≤ 2000) (h1 : d ≤ 64) (h2 : s + 1 + sizes u.args ≤ 2000) (h3 : ∀ x ∈ u.args, d + 1 + x.depth ≤ 65) : makeOk s d u = true := by
  rw [makeOk_iff]; have h4 := size_eq u; have h5 := depth_eq u; have h6 := depths_le (d := 64 - d) (l := u.args) (fun x hx => by have := h3 x hx; omega); omega
def ownB {α : Type} (m : Nat) (t : Tm α) : Bool := goodB t && t.vars.all fun v => decide (v < (m : Int))
theorem ownB_iff {m : Nat} {t : Tm Unit} : ownB m t = true ↔ goodB t = true ∧ ∀ v, numsIn t v → v < (m : Int) := by
  unfold ownB; simp only [Bool.and_eq_true, List.all_eq_true, decide_eq_true_eq]; constructor
  · rintro ⟨h1, h2⟩; exact ⟨h1, fun v hv => h2 v ((vars_mem v).2 hv)⟩
  · rintro ⟨h1, h2⟩; exact ⟨h1, fun v hv => h2 v ((vars_mem v).1 hv)⟩
theorem good_ones' {t : Tm Unit} (h : goodB t = true) : ∀ x ∈ t.flat, goodOneB x = true := by
  unfold goodB at h; simp only [Bool.and_eq_true, List.all_eq_true] at h; exact h.2.2
def wholeB (l : Trail) (t : Tm Unit) : Bool := decide ((img l t).size ≤ 2000) && decide ((img l t).depth ≤ 64)
theorem makeOk_whole (l : Trail) (t : Tm Unit) : makeOk 0 1 (img l t) = wholeB l t := by
  unfold makeOk wholeB; rw [Nat.zero_add]; congr 1; rw [decide_eq_decide]; omega
theorem whole_good {m : Nat} {l : Trail} {t : Tm Unit} (hl : okT m l) (ht : ownB m t = true) (hw : wholeB l t = true) : ownB m (img l t) = true := by
  obtain ⟨h1, h2⟩ := ownB_iff.1 ht; refine ownB_iff.2 ⟨?_, img_lt hl (good_leafy h1) h2⟩; unfold wholeB at hw; unfold goodB; simp only [Bool.and_eq_true, decide_eq_true_eq, List.all_eq_true] at hw ⊢; exact ⟨hw.1, hw.2, img_goodOne hl (good_ones' h1)⟩
end Tm
end Go.Proofs.Ytoihjobdfjajfaa
namespace Go.Proofs.Ytoihjobdfjajfaa
namespace Tm
section
variable {α : Type}
def reg (l : List (Tm α)) : Nat → List (Tm α)
  | 0 => l
  | i + 1 => match (reg l i)[i]? with
    | none => reg l i
    | some x => reg l i ++ x.args
theorem reg_next {l : List (Tm α)} {i : Nat} {x : Tm α} (h : (reg l i)[i]? = some x) : reg l (i + 1) = reg l i ++ x.args := by
  simp only [reg, h]
theorem reg_pre (l : List (Tm α)) (i : Nat) : ∀ j, ∃ r, reg l (i + j) = reg l i ++ r := by
  intro j
  induction j with
  | zero => exact ⟨[], (List.append_nil _).symm⟩
  | succ j ih =>
    obtain ⟨r, hr⟩ := ih
    cases hx : (reg l (i + j))[i + j]? with
    | none => exact ⟨r, by rw [← Nat.add_assoc]; simp only [reg, hx]; exact hr⟩
    | some x => exact ⟨r ++ x.args, by rw [← Nat.add_assoc, reg_next hx, hr, List.append_assoc]⟩
theorem reg_le (l : List (Tm α)) {i j : Nat} (h : i ≤ j) : (reg l i).length ≤ (reg l j).length := by
  obtain ⟨r, hr⟩ := reg_pre l i (j - i); rw [show i + (j - i) = j by omega] at hr; rw [hr, List.length_append]; omega
theorem reg_at {l : List (Tm α)} {i j k : Nat} (h : i ≤ j) (hk : k < (reg l i).length) : (reg l j)[k]? = (reg l i)[k]? := by
  obtain ⟨r, hr⟩ := reg_pre l i (j - i); rw [show i + (j - i) = j by omega] at hr; rw [hr, List.getElem?_append_left hk]
theorem reg_sizes (l : List (Tm α)) : ∀ i, i ≤ sizes l → i ≤ (reg l i).length ∧ i + sizes ((reg l i).drop i) = sizes l := by
  intro i
  induction i with
  | zero => intro _; exact ⟨Nat.zero_le _, by simp [reg]⟩
  | succ i ih =>
    intro hi; obtain ⟨h1, h2⟩ := ih (by omega)
    have hlt : i < (reg l i).length := by
      rcases Nat.lt_or_ge i (reg l i).length with h | h
      · exact h
      · rw [List.drop_eq_nil_of_le h] at h2; simp only [sizes] at h2; omega
    have hx : (reg l i)[i]? = some (reg l i)[i] := List.getElem?_eq_getElem hlt; rw [reg_next hx]; refine ⟨by rw [List.length_append]; omega, ?_⟩; rw [List.drop_eq_getElem_cons hlt] at h2; rw [List.drop_append_of_le_length (by omega), sizes_append]; simp only [sizes] at h2; rw [size_eq] at h2; omega
theorem reg_lt {l : List (Tm α)} {i : Nat} (h : i < sizes l) : i < (reg l i).length := by
  obtain ⟨h1, h2⟩ := reg_sizes l i (by omega)
  rcases Nat.lt_or_ge i (reg l i).length with h' | h'
  · exact h'
  · rw [List.drop_eq_nil_of_le h'] at h2; simp only [sizes] at h2; omega
def regs (l : List (Tm α)) : List (Tm α) := reg l (sizes l)
theorem sizes_nil {l : List (Tm α)} (h : sizes l = 0) : l = [] := by
  cases l with
  | nil => rfl
  | cons x l => simp only [sizes] at h; have := size_pos x; omega
theorem regs_length (l : List (Tm α)) : (regs l).length = sizes l := by
  obtain ⟨h1, h2⟩ := reg_sizes l (sizes l) (Nat.le_refl _); have := sizes_nil (l := (reg l (sizes l)).drop (sizes l)) (by omega); have h3 := List.drop_eq_nil_iff.1 this; unfold regs; omega
theorem reg_regs {l : List (Tm α)} {i k : Nat} (hi : i ≤ sizes l) (hk : k < (reg l i).length) : (regs l)[k]? = (reg l i)[k]? := reg_at hi hk
def cb (l : List (Tm α)) (i : Nat) : Nat := (reg l i).length
theorem cb_zero (l : List (Tm α)) : cb l 0 = l.length := rfl
theorem cb_end (l : List (Tm α)) : cb l (sizes l) = sizes l := regs_length l
theorem regs_some {l : List (Tm α)} {i : Nat} (h : i < sizes l) : ∃ x, (regs l)[i]? = some x ∧ (reg l i)[i]? = some x ∧ reg l (i + 1) = reg l i ++ x.args := by
  have hl := reg_lt h; have hx : (reg l i)[i]? = some (reg l i)[i] := List.getElem?_eq_getElem hl; exact ⟨_, (reg_regs (by omega) hl).trans hx, hx, reg_next hx⟩
theorem cb_next {l : List (Tm α)} {i : Nat} {x : Tm α} (h : (regs l)[i]? = some x) : cb l (i + 1) = cb l i + x.args.length ∧ i < cb l i ∧ cb l i + x.args.length ≤ sizes l ∧ ∀ j, j < x.args.length → (regs l)[cb l i + j]? = x.args[j]? := by
  have hi : i < sizes l := by have := (List.getElem?_eq_some_iff.1 h).1; rw [regs_length] at this; exact this
  obtain ⟨y, h1, h2, h3⟩ := regs_some hi
  rw [h1] at h; injection h with h; subst h
  unfold cb; have hle := reg_le l (show i + 1 ≤ sizes l by omega)
  have hl : (reg l (i + 1)).length = (reg l i).length + y.args.length := by rw [h3, List.length_append]
  have hr := regs_length l; unfold regs at hr; refine ⟨hl, reg_lt hi, by omega, fun j hj => ?_⟩; rw [reg_regs (i := i + 1) (by omega) (by omega), h3, List.getElem?_append_right (by omega)]; congr 1; omega
theorem regs_zero {l : List (Tm α)} {j : Nat} (h : j < l.length) : (regs l)[j]? = l[j]? := reg_regs (i := 0) (Nat.zero_le _) h
theorem reg_perm (l : List (Tm α)) : ∀ i, i ≤ sizes l → ((reg l i).take i ++ flats ((reg l i).drop i)).Perm (flats l) := by
  intro i
  induction i with
  | zero => intro _; simp [reg]
  | succ i ih =>
    intro hi; have h := ih (by omega); have hlt := reg_lt (show i < sizes l by omega); have hx : (reg l i)[i]? = some (reg l i)[i] := List.getElem?_eq_getElem hlt; rw [reg_next hx]; refine List.Perm.trans ?_ h; rw [List.take_append_of_le_length (by omega), List.drop_append_of_le_length (by omega), List.take_succ_eq_append_getElem hlt, List.drop_eq_getElem_cons hlt, flats_append]; simp only [flats]; rw [flat_eq]; generalize (reg l i)[i] = x; simp only [List.append_assoc, List.cons_append, List.nil_append]; refine List.Perm.append_left _ (List.Perm.cons _ List.perm_append_comm)
theorem regs_perm (l : List (Tm α)) : (regs l).Perm (flats l) := by
  have h := reg_perm l (sizes l) (Nat.le_refl _); have hl := regs_length l; unfold regs at hl ⊢; rw [List.take_of_length_le (by omega), List.drop_eq_nil_of_le (by omega)] at h; simpa [flats] using h
theorem regs_flats {l : List (Tm α)} : ∀ x ∈ regs l, x ∈ flats l := fun x hx => (regs_perm l).mem_iff.1 hx
end
theorem kind_mk {α : Type} (k n : Int) (s : ByteArray) (e : α) (aa : List (Tm α)) : (Tm.mk k n s e aa).kind = k := rfl
theorem n_mk {α : Type} (k n : Int) (s : ByteArray) (e : α) (aa : List (Tm α)) : (Tm.mk k n s e aa).n = n := rfl
theorem name_mk {α : Type} (k n : Int) (s : ByteArray) (e : α) (aa : List (Tm α)) : (Tm.mk k n s e aa).name = s := rfl
theorem args_mk {α : Type} (k n : Int) (s : ByteArray) (e : α) (aa : List (Tm α)) : (Tm.mk k n s e aa).args = aa := rfl
def sVar : ByteArray := ⟨#[118, 97, 114]⟩
def sVal : ByteArray := ⟨#[118, 97, 108]⟩
def sInt : ByteArray := ⟨#[105, 110, 116]⟩
def sAtom : ByteArray := ⟨#[97, 116, 111, 109]⟩
def sComp : ByteArray := ⟨#[99, 111, 109, 112]⟩
structure Stp where
  op : ByteArray
  a : Int
  b : Int
  c : Int
  n : Int
  name : ByteArray
section
variable {α : Type}
def met (l : List (Tm α)) (i : Nat) : List Int := ((regs l).take i).foldl addVar []
def stepX (vs : List Int) (l : List (Tm α)) (i : Nat) (x : Tm α) : Stp :=
  if x.kind = 0 then ⟨if x.n ∈ met l i then sVal else sVar, i, posOf vs x.n, 0, 0, ByteArray.empty⟩
  else if x.kind = 1 then ⟨sInt, i, 0, 0, x.n, ByteArray.empty⟩
  else if x.args.length = 0 then ⟨sAtom, i, 0, 0, 0, x.name⟩
  else ⟨sComp, i, x.args.length, cb l i, 0, x.name⟩
def stepAt (vs : List Int) (l : List (Tm α)) (i : Nat) : Stp :=
  match (regs l)[i]? with
  | none => ⟨ByteArray.empty, 0, 0, 0, 0, ByteArray.empty⟩
  | some x => stepX vs l i x
def steps (vs : List Int) (l : List (Tm α)) (k : Nat) : List Stp := (List.range k).map (stepAt vs l)
theorem steps_succ {vs : List Int} {l : List (Tm α)} {k : Nat} {x : Tm α} (h : (regs l)[k]? = some x) : steps vs l (k + 1) = steps vs l k ++ [stepX vs l k x] := by
  unfold steps; rw [List.range_succ, List.map_append, List.map_cons, List.map_nil]; congr 2; unfold stepAt; rw [h]
theorem steps_length (vs : List Int) (l : List (Tm α)) (k : Nat) : (steps vs l k).length = k := by unfold steps; rw [List.length_map, List.length_range]
theorem met_succ {l : List (Tm α)} {i : Nat} {x : Tm α} (h : (regs l)[i]? = some x) : met l (i + 1) = addVar (met l i) x := by
  unfold met; obtain ⟨hl, rfl⟩ := List.getElem?_eq_some_iff.1 h; rw [List.take_succ_eq_append_getElem hl, List.foldl_append]; rfl
theorem mem_fold (n : Int) : ∀ (l : List (Tm α)) (vs : List Int), n ∈ l.foldl addVar vs ↔ n ∈ vs ∨ ∃ x ∈ l, x.kind = 0 ∧ x.n = n := by
  intro l
  induction l with
  | nil => intro vs; simp
  | cons y l ih =>
    intro vs; rw [List.foldl_cons, ih]; unfold addVar
    by_cases h : y.kind = 0 ∧ y.n ∉ vs
    · rw [if_pos h]
      simp only [List.mem_append, List.mem_cons, List.not_mem_nil, or_false, exists_eq_or_imp]; constructor
      · rintro ((h1 | h1) | h1)
        · exact .inl h1
        · exact .inr (.inl ⟨h.1, h1.symm⟩)
        · exact .inr (.inr h1)
      · rintro (h1 | h1 | h1)
        · exact .inl (.inl h1)
        · exact .inl (.inr h1.2.symm)
        · exact .inr h1
    · rw [if_neg h]
      simp only [List.mem_cons, exists_eq_or_imp]; constructor
      · rintro (h1 | h1)
        · exact .inl h1
        · exact .inr (.inr h1)
      · rintro (h1 | h1 | h1)
        · exact .inl h1
        · refine .inl ?_
          by_cases hm : y.n ∈ vs
          · rw [← h1.2]; exact hm
          · exact absurd ⟨h1.1, hm⟩ h
        · exact .inr h1
theorem fold_nodup : ∀ (l : List (Tm α)) (vs : List Int), vs.Nodup → (l.foldl addVar vs).Nodup := by
  intro l
  induction l with
  | nil => intro vs h; exact h
  | cons y l ih =>
    intro vs h; rw [List.foldl_cons]; apply ih; unfold addVar
    split
    · rename_i hc
      rw [List.nodup_append]; exact ⟨h, List.nodup_cons.2 ⟨List.not_mem_nil, List.nodup_nil⟩, fun a ha b hb => by simp at hb; subst hb; exact fun e => hc.2 (e ▸ ha)⟩
    · exact h
theorem mem_met {l : List (Tm α)} {i : Nat} {n : Int} (h : n ∈ met l i) : ∃ x ∈ flats l, x.kind = 0 ∧ x.n = n := by
  unfold met at h
  rcases (mem_fold n _ _).1 h with h | ⟨x, h1, h2⟩
  · cases h
  · exact ⟨x, regs_flats x (List.mem_of_mem_take h1), h2⟩
theorem met_all {t : Tm α} (ht : t.kind ≠ 0) : (met t.args (sizes t.args)).length = t.vars.length := by
  have h1 : (met t.args (sizes t.args)).Nodup := fold_nodup _ _ List.nodup_nil; have h2 : t.vars.Nodup := vars_nodup t
  have hm : ∀ n, n ∈ met t.args (sizes t.args) ↔ n ∈ t.vars := by
    intro n; unfold met vars; rw [List.take_of_length_le (by rw [regs_length]; exact Nat.le_refl _), mem_fold, mem_fold, flat_eq]; constructor
    · rintro (h | ⟨x, h, h3⟩)
      · cases h
      · exact .inr ⟨x, List.mem_cons_of_mem _ ((regs_perm _).mem_iff.1 h), h3⟩
    · rintro (h | ⟨x, h, h3⟩)
      · cases h
      · rcases List.mem_cons.1 h with rfl | h
        · exact absurd h3.1 ht
        · exact .inr ⟨x, (regs_perm _).mem_iff.2 h, h3⟩
  exact ((List.perm_ext_iff_of_nodup h1 h2).2 hm).length_eq
end
def oneC (slots i k : Int) (had : List Int) (s : Stp) : Option (Int × List Int) :=
  if s.a = i ∧ goodNameB s.name = true then
    if s.op = sVar then (if 0 ≤ s.b ∧ s.b < slots ∧ s.b ∉ had ∧ s.c = 0 ∧ s.n = 0 ∧ s.name = ByteArray.empty then some (k, had ++ [s.b]) else none)
    else if s.op = sVal then (if 0 ≤ s.b ∧ s.b < slots ∧ s.b ∈ had ∧ s.c = 0 ∧ s.n = 0 ∧ s.name = ByteArray.empty then some (k, had) else none)
    else if s.op = sInt then (if s.b = 0 ∧ s.c = 0 ∧ s.name = ByteArray.empty then some (k, had) else none)
    else if s.op = sAtom then (if s.b = 0 ∧ s.c = 0 ∧ s.n = 0 then some (k, had) else none)
    else if s.op = sComp then (if 1 ≤ s.b ∧ s.b ≤ 8 ∧ s.c = k ∧ s.n = 0 then some (k + s.b, had) else none)
    else none
  else none
def runC (slots : Int) : List Stp → Nat → Int → List Int → Option (Int × List Int)
  | [], _, k, had => some (k, had)
  | s :: L, i, k, had => if (i : Int) < k then (match oneC slots i k had s with | none => none | some c => runC slots L (i + 1) c.1 c.2) else none
def endC (rg sl : Int) : Option (Int × List Int) → Bool
  | none => false
  | some c => decide (c.1 = rg) && decide ((c.2.length : Int) = sl)
def goodC (ar sl rg : Int) (L : List Stp) : Bool :=
  if 0 ≤ ar ∧ ar ≤ 8 ∧ ar ≤ rg ∧ rg ≤ 2000 ∧ (L.length : Int) = rg then endC rg sl (runC sl L 0 ar []) else false
theorem ne_ops : sVal ≠ sVar ∧ sInt ≠ sVar ∧ sInt ≠ sVal ∧ sAtom ≠ sVar ∧ sAtom ≠ sVal ∧ sAtom ≠ sInt ∧ sComp ≠ sVar ∧ sComp ≠ sVal ∧ sComp ≠ sInt ∧ sComp ≠ sAtom := by
  refine ⟨?_, ?_, ?_, ?_, ?_, ?_, ?_, ?_, ?_, ?_⟩ <;> exact fun h => absurd (congrArg ByteArray.data h) (by decide)
theorem good_empty : goodNameB ByteArray.empty = true := by rfl
section
variable {α : Type}
theorem one_ok {t : Tm α} (hg : goodB t = true) (hk : t.kind ≠ 0) {i : Nat} {x : Tm α} (hx : (regs t.args)[i]? = some x) :
    oneC t.vars.length i (cb t.args i) ((met t.args i).map fun n => (posOf t.vars n : Int)) (stepX t.vars t.args i x) = some ((cb t.args (i + 1) : Int), (met t.args (i + 1)).map fun n => (posOf t.vars n : Int)) := by
  have hmem : x ∈ t.flat := by rw [flat_eq]; exact List.mem_cons_of_mem _ (regs_flats x (List.mem_of_getElem? hx))
  have hones : ∀ y ∈ t.flat, goodOneB y = true := by
    unfold goodB at hg; simp only [Bool.and_eq_true, decide_eq_true_eq, List.all_eq_true] at hg; exact hg.2.2
  have hone := hones x hmem; obtain ⟨n1, n2, n3, n4, n5, n6, n7, n8, n9, n10⟩ := ne_ops; obtain ⟨c1, c2, c3, _⟩ := cb_next hx
  have hvm : ∀ {y : Tm α}, y ∈ t.flat → y.kind = 0 → y.n ∈ t.vars := fun hy h0 => (mem_fold _ _ _).2 (.inr ⟨_, hy, h0, rfl⟩)
  have hmv : ∀ {n : Int}, n ∈ met t.args i → n ∈ t.vars := fun h => by
    obtain ⟨y, hy, h0, rfl⟩ := mem_met h; exact hvm (by rw [flat_eq]; exact List.mem_cons_of_mem _ hy) h0
  rw [met_succ hx, c1]; unfold stepX
  by_cases h0 : x.kind = 0
  · have hxv := hvm hmem h0
    rw [goodOneB_0 x h0] at hone; simp only [Bool.and_eq_true, decide_eq_true_eq] at hone; obtain ⟨_, _, _, ha⟩ := hone; rw [if_pos h0, ha]; have hlt : posOf t.vars x.n < t.vars.length := List.idxOf_lt_length_of_mem hxv
    have hin : (posOf t.vars x.n : Int) ∈ (met t.args i).map (fun n => (posOf t.vars n : Int)) ↔ x.n ∈ met t.args i := by
      constructor
      · intro h
        obtain ⟨v, hv, e⟩ := List.mem_map.1 h
        have e' : posOf t.vars v = posOf t.vars x.n := by exact Int.ofNat.inj e
        have p1 := posOf_mem (hmv hv); have p2 := posOf_mem hxv; rw [e', p2] at p1
        injection p1 with p1
        rw [p1]; exact hv
      · exact fun h => List.mem_map.2 ⟨_, h, rfl⟩
    unfold oneC addVar
    by_cases hm : x.n ∈ met t.args i
    · rw [if_pos hm, if_neg (show ¬ (x.kind = 0 ∧ x.n ∉ met t.args i) from fun c => c.2 hm), if_pos ⟨rfl, good_empty⟩, if_neg n1, if_pos rfl, if_pos ⟨by simp only; omega, by simp only; omega, hin.2 hm, rfl, rfl, rfl⟩]
      simp
    · rw [if_neg hm, if_pos (show x.kind = 0 ∧ x.n ∉ met t.args i from ⟨h0, hm⟩), if_pos ⟨rfl, good_empty⟩, if_pos rfl, if_pos ⟨by simp only; omega, by simp only; omega, fun c => hm (hin.1 c), rfl, rfl, rfl⟩]
      simp
  · rw [if_neg h0]
    have hadd : addVar (met t.args i) x = met t.args i := by unfold addVar; rw [if_neg (fun c => h0 c.1)]
    rw [hadd]
    by_cases h1 : x.kind = 1
    · rw [goodOneB_1 x h1] at hone
      simp only [Bool.and_eq_true, decide_eq_true_eq] at hone; rw [if_pos h1, hone.2]; unfold oneC; rw [if_pos ⟨rfl, good_empty⟩, if_neg n2, if_neg n3, if_pos rfl, if_pos ⟨rfl, rfl, rfl⟩]; simp
    · have h2 : x.kind = 2 := by
        by_cases h2 : x.kind = 2
        · exact h2
        · rw [goodOneB_3 x h0 h1 h2] at hone; cases hone
      rw [goodOneB_2 x h2] at hone; simp only [Bool.and_eq_true, decide_eq_true_eq] at hone; rw [if_neg h1]; unfold oneC
      by_cases ha : x.args.length = 0
      · rw [if_pos ha, if_pos ⟨rfl, hone.2.1⟩, if_neg n4, if_neg n5, if_neg n6, if_pos rfl, if_pos ⟨rfl, rfl, rfl⟩, ha]
        simp
      · rw [if_neg ha, if_pos ⟨rfl, hone.2.1⟩, if_neg n7, if_neg n8, if_neg n9, if_neg n10, if_pos rfl, if_pos ⟨by simp only; omega, by simp only; omega, rfl, rfl⟩]
        simp
theorem run_ok {t : Tm α} (hg : goodB t = true) (hk : t.kind ≠ 0) : ∀ j i, i + j = sizes t.args → runC t.vars.length ((List.range' i j).map (stepAt t.vars t.args)) i (cb t.args i) ((met t.args i).map fun n => (posOf t.vars n : Int)) = some ((sizes t.args : Int), (met t.args (sizes t.args)).map fun n => (posOf t.vars n : Int)) := by
  intro j
  induction j with
  | zero =>
    intro i hi
    obtain rfl : i = sizes t.args := by omega
    rw [List.range'_zero, List.map_nil, runC, cb_end]
  | succ j ih =>
    intro i hi; obtain ⟨x, hx, _, _⟩ := regs_some (l := t.args) (i := i) (by omega); rw [List.range'_succ, List.map_cons]
    have hs : stepAt t.vars t.args i = stepX t.vars t.args i x := by unfold stepAt; rw [hx]
    rw [hs, runC, if_pos (by have := (cb_next hx).2.1; omega), one_ok hg hk hx]; exact ih (i + 1) (by omega)
theorem head_good {t : Tm α} (hg : goodB t = true) (hk : t.kind = 2) : goodC t.args.length t.vars.length (sizes t.args) (steps t.vars t.args (sizes t.args)) = true := by
  have h := hg; unfold goodB at h; simp only [Bool.and_eq_true, decide_eq_true_eq, List.all_eq_true] at h; obtain ⟨h1, _, h3⟩ := h; have ht := h3 t (by rw [flat_eq]; exact List.mem_cons_self ..); rw [goodOneB_2 t hk] at ht; simp only [Bool.and_eq_true, decide_eq_true_eq] at ht; rw [size_eq] at h1; have hle := reg_le t.args (Nat.zero_le (sizes t.args)); have hrl := regs_length t.args; unfold regs at hrl; simp only [reg] at hle; unfold goodC; rw [if_pos ⟨by omega, by have := ht.2.2; omega, by omega, by omega, by rw [steps_length]⟩]; have := run_ok hg (by omega) (sizes t.args) 0 (by omega); unfold steps; rw [List.range_eq_range']; rw [cb_zero] at this
  have hm : (met t.args 0).map (fun n => (posOf t.vars n : Int)) = [] := by unfold met; simp
  rw [hm] at this; rw [this]; unfold endC; simp only [List.length_map, met_all (show t.kind ≠ 0 by omega)]; simp
end
def madeS (s : Stp) (rs : List (Tm Unit)) : Tm Unit :=
  if s.op = sVar ∨ s.op = sVal then V s.b
  else if s.op = sInt then .mk 1 s.n ByteArray.empty () []
  else if s.op = sAtom then .mk 2 0 s.name () []
  else .mk 2 0 s.name () ((rs.drop s.c.toNat).take s.b.toNat)
def backs : List Stp → Nat → List (Tm Unit) → List (Tm Unit)
  | [], _, rs => rs
  | s :: L, i, rs => (backs L (i + 1) rs).set i (madeS s (backs L (i + 1) rs))
theorem backs_length : ∀ (L : List Stp) (i : Nat) (rs : List (Tm Unit)), (backs L i rs).length = rs.length := by
  intro L
  induction L with
  | nil => intro i rs; rfl
  | cons s L ih => intro i rs; simp only [backs]; rw [List.length_set, ih]
def backT (ar rg : Nat) (L : List Stp) (name : ByteArray) : Tm Unit := .mk 2 0 name () ((backs L 0 (List.replicate rg (V 0))).take ar)
section
variable {α : Type}
theorem made_head {t : Tm α} (hg : goodB t = true) {i : Nat} {x : Tm α} (hx : (regs t.args)[i]? = some x) {rs : List (Tm Unit)} (hrs : ∀ j, i < j → rs[j]? = ((regs t.args)[j]?).map fun y => ren (fun n => (posOf t.vars n : Int)) y.bare) :
    madeS (stepX t.vars t.args i x) rs = ren (fun n => (posOf t.vars n : Int)) x.bare := by
  have hmem : x ∈ t.flat := by rw [flat_eq]; exact List.mem_cons_of_mem _ (regs_flats x (List.mem_of_getElem? hx))
  have hones : ∀ y ∈ t.flat, goodOneB y = true := by
    unfold goodB at hg; simp only [Bool.and_eq_true, decide_eq_true_eq, List.all_eq_true] at hg; exact hg.2.2
  have hone := hones x hmem; obtain ⟨n1, n2, n3, n4, n5, n6, n7, n8, n9, n10⟩ := ne_ops; obtain ⟨c1, c2, c3, c4⟩ := cb_next hx
  have hbx : x.bare = .mk x.kind x.n x.name () (bares x.args) := by cases x; rfl
  rw [hbx]; unfold stepX madeS ren
  by_cases h0 : x.kind = 0
  · rw [if_pos h0, if_pos (by simp only []; split <;> simp)]
    simp only [subT, if_pos h0]
  · rw [if_neg h0]
    simp only [subT, if_neg h0]
    by_cases h1 : x.kind = 1
    · rw [goodOneB_1 _ h1] at hone
      simp only [Bool.and_eq_true, decide_eq_true_eq] at hone; have haa : x.args = [] := List.eq_nil_of_length_eq_zero hone.2; rw [if_pos h1, if_neg (by simp [n2, n3]), if_pos rfl, h1, (bytes_nil _).1 hone.1, haa]; simp only [bares, subTs]
    · have h2 : x.kind = 2 := by
        by_cases h2 : x.kind = 2
        · exact h2
        · rw [goodOneB_3 _ h0 h1 h2] at hone; cases hone
      rw [goodOneB_2 _ h2] at hone; simp only [Bool.and_eq_true, decide_eq_true_eq] at hone; rw [if_neg h1]
      by_cases ha : x.args.length = 0
      · have haa : x.args = [] := List.eq_nil_of_length_eq_zero ha
        rw [if_pos ha, if_neg (by simp [n4, n5]), if_neg n6, if_pos rfl, h2, hone.1, haa]; simp only [bares, subTs]
      · rw [if_neg ha, if_neg (by simp [n7, n8]), if_neg n9, if_neg n10, h2, hone.1]
        congr 1; rw [subTs_eq]; refine List.ext_getElem? (fun j => ?_); rw [List.getElem?_take, List.getElem?_drop, List.getElem?_map]
        have hb : (bares x.args)[j]? = (x.args[j]?).map bare := by
          rw [bares_eq, List.getElem?_map]
        rw [hb]; simp only [Int.toNat_natCast]
        by_cases hj : j < x.args.length
        · rw [if_pos hj, hrs _ (by omega), c4 j hj, Option.map_map]
          rfl
        · rw [if_neg hj, List.getElem?_eq_none (by omega)]
          rfl
theorem backs_head {t : Tm α} (hg : goodB t = true) : ∀ j i, i + j = sizes t.args → ∀ q, i ≤ q → (backs ((List.range' i j).map (stepAt t.vars t.args)) i (List.replicate (sizes t.args) (V 0)))[q]? = ((regs t.args)[q]?).map fun y => ren (fun n => (posOf t.vars n : Int)) y.bare := by
  intro j
  induction j with
  | zero =>
    intro i hi q hq; rw [List.range'_zero, List.map_nil, backs, List.getElem?_eq_none (by rw [List.length_replicate]; omega), List.getElem?_eq_none (by rw [regs_length]; omega)]; rfl
  | succ j ih =>
    intro i hi q hq; obtain ⟨x, hx, _, _⟩ := regs_some (l := t.args) (i := i) (by omega); rw [List.range'_succ, List.map_cons]
    have hs : stepAt t.vars t.args i = stepX t.vars t.args i x := by unfold stepAt; rw [hx]
    rw [hs, backs]; have hih := ih (i + 1) (by omega); have hm := made_head hg hx (fun q hq => hih q hq); rw [hm]
    by_cases he : i = q
    · subst he
      rw [List.getElem?_set_self (by rw [backs_length, List.length_replicate]; omega), hx]; rfl
    · rw [List.getElem?_set_ne he]
      exact hih q (by omega)
theorem back_head {t : Tm α} (hg : goodB t = true) (hk : t.kind = 2) : backT t.args.length (sizes t.args) (steps t.vars t.args (sizes t.args)) t.name = fromT t.bare 0 := by
  have hb := backs_head hg (sizes t.args) 0 (by omega); have h := hg; unfold goodB at h; simp only [Bool.and_eq_true, decide_eq_true_eq, List.all_eq_true] at h; have ht := h.2.2 t (by rw [flat_eq]; exact List.mem_cons_self ..); rw [goodOneB_2 t hk] at ht; simp only [Bool.and_eq_true, decide_eq_true_eq] at ht; unfold backT steps; rw [List.range_eq_range']; unfold fromT; rw [vars_bare]
  have hs : fromS t.vars 0 = fun n => (posOf t.vars n : Int) := by funext n; unfold fromS; omega
  rw [hs]; revert hb; generalize backs _ 0 _ = rs; intro hb
  have hr0 := fun {j : Nat} (h : j < t.args.length) => regs_zero h
  cases t with | mk k n nm e aa =>
  simp only [kind_mk, n_mk, name_mk, args_mk] at *; obtain rfl := ht.1; subst hk; rw [show (Tm.mk 2 0 nm e aa).bare = .mk 2 0 nm () (bares aa) from rfl]; unfold ren; simp only [subT, if_neg (show ¬ (2 : Int) = 0 by omega)]; congr 1; rw [subTs_eq]; refine List.ext_getElem? (fun j => ?_); rw [List.getElem?_take, List.getElem?_map, show bares aa = aa.map bare from bares_eq aa, List.getElem?_map]
  by_cases hj : j < aa.length
  · rw [if_pos hj, hb j (by omega), hr0 hj, Option.map_map]
    rfl
  · rw [if_neg hj, List.getElem?_eq_none (by omega)]
    rfl
end
end Tm
end Go.Proofs.Ytoihjobdfjajfaa
namespace Go.Proofs.Ytoihjobdfjajfaa
open Go.RowKit
theorem LT.Lies.at {p : Nat → Prop} {w : World} {b o : Nat} {l : List LT} (h : LT.Lies p w (some ⟨b, o, none⟩) l) {i : Nat} {x : LT} (hi : l[i]? = some x) :
    w.cell? ⟨b, o + i * 4, none⟩ = some (.int .i64 x.kind) ∧ w.cell? ⟨b, o + i * 4 + 1, none⟩ = some (.int .i64 x.n) ∧ w.cell? ⟨b, o + i * 4 + 2, none⟩ = some (.string x.name) ∧ w.cell? ⟨b, o + i * 4 + 3, none⟩ = some (.slice x.at_.1 x.args.length x.at_.2) := by
  obtain ⟨b', o', e, _, h⟩ := h.cell hi
  injection e with e
  injection e with e1 e2
  subst e1 e2; exact h
theorem LT.Sl.mem {p : Nat → Prop} {w : World} {a : Option Addr} {c : Nat} {l : List LT} (h : LT.Sl p w a c l) {i : Nat} {x : LT} (hi : l[i]? = some x) : x.In p w := (LT.ins_iff _).1 h.ins x (List.mem_of_getElem? hi)
end Go.Proofs.Ytoihjobdfjajfaa
namespace Go.Proofs.Ytoihjobdfjajfaa
open Go.RowKit
structure Key where
  kind : Int
  n : Int
  name : ByteArray
  arity : Int
  deriving DecidableEq
def Key.val (k : Key) : Value := .agg #[.int .i64 k.kind, .int .i64 k.n, .string k.name, .int .i64 k.arity]
def Key.zero : Key := ⟨0, 0, ByteArray.empty, 0⟩
def keyOf1 {α : Type} (x : Tm α) : Key := if x.kind = 0 then Key.zero else if x.kind = 1 then ⟨1, x.n, ByteArray.empty, 0⟩ else ⟨x.kind, 0, x.name, x.args.length⟩
def keyOf {α : Type} (t : Tm α) : Key := match t.args with
  | [] => Key.zero
  | x :: _ => if goodB t then keyOf1 x else Key.zero
end Go.Proofs.Ytoihjobdfjajfaa
namespace Go.Proofs.Ytoihjobdfjajfaa
open Go.RowKit Go.Maps
def MoreP (p : Nat → Prop) (mb N : Nat) (mo : Option Tm.MM) (W : World) : Prop :=
  ∀ m', mo = some m' → ∃ (mn : Nat) (g : Int → Option LT), mn ≤ N ∧ IMap Try.prog 2 W mb mn (valsM g) ∧ baresM g = m' ∧ ∀ i x, g i = some x → x.In p W ∧ goodB x = true
theorem MoreP.turned0 {p : Nat → Prop} {mb N : Nat} {mo : Option Tm.MM} {W W' : World} (h : MoreP p mb N mo W) (ht : Turned (fun _ => False) W W') : MoreP p mb N mo W' := by
  intro m' hm; obtain ⟨mn, g, h1, h2, h3, h4⟩ := h m' hm; exact ⟨mn, g, h1, h2.turned ht (fun f => f), h3, fun i x hx => ⟨(h4 i x hx).1.turned0 ht, (h4 i x hx).2⟩⟩
def MoreS (p : Nat → Prop) (mb mj : Nat) (gj : Int → Option LT) (x y : LT) (wr : World) (RB : Bool) : List Value → World → Prop
  | [], W => Turned (fun _ => False) wr W
  | [v], W => ∃ b : Bool, v = .bool b ∧ b = RB ∧ Turned (fun k => k = mb) wr W ∧ MoreP p mb (mj + x.size) (Tm.moreM x.bare y.bare (baresM gj)) W
  | _, _ => False
theorem MoreS.turned0 {p : Nat → Prop} {mb mj : Nat} {gj : Int → Option LT} {x y : LT} {wr : World} {RB : Bool} : ∀ (hs : List Value) (w w' : World), MoreS p mb mj gj x y wr RB hs w → Turned (fun _ => False) w w' → MoreS p mb mj gj x y wr RB hs w'
  | [], _, _, h, ht => Turned.trans h ht
  | [_], _, _, h, ht => by obtain ⟨b, h0, h1, h2, h3⟩ := h; exact ⟨b, h0, h1, h2.trans (ht.mono (fun _ _ f => f.elim)), h3.turned0 ht⟩
  | _ :: _ :: _, _, _, h, _ => h.elim
end Go.Proofs.Ytoihjobdfjajfaa
namespace Go.Proofs.Ytoihjobdfjajfaa
open Go.RowKit Go.Maps
set_option maxHeartbeats 800000 in
theorem rComp160 (s : ByteArray) (a : Option Addr) (n c : Nat) (w : World) :
    Calls Try.prog 160 #[.string s, .slice a n c] w fun e w' => e = .returned (.agg #[.int .i64 2, .int .i64 0, .string s, .slice a n c]) ∧ Turned (fun _ => False) w w' := by
  go_enter Try.func160, Try.ntmps160
  go_wp2_with fail
  exact bodyPost_ret (v := .agg #[.int .i64 2, .int .i64 0, .string s, .slice a n c]) (results_cell_row Try.results160 _ _ w.heap.size 41 _ (0, 0) _ rfl (heap_alloc_new w _) Try.underlying41 rfl (by kernel_rfl)) rfl ⟨rfl, (Turned.refl _ _).alloc _⟩
theorem posOf_first {vs : List Int} {n : Int} {j : Nat} (h : vs[j]? = some n) (hno : ∀ i, i < j → vs[i]? ≠ some n) : Tm.posOf vs n = j := by
  unfold Tm.posOf
  induction vs generalizing j with
  | nil => simp at h
  | cons v vs ih =>
    cases j with
    | zero =>
      simp at h; subst h; simp [List.idxOf_cons]
    | succ j =>
      have hv : v ≠ n := fun e => hno 0 (by omega) (by simp [e])
      have hb : (v == n) = false := by rw [beq_eq_false_iff_ne]; exact hv
      rw [List.idxOf_cons, hb]; simp only [cond_false]; rw [ih (j := j) (by simpa using h) (fun i hi => by have := hno (i + 1) (by omega); simpa using this)]
end Go.Proofs.Ytoihjobdfjajfaa
namespace Go.Proofs.Ytoihjobdfjajfaa
open Go.RowKit Go.Maps
theorem Row.setAt {w : World} {e : TypeId} {size n g cap off : Nat} {xs : List Value} (h : Row w e size (.slice (some ⟨g, 0, none⟩) n cap) n xs) (ho : off < n * size) (u : Value) : Row (w.setCell ⟨g, off, none⟩ u) e size (.slice (some ⟨g, 0, none⟩) n cap) n (xs.set off u) := by
  refine ⟨by rw [List.length_set]; exact h.1, .inr ?_⟩
  rcases h.2 with ⟨he, h0⟩ | ⟨g', cap', cur, he, hg, h1, h2, h3, h4⟩
  · cases he
  · injection he with e1 _ e3
    injection e1 with e1
    injection e1 with e1
    subst e1 e3; refine ⟨g, cap, cur.setIfInBounds off u, rfl, heap_setCell_same w g off cur e u hg, h1, h2, by simpa using h3, ?_⟩; rw [Array.toList_setIfInBounds, List.take_set, h4]
theorem flat_set {us : List LT} {j : Nat} {u : LT} (hj : j < us.length) :
    ((((us.flatMap LT.cells).set (j * 4) (.int .i64 u.kind)).set (j * 4 + 1) (.int .i64 u.n)).set (j * 4 + 2) (.string u.name)).set (j * 4 + 3) (.slice u.at_.1 u.args.length u.at_.2) = (us.set j u).flatMap LT.cells := by
  induction us generalizing j with
  | nil => simp at hj
  | cons x us ih =>
    cases j with
    | zero =>
      rw [List.set_cons_zero, List.flatMap_cons, List.flatMap_cons, LT.cells_eq x, LT.cells_eq u]; rfl
    | succ j =>
      have ih := ih (j := j) (by simpa using hj); rw [List.set_cons_succ, List.flatMap_cons, List.flatMap_cons, ← ih, LT.cells_eq x]
      have e0 : (j + 1) * 4 = j * 4 + 4 := by omega
      rw [e0]; rfl
end Go.Proofs.Ytoihjobdfjajfaa
namespace Go.Proofs.Ytoihjobdfjajfaa
open Go.RowKit Go.Maps
open Tm (Stp)
def stC (s : Stp) : List Value := [.string s.op, .int .i64 s.a, .int .i64 s.b, .int .i64 s.c, .int .i64 s.n, .string s.name]
theorem stC_length (s : Stp) : (stC s).length = 6 := rfl
theorem stC_one (s : Stp) : ∀ u ∈ stC s, u.oneCell' = true := by
  intro u hu; simp only [stC, List.mem_cons, List.not_mem_nil, or_false] at hu
  rcases hu with rfl | rfl | rfl | rfl | rfl | rfl <;> rfl
theorem stCs_at {L : List Stp} {i : Nat} {s : Stp} (h : L[i]? = some s) (j : Nat) (hj : j < 6) : (L.flatMap stC)[i * 6 + j]? = (stC s)[j]? := by
  induction L generalizing i with
  | nil => simp at h
  | cons y l ih =>
    rw [List.flatMap_cons]
    cases i with
    | zero =>
      simp at h; subst h; rw [List.getElem?_append_left (by rw [stC_length]; omega), Nat.zero_mul, Nat.zero_add]
    | succ i =>
      simp at h; rw [List.getElem?_append_right (by rw [stC_length]; omega), stC_length]
      have : (i + 1) * 6 + j - 6 = i * 6 + j := by omega
      rw [this]; exact ih h
theorem step_cells {w : World} {L : List Stp} {g cap i : Nat} {s : Stp} (h : Row w 139 6 (.slice (some ⟨g, 0, none⟩) L.length cap) L.length (L.flatMap stC)) (hi : L[i]? = some s) :
    w.cell? ⟨g, i * 6, none⟩ = some (.string s.op) ∧ w.cell? ⟨g, i * 6 + 1, none⟩ = some (.int .i64 s.a) ∧ w.cell? ⟨g, i * 6 + 2, none⟩ = some (.int .i64 s.b) ∧ w.cell? ⟨g, i * 6 + 3, none⟩ = some (.int .i64 s.c) ∧ w.cell? ⟨g, i * 6 + 4, none⟩ = some (.int .i64 s.n) ∧ w.cell? ⟨g, i * 6 + 5, none⟩ = some (.string s.name) := by
  have hc := h.cells rfl; refine ⟨hc _ _ (by have := stCs_at hi 0 (by omega); rw [Nat.add_zero] at this; rw [this]; rfl), hc _ _ (by rw [stCs_at hi 1 (by omega)]; rfl), hc _ _ (by rw [stCs_at hi 2 (by omega)]; rfl), hc _ _ (by rw [stCs_at hi 3 (by omega)]; rfl), hc _ _ (by rw [stCs_at hi 4 (by omega)]; rfl), hc _ _ (by rw [stCs_at hi 5 (by omega)]; rfl)⟩
def stOk (s : Stp) : Prop := s.op.size ≤ maxLen ∧ I64 s.a ∧ I64 s.b ∧ I64 s.c ∧ I64 s.n ∧ s.name.size ≤ maxLen
theorem cells6 {w : World} {bb : Nat} {a b c d e f : Value} {T : TypeId} (h : w.heap[bb]? = some (.cells #[a, b, c, d, e, f] T (0, 0))) :
    w.cell? ⟨bb, 0, none⟩ = some a ∧ w.cell? ⟨bb, 1, none⟩ = some b ∧ w.cell? ⟨bb, 2, none⟩ = some c ∧ w.cell? ⟨bb, 3, none⟩ = some d ∧ w.cell? ⟨bb, 4, none⟩ = some e ∧ w.cell? ⟨bb, 5, none⟩ = some f :=
  ⟨by rw [cell_of_row w bb 0 _ T (0, 0) h]; rfl, by rw [cell_of_row w bb 1 _ T (0, 0) h]; rfl, by rw [cell_of_row w bb 2 _ T (0, 0) h]; rfl, by rw [cell_of_row w bb 3 _ T (0, 0) h]; rfl, by rw [cell_of_row w bb 4 _ T (0, 0) h]; rfl, by rw [cell_of_row w bb 5 _ T (0, 0) h]; rfl⟩
theorem free6 {w : World} {bb : Nat} {cs : Array Value} {T : TypeId} (h : w.heap[bb]? = some (.cells cs T (0, 0))) (j : Nat) : w.frozen? ⟨bb, j, none⟩ = false := frozen_of_row w bb j _ T h
end Go.Proofs.Ytoihjobdfjajfaa
namespace Go.Proofs.Ytoihjobdfjajfaa
open Go.RowKit Go.Maps
structure BoxR (g : Nat) (ty : TypeId) (bs ns : List Value) (ops : List (Nat × Nat)) (w0 : World) (hs : Hist) (W : World) : Prop where
  t : Turned (fun k => k = g) w0 W
  box : ∃ cs : List Value, cs.length = bs.length ∧ W.heap[g]? = some (.cells cs.toArray ty (0, 0)) ∧ (∀ c, (∀ j, (j, c) ∈ ops → ∀ v, (j, v) ∉ hs) → cs[c]? = bs[c]?) ∧ ∀ j c v, (j, c) ∈ ops → (j, v) ∈ hs → cs[c]? = ns[c]?
def opsOk (ops : List (Nat × Nat)) : Bool := ops.all fun a => ops.all fun b => (a.1 == b.1) == (a.2 == b.2)
section
variable {g : Nat} {ty : TypeId} {bs ns : List Value} {ops : List (Nat × Nat)} {w0 W W' : World} {hs : Hist}
theorem opsOk.iff (h : opsOk ops = true) {a b : Nat × Nat} (ha : a ∈ ops) (hb : b ∈ ops) : a.1 = b.1 ↔ a.2 = b.2 := by
  unfold opsOk at h; rw [List.all_eq_true] at h; have h1 := h a ha; rw [List.all_eq_true] at h1; have h2 := h1 b hb; simp only [beq_iff_eq] at h2; constructor
  · intro e
    have : (a.1 == b.1) = true := by simp [e]
    rw [this] at h2; simpa using h2.symm
  · intro e
    have : (a.2 == b.2) = true := by simp [e]
    rw [this] at h2; simpa using h2
theorem BoxR.start (h : w0.heap[g]? = some (.cells bs.toArray ty (0, 0))) (T : Turned (fun _ => False) w0 W) : BoxR g ty bs ns ops w0 [] W :=
  ⟨T.mono (fun _ _ f => f.elim), bs, rfl, (T.block g (Array.getElem?_eq_some_iff.1 h).1 (fun f => f)).trans h, fun _ _ => rfl, fun j c v _ hm => (List.not_mem_nil hm).elim⟩
theorem BoxR.turned0 (h : BoxR g ty bs ns ops w0 hs W) (T : Turned (fun _ => False) W W') : BoxR g ty bs ns ops w0 hs W' := by
  obtain ⟨cs, h1, h2, h3, h4⟩ := h.box; exact ⟨h.t.trans (T.mono (fun _ _ f => f.elim)), cs, h1, (T.block g (Array.getElem?_eq_some_iff.1 h2).1 (fun f => f)).trans h2, h3, h4⟩
theorem BoxR.store (h : BoxR g ty bs ns ops w0 hs W) (hok : opsOk ops = true) {j c : Nat} {x v : Value} (hj : (j, c) ∈ ops) (hc : c < bs.length) (hv : ns[c]? = some v) : BoxR g ty bs ns ops w0 (hs ++ [(j, x)]) (W.setCell ⟨g, c, none⟩ v) := by
  obtain ⟨cs, h1, h2, h3, h4⟩ := h.box; have T : Turned (fun k => k = g) W (W.setCell ⟨g, c, none⟩ v) := (Turned.refl (fun k => k = g) W).setCell (p := ⟨g, c, none⟩) (.inr rfl) v; have hset := heap_setCell_same W g c cs.toArray ty v h2; refine ⟨h.t.step T (fun i hi e => e), cs.set c v, by rw [List.length_set]; exact h1, by simpa using hset, fun c' hn => ?_, fun j' c' v' hm hq => ?_⟩
  · have hne : c ≠ c' := fun e => hn j (e ▸ hj) x (List.mem_append_right _ (List.mem_singleton.2 rfl))
    rw [List.getElem?_set_ne hne]; exact h3 c' (fun j' hm v' hq => hn j' hm v' (List.mem_append_left _ hq))
  · by_cases he : c = c'
    · subst he
      rw [List.getElem?_set_self (by omega), hv]
    · rw [List.getElem?_set_ne he]
      rcases mem_snoc hq with hq | ⟨e, _⟩
      · exact h4 j' c' v' hm hq
      · exact absurd ((opsOk.iff hok hm hj).1 e).symm he
theorem BoxR.at (h : BoxR g ty bs ns ops w0 hs W) {c : Nat} (hc : c < bs.length) : (∃ v, W.cell? ⟨g, c, none⟩ = some v) ∧ W.frozen? ⟨g, c, none⟩ = false := by
  obtain ⟨cs, h1, h2, h3, h4⟩ := h.box; refine ⟨⟨cs[c]'(by omega), ?_⟩, frozen_of_row W g c _ ty h2⟩; rw [cell_of_row W g c _ ty (0, 0) h2]; simp [h1, hc]
theorem BoxR.old (h : BoxR g ty bs ns ops w0 hs W) {c : Nat} {v0 : Value} (hb : bs[c]? = some v0) (hn : ∀ j, (j, c) ∈ ops → ∀ v, (j, v) ∉ hs) : W.cell? ⟨g, c, none⟩ = some v0 := by
  obtain ⟨cs, h1, h2, h3, h4⟩ := h.box; rw [cell_of_row W g c _ ty (0, 0) h2]; simp only [List.getElem?_toArray]; rw [h3 c hn, hb]
theorem BoxR.done (h : BoxR g ty bs ns ops w0 hs W) (hl : ns.length = bs.length) (hall : ∀ a ∈ ops, ∃ v, (a.1, v) ∈ hs) (hsame : ∀ c, c < bs.length → c ∉ ops.map (·.2) → ns[c]? = bs[c]?) : W.heap[g]? = some (.cells ns.toArray ty (0, 0)) := by
  obtain ⟨cs, h1, h2, h3, h4⟩ := h.box
  have : cs = ns := by
    refine List.ext_getElem? (fun c => ?_)
    by_cases hc : c < bs.length
    · by_cases hm : c ∈ ops.map (·.2)
      · obtain ⟨⟨j, c'⟩, ha, rfl⟩ := List.mem_map.1 hm
        obtain ⟨v, hv⟩ := hall _ ha; exact h4 j c' v ha hv
      · rw [hsame c hc hm]
        refine h3 c (fun j hj v hv => hm (List.mem_map.2 ⟨_, hj, rfl⟩))
    · rw [List.getElem?_eq_none (by omega), List.getElem?_eq_none (by omega)]
  rw [this] at h2; exact h2
end
end Go.Proofs.Ytoihjobdfjajfaa
namespace Go.Proofs.Ytoihjobdfjajfaa
open Go.RowKit Go.Maps
open Tm (Stp sVar sVal sInt sAtom sComp)
def hadF (had : List Int) : Int → Option Value := fun i => if i ∈ had then some (.bool true) else none
theorem hadF_nil : hadF [] = fun _ => none := by funext i; unfold hadF; simp
theorem hadF_put (had : List Int) (b : Int) : upd (hadF had) b (.bool true) = hadF (had ++ [b]) := by
  funext i
  unfold upd hadF
  by_cases h : i = b
  · rw [if_pos h, if_pos (by rw [h]; simp)]
  · rw [if_neg h]
    by_cases hm : i ∈ had
    · rw [if_pos hm, if_pos (List.mem_append_left _ hm)]
    · rw [if_neg hm, if_neg (by simp [hm, h])]
theorem hadF_same {had : List Int} {b : Int} (h : b ∈ had) : upd (hadF had) b (.bool true) = hadF had := by
  funext i
  unfold upd hadF
  by_cases e : i = b
  · rw [if_pos e, e, if_pos h]
  · rw [if_neg e]
theorem hadF_get (had : List Int) (b : Int) : ((hadF had b).getD (.bool false)) = .bool (decide (b ∈ had)) := by
  unfold hadF
  by_cases h : b ∈ had
  · rw [if_pos h, decide_eq_true h]; rfl
  · rw [if_neg h, decide_eq_false h]; rfl
structure Chk (kb mb : Nat) (k : Int) (had : List Int) (w : World) : Prop where
  b : w.heap[kb]? = some (.cells #[.int .i64 k, .map (some mb)] 178 (0, 0))
  m : IMap Try.prog 3 w mb had.length (hadF had)
  ne : kb ≠ mb
  few : had.length ≤ 60000
theorem Chk.turned0 {kb mb : Nat} {k : Int} {had : List Int} {w w' : World} (h : Chk kb mb k had w) (T : Turned (fun _ => False) w w') : Chk kb mb k had w' :=
  ⟨(T.block _ (Array.getElem?_eq_some_iff.1 h.b).1 (fun f => f)).trans h.b, h.m.turned T (fun f => f), h.ne, h.few⟩
theorem Chk.lt {kb mb : Nat} {k : Int} {had : List Int} {w : World} (h : Chk kb mb k had w) : kb < w.heap.size ∧ mb < w.heap.size := ⟨(Array.getElem?_eq_some_iff.1 h.b).1, h.m.lt⟩
def stEqB (a b : Stp) : Bool := decide (a.op = b.op) && (decide (a.a = b.a) && (decide (a.b = b.b) && (decide (a.c = b.c) && (decide (a.n = b.n) && decide (a.name = b.name)))))
end Go.Proofs.Ytoihjobdfjajfaa
namespace Go.Proofs.Ytoihjobdfjajfaa
open Lib (hid)
open Go.RowKit Go.Maps
open Tm (Stp sVar sVal sInt sAtom sComp)
theorem op_Var_Var : (sVar.toList == [118, 97, 114]) = true := by rw [ByteArray.toList_eq]; rfl
theorem op_Var_Val : (sVar.toList == [118, 97, 108]) = false := by rw [ByteArray.toList_eq]; rfl
theorem op_Var_Int : (sVar.toList == [105, 110, 116]) = false := by rw [ByteArray.toList_eq]; rfl
theorem op_Var_Atom : (sVar.toList == [97, 116, 111, 109]) = false := by rw [ByteArray.toList_eq]; rfl
theorem op_Var_Comp : (sVar.toList == [99, 111, 109, 112]) = false := by rw [ByteArray.toList_eq]; rfl
theorem op_Val_Var : (sVal.toList == [118, 97, 114]) = false := by rw [ByteArray.toList_eq]; rfl
theorem op_Val_Val : (sVal.toList == [118, 97, 108]) = true := by rw [ByteArray.toList_eq]; rfl
theorem op_Val_Int : (sVal.toList == [105, 110, 116]) = false := by rw [ByteArray.toList_eq]; rfl
theorem op_Val_Atom : (sVal.toList == [97, 116, 111, 109]) = false := by rw [ByteArray.toList_eq]; rfl
theorem op_Val_Comp : (sVal.toList == [99, 111, 109, 112]) = false := by rw [ByteArray.toList_eq]; rfl
theorem op_Int_Var : (sInt.toList == [118, 97, 114]) = false := by rw [ByteArray.toList_eq]; rfl
theorem op_Int_Val : (sInt.toList == [118, 97, 108]) = false := by rw [ByteArray.toList_eq]; rfl
theorem op_Int_Int : (sInt.toList == [105, 110, 116]) = true := by rw [ByteArray.toList_eq]; rfl
theorem op_Int_Atom : (sInt.toList == [97, 116, 111, 109]) = false := by rw [ByteArray.toList_eq]; rfl
theorem op_Int_Comp : (sInt.toList == [99, 111, 109, 112]) = false := by rw [ByteArray.toList_eq]; rfl
theorem op_Atom_Var : (sAtom.toList == [118, 97, 114]) = false := by rw [ByteArray.toList_eq]; rfl
theorem op_Atom_Val : (sAtom.toList == [118, 97, 108]) = false := by rw [ByteArray.toList_eq]; rfl
theorem op_Atom_Int : (sAtom.toList == [105, 110, 116]) = false := by rw [ByteArray.toList_eq]; rfl
theorem op_Atom_Atom : (sAtom.toList == [97, 116, 111, 109]) = true := by rw [ByteArray.toList_eq]; rfl
theorem op_Atom_Comp : (sAtom.toList == [99, 111, 109, 112]) = false := by rw [ByteArray.toList_eq]; rfl
theorem op_Comp_Var : (sComp.toList == [118, 97, 114]) = false := by rw [ByteArray.toList_eq]; rfl
theorem op_Comp_Val : (sComp.toList == [118, 97, 108]) = false := by rw [ByteArray.toList_eq]; rfl
theorem op_Comp_Int : (sComp.toList == [105, 110, 116]) = false := by rw [ByteArray.toList_eq]; rfl
theorem op_Comp_Atom : (sComp.toList == [97, 116, 111, 109]) = false := by rw [ByteArray.toList_eq]; rfl
theorem op_Comp_Comp : (sComp.toList == [99, 111, 109, 112]) = true := by rw [ByteArray.toList_eq]; rfl
theorem empty_nil : (ByteArray.empty.toList = []) = True := by simp [(bytes_nil ByteArray.empty).2 rfl]
theorem stEqB_iff {a b : Stp} : stEqB a b = true ↔ a.op = b.op ∧ a.a = b.a ∧ a.b = b.b ∧ a.c = b.c ∧ a.n = b.n ∧ a.name = b.name := by
  unfold stEqB; simp only [Bool.and_eq_true, decide_eq_true_eq]
theorem slim_leaf (k n : Int) (s : ByteArray) : slim (leaf k n s) := by
  intro x hx; rw [show (leaf k n s).flat = [leaf k n s] from rfl, List.mem_singleton] at hx; subst hx; exact Nat.zero_le _
theorem goodAtom (s : ByteArray) (hs : s.size ≤ maxLen) (w : World) : Calls Try.prog 38 #[.agg #[.int .i64 2, .int .i64 0, .string s, .slice none 0 0]] w fun e w' => e = .returned (.bool (goodNameB s)) ∧ Turned (fun _ => False) w w' := by
  have h := good38 (p := fun _ => True) (t := leaf 2 0 s) (w := w) (leafIn' (i64_lit _ (by omega)) (i64_lit _ (by omega)) hs) (slim_leaf _ _ _)
  have hg : goodB (leaf 2 0 s) = goodNameB s := by
    unfold goodB; rw [show (leaf 2 0 s).size = 1 from rfl, show (leaf 2 0 s).depth = 1 from rfl, show (leaf 2 0 s).flat = [leaf 2 0 s] from rfl]; simp only [List.all_cons, List.all_nil, Bool.and_true]; rw [goodOneB_2 (leaf 2 0 s) rfl]; show (decide (1 ≤ 2000) && (decide (1 ≤ 64) && (decide ((0 : Int) = 0) && (goodNameB s && decide (0 ≤ 8))))) = goodNameB s
    cases goodNameB s <;> rfl
  rw [hg] at h; exact h
theorem atomOnly (s : ByteArray) (hs : s.size ≤ maxLen) (w : World) : Calls Try.prog 63 #[.string s] w fun e w' => e = .returned (.agg #[.int .i64 2, .int .i64 0, .string s, .slice none 0 0]) ∧ Turned (fun _ => False) w w' :=
  (atomV s hs w).mono fun e w' ⟨h1, _, h3⟩ => ⟨h1, h3⟩
set_option maxRecDepth 100000 in
set_option maxHeartbeats 6400000 in
theorem one_int {kb : Nat} {ar sl rg i : Int} {lv : Value} {s : Stp} {w : World} (hs : stOk s) (hop : s.op = sInt) :
    Calls Try.prog 149 #[.pointer (some ⟨kb, 0, none⟩), .agg #[.int .i64 ar, .int .i64 sl, .int .i64 rg, lv], .int .i64 i, .agg #[.string s.op, .int .i64 s.a, .int .i64 s.b, .int .i64 s.c, .int .i64 s.n, .string s.name]] w fun e w' => e = .returned (.bool (stEqB s ⟨sInt, i, 0, 0, s.n, ByteArray.empty⟩ && goodNameB s.name)) ∧ Turned (fun _ => False) w w' := by
  have hnm := hs.2.2.2.2.2; have o0 := op_Int_Var; have o1 := op_Int_Val; have o2 := op_Int_Int; have o3 := op_Int_Atom; have o4 := op_Int_Comp; have en := empty_nil
  cases hq : stEqB s ⟨sInt, i, 0, 0, s.n, ByteArray.empty⟩ with
  | true =>
    obtain ⟨_, h1, h2, h3, h4, h5⟩ := stEqB_iff.1 hq; obtain ⟨op, a, b, c, n, name⟩ := s; simp only at hop h1 h2 h3 h4 h5 hnm; subst hop h1 h2 h3 h5; clear hq hs; obtain ⟨B, hB⟩ : ∃ B, B = goodNameB ByteArray.empty := ⟨_, rfl⟩; have HB := hid hB; clear hB; go_enter Try.func149, Try.ntmps149
    go_wp2_with (first
      | (go_at_call 63; (with_reducible refine (atomOnly ByteArray.empty hnm _).mono ?_); rintro e W1 ⟨rfl, T1⟩)
      | (go_at_call 38; (with_reducible refine (goodAtom ByteArray.empty hnm _).mono ?_); rintro e W2 ⟨rfl, T2⟩; rw [← HB.out]))
    all_goals
      go_ret; exact ⟨by rw [← HB.out]; rfl, ((((Turned.refl _ w).alloc _).alloc _).alloc _).trans (T1.trans T2)⟩
  | false =>
    have HQ : Hid (¬ (s.a = i ∧ s.b = 0 ∧ s.c = 0 ∧ s.name = ByteArray.empty)) := fun c => by
      rw [show stEqB s ⟨sInt, i, 0, 0, s.n, ByteArray.empty⟩ = true from stEqB_iff.2 ⟨hop, c.1, c.2.1, c.2.2.1, rfl, c.2.2.2⟩] at hq; cases hq
    clear hq hs; rw [hop]; go_enter Try.func149, Try.ntmps149
    go_wp2_with (go_at_call 63; exfalso; exact HQ.out (by first | exact ⟨‹_›, ‹_›, ‹_›, (bytes_nil _).1 ‹_›⟩ | exact ⟨‹_›, ‹_›, ‹_›, ‹_›⟩))
    all_goals
      go_ret; exact ⟨rfl, (((Turned.refl _ w).alloc _).alloc _).alloc _⟩
set_option maxRecDepth 100000 in
set_option maxHeartbeats 6400000 in
theorem one_atom {kb : Nat} {ar sl rg i : Int} {lv : Value} {s : Stp} {w : World} (hs : stOk s) (hop : s.op = sAtom) :
    Calls Try.prog 149 #[.pointer (some ⟨kb, 0, none⟩), .agg #[.int .i64 ar, .int .i64 sl, .int .i64 rg, lv], .int .i64 i, .agg #[.string s.op, .int .i64 s.a, .int .i64 s.b, .int .i64 s.c, .int .i64 s.n, .string s.name]] w fun e w' => e = .returned (.bool (stEqB s ⟨sAtom, i, 0, 0, 0, s.name⟩ && goodNameB s.name)) ∧ Turned (fun _ => False) w w' := by
  have hnm := hs.2.2.2.2.2; have o0 := op_Atom_Var; have o1 := op_Atom_Val; have o2 := op_Atom_Int; have o3 := op_Atom_Atom; have o4 := op_Atom_Comp; have en := empty_nil
  cases hq : stEqB s ⟨sAtom, i, 0, 0, 0, s.name⟩ with
  | true =>
    obtain ⟨_, h1, h2, h3, h4, h5⟩ := stEqB_iff.1 hq; obtain ⟨op, a, b, c, n, name⟩ := s; simp only at hop h1 h2 h3 h4 h5 hnm; subst hop h1 h2 h3 h4; clear hq hs; obtain ⟨B, hB⟩ : ∃ B, B = goodNameB name := ⟨_, rfl⟩; have HB := hid hB; clear hB; go_enter Try.func149, Try.ntmps149
    go_wp2_with (first
      | (go_at_call 63; (with_reducible refine (atomOnly name hnm _).mono ?_); rintro e W1 ⟨rfl, T1⟩)
      | (go_at_call 38; (with_reducible refine (goodAtom name hnm _).mono ?_); rintro e W2 ⟨rfl, T2⟩; rw [← HB.out]))
    all_goals
      go_ret; exact ⟨by rw [← HB.out]; rfl, ((((Turned.refl _ w).alloc _).alloc _).alloc _).trans (T1.trans T2)⟩
  | false =>
    have HQ : Hid (¬ (s.a = i ∧ s.b = 0 ∧ s.c = 0 ∧ s.n = 0)) := fun c => by
      rw [show stEqB s ⟨sAtom, i, 0, 0, 0, s.name⟩ = true from stEqB_iff.2 ⟨hop, c.1, c.2.1, c.2.2.1, c.2.2.2, rfl⟩] at hq; cases hq
    clear hq hs; rw [hop]; go_enter Try.func149, Try.ntmps149
    go_wp2_with (go_at_call 63; exfalso; exact HQ.out (by first | exact ⟨‹_›, ‹_›, ‹_›, (bytes_nil _).1 ‹_›⟩ | exact ⟨‹_›, ‹_›, ‹_›, ‹_›⟩))
    all_goals
      go_ret; exact ⟨rfl, (((Turned.refl _ w).alloc _).alloc _).alloc _⟩
end Go.Proofs.Ytoihjobdfjajfaa
namespace Go.Proofs.Ytoihjobdfjajfaa
open Lib (hid)
open Go.RowKit Go.Maps
open Tm (Stp sVar sVal sInt sAtom sComp)
theorem three_boxes (w : World) (a b c : Obj) : Turned (fun _ => False) w (((w.alloc a).alloc b).alloc c) ∧ (((w.alloc a).alloc b).alloc c).heap[w.heap.size]? = some a ∧ (((w.alloc a).alloc b).alloc c).heap[w.heap.size + 1]? = some b ∧ (((w.alloc a).alloc b).alloc c).heap[w.heap.size + 1 + 1]? = some c := by
  have h := twoBox w a b; have T := (Turned.refl (fun _ => False) ((w.alloc a).alloc b)).alloc c; have hn := heap_alloc_new ((w.alloc a).alloc b) c; rw [h.2.1] at hn; exact ⟨h.1.trans T, (T.block _ (by have := h.2.1; omega) (fun f => f)).trans h.2.2.1, (T.block _ (by have := h.2.1; omega) (fun f => f)).trans h.2.2.2, hn⟩
theorem cells2 {w : World} {bb : Nat} {a b : Value} {T : TypeId} (h : w.heap[bb]? = some (.cells #[a, b] T (0, 0))) : w.cell? ⟨bb, 0, none⟩ = some a ∧ w.cell? ⟨bb, 1, none⟩ = some b :=
  ⟨by rw [cell_of_row w bb 0 _ T (0, 0) h]; rfl, by rw [cell_of_row w bb 1 _ T (0, 0) h]; rfl⟩
set_option maxRecDepth 100000 in
set_option maxHeartbeats 12800000 in
theorem one_compT {kb mb : Nat} {k ar sl rg i : Int} {lv : Value} {s : Stp} {w : World} (hb : w.heap[kb]? = some (.cells #[.int .i64 k, .map (some mb)] 178 (0, 0))) (hk : 0 ≤ k ∧ k ≤ 30000) (hb8 : 1 ≤ s.b ∧ s.b ≤ 8) (hs : stOk s) (hop : s.op = sComp) (h1 : s.a = i) (h3 : s.c = k) (h4 : s.n = 0) :
    Calls Try.prog 149 #[.pointer (some ⟨kb, 0, none⟩), .agg #[.int .i64 ar, .int .i64 sl, .int .i64 rg, lv], .int .i64 i, .agg #[.string s.op, .int .i64 s.a, .int .i64 s.b, .int .i64 s.c, .int .i64 s.n, .string s.name]] w fun e w' => e = .returned (.bool (goodNameB s.name)) ∧ w'.heap[kb]? = some (.cells #[.int .i64 (k + s.b), .map (some mb)] 178 (0, 0)) ∧ Turned (fun q => q = kb) w w' := by
  have hnm := hs.2.2.2.2.2; have o0 := op_Comp_Var; have o1 := op_Comp_Val; have o2 := op_Comp_Int; have o3 := op_Comp_Atom; have o4 := op_Comp_Comp; have d1 : decide (s.b < 1) = false := decide_eq_false (by omega); have d2 : decide (8 < s.b) = false := decide_eq_false (by omega); have hkl := (Array.getElem?_eq_some_iff.1 hb).1; obtain ⟨T0, z0, z1, z2⟩ := three_boxes w (.cells #[.int .i64 ar, .int .i64 sl, .int .i64 rg, lv] 104) (.cells #[.string sComp, .int .i64 i, .int .i64 s.b, .int .i64 k, .int .i64 0, .string s.name] 139) (.cells #[.string sComp, .int .i64 i, .int .i64 0, .int .i64 0, .int .i64 0, .string ⟨#[]⟩] 139); have H9 := hid z2; have H7 := hid (fun W (T : Turned (fun q => q = w.heap.size + 1 + 1) (((w.alloc (.cells #[.int .i64 ar, .int .i64 sl, .int .i64 rg, lv] 104)).alloc (.cells #[.string sComp, .int .i64 i, .int .i64 s.b, .int .i64 k, .int .i64 0, .string s.name] 139)).alloc (.cells #[.string sComp, .int .i64 i, .int .i64 0, .int .i64 0, .int .i64 0, .string ⟨#[]⟩] 139)) W) => (T.block _ (Array.getElem?_eq_some_iff.1 z1).1 (by omega)).trans z1); have HK := hid (fun W (T : Turned (fun q => q = w.heap.size + 1 + 1) (((w.alloc (.cells #[.int .i64 ar, .int .i64 sl, .int .i64 rg, lv] 104)).alloc (.cells #[.string sComp, .int .i64 i, .int .i64 s.b, .int .i64 k, .int .i64 0, .string s.name] 139)).alloc (.cells #[.string sComp, .int .i64 i, .int .i64 0, .int .i64 0, .int .i64 0, .string ⟨#[]⟩] 139)) W) => (T.block kb (Nat.lt_of_lt_of_le hkl T0.size) (by omega)).trans ((T0.block kb hkl (fun f => f)).trans hb)); have HT0 := hid T0; have HKL := hid hkl; have HKB := hid hk; have HB8 := hid hb8; rw [hop, h1, h3, h4]; clear T0 z0 z1 z2 hb hkl hk hs hb8; go_enter Try.func149, Try.ntmps149
  go_wp2_with fail
  refine wp_region_k [63, 64, 65, 66, 67, 68, 69, 70, 71, 72, 73] [9, 11, 13] [] (fun dd vv => (match dd with | 63 => vv = .pointer (some ⟨w.heap.size + 1, 5, none⟩) | 64 => vv = .string s.name | 65 => vv = .pointer (some ⟨w.heap.size + 1, 2, none⟩) | 66 => vv = .int .i64 s.b | 67 => vv = .pointer (some ⟨kb, 0, none⟩) | 68 => vv = .pointer (some ⟨kb, 0, none⟩) | 69 => vv = .pointer (some ⟨kb, 0, none⟩) | 70 => vv = .int .i64 k | 71 => vv = .pointer (some ⟨w.heap.size + 1 + 1, 5, none⟩) | 72 => vv = .pointer (some ⟨w.heap.size + 1 + 1, 2, none⟩) | 73 => vv = .pointer (some ⟨w.heap.size + 1 + 1, 3, none⟩) | _ => True : Prop)) (BoxR (w.heap.size + 1 + 1) 139 [.string sComp, .int .i64 i, .int .i64 0, .int .i64 0, .int .i64 0, .string ⟨#[]⟩] [.string sComp, .int .i64 i, .int .i64 s.b, .int .i64 k, .int .i64 0, .string s.name] [(9, 5), (11, 2), (13, 3)] (((w.alloc (.cells #[.int .i64 ar, .int .i64 sl, .int .i64 rg, lv] 104)).alloc (.cells #[.string sComp, .int .i64 i, .int .i64 s.b, .int .i64 k, .int .i64 0, .string s.name] 139)).alloc (.cells #[.string sComp, .int .i64 i, .int .i64 0, .int .i64 0, .int .i64 0, .string ⟨#[]⟩] 139))) (by kernel_rfl) rfl (by kernel_rfl) (by kernel_rfl) (fun w h => BoxR.start H9.out h) (fun hs w w' h ht => h.turned0 ht) ?hs ?hQ
  case hs =>
    refine ⟨?s0, ?s1, ?s2, ?s3, ?s4, ?s5, ?s6, ?s7, ?s8, ?s9, ?s10, ?s11, ?s12, ?s13, trivial⟩
    case s0 =>
      refine fun hs hl => stepG_free [] [7] (by kernel_rfl) rfl ?_
      intro ac W hT hI hO; have h7 : ac.tmps.getD 7 undef = .pointer (some ⟨w.heap.size + 1, 0, none⟩) := hO 7 (by simp); show Brings _ (fun v _ => _ ∧ v = _) _; simp only [execOp, Act.eval, h7]; go_simp
      try exact tq
    case s1 =>
      refine fun hs hl => stepG_free [63] [] (by kernel_rfl) rfl ?_
      intro ac W hT hI hO; have h63 : ac.tmps.getD 63 undef = _ := hI 63 (by simp); show Brings _ (fun v _ => _ ∧ v = _) _; obtain ⟨e0, e1, e2, e3, e4, e5⟩ := cells6 (H7.out W hT.t); simp only [execOp, Act.eval, h63]; go_simp
      try exact tq
    case s2 =>
      refine fun hs hl => stepG_free [] [7] (by kernel_rfl) rfl ?_
      intro ac W hT hI hO; have h7 : ac.tmps.getD 7 undef = .pointer (some ⟨w.heap.size + 1, 0, none⟩) := hO 7 (by simp); show Brings _ (fun v _ => _ ∧ v = _) _; simp only [execOp, Act.eval, h7]; go_simp
      try exact tq
    case s3 =>
      refine fun hs hl => stepG_free [65] [] (by kernel_rfl) rfl ?_
      intro ac W hT hI hO; have h65 : ac.tmps.getD 65 undef = _ := hI 65 (by simp); show Brings _ (fun v _ => _ ∧ v = _) _; obtain ⟨e0, e1, e2, e3, e4, e5⟩ := cells6 (H7.out W hT.t); simp only [execOp, Act.eval, h65]; go_simp
      try exact tq
    case s4 =>
      refine fun hs hl => stepG_free [] [0] (by kernel_rfl) rfl ?_
      intro ac W hT hI hO; have h0 : ac.tmps.getD 0 undef = .pointer (some ⟨kb, 0, none⟩) := hO 0 (by simp); show Brings _ (fun v _ => _ ∧ v = _) _; simp only [execOp, Act.eval, h0]; go_simp
      try exact tq
    case s5 =>
      refine fun hs hl => stepG_free [67] [] (by kernel_rfl) rfl ?_
      intro ac W hT hI hO; have h67 : ac.tmps.getD 67 undef = _ := hI 67 (by simp); show Brings _ (fun v _ => _ ∧ v = _) _; simp only [execOp, Act.eval, h67]; go_simp
      try exact tq
    case s6 =>
      refine fun hs hl => stepG_free [68] [] (by kernel_rfl) rfl ?_
      intro ac W hT hI hO; have h68 : ac.tmps.getD 68 undef = _ := hI 68 (by simp); show Brings _ (fun v _ => _ ∧ v = _) _; simp only [execOp, Act.eval, h68]; go_simp
      try exact tq
    case s7 =>
      refine fun hs hl => stepG_free [69] [] (by kernel_rfl) rfl ?_
      intro ac W hT hI hO; have h69 : ac.tmps.getD 69 undef = _ := hI 69 (by simp); show Brings _ (fun v _ => _ ∧ v = _) _; obtain ⟨k0, k1⟩ := cells2 (HK.out W hT.t); simp only [execOp, Act.eval, h69]; go_simp
      try exact tq
    case s8 =>
      refine fun hs hl => stepG_free [] [9] (by kernel_rfl) rfl ?_
      intro ac W hT hI hO; have h9 : ac.tmps.getD 9 undef = .pointer (some ⟨w.heap.size + 1 + 1, 0, none⟩) := hO 9 (by simp); show Brings _ (fun v _ => _ ∧ v = _) _; simp only [execOp, Act.eval, h9]; go_simp
      try exact tq
    case s9 =>
      refine fun hs hno hl => stepG_free [71, 64] [] (by kernel_rfl) rfl ?_
      intro ac W hT hI hO; have h71 : ac.tmps.getD 71 undef = _ := hI 71 (by simp); have h64 : ac.tmps.getD 64 undef = _ := hI 64 (by simp); show Brings Try.prog (fun vv w' => BoxR (w.heap.size + 1 + 1) 139 [.string sComp, .int .i64 i, .int .i64 0, .int .i64 0, .int .i64 0, .string ⟨#[]⟩] [.string sComp, .int .i64 i, .int .i64 s.b, .int .i64 k, .int .i64 0, .string s.name] [(9, 5), (11, 2), (13, 3)] (((w.alloc (.cells #[.int .i64 ar, .int .i64 sl, .int .i64 rg, lv] 104)).alloc (.cells #[.string sComp, .int .i64 i, .int .i64 s.b, .int .i64 k, .int .i64 0, .string s.name] 139)).alloc (.cells #[.string sComp, .int .i64 i, .int .i64 0, .int .i64 0, .int .i64 0, .string ⟨#[]⟩] 139)) (hs ++ [(9, vv)]) w') _; obtain ⟨⟨z, hz⟩, hf⟩ := hT.at (c := 5) (by simp); simp only [execOp, Act.eval, h71, h64]; go_simp; exact hT.store (by kernel_rfl) (by simp) (by simp) rfl
    case s10 =>
      refine fun hs hl => stepG_free [] [9] (by kernel_rfl) rfl ?_
      intro ac W hT hI hO; have h9 : ac.tmps.getD 9 undef = .pointer (some ⟨w.heap.size + 1 + 1, 0, none⟩) := hO 9 (by simp); show Brings _ (fun v _ => _ ∧ v = _) _; simp only [execOp, Act.eval, h9]; go_simp
      try exact tq
    case s11 =>
      refine fun hs hno hl => stepG_free [72, 66] [] (by kernel_rfl) rfl ?_
      intro ac W hT hI hO; have h72 : ac.tmps.getD 72 undef = _ := hI 72 (by simp); have h66 : ac.tmps.getD 66 undef = _ := hI 66 (by simp); show Brings Try.prog (fun vv w' => BoxR (w.heap.size + 1 + 1) 139 [.string sComp, .int .i64 i, .int .i64 0, .int .i64 0, .int .i64 0, .string ⟨#[]⟩] [.string sComp, .int .i64 i, .int .i64 s.b, .int .i64 k, .int .i64 0, .string s.name] [(9, 5), (11, 2), (13, 3)] (((w.alloc (.cells #[.int .i64 ar, .int .i64 sl, .int .i64 rg, lv] 104)).alloc (.cells #[.string sComp, .int .i64 i, .int .i64 s.b, .int .i64 k, .int .i64 0, .string s.name] 139)).alloc (.cells #[.string sComp, .int .i64 i, .int .i64 0, .int .i64 0, .int .i64 0, .string ⟨#[]⟩] 139)) (hs ++ [(11, vv)]) w') _; obtain ⟨⟨z, hz⟩, hf⟩ := hT.at (c := 2) (by simp); simp only [execOp, Act.eval, h72, h66]; go_simp; exact hT.store (by kernel_rfl) (by simp) (by simp) rfl
    case s12 =>
      refine fun hs hl => stepG_free [] [9] (by kernel_rfl) rfl ?_
      intro ac W hT hI hO; have h9 : ac.tmps.getD 9 undef = .pointer (some ⟨w.heap.size + 1 + 1, 0, none⟩) := hO 9 (by simp); show Brings _ (fun v _ => _ ∧ v = _) _; simp only [execOp, Act.eval, h9]; go_simp
      try exact tq
    case s13 =>
      refine fun hs hno hl => stepG_free [73, 70] [] (by kernel_rfl) rfl ?_
      intro ac W hT hI hO; have h73 : ac.tmps.getD 73 undef = _ := hI 73 (by simp); have h70 : ac.tmps.getD 70 undef = _ := hI 70 (by simp); show Brings Try.prog (fun vv w' => BoxR (w.heap.size + 1 + 1) 139 [.string sComp, .int .i64 i, .int .i64 0, .int .i64 0, .int .i64 0, .string ⟨#[]⟩] [.string sComp, .int .i64 i, .int .i64 s.b, .int .i64 k, .int .i64 0, .string s.name] [(9, 5), (11, 2), (13, 3)] (((w.alloc (.cells #[.int .i64 ar, .int .i64 sl, .int .i64 rg, lv] 104)).alloc (.cells #[.string sComp, .int .i64 i, .int .i64 s.b, .int .i64 k, .int .i64 0, .string s.name] 139)).alloc (.cells #[.string sComp, .int .i64 i, .int .i64 0, .int .i64 0, .int .i64 0, .string ⟨#[]⟩] 139)) (hs ++ [(13, vv)]) w') _; obtain ⟨⟨z, hz⟩, hf⟩ := hT.at (c := 3) (by simp); simp only [execOp, Act.eval, h73, h70]; go_simp; exact hT.store (by kernel_rfl) (by simp) (by simp) rfl
  case hQ =>
    intro hs3 vs3 w3 hall huniq hR hV; simp only [List.foldl_cons, List.foldl_nil, List.setIfInBounds_toArray, List.set_cons_zero, List.set_cons_succ]; have hnew := hR.done rfl (by intro a ha; simp only [List.mem_cons, List.not_mem_nil, or_false] at ha; rcases ha with rfl | rfl | rfl <;> exact hall _ (by simp)) (by intro c hc hn; simp only [List.length_cons, List.length_nil] at hc; simp only [List.map_cons, List.map_nil, List.mem_cons, List.not_mem_nil, or_false, not_or] at hn; have hcs : c = 0 ∨ c = 1 ∨ c = 2 ∨ c = 3 ∨ c = 4 ∨ c = 5 := (by omega); rcases hcs with rfl | rfl | rfl | rfl | rfl | rfl <;> first | rfl | omega); have H93 := hid hnew; have H73 := hid (H7.out w3 hR.t); have HK3 := hid (HK.out w3 hR.t); have HT3 := hid hR.t; obtain ⟨e0, e1, e2, e3, e4, e5⟩ := cells6 H73.out; clear hR hV hall huniq hnew
    go_wp2_with fail
    clear e0 e1 e2 e3 e4 e5; have HS7 := hid (fun W (T : Turned (fun q => q = kb) w3 W) => (T.block _ (Array.getElem?_eq_some_iff.1 H73.out).1 (by have := HKL.out; omega)).trans H73.out); refine wp_region_k [82, 83, 84, 85, 86, 87, 88, 89, 90] [9] [] (fun dd vv => (match dd with | 82 => vv = .pointer (some ⟨kb, 0, none⟩) | 83 => vv = .pointer (some ⟨kb, 0, none⟩) | 84 => vv = .pointer (some ⟨kb, 0, none⟩) | 85 => vv = .int .i64 k | 86 => vv = .pointer (some ⟨w.heap.size + 1, 2, none⟩) | 87 => vv = .int .i64 s.b | 88 => vv = .int .i64 (k + s.b) | 89 => vv = .pointer (some ⟨kb, 0, none⟩) | 90 => vv = .pointer (some ⟨kb, 0, none⟩) | _ => True : Prop)) (BoxR (kb) 178 [.int .i64 k, .map (some mb)] [.int .i64 (k + s.b), .map (some mb)] [(9, 0)] w3) (by kernel_rfl) rfl (by kernel_rfl) (by kernel_rfl) (fun w h => BoxR.start HK3.out h) (fun hs w w' h ht => h.turned0 ht) ?hs ?hQ
    case hs =>
      refine ⟨?s0, ?s1, ?s2, ?s3, ?s4, ?s5, ?s6, ?s7, ?s8, ?s9, trivial⟩
      case s0 =>
        refine fun hs hl => stepG_free [] [0] (by kernel_rfl) rfl ?_
        intro ac W hT hI hO; have h0 : ac.tmps.getD 0 undef = .pointer (some ⟨kb, 0, none⟩) := hO 0 (by simp); show Brings _ (fun v _ => _ ∧ v = _) _; simp only [execOp, Act.eval, h0]; go_simp
        try exact tq
      case s1 =>
        refine fun hs hl => stepG_free [82] [] (by kernel_rfl) rfl ?_
        intro ac W hT hI hO; have h82 : ac.tmps.getD 82 undef = _ := hI 82 (by simp); show Brings _ (fun v _ => _ ∧ v = _) _; simp only [execOp, Act.eval, h82]; go_simp
        try exact tq
      case s2 =>
        refine fun hs hl => stepG_free [83] [] (by kernel_rfl) rfl ?_
        intro ac W hT hI hO; have h83 : ac.tmps.getD 83 undef = _ := hI 83 (by simp); show Brings _ (fun v _ => _ ∧ v = _) _; simp only [execOp, Act.eval, h83]; go_simp
        try exact tq
      case s3 =>
        refine fun hs hl => stepG_free [84] [] (by kernel_rfl) rfl ?_
        intro ac W hT hI hO; have h84 : ac.tmps.getD 84 undef = _ := hI 84 (by simp); show Brings _ (fun v _ => _ ∧ v = _) _; have k0 := hT.old (c := 0) rfl (fun j hj v => by simp only [List.mem_cons, List.not_mem_nil, or_false, Prod.mk.injEq] at hj; obtain ⟨rfl, _⟩ := hj; exact hl 9 30 v (by kernel_rfl)); simp only [execOp, Act.eval, h84]; go_simp
        try exact tq
      case s4 =>
        refine fun hs hl => stepG_free [] [7] (by kernel_rfl) rfl ?_
        intro ac W hT hI hO; have h7 : ac.tmps.getD 7 undef = .pointer (some ⟨w.heap.size + 1, 0, none⟩) := hO 7 (by simp); show Brings _ (fun v _ => _ ∧ v = _) _; simp only [execOp, Act.eval, h7]; go_simp
        try exact tq
      case s5 =>
        refine fun hs hl => stepG_free [86] [] (by kernel_rfl) rfl ?_
        intro ac W hT hI hO; have h86 : ac.tmps.getD 86 undef = _ := hI 86 (by simp); show Brings _ (fun v _ => _ ∧ v = _) _; obtain ⟨e0, e1, e2, e3, e4, e5⟩ := cells6 (HS7.out W hT.t); simp only [execOp, Act.eval, h86]; go_simp
        try exact tq
      case s6 =>
        refine fun hs hl => stepG_free [85, 87] [] (by kernel_rfl) rfl ?_
        intro ac W hT hI hO; have h85 : ac.tmps.getD 85 undef = _ := hI 85 (by simp); have h87 : ac.tmps.getD 87 undef = _ := hI 87 (by simp); show Brings _ (fun v _ => _ ∧ v = _) _; have hw : IntKind.i64.wrap (k + s.b) = k + s.b := wrapI (by have := HKB.out; have := HB8.out; omega) (by have := HKB.out; have := HB8.out; omega); simp only [execOp, Act.eval, h85, h87]; go_simp
        try exact tq
      case s7 =>
        refine fun hs hl => stepG_free [82] [] (by kernel_rfl) rfl ?_
        intro ac W hT hI hO; have h82 : ac.tmps.getD 82 undef = _ := hI 82 (by simp); show Brings _ (fun v _ => _ ∧ v = _) _; simp only [execOp, Act.eval, h82]; go_simp
        try exact tq
      case s8 =>
        refine fun hs hl => stepG_free [89] [] (by kernel_rfl) rfl ?_
        intro ac W hT hI hO; have h89 : ac.tmps.getD 89 undef = _ := hI 89 (by simp); show Brings _ (fun v _ => _ ∧ v = _) _; simp only [execOp, Act.eval, h89]; go_simp
        try exact tq
      case s9 =>
        refine fun hs hno hl => stepG_free [90, 88] [] (by kernel_rfl) rfl ?_
        intro ac W hT hI hO; have h90 : ac.tmps.getD 90 undef = _ := hI 90 (by simp); have h88 : ac.tmps.getD 88 undef = _ := hI 88 (by simp); show Brings Try.prog (fun vv w' => BoxR (kb) 178 [.int .i64 k, .map (some mb)] [.int .i64 (k + s.b), .map (some mb)] [(9, 0)] w3 (hs ++ [(9, vv)]) w') _; obtain ⟨⟨z, hz⟩, hf⟩ := hT.at (c := 0) (by simp); simp only [execOp, Act.eval, h90, h88]; go_simp; exact hT.store (by kernel_rfl) (by simp) (by simp) rfl
    case hQ =>
      intro hs4 vs4 w4 hall huniq hR hV; simp only [List.foldl_cons, List.foldl_nil, List.setIfInBounds_toArray, List.set_cons_zero, List.set_cons_succ]; have hnew := hR.done rfl (by intro a ha; simp only [List.mem_cons, List.not_mem_nil, or_false] at ha; rcases ha with rfl <;> exact hall _ (by simp)) (by intro c hc hn; simp only [List.length_cons, List.length_nil] at hc; simp only [List.map_cons, List.map_nil, List.mem_cons, List.not_mem_nil, or_false, not_or] at hn; have hcs : c = 0 ∨ c = 1 ∨ c = 2 ∨ c = 3 ∨ c = 4 ∨ c = 5 := (by omega); rcases hcs with rfl | rfl | rfl | rfl | rfl | rfl <;> first | rfl | omega); have H74 := hid ((hR.t.block _ (Array.getElem?_eq_some_iff.1 H73.out).1 (by have := HKL.out; omega)).trans H73.out); have H94 := hid ((hR.t.block _ (Array.getElem?_eq_some_iff.1 H93.out).1 (by have := HKL.out; omega)).trans H93.out); have HK4 := hid hnew; have HT4 := hid hR.t; clear hR hV hall huniq hnew; obtain ⟨a0, a1, a2, a3, a4, a5⟩ := cells6 H74.out; obtain ⟨b0, b1, b2, b3, b4, b5⟩ := cells6 H94.out; obtain ⟨B, hB⟩ : ∃ B, B = goodNameB s.name := ⟨_, rfl⟩; have HB := hid hB; clear hB
      go_wp2_with (first
        | (go_at_call 63; (with_reducible refine (atomOnly s.name hnm _).mono ?_); rintro e W1 ⟨rfl, T1⟩)
        | (go_at_call 38; (with_reducible refine (goodAtom s.name hnm _).mono ?_); rintro e W2 ⟨rfl, T2⟩; rw [← HB.out]))
      go_ret; refine ⟨by rw [← HB.out]; rfl, ((T1.trans T2).block kb (Array.getElem?_eq_some_iff.1 HK4.out).1 (fun f => f)).trans HK4.out, ?_⟩; have hz := HKL.out; have T7 := HT0.out.step HT3.out (fun q hq e => by omega); exact ((T7.mono (fun _ _ f => f.elim)).trans HT4.out).trans ((T1.trans T2).mono (fun _ _ f => f.elim))
end Go.Proofs.Ytoihjobdfjajfaa
namespace Go.Proofs.Ytoihjobdfjajfaa
open Go.RowKit Go.Maps
structure MapR (kt : TypeId) (mb op n n' : Nat) (f f' : Int → Option Value) (w0 : World) (hs : Hist) (W : World) : Prop where
  t : Turned (fun k => k = mb) w0 W
  old : (∀ v, (op, v) ∉ hs) → IMap Try.prog kt W mb n f
  new : ∀ v, (op, v) ∈ hs → IMap Try.prog kt W mb n' f'
section
variable {kt : TypeId} {mb op n n' : Nat} {f f' : Int → Option Value} {w0 W W' : World} {hs : Hist}
theorem MapR.start (h : IMap Try.prog kt w0 mb n f) (T : Turned (fun _ => False) w0 W) : MapR kt mb op n n' f f' w0 [] W :=
  ⟨T.mono (fun _ _ f => f.elim), fun _ => h.turned T (fun f => f), fun v hm => (List.not_mem_nil hm).elim⟩
theorem MapR.turned0 (h : MapR kt mb op n n' f f' w0 hs W) (T : Turned (fun _ => False) W W') : MapR kt mb op n n' f f' w0 hs W' :=
  ⟨h.t.trans (T.mono (fun _ _ f => f.elim)), fun hn => (h.old hn).turned T (fun f => f), fun v hv => (h.new v hv).turned T (fun f => f)⟩
theorem MapR.put (h : MapR kt mb op n n' f f' w0 hs W) {x : Value} (T : Turned (· = mb) W W') (hm : IMap Try.prog kt W' mb n' f') : MapR kt mb op n n' f f' w0 (hs ++ [(op, x)]) W' :=
  ⟨h.t.step T (fun i hi e => e), fun hn => absurd (List.mem_append_right _ (List.mem_singleton.2 rfl)) (hn x), fun v hv => hm⟩
end
end Go.Proofs.Ytoihjobdfjajfaa
namespace Go.Proofs.Ytoihjobdfjajfaa
open Lib (hid)
open Go.RowKit Go.Maps
open Tm (Stp sVar sVal sInt sAtom sComp)
theorem law3 : Keyed Try.prog 3 := int_keyed Try.underlying3
theorem key3 {n : Int} (h : I64 n) : Go.keyOf Try.prog 3 (.int .i64 n) = some (kI n) := keyOf_int_mk Try.underlying3 h.wf
theorem hadLook {w : World} {mb n : Nat} {had : List Int} {b : Int} (h : IMap Try.prog 3 w mb n (hadF had)) (h64 : I64 b) : (Instr.lookup 145 (.map (some mb)) (.int .i64 b) false).run Try.prog w = .ok (.bool (decide (b ∈ had))) w := by
  rw [h.look law3 Try.underlying145 (zero4 _) (key3 h64), hadF_get]
def hadN (had : List Int) (b : Int) : List Int := if b ∈ had then had else had ++ [b]
theorem hadN_len (had : List Int) (b : Int) : (hadN had b).length ≤ had.length + 1 := by
  unfold hadN; split
  · omega
  · rw [List.length_append]; exact Nat.le_refl _
theorem had_next {had : List Int} {b : Int} : upd (hadF had) b (.bool true) = hadF (hadN had b) ∧ (if (hadF had b).isSome then had.length else had.length + 1) = (hadN had b).length := by
  unfold hadN
  by_cases h : b ∈ had
  · rw [if_pos h, hadF_same h]
    refine ⟨rfl, if_pos ?_⟩; unfold hadF; rw [if_pos h]; rfl
  · rw [if_neg h, hadF_put]
    refine ⟨rfl, ?_⟩; rw [if_neg (by unfold hadF; rw [if_neg h]; simp), List.length_append]; rfl
set_option maxRecDepth 100000 in
set_option maxHeartbeats 12800000 in
theorem one_var_okT {kb mb : Nat} {k ar sl rg i : Int} {lv : Value} {had : List Int} {s : Stp} {w : World} (C : Chk kb mb k had w) (hf : had.length ≤ 3000) (hs : stOk s) (hop : s.op = sVar) (hb0 : 0 ≤ s.b) (hb : s.b < sl) (hm : s.b ∉ had) (h1 : s.a = i) (h2 : s.c = 0) (h3 : s.n = 0) (h4 : s.name = ByteArray.empty) :
    Calls Try.prog 149 #[.pointer (some ⟨kb, 0, none⟩), .agg #[.int .i64 ar, .int .i64 sl, .int .i64 rg, lv], .int .i64 i, .agg #[.string s.op, .int .i64 s.a, .int .i64 s.b, .int .i64 s.c, .int .i64 s.n, .string s.name]] w fun e w' => e = .returned (.bool (goodNameB ByteArray.empty)) ∧ Chk kb mb k (hadN had s.b) w' ∧ Turned (fun q => q = mb) w w' := by
  have hnm := hs.2.2.2.2.2; have hb64 := hs.2.2.1; have o0 := op_Var_Var; have o1 := op_Var_Val; have o2 := op_Var_Int; have o3 := op_Var_Atom; have o4 := op_Var_Comp; have en := empty_nil; have d1 : decide (s.b < 0) = false := decide_eq_false (by omega); have d2 : decide (sl ≤ s.b) = false := decide_eq_false (by omega); obtain ⟨T0, z0, z1, z2⟩ := three_boxes w (.cells #[.int .i64 ar, .int .i64 sl, .int .i64 rg, lv] 104) (.cells #[.string sVar, .int .i64 i, .int .i64 s.b, .int .i64 0, .int .i64 0, .string ByteArray.empty] 139) (.cells #[.string sVar, .int .i64 i, .int .i64 s.b, .int .i64 0, .int .i64 0, .string ⟨#[]⟩] 139); obtain ⟨W6, hW6⟩ : ∃ z, z = ((w.alloc (.cells #[.int .i64 ar, .int .i64 sl, .int .i64 rg, lv] 104)).alloc (.cells #[.string sVar, .int .i64 i, .int .i64 s.b, .int .i64 0, .int .i64 0, .string ByteArray.empty] 139)).alloc (.cells #[.string sVar, .int .i64 i, .int .i64 s.b, .int .i64 0, .int .i64 0, .string ⟨#[]⟩] 139) := ⟨_, rfl⟩; rw [← hW6] at T0 z0 z1 z2; have T6 := T0; have y0 := z0; have y1 := z1; have y2 := z2; have C6 := C.turned0 T6; have hlt := C.lt; have HC6 := hid C6; have H5 := hid (fun W (T : Turned (fun _ => False) W6 W) => (T.block _ (Array.getElem?_eq_some_iff.1 y0).1 (fun f => f)).trans y0); have H7 := hid (fun W (T : Turned (fun _ => False) W6 W) => (T.block _ (Array.getElem?_eq_some_iff.1 y1).1 (fun f => f)).trans y1); have H9 := hid (fun W (T : Turned (fun _ => False) W6 W) => (T.block _ (Array.getElem?_eq_some_iff.1 y2).1 (fun f => f)).trans y2); have HT6 := hid T6; have HLT := hid hlt; have HW6 := hid hW6; have HB64 := hid hb64; have HF := hid hf; have HLK := hid (fun W (T : Turned (fun _ => False) W6 W) => (decide_eq_false hm : decide (s.b ∈ had) = false) ▸ hadLook (C6.turned0 T).m hb64); rw [hop, h1, h2, h3, h4]; clear T0 z0 z1 z2 T6 y0 y1 y2 C6 hlt hW6 hb64 hf C hs; go_enter Try.func149, Try.ntmps149
  go_wp2_with fail
  rw [← HW6.out]; refine wp_region_ssa' (G := (fun dd vv W => (match dd with | 22 => vv = .pointer (some ⟨w.heap.size + 1, 2, none⟩) | 23 => vv = .int .i64 s.b | 24 => vv = .bool false | 25 => vv = .bool false | 26 => vv = .pointer (some ⟨w.heap.size + 1, 2, none⟩) | 27 => vv = .int .i64 s.b | 28 => vv = .pointer (some ⟨w.heap.size, 1, none⟩) | 29 => vv = .int .i64 sl | 30 => vv = .bool false | 31 => vv = .bool false | 32 => vv = .bool false | 33 => vv = .pointer (some ⟨kb, 0, none⟩) | 34 => vv = .pointer (some ⟨kb, 0, none⟩) | 35 => vv = .pointer (some ⟨kb, 1, none⟩) | 36 => vv = .map (some mb) | 37 => vv = .pointer (some ⟨w.heap.size + 1, 2, none⟩) | 38 => vv = .int .i64 s.b | 39 => vv = .bool false | 40 => vv = .pointer (some ⟨w.heap.size + 1, 0, none⟩) | 41 => vv = .string sVar | 42 => vv = .bool false | 43 => vv = .bool false | 44 => vv = .bool false  | _ => True : Prop))) [22, 23, 24, 25, 26, 27, 28, 29, 30, 31, 32, 33, 34, 35, 36, 37, 38, 39, 40, 41, 42, 43, 44] (by kernel_rfl) rfl (by kernel_rfl) ?hG ?hs ?hQ
  case hG => exact fun d v _ _ _ h => h
  case hs =>
    refine ⟨?s0, ?s1, ?s2, ?s3, ?s4, ?s5, ?s6, ?s7, ?s8, ?s9, ?s10, ?s11, ?s12, ?s13, ?s14, ?s15, ?s16, ?s17, ?s18, ?s19, ?s20, ?s21, ?s22, trivial⟩
    case s0 =>
      refine stepOk_free [] [7] (by kernel_rfl) rfl ?_; intro ac W hT hI hO; have h7 : ac.tmps.getD 7 undef = .pointer (some ⟨w.heap.size + 1, 0, none⟩) := hO 7 (by simp); show Brings _ (fun v _ => _ ∧ v = _) _; simp only [execOp, Act.eval, h7]; go_simp
      try exact tq
    case s1 =>
      refine stepOk_free [22] [] (by kernel_rfl) rfl ?_; intro ac W hT hI hO; have h22 : ac.tmps.getD 22 undef = _ := hI 22 (by simp); show Brings _ (fun v _ => _ ∧ v = _) _; obtain ⟨e0, e1, e2, e3, e4, e5⟩ := cells6 (H7.out W hT); simp only [execOp, Act.eval, h22]; go_simp
      try exact tq
    case s2 =>
      refine stepOk_free [23] [] (by kernel_rfl) rfl ?_; intro ac W hT hI hO; have h23 : ac.tmps.getD 23 undef = _ := hI 23 (by simp); show Brings _ (fun v _ => _ ∧ v = _) _; simp only [execOp, Act.eval, h23]; go_simp
      try exact tq
    case s3 =>
      refine stepOk_free [24] [] (by kernel_rfl) rfl ?_; intro ac W hT hI hO; have h24 : ac.tmps.getD 24 undef = _ := hI 24 (by simp); show Brings _ (fun v _ => _ ∧ v = _) _; simp only [execOp, Act.eval, h24]; go_simp
      try exact tq
    case s4 =>
      refine stepOk_guard [25] [7] (by kernel_rfl) 3 false 25 rfl rfl (by simp) true false (fun _ _ h => h) (fun hc => ?_) (fun hc => by cases hc); intro ac W hT hI hO; have h7 : ac.tmps.getD 7 undef = .pointer (some ⟨w.heap.size + 1, 0, none⟩) := hO 7 (by simp); show Brings _ (fun v _ => _ ∧ v = _) _; simp only [execOp, Act.eval, h7]; go_simp
      try exact tq
    case s5 =>
      refine stepOk_guard [26, 25] [] (by kernel_rfl) 3 false 25 rfl rfl (by simp) true false (fun _ _ h => h) (fun hc => ?_) (fun hc => by cases hc); intro ac W hT hI hO; have h26 : ac.tmps.getD 26 undef = _ := hI 26 (by simp); show Brings _ (fun v _ => _ ∧ v = _) _; obtain ⟨e0, e1, e2, e3, e4, e5⟩ := cells6 (H7.out W hT); simp only [execOp, Act.eval, h26]; go_simp
      try exact tq
    case s6 =>
      refine stepOk_guard [25] [5] (by kernel_rfl) 3 false 25 rfl rfl (by simp) true false (fun _ _ h => h) (fun hc => ?_) (fun hc => by cases hc); intro ac W hT hI hO; have h5 : ac.tmps.getD 5 undef = .pointer (some ⟨w.heap.size, 0, none⟩) := hO 5 (by simp); show Brings _ (fun v _ => _ ∧ v = _) _; simp only [execOp, Act.eval, h5]; go_simp
      try exact tq
    case s7 =>
      refine stepOk_guard [28, 25] [] (by kernel_rfl) 3 false 25 rfl rfl (by simp) true false (fun _ _ h => h) (fun hc => ?_) (fun hc => by cases hc); intro ac W hT hI hO; have h28 : ac.tmps.getD 28 undef = _ := hI 28 (by simp); show Brings _ (fun v _ => _ ∧ v = _) _; obtain ⟨k0, k1, k2, k3, _⟩ := cells4 (H5.out W hT); simp only [execOp, Act.eval, h28]; go_simp
      try exact tq
    case s8 =>
      refine stepOk_guard [27, 29, 25] [] (by kernel_rfl) 3 false 25 rfl rfl (by simp) true false (fun _ _ h => h) (fun hc => ?_) (fun hc => by cases hc); intro ac W hT hI hO; have h27 : ac.tmps.getD 27 undef = _ := hI 27 (by simp); have h29 : ac.tmps.getD 29 undef = _ := hI 29 (by simp); show Brings _ (fun v _ => _ ∧ v = _) _; simp only [execOp, Act.eval, h27, h29]; go_simp
      try exact tq
    case s9 =>
      refine stepOk_free [25, 30] [] (by kernel_rfl) rfl ?_; intro ac W hT hI hO; have h25 : ac.tmps.getD 25 undef = _ := hI 25 (by simp); have h30 : ac.tmps.getD 30 undef = _ := hI 30 (by simp); show Brings _ (fun v _ => _ ∧ v = _) _; simp only [execOp, Act.eval, h25, h30]; go_simp
      try exact tq
    case s10 =>
      refine stepOk_free [31] [] (by kernel_rfl) rfl ?_; intro ac W hT hI hO; have h31 : ac.tmps.getD 31 undef = _ := hI 31 (by simp); show Brings _ (fun v _ => _ ∧ v = _) _; simp only [execOp, Act.eval, h31]; go_simp
      try exact tq
    case s11 =>
      refine stepOk_guard [32] [0] (by kernel_rfl) 10 false 32 rfl rfl (by simp) true false (fun _ _ h => h) (fun hc => ?_) (fun hc => by cases hc); intro ac W hT hI hO; have h0 : ac.tmps.getD 0 undef = .pointer (some ⟨kb, 0, none⟩) := hO 0 (by simp); show Brings _ (fun v _ => _ ∧ v = _) _; simp only [execOp, Act.eval, h0]; go_simp
      try exact tq
    case s12 =>
      refine stepOk_guard [33, 32] [] (by kernel_rfl) 10 false 32 rfl rfl (by simp) true false (fun _ _ h => h) (fun hc => ?_) (fun hc => by cases hc); intro ac W hT hI hO; have h33 : ac.tmps.getD 33 undef = _ := hI 33 (by simp); show Brings _ (fun v _ => _ ∧ v = _) _; simp only [execOp, Act.eval, h33]; go_simp
      try exact tq
    case s13 =>
      refine stepOk_guard [34, 32] [] (by kernel_rfl) 10 false 32 rfl rfl (by simp) true false (fun _ _ h => h) (fun hc => ?_) (fun hc => by cases hc); intro ac W hT hI hO; have h34 : ac.tmps.getD 34 undef = _ := hI 34 (by simp); show Brings _ (fun v _ => _ ∧ v = _) _; simp only [execOp, Act.eval, h34]; go_simp
      try exact tq
    case s14 =>
      refine stepOk_guard [35, 32] [] (by kernel_rfl) 10 false 32 rfl rfl (by simp) true false (fun _ _ h => h) (fun hc => ?_) (fun hc => by cases hc); intro ac W hT hI hO; have h35 : ac.tmps.getD 35 undef = _ := hI 35 (by simp); show Brings _ (fun v _ => _ ∧ v = _) _; obtain ⟨k0, k1⟩ := cells2 (HC6.out.turned0 hT).b; simp only [execOp, Act.eval, h35]; go_simp
      try exact tq
    case s15 =>
      refine stepOk_guard [32] [7] (by kernel_rfl) 10 false 32 rfl rfl (by simp) true false (fun _ _ h => h) (fun hc => ?_) (fun hc => by cases hc); intro ac W hT hI hO; have h7 : ac.tmps.getD 7 undef = .pointer (some ⟨w.heap.size + 1, 0, none⟩) := hO 7 (by simp); show Brings _ (fun v _ => _ ∧ v = _) _; simp only [execOp, Act.eval, h7]; go_simp
      try exact tq
    case s16 =>
      refine stepOk_guard [37, 32] [] (by kernel_rfl) 10 false 32 rfl rfl (by simp) true false (fun _ _ h => h) (fun hc => ?_) (fun hc => by cases hc); intro ac W hT hI hO; have h37 : ac.tmps.getD 37 undef = _ := hI 37 (by simp); show Brings _ (fun v _ => _ ∧ v = _) _; obtain ⟨e0, e1, e2, e3, e4, e5⟩ := cells6 (H7.out W hT); simp only [execOp, Act.eval, h37]; go_simp
      try exact tq
    case s17 =>
      refine stepOk_guard [36, 38, 32] [] (by kernel_rfl) 10 false 32 rfl rfl (by simp) true false (fun _ _ h => h) (fun hc => ?_) (fun hc => by cases hc); intro ac W hT hI hO; have h36 : ac.tmps.getD 36 undef = _ := hI 36 (by simp); have h38 : ac.tmps.getD 38 undef = _ := hI 38 (by simp); show Brings _ (fun v _ => _ ∧ v = _) _; have hlk := HLK.out W hT; simp only [execOp, Act.eval, h36, h38]; go_simp
      try exact tq
    case s18 =>
      refine stepOk_guard [32] [7] (by kernel_rfl) 10 false 32 rfl rfl (by simp) true false (fun _ _ h => h) (fun hc => ?_) (fun hc => by cases hc); intro ac W hT hI hO; have h7 : ac.tmps.getD 7 undef = .pointer (some ⟨w.heap.size + 1, 0, none⟩) := hO 7 (by simp); show Brings _ (fun v _ => _ ∧ v = _) _; simp only [execOp, Act.eval, h7]; go_simp
      try exact tq
    case s19 =>
      refine stepOk_guard [40, 32] [] (by kernel_rfl) 10 false 32 rfl rfl (by simp) true false (fun _ _ h => h) (fun hc => ?_) (fun hc => by cases hc); intro ac W hT hI hO; have h40 : ac.tmps.getD 40 undef = _ := hI 40 (by simp); show Brings _ (fun v _ => _ ∧ v = _) _; obtain ⟨e0, e1, e2, e3, e4, e5⟩ := cells6 (H7.out W hT); simp only [execOp, Act.eval, h40]; go_simp
      try exact tq
    case s20 =>
      refine stepOk_guard [41, 32] [] (by kernel_rfl) 10 false 32 rfl rfl (by simp) true false (fun _ _ h => h) (fun hc => ?_) (fun hc => by cases hc); intro ac W hT hI hO; have h41 : ac.tmps.getD 41 undef = _ := hI 41 (by simp); show Brings _ (fun v _ => _ ∧ v = _) _; simp only [execOp, Act.eval, h41]; go_simp
      try exact tq
    case s21 =>
      refine stepOk_guard [39, 42, 32] [] (by kernel_rfl) 10 false 32 rfl rfl (by simp) true false (fun _ _ h => h) (fun hc => ?_) (fun hc => by cases hc); intro ac W hT hI hO; have h39 : ac.tmps.getD 39 undef = _ := hI 39 (by simp); have h42 : ac.tmps.getD 42 undef = _ := hI 42 (by simp); show Brings _ (fun v _ => _ ∧ v = _) _; simp only [execOp, Act.eval, h39, h42]; go_simp
      try exact tq
    case s22 =>
      refine stepOk_free [32, 43] [] (by kernel_rfl) rfl ?_; intro ac W hT hI hO; have h32 : ac.tmps.getD 32 undef = _ := hI 32 (by simp); have h43 : ac.tmps.getD 43 undef = _ := hI 43 (by simp); show Brings _ (fun v _ => _ ∧ v = _) _; simp only [execOp, Act.eval, h32, h43]; go_simp
      try exact tq
  case hQ =>
    intro vs7 W7 T7 hV; have q44 : vs7 44 = .bool false := hV 44 (by simp); simp only [List.foldl_cons, List.foldl_nil, List.setIfInBounds_toArray, List.set_cons_zero, List.set_cons_succ, q44]; have HT7 := hid T7; clear hV q44 T7
    go_wp2_with fail
    have HC7 := hid (HC6.out.turned0 HT7.out); have HM7 := hid (fun W (T : Turned (fun q => q = mb) W7 W) => (T.block _ (Array.getElem?_eq_some_iff.1 (H7.out W7 HT7.out)).1 (by have := HLT.out; omega)).trans (H7.out W7 HT7.out)); have HM9 := hid (fun W (T : Turned (fun q => q = mb) W7 W) => (T.block _ (Array.getElem?_eq_some_iff.1 (H9.out W7 HT7.out)).1 (by have := HLT.out; omega)).trans (H9.out W7 HT7.out)); have HMK := hid (fun W (T : Turned (fun q => q = mb) W7 W) => (T.block _ (Array.getElem?_eq_some_iff.1 HC7.out.b).1 (fun e => HC7.out.ne e)).trans HC7.out.b); refine wp_region_k [45, 46, 47, 48, 49, 50] [6] [] (fun dd vv => (match dd with | 45 => vv = .pointer (some ⟨kb, 0, none⟩) | 46 => vv = .pointer (some ⟨kb, 0, none⟩) | 47 => vv = .pointer (some ⟨kb, 1, none⟩) | 48 => vv = .map (some mb) | 49 => vv = .pointer (some ⟨w.heap.size + 1, 2, none⟩) | 50 => vv = .int .i64 s.b | _ => True : Prop)) (MapR 3 mb 6 (had.length) (if (hadF had s.b).isSome then had.length else had.length + 1) (hadF had) (upd (hadF had) s.b (.bool true)) W7) (by kernel_rfl) rfl (by kernel_rfl) (by kernel_rfl) (fun w h => MapR.start HC7.out.m h) (fun hs w w' h ht => h.turned0 ht) ?hs ?hQ
    case hs =>
      refine ⟨?s0, ?s1, ?s2, ?s3, ?s4, ?s5, ?s6, trivial⟩
      case s0 =>
        refine fun hs hl => stepG_free [] [0] (by kernel_rfl) rfl ?_
        intro ac W hT hI hO; have h0 : ac.tmps.getD 0 undef = .pointer (some ⟨kb, 0, none⟩) := hO 0 (by simp); show Brings _ (fun v _ => _ ∧ v = _) _; simp only [execOp, Act.eval, h0]; go_simp
        try exact tq
      case s1 =>
        refine fun hs hl => stepG_free [45] [] (by kernel_rfl) rfl ?_
        intro ac W hT hI hO; have h45 : ac.tmps.getD 45 undef = _ := hI 45 (by simp); show Brings _ (fun v _ => _ ∧ v = _) _; simp only [execOp, Act.eval, h45]; go_simp
        try exact tq
      case s2 =>
        refine fun hs hl => stepG_free [46] [] (by kernel_rfl) rfl ?_
        intro ac W hT hI hO; have h46 : ac.tmps.getD 46 undef = _ := hI 46 (by simp); show Brings _ (fun v _ => _ ∧ v = _) _; simp only [execOp, Act.eval, h46]; go_simp
        try exact tq
      case s3 =>
        refine fun hs hl => stepG_free [47] [] (by kernel_rfl) rfl ?_
        intro ac W hT hI hO; have h47 : ac.tmps.getD 47 undef = _ := hI 47 (by simp); show Brings _ (fun v _ => _ ∧ v = _) _; obtain ⟨k0, k1⟩ := cells2 (HMK.out W hT.t); simp only [execOp, Act.eval, h47]; go_simp
        try exact tq
      case s4 =>
        refine fun hs hl => stepG_free [] [7] (by kernel_rfl) rfl ?_
        intro ac W hT hI hO; have h7 : ac.tmps.getD 7 undef = .pointer (some ⟨w.heap.size + 1, 0, none⟩) := hO 7 (by simp); show Brings _ (fun v _ => _ ∧ v = _) _; simp only [execOp, Act.eval, h7]; go_simp
        try exact tq
      case s5 =>
        refine fun hs hl => stepG_free [49] [] (by kernel_rfl) rfl ?_
        intro ac W hT hI hO; have h49 : ac.tmps.getD 49 undef = _ := hI 49 (by simp); show Brings _ (fun v _ => _ ∧ v = _) _; obtain ⟨e0, e1, e2, e3, e4, e5⟩ := cells6 (HM7.out W hT.t); simp only [execOp, Act.eval, h49]; go_simp
        try exact tq
      case s6 =>
        refine fun hs hno hl => stepG_free [48, 50] [] (by kernel_rfl) rfl ?_
        intro ac W hT hI hO; have h48 : ac.tmps.getD 48 undef = _ := hI 48 (by simp); have h50 : ac.tmps.getD 50 undef = _ := hI 50 (by simp); obtain ⟨w', hr, hm, T⟩ := (hT.old hno).put law3 Try.underlying145 (by unfold maxLen; have := HF.out; omega) (v := .bool true) (key3 HB64.out) trivial; show Brings Try.prog (fun vv w' => MapR 3 mb 6 (had.length) (if (hadF had s.b).isSome then had.length else had.length + 1) (hadF had) (upd (hadF had) s.b (.bool true)) W7 (hs ++ [(6, vv)]) w') _; simp only [execOp, Act.eval, h48, h50, hr]; go_simp; exact hT.put T hm
    case hQ =>
      intro hs8 vs8 W8 hall huniq hR hV; simp only [List.foldl_cons, List.foldl_nil, List.setIfInBounds_toArray, List.set_cons_zero, List.set_cons_succ]; obtain ⟨v8, hv8⟩ := hall 6 (by simp); have hmap := hR.new v8 hv8; rw [had_next.1, had_next.2] at hmap; have HNEW : Hid (Chk kb mb k (hadN had s.b) W8) := ⟨HMK.out W8 hR.t, hmap, HC7.out.ne, by have := HF.out; have := hadN_len had s.b; omega⟩; have HT8 := hid hR.t; obtain ⟨a0, a1, a2, a3, a4, a5⟩ := cells6 (HM7.out W8 hR.t); obtain ⟨b0, b1, b2, b3, b4, b5⟩ := cells6 (HM9.out W8 hR.t); clear hR hV hall huniq hmap hv8; obtain ⟨B, hB⟩ : ∃ B, B = goodNameB ByteArray.empty := ⟨_, rfl⟩; have HB := hid hB
      have hnm0 : ByteArray.empty.size ≤ maxLen := by unfold maxLen; decide
      clear hB
      go_wp2_with (first
        | (go_at_call 63; (with_reducible refine (atomOnly ByteArray.empty hnm0 _).mono ?_); rintro e W9 ⟨rfl, T9⟩)
        | (go_at_call 38; (with_reducible refine (goodAtom ByteArray.empty hnm0 _).mono ?_); rintro e W10 ⟨rfl, T10⟩; rw [← HB.out]))
      go_ret; exact ⟨by rw [← HB.out]; rfl, HNEW.out.turned0 (T9.trans T10), (((HT6.out.trans HT7.out).mono (fun _ _ f => f.elim)).trans HT8.out).trans ((T9.trans T10).mono (fun _ _ f => f.elim))⟩
set_option maxRecDepth 100000 in
set_option maxHeartbeats 12800000 in
theorem one_val_okT {kb mb : Nat} {k ar sl rg i : Int} {lv : Value} {had : List Int} {s : Stp} {w : World} (C : Chk kb mb k had w) (hf : had.length ≤ 3000) (hs : stOk s) (hop : s.op = sVal) (hb0 : 0 ≤ s.b) (hb : s.b < sl) (hm : s.b ∈ had) (h1 : s.a = i) (h2 : s.c = 0) (h3 : s.n = 0) (h4 : s.name = ByteArray.empty) :
    Calls Try.prog 149 #[.pointer (some ⟨kb, 0, none⟩), .agg #[.int .i64 ar, .int .i64 sl, .int .i64 rg, lv], .int .i64 i, .agg #[.string s.op, .int .i64 s.a, .int .i64 s.b, .int .i64 s.c, .int .i64 s.n, .string s.name]] w fun e w' => e = .returned (.bool (goodNameB ByteArray.empty)) ∧ Chk kb mb k (hadN had s.b) w' ∧ Turned (fun q => q = mb) w w' := by
  have hnm := hs.2.2.2.2.2; have hb64 := hs.2.2.1; have o0 := op_Val_Var; have o1 := op_Val_Val; have o2 := op_Val_Int; have o3 := op_Val_Atom; have o4 := op_Val_Comp; have en := empty_nil; have d1 : decide (s.b < 0) = false := decide_eq_false (by omega); have d2 : decide (sl ≤ s.b) = false := decide_eq_false (by omega); obtain ⟨T0, z0, z1, z2⟩ := three_boxes w (.cells #[.int .i64 ar, .int .i64 sl, .int .i64 rg, lv] 104) (.cells #[.string sVal, .int .i64 i, .int .i64 s.b, .int .i64 0, .int .i64 0, .string ByteArray.empty] 139) (.cells #[.string sVal, .int .i64 i, .int .i64 s.b, .int .i64 0, .int .i64 0, .string ⟨#[]⟩] 139); obtain ⟨W6, hW6⟩ : ∃ z, z = ((w.alloc (.cells #[.int .i64 ar, .int .i64 sl, .int .i64 rg, lv] 104)).alloc (.cells #[.string sVal, .int .i64 i, .int .i64 s.b, .int .i64 0, .int .i64 0, .string ByteArray.empty] 139)).alloc (.cells #[.string sVal, .int .i64 i, .int .i64 s.b, .int .i64 0, .int .i64 0, .string ⟨#[]⟩] 139) := ⟨_, rfl⟩; rw [← hW6] at T0 z0 z1 z2; have T6 := T0; have y0 := z0; have y1 := z1; have y2 := z2; have C6 := C.turned0 T6; have hlt := C.lt; have HC6 := hid C6; have H5 := hid (fun W (T : Turned (fun _ => False) W6 W) => (T.block _ (Array.getElem?_eq_some_iff.1 y0).1 (fun f => f)).trans y0); have H7 := hid (fun W (T : Turned (fun _ => False) W6 W) => (T.block _ (Array.getElem?_eq_some_iff.1 y1).1 (fun f => f)).trans y1); have H9 := hid (fun W (T : Turned (fun _ => False) W6 W) => (T.block _ (Array.getElem?_eq_some_iff.1 y2).1 (fun f => f)).trans y2); have HT6 := hid T6; have HLT := hid hlt; have HW6 := hid hW6; have HB64 := hid hb64; have HF := hid hf; have HLK := hid (fun W (T : Turned (fun _ => False) W6 W) => (decide_eq_true hm : decide (s.b ∈ had) = true) ▸ hadLook (C6.turned0 T).m hb64); rw [hop, h1, h2, h3, h4]; clear T0 z0 z1 z2 T6 y0 y1 y2 C6 hlt hW6 hb64 hf C hs; go_enter Try.func149, Try.ntmps149
  go_wp2_with fail
  rw [← HW6.out]; refine wp_region_ssa' (G := (fun dd vv W => (match dd with | 22 => vv = .pointer (some ⟨w.heap.size + 1, 2, none⟩) | 23 => vv = .int .i64 s.b | 24 => vv = .bool false | 25 => vv = .bool false | 26 => vv = .pointer (some ⟨w.heap.size + 1, 2, none⟩) | 27 => vv = .int .i64 s.b | 28 => vv = .pointer (some ⟨w.heap.size, 1, none⟩) | 29 => vv = .int .i64 sl | 30 => vv = .bool false | 31 => vv = .bool false | 32 => vv = .bool false | 33 => vv = .pointer (some ⟨kb, 0, none⟩) | 34 => vv = .pointer (some ⟨kb, 0, none⟩) | 35 => vv = .pointer (some ⟨kb, 1, none⟩) | 36 => vv = .map (some mb) | 37 => vv = .pointer (some ⟨w.heap.size + 1, 2, none⟩) | 38 => vv = .int .i64 s.b | 39 => vv = .bool true | 40 => vv = .pointer (some ⟨w.heap.size + 1, 0, none⟩) | 41 => vv = .string sVal | 42 => vv = .bool true | 43 => vv = .bool false | 44 => vv = .bool false  | _ => True : Prop))) [22, 23, 24, 25, 26, 27, 28, 29, 30, 31, 32, 33, 34, 35, 36, 37, 38, 39, 40, 41, 42, 43, 44] (by kernel_rfl) rfl (by kernel_rfl) ?hG ?hs ?hQ
  case hG => exact fun d v _ _ _ h => h
  case hs =>
    refine ⟨?s0, ?s1, ?s2, ?s3, ?s4, ?s5, ?s6, ?s7, ?s8, ?s9, ?s10, ?s11, ?s12, ?s13, ?s14, ?s15, ?s16, ?s17, ?s18, ?s19, ?s20, ?s21, ?s22, trivial⟩
    case s0 =>
      refine stepOk_free [] [7] (by kernel_rfl) rfl ?_; intro ac W hT hI hO; have h7 : ac.tmps.getD 7 undef = .pointer (some ⟨w.heap.size + 1, 0, none⟩) := hO 7 (by simp); show Brings _ (fun v _ => _ ∧ v = _) _; simp only [execOp, Act.eval, h7]; go_simp
      try exact tq
    case s1 =>
      refine stepOk_free [22] [] (by kernel_rfl) rfl ?_; intro ac W hT hI hO; have h22 : ac.tmps.getD 22 undef = _ := hI 22 (by simp); show Brings _ (fun v _ => _ ∧ v = _) _; obtain ⟨e0, e1, e2, e3, e4, e5⟩ := cells6 (H7.out W hT); simp only [execOp, Act.eval, h22]; go_simp
      try exact tq
    case s2 =>
      refine stepOk_free [23] [] (by kernel_rfl) rfl ?_; intro ac W hT hI hO; have h23 : ac.tmps.getD 23 undef = _ := hI 23 (by simp); show Brings _ (fun v _ => _ ∧ v = _) _; simp only [execOp, Act.eval, h23]; go_simp
      try exact tq
    case s3 =>
      refine stepOk_free [24] [] (by kernel_rfl) rfl ?_; intro ac W hT hI hO; have h24 : ac.tmps.getD 24 undef = _ := hI 24 (by simp); show Brings _ (fun v _ => _ ∧ v = _) _; simp only [execOp, Act.eval, h24]; go_simp
      try exact tq
    case s4 =>
      refine stepOk_guard [25] [7] (by kernel_rfl) 3 false 25 rfl rfl (by simp) true false (fun _ _ h => h) (fun hc => ?_) (fun hc => by cases hc); intro ac W hT hI hO; have h7 : ac.tmps.getD 7 undef = .pointer (some ⟨w.heap.size + 1, 0, none⟩) := hO 7 (by simp); show Brings _ (fun v _ => _ ∧ v = _) _; simp only [execOp, Act.eval, h7]; go_simp
      try exact tq
    case s5 =>
      refine stepOk_guard [26, 25] [] (by kernel_rfl) 3 false 25 rfl rfl (by simp) true false (fun _ _ h => h) (fun hc => ?_) (fun hc => by cases hc); intro ac W hT hI hO; have h26 : ac.tmps.getD 26 undef = _ := hI 26 (by simp); show Brings _ (fun v _ => _ ∧ v = _) _; obtain ⟨e0, e1, e2, e3, e4, e5⟩ := cells6 (H7.out W hT); simp only [execOp, Act.eval, h26]; go_simp
      try exact tq
    case s6 =>
      refine stepOk_guard [25] [5] (by kernel_rfl) 3 false 25 rfl rfl (by simp) true false (fun _ _ h => h) (fun hc => ?_) (fun hc => by cases hc); intro ac W hT hI hO; have h5 : ac.tmps.getD 5 undef = .pointer (some ⟨w.heap.size, 0, none⟩) := hO 5 (by simp); show Brings _ (fun v _ => _ ∧ v = _) _; simp only [execOp, Act.eval, h5]; go_simp
      try exact tq
    case s7 =>
      refine stepOk_guard [28, 25] [] (by kernel_rfl) 3 false 25 rfl rfl (by simp) true false (fun _ _ h => h) (fun hc => ?_) (fun hc => by cases hc); intro ac W hT hI hO; have h28 : ac.tmps.getD 28 undef = _ := hI 28 (by simp); show Brings _ (fun v _ => _ ∧ v = _) _; obtain ⟨k0, k1, k2, k3, _⟩ := cells4 (H5.out W hT); simp only [execOp, Act.eval, h28]; go_simp
      try exact tq
    case s8 =>
      refine stepOk_guard [27, 29, 25] [] (by kernel_rfl) 3 false 25 rfl rfl (by simp) true false (fun _ _ h => h) (fun hc => ?_) (fun hc => by cases hc); intro ac W hT hI hO; have h27 : ac.tmps.getD 27 undef = _ := hI 27 (by simp); have h29 : ac.tmps.getD 29 undef = _ := hI 29 (by simp); show Brings _ (fun v _ => _ ∧ v = _) _; simp only [execOp, Act.eval, h27, h29]; go_simp
      try exact tq
    case s9 =>
      refine stepOk_free [25, 30] [] (by kernel_rfl) rfl ?_; intro ac W hT hI hO; have h25 : ac.tmps.getD 25 undef = _ := hI 25 (by simp); have h30 : ac.tmps.getD 30 undef = _ := hI 30 (by simp); show Brings _ (fun v _ => _ ∧ v = _) _; simp only [execOp, Act.eval, h25, h30]; go_simp
      try exact tq
    case s10 =>
      refine stepOk_free [31] [] (by kernel_rfl) rfl ?_; intro ac W hT hI hO; have h31 : ac.tmps.getD 31 undef = _ := hI 31 (by simp); show Brings _ (fun v _ => _ ∧ v = _) _; simp only [execOp, Act.eval, h31]; go_simp
      try exact tq
    case s11 =>
      refine stepOk_guard [32] [0] (by kernel_rfl) 10 false 32 rfl rfl (by simp) true false (fun _ _ h => h) (fun hc => ?_) (fun hc => by cases hc); intro ac W hT hI hO; have h0 : ac.tmps.getD 0 undef = .pointer (some ⟨kb, 0, none⟩) := hO 0 (by simp); show Brings _ (fun v _ => _ ∧ v = _) _; simp only [execOp, Act.eval, h0]; go_simp
      try exact tq
    case s12 =>
      refine stepOk_guard [33, 32] [] (by kernel_rfl) 10 false 32 rfl rfl (by simp) true false (fun _ _ h => h) (fun hc => ?_) (fun hc => by cases hc); intro ac W hT hI hO; have h33 : ac.tmps.getD 33 undef = _ := hI 33 (by simp); show Brings _ (fun v _ => _ ∧ v = _) _; simp only [execOp, Act.eval, h33]; go_simp
      try exact tq
    case s13 =>
      refine stepOk_guard [34, 32] [] (by kernel_rfl) 10 false 32 rfl rfl (by simp) true false (fun _ _ h => h) (fun hc => ?_) (fun hc => by cases hc); intro ac W hT hI hO; have h34 : ac.tmps.getD 34 undef = _ := hI 34 (by simp); show Brings _ (fun v _ => _ ∧ v = _) _; simp only [execOp, Act.eval, h34]; go_simp
      try exact tq
    case s14 =>
      refine stepOk_guard [35, 32] [] (by kernel_rfl) 10 false 32 rfl rfl (by simp) true false (fun _ _ h => h) (fun hc => ?_) (fun hc => by cases hc); intro ac W hT hI hO; have h35 : ac.tmps.getD 35 undef = _ := hI 35 (by simp); show Brings _ (fun v _ => _ ∧ v = _) _; obtain ⟨k0, k1⟩ := cells2 (HC6.out.turned0 hT).b; simp only [execOp, Act.eval, h35]; go_simp
      try exact tq
    case s15 =>
      refine stepOk_guard [32] [7] (by kernel_rfl) 10 false 32 rfl rfl (by simp) true false (fun _ _ h => h) (fun hc => ?_) (fun hc => by cases hc); intro ac W hT hI hO; have h7 : ac.tmps.getD 7 undef = .pointer (some ⟨w.heap.size + 1, 0, none⟩) := hO 7 (by simp); show Brings _ (fun v _ => _ ∧ v = _) _; simp only [execOp, Act.eval, h7]; go_simp
      try exact tq
    case s16 =>
      refine stepOk_guard [37, 32] [] (by kernel_rfl) 10 false 32 rfl rfl (by simp) true false (fun _ _ h => h) (fun hc => ?_) (fun hc => by cases hc); intro ac W hT hI hO; have h37 : ac.tmps.getD 37 undef = _ := hI 37 (by simp); show Brings _ (fun v _ => _ ∧ v = _) _; obtain ⟨e0, e1, e2, e3, e4, e5⟩ := cells6 (H7.out W hT); simp only [execOp, Act.eval, h37]; go_simp
      try exact tq
    case s17 =>
      refine stepOk_guard [36, 38, 32] [] (by kernel_rfl) 10 false 32 rfl rfl (by simp) true false (fun _ _ h => h) (fun hc => ?_) (fun hc => by cases hc); intro ac W hT hI hO; have h36 : ac.tmps.getD 36 undef = _ := hI 36 (by simp); have h38 : ac.tmps.getD 38 undef = _ := hI 38 (by simp); show Brings _ (fun v _ => _ ∧ v = _) _; have hlk := HLK.out W hT; simp only [execOp, Act.eval, h36, h38]; go_simp
      try exact tq
    case s18 =>
      refine stepOk_guard [32] [7] (by kernel_rfl) 10 false 32 rfl rfl (by simp) true false (fun _ _ h => h) (fun hc => ?_) (fun hc => by cases hc); intro ac W hT hI hO; have h7 : ac.tmps.getD 7 undef = .pointer (some ⟨w.heap.size + 1, 0, none⟩) := hO 7 (by simp); show Brings _ (fun v _ => _ ∧ v = _) _; simp only [execOp, Act.eval, h7]; go_simp
      try exact tq
    case s19 =>
      refine stepOk_guard [40, 32] [] (by kernel_rfl) 10 false 32 rfl rfl (by simp) true false (fun _ _ h => h) (fun hc => ?_) (fun hc => by cases hc); intro ac W hT hI hO; have h40 : ac.tmps.getD 40 undef = _ := hI 40 (by simp); show Brings _ (fun v _ => _ ∧ v = _) _; obtain ⟨e0, e1, e2, e3, e4, e5⟩ := cells6 (H7.out W hT); simp only [execOp, Act.eval, h40]; go_simp
      try exact tq
    case s20 =>
      refine stepOk_guard [41, 32] [] (by kernel_rfl) 10 false 32 rfl rfl (by simp) true false (fun _ _ h => h) (fun hc => ?_) (fun hc => by cases hc); intro ac W hT hI hO; have h41 : ac.tmps.getD 41 undef = _ := hI 41 (by simp); show Brings _ (fun v _ => _ ∧ v = _) _; simp only [execOp, Act.eval, h41]; go_simp
      try exact tq
    case s21 =>
      refine stepOk_guard [39, 42, 32] [] (by kernel_rfl) 10 false 32 rfl rfl (by simp) true false (fun _ _ h => h) (fun hc => ?_) (fun hc => by cases hc); intro ac W hT hI hO; have h39 : ac.tmps.getD 39 undef = _ := hI 39 (by simp); have h42 : ac.tmps.getD 42 undef = _ := hI 42 (by simp); show Brings _ (fun v _ => _ ∧ v = _) _; simp only [execOp, Act.eval, h39, h42]; go_simp
      try exact tq
    case s22 =>
      refine stepOk_free [32, 43] [] (by kernel_rfl) rfl ?_; intro ac W hT hI hO; have h32 : ac.tmps.getD 32 undef = _ := hI 32 (by simp); have h43 : ac.tmps.getD 43 undef = _ := hI 43 (by simp); show Brings _ (fun v _ => _ ∧ v = _) _; simp only [execOp, Act.eval, h32, h43]; go_simp
      try exact tq
  case hQ =>
    intro vs7 W7 T7 hV; have q44 : vs7 44 = .bool false := hV 44 (by simp); simp only [List.foldl_cons, List.foldl_nil, List.setIfInBounds_toArray, List.set_cons_zero, List.set_cons_succ, q44]; have HT7 := hid T7; clear hV q44 T7
    go_wp2_with fail
    have HC7 := hid (HC6.out.turned0 HT7.out); have HM7 := hid (fun W (T : Turned (fun q => q = mb) W7 W) => (T.block _ (Array.getElem?_eq_some_iff.1 (H7.out W7 HT7.out)).1 (by have := HLT.out; omega)).trans (H7.out W7 HT7.out)); have HM9 := hid (fun W (T : Turned (fun q => q = mb) W7 W) => (T.block _ (Array.getElem?_eq_some_iff.1 (H9.out W7 HT7.out)).1 (by have := HLT.out; omega)).trans (H9.out W7 HT7.out)); have HMK := hid (fun W (T : Turned (fun q => q = mb) W7 W) => (T.block _ (Array.getElem?_eq_some_iff.1 HC7.out.b).1 (fun e => HC7.out.ne e)).trans HC7.out.b); refine wp_region_k [45, 46, 47, 48, 49, 50] [6] [] (fun dd vv => (match dd with | 45 => vv = .pointer (some ⟨kb, 0, none⟩) | 46 => vv = .pointer (some ⟨kb, 0, none⟩) | 47 => vv = .pointer (some ⟨kb, 1, none⟩) | 48 => vv = .map (some mb) | 49 => vv = .pointer (some ⟨w.heap.size + 1, 2, none⟩) | 50 => vv = .int .i64 s.b | _ => True : Prop)) (MapR 3 mb 6 (had.length) (if (hadF had s.b).isSome then had.length else had.length + 1) (hadF had) (upd (hadF had) s.b (.bool true)) W7) (by kernel_rfl) rfl (by kernel_rfl) (by kernel_rfl) (fun w h => MapR.start HC7.out.m h) (fun hs w w' h ht => h.turned0 ht) ?hs ?hQ
    case hs =>
      refine ⟨?s0, ?s1, ?s2, ?s3, ?s4, ?s5, ?s6, trivial⟩
      case s0 =>
        refine fun hs hl => stepG_free [] [0] (by kernel_rfl) rfl ?_
        intro ac W hT hI hO; have h0 : ac.tmps.getD 0 undef = .pointer (some ⟨kb, 0, none⟩) := hO 0 (by simp); show Brings _ (fun v _ => _ ∧ v = _) _; simp only [execOp, Act.eval, h0]; go_simp
        try exact tq
      case s1 =>
        refine fun hs hl => stepG_free [45] [] (by kernel_rfl) rfl ?_
        intro ac W hT hI hO; have h45 : ac.tmps.getD 45 undef = _ := hI 45 (by simp); show Brings _ (fun v _ => _ ∧ v = _) _; simp only [execOp, Act.eval, h45]; go_simp
        try exact tq
      case s2 =>
        refine fun hs hl => stepG_free [46] [] (by kernel_rfl) rfl ?_
        intro ac W hT hI hO; have h46 : ac.tmps.getD 46 undef = _ := hI 46 (by simp); show Brings _ (fun v _ => _ ∧ v = _) _; simp only [execOp, Act.eval, h46]; go_simp
        try exact tq
      case s3 =>
        refine fun hs hl => stepG_free [47] [] (by kernel_rfl) rfl ?_
        intro ac W hT hI hO; have h47 : ac.tmps.getD 47 undef = _ := hI 47 (by simp); show Brings _ (fun v _ => _ ∧ v = _) _; obtain ⟨k0, k1⟩ := cells2 (HMK.out W hT.t); simp only [execOp, Act.eval, h47]; go_simp
        try exact tq
      case s4 =>
        refine fun hs hl => stepG_free [] [7] (by kernel_rfl) rfl ?_
        intro ac W hT hI hO; have h7 : ac.tmps.getD 7 undef = .pointer (some ⟨w.heap.size + 1, 0, none⟩) := hO 7 (by simp); show Brings _ (fun v _ => _ ∧ v = _) _; simp only [execOp, Act.eval, h7]; go_simp
        try exact tq
      case s5 =>
        refine fun hs hl => stepG_free [49] [] (by kernel_rfl) rfl ?_
        intro ac W hT hI hO; have h49 : ac.tmps.getD 49 undef = _ := hI 49 (by simp); show Brings _ (fun v _ => _ ∧ v = _) _; obtain ⟨e0, e1, e2, e3, e4, e5⟩ := cells6 (HM7.out W hT.t); simp only [execOp, Act.eval, h49]; go_simp
        try exact tq
      case s6 =>
        refine fun hs hno hl => stepG_free [48, 50] [] (by kernel_rfl) rfl ?_
        intro ac W hT hI hO; have h48 : ac.tmps.getD 48 undef = _ := hI 48 (by simp); have h50 : ac.tmps.getD 50 undef = _ := hI 50 (by simp); obtain ⟨w', hr, hm, T⟩ := (hT.old hno).put law3 Try.underlying145 (by unfold maxLen; have := HF.out; omega) (v := .bool true) (key3 HB64.out) trivial; show Brings Try.prog (fun vv w' => MapR 3 mb 6 (had.length) (if (hadF had s.b).isSome then had.length else had.length + 1) (hadF had) (upd (hadF had) s.b (.bool true)) W7 (hs ++ [(6, vv)]) w') _; simp only [execOp, Act.eval, h48, h50, hr]; go_simp; exact hT.put T hm
    case hQ =>
      intro hs8 vs8 W8 hall huniq hR hV; simp only [List.foldl_cons, List.foldl_nil, List.setIfInBounds_toArray, List.set_cons_zero, List.set_cons_succ]; obtain ⟨v8, hv8⟩ := hall 6 (by simp); have hmap := hR.new v8 hv8; rw [had_next.1, had_next.2] at hmap; have HNEW : Hid (Chk kb mb k (hadN had s.b) W8) := ⟨HMK.out W8 hR.t, hmap, HC7.out.ne, by have := HF.out; have := hadN_len had s.b; omega⟩; have HT8 := hid hR.t; obtain ⟨a0, a1, a2, a3, a4, a5⟩ := cells6 (HM7.out W8 hR.t); obtain ⟨b0, b1, b2, b3, b4, b5⟩ := cells6 (HM9.out W8 hR.t); clear hR hV hall huniq hmap hv8; obtain ⟨B, hB⟩ : ∃ B, B = goodNameB ByteArray.empty := ⟨_, rfl⟩; have HB := hid hB
      have hnm0 : ByteArray.empty.size ≤ maxLen := by unfold maxLen; decide
      clear hB
      go_wp2_with (first
        | (go_at_call 63; (with_reducible refine (atomOnly ByteArray.empty hnm0 _).mono ?_); rintro e W9 ⟨rfl, T9⟩)
        | (go_at_call 38; (with_reducible refine (goodAtom ByteArray.empty hnm0 _).mono ?_); rintro e W10 ⟨rfl, T10⟩; rw [← HB.out]))
      go_ret; exact ⟨by rw [← HB.out]; rfl, HNEW.out.turned0 (T9.trans T10), (((HT6.out.trans HT7.out).mono (fun _ _ f => f.elim)).trans HT8.out).trans ((T9.trans T10).mono (fun _ _ f => f.elim))⟩
end Go.Proofs.Ytoihjobdfjajfaa
namespace Go.Proofs.Ytoihjobdfjajfaa
open Go.RowKit Go.Maps
open Tm (Stp sVar sVal sInt sAtom sComp oneC runC endC goodC ne_ops)
def opOk (s : Stp) : Prop := (s.op = sVar ∨ s.op = sVal ∨ s.op = sInt ∨ s.op = sAtom ∨ s.op = sComp) ∧ (s.op = sComp → 1 ≤ s.b ∧ s.b ≤ 8)
section
variable {sl i k : Int} {had : List Int} {s : Stp}
theorem oneC_var (h : s.op = sVar) : oneC sl i k had s = if (0 ≤ s.b ∧ s.b < sl ∧ s.b ∉ had) ∧ (stEqB s ⟨sVar, i, s.b, 0, 0, ByteArray.empty⟩ && goodNameB s.name) = true then some (k, hadN had s.b) else none := by
  unfold oneC; simp only [Bool.and_eq_true, stEqB_iff]
  by_cases h1 : s.a = i ∧ goodNameB s.name = true
  · rw [if_pos h1, if_pos h]
    by_cases h2 : 0 ≤ s.b ∧ s.b < sl ∧ s.b ∉ had ∧ s.c = 0 ∧ s.n = 0 ∧ s.name = ByteArray.empty
    · rw [if_pos h2, if_pos ⟨⟨h2.1, h2.2.1, h2.2.2.1⟩, ⟨h, h1.1, trivial, h2.2.2.2⟩, h1.2⟩]
      unfold hadN; rw [if_neg h2.2.2.1]
    · rw [if_neg h2, if_neg (fun c => h2 ⟨c.1.1, c.1.2.1, c.1.2.2, c.2.1.2.2.2⟩)]
  · rw [if_neg h1, if_neg (fun c => h1 ⟨c.2.1.2.1, c.2.2⟩)]
theorem oneC_val (h : s.op = sVal) : oneC sl i k had s = if (0 ≤ s.b ∧ s.b < sl ∧ s.b ∈ had) ∧ (stEqB s ⟨sVal, i, s.b, 0, 0, ByteArray.empty⟩ && goodNameB s.name) = true then some (k, hadN had s.b) else none := by
  unfold oneC; simp only [Bool.and_eq_true, stEqB_iff]; have hv := ne_ops.1
  by_cases h1 : s.a = i ∧ goodNameB s.name = true
  · rw [if_pos h1, if_neg (by rw [h]; exact hv), if_pos h]
    by_cases h2 : 0 ≤ s.b ∧ s.b < sl ∧ s.b ∈ had ∧ s.c = 0 ∧ s.n = 0 ∧ s.name = ByteArray.empty
    · rw [if_pos h2, if_pos ⟨⟨h2.1, h2.2.1, h2.2.2.1⟩, ⟨h, h1.1, trivial, h2.2.2.2⟩, h1.2⟩]
      unfold hadN; rw [if_pos h2.2.2.1]
    · rw [if_neg h2, if_neg (fun c => h2 ⟨c.1.1, c.1.2.1, c.1.2.2, c.2.1.2.2.2⟩)]
  · rw [if_neg h1, if_neg (fun c => h1 ⟨c.2.1.2.1, c.2.2⟩)]
theorem oneC_int (h : s.op = sInt) : oneC sl i k had s = if (stEqB s ⟨sInt, i, 0, 0, s.n, ByteArray.empty⟩ && goodNameB s.name) = true then some (k, had) else none := by
  unfold oneC; simp only [Bool.and_eq_true, stEqB_iff]; obtain ⟨_, n2, n3, _⟩ := ne_ops
  by_cases h1 : s.a = i ∧ goodNameB s.name = true
  · rw [if_pos h1, if_neg (by rw [h]; exact n2), if_neg (by rw [h]; exact n3), if_pos h]
    by_cases h2 : s.b = 0 ∧ s.c = 0 ∧ s.name = ByteArray.empty
    · rw [if_pos h2, if_pos ⟨⟨h, h1.1, h2.1, h2.2.1, trivial, h2.2.2⟩, h1.2⟩]
    · rw [if_neg h2, if_neg (fun c => h2 ⟨c.1.2.2.1, c.1.2.2.2.1, c.1.2.2.2.2.2⟩)]
  · rw [if_neg h1, if_neg (fun c => h1 ⟨c.1.2.1, c.2⟩)]
theorem oneC_atom (h : s.op = sAtom) : oneC sl i k had s = if (stEqB s ⟨sAtom, i, 0, 0, 0, s.name⟩ && goodNameB s.name) = true then some (k, had) else none := by
  unfold oneC; simp only [Bool.and_eq_true, stEqB_iff]; obtain ⟨_, _, _, n4, n5, n6, _⟩ := ne_ops
  by_cases h1 : s.a = i ∧ goodNameB s.name = true
  · rw [if_pos h1, if_neg (by rw [h]; exact n4), if_neg (by rw [h]; exact n5), if_neg (by rw [h]; exact n6), if_pos h]
    by_cases h2 : s.b = 0 ∧ s.c = 0 ∧ s.n = 0
    · rw [if_pos h2, if_pos ⟨⟨h, h1.1, h2.1, h2.2.1, h2.2.2, trivial⟩, h1.2⟩]
    · rw [if_neg h2, if_neg (fun c => h2 ⟨c.1.2.2.1, c.1.2.2.2.1, c.1.2.2.2.2.1⟩)]
  · rw [if_neg h1, if_neg (fun c => h1 ⟨c.1.2.1, c.2⟩)]
theorem oneC_comp (h : s.op = sComp) (hb : 1 ≤ s.b ∧ s.b ≤ 8) : oneC sl i k had s = if (stEqB s ⟨sComp, i, s.b, k, 0, s.name⟩ && goodNameB s.name) = true then some (k + s.b, had) else none := by
  unfold oneC; simp only [Bool.and_eq_true, stEqB_iff]; obtain ⟨_, _, _, _, _, _, n7, n8, n9, n10⟩ := ne_ops
  by_cases h1 : s.a = i ∧ goodNameB s.name = true
  · rw [if_pos h1, if_neg (by rw [h]; exact n7), if_neg (by rw [h]; exact n8), if_neg (by rw [h]; exact n9), if_neg (by rw [h]; exact n10), if_pos h]
    by_cases h2 : s.c = k ∧ s.n = 0
    · rw [if_pos ⟨hb.1, hb.2, h2⟩, if_pos ⟨⟨h, h1.1, trivial, h2.1, h2.2, trivial⟩, h1.2⟩]
    · rw [if_neg (fun c => h2 c.2.2), if_neg (fun c => h2 ⟨c.1.2.2.2.1, c.1.2.2.2.2.1⟩)]
  · rw [if_neg h1, if_neg (fun c => h1 ⟨c.1.2.1, c.2⟩)]
end
end Go.Proofs.Ytoihjobdfjajfaa
namespace Go.Proofs.Ytoihjobdfjajfaa
open Go.RowKit Go.Maps
open Tm (Stp sVar sVal sInt sAtom sComp oneC runC endC goodC ne_ops)
theorem one149T {kb mb : Nat} {k ar sl rg i : Int} {lv : Value} {had : List Int} {s : Stp} {w : World} {c : Int × List Int} (C : Chk kb mb k had w) (hk : 0 ≤ k ∧ k ≤ 30000) (hf : had.length ≤ 3000) (hs : stOk s) (ho : opOk s) (hr : oneC sl i k had s = some c) :
    Calls Try.prog 149 #[.pointer (some ⟨kb, 0, none⟩), .agg #[.int .i64 ar, .int .i64 sl, .int .i64 rg, lv], .int .i64 i, .agg #[.string s.op, .int .i64 s.a, .int .i64 s.b, .int .i64 s.c, .int .i64 s.n, .string s.name]] w fun e w' => e = .returned (.bool true) ∧ Chk kb mb c.1 c.2 w' ∧ Turned (fun q => q = kb ∨ q = mb) w w' := by
  rcases ho.1 with h | h | h | h | h
  · rw [oneC_var h] at hr
    split at hr
    · rename_i q
      simp only [Bool.and_eq_true, stEqB_iff] at q
      injection hr with hr
      subst hr; refine (one_var_okT (ar := ar) (rg := rg) (lv := lv) C hf hs h q.1.1 q.1.2.1 q.1.2.2 q.2.1.2.1 q.2.1.2.2.2.1 q.2.1.2.2.2.2.1 q.2.1.2.2.2.2.2).mono ?_
      rintro e w' ⟨rfl, C', T⟩
      have hg := q.2.2; rw [q.2.1.2.2.2.2.2] at hg; exact ⟨by rw [hg], C', T.mono (fun _ _ f => .inr f)⟩
    · cases hr
  · rw [oneC_val h] at hr
    split at hr
    · rename_i q
      simp only [Bool.and_eq_true, stEqB_iff] at q
      injection hr with hr
      subst hr; refine (one_val_okT (ar := ar) (rg := rg) (lv := lv) C hf hs h q.1.1 q.1.2.1 q.1.2.2 q.2.1.2.1 q.2.1.2.2.2.1 q.2.1.2.2.2.2.1 q.2.1.2.2.2.2.2).mono ?_
      rintro e w' ⟨rfl, C', T⟩
      have hg := q.2.2; rw [q.2.1.2.2.2.2.2] at hg; exact ⟨by rw [hg], C', T.mono (fun _ _ f => .inr f)⟩
    · cases hr
  · rw [oneC_int h] at hr
    split at hr
    · rename_i q
      injection hr with hr
      subst hr; refine (one_int hs h).mono ?_
      rintro e w' ⟨rfl, T⟩
      exact ⟨by rw [q], C.turned0 T, T.mono (fun _ _ f => f.elim)⟩
    · cases hr
  · rw [oneC_atom h] at hr
    split at hr
    · rename_i q
      injection hr with hr
      subst hr; refine (one_atom hs h).mono ?_
      rintro e w' ⟨rfl, T⟩
      exact ⟨by rw [q], C.turned0 T, T.mono (fun _ _ f => f.elim)⟩
    · cases hr
  · have hb := ho.2 h
    rw [oneC_comp h hb] at hr
    split at hr
    · rename_i q
      simp only [Bool.and_eq_true, stEqB_iff] at q
      injection hr with hr
      subst hr; refine (one_compT (ar := ar) (sl := sl) (rg := rg) (lv := lv) C.b hk hb hs h q.1.2.1 q.1.2.2.2.1 q.1.2.2.2.2.1).mono ?_
      rintro e w' ⟨rfl, hb', T⟩
      exact ⟨by rw [q.2], ⟨hb', C.m.turned T (fun e => C.ne e.symm), C.ne, C.few⟩, T.mono (fun _ _ f => .inl f)⟩
    · cases hr
end Go.Proofs.Ytoihjobdfjajfaa
namespace Go.Proofs.Ytoihjobdfjajfaa
open Go.RowKit Go.Maps
open Tm (Stp sVar sVal sInt sAtom sComp oneC runC endC goodC ne_ops)
theorem oneC_few {sl i k : Int} {had : List Int} {s : Stp} {c : Int × List Int} (ho : opOk s) (h : oneC sl i k had s = some c) : c.2.length ≤ had.length + 1 ∧ k ≤ c.1 ∧ c.1 ≤ k + 8 := by
  rcases ho.1 with q | q | q | q | q
  · rw [oneC_var q] at h
    split at h
    · injection h with h; subst h; exact ⟨hadN_len _ _, by simp only []; omega, by simp only []; omega⟩
    · cases h
  · rw [oneC_val q] at h
    split at h
    · injection h with h; subst h; exact ⟨hadN_len _ _, by simp only []; omega, by simp only []; omega⟩
    · cases h
  · rw [oneC_int q] at h
    split at h
    · injection h with h; subst h; exact ⟨by simp only []; omega, by simp only []; omega, by simp only []; omega⟩
    · cases h
  · rw [oneC_atom q] at h
    split at h
    · injection h with h; subst h; exact ⟨by simp only []; omega, by simp only []; omega, by simp only []; omega⟩
    · cases h
  · have := ho.2 q
    rw [oneC_comp q this] at h
    split at h
    · injection h with h; subst h; exact ⟨by simp only []; omega, by simp only []; omega, by simp only []; omega⟩
    · cases h
structure GoodL (sl ar : Int) (Ls : List Stp) (kb mb : Nat) (w1 : World) (j : Nat) (wr : World) : Prop where
  st : ∃ k had, Chk kb mb k had wr ∧ runC sl Ls 0 ar [] = runC sl (Ls.drop j) j k had ∧ had.length ≤ j ∧ 0 ≤ k ∧ k ≤ 8 + 8 * (j : Int)
  t : Turned (fun q => q = kb ∨ q = mb) w1 wr
end Go.Proofs.Ytoihjobdfjajfaa

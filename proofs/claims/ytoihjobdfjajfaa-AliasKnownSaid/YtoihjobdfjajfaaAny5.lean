/- A region that draws its order: the operations that turn the state come up in ANY order; the state knows which have been and what they brought. -/
import Derived.Test.YtoihjobdfjajfaaAny4
namespace Go.Proofs.Ytoihjobdfjajfaa
open Go
/-- Which operation writes a slot, of those that turn the state. -/
def slotOp : List (Tmp × Nat) → Tmp → Option Nat
  | [], _ => none
  | (s, i) :: l, d => if s == d then some i else slotOp l d
def GK (hist : List (Tmp × Nat)) (GL : Tmp → Value → Prop) (hs : List (Nat × Value)) (d : Tmp) (v : Value) : Prop :=
  match slotOp hist d with
  | some i => (i, v) ∈ hs
  | none => GL d v
def StepK (P : Program) (hist : List (Tmp × Nat)) (GL : Tmp → Value → Prop) (ops : Array Oper) (a0 : Act) (st : List Nat) (R : List (Nat × Value) → World → Prop) (i : Nat) (o : Oper) : Prop :=
  match st.contains i with
  | false => ∀ hs, (∀ j n v, waits ops n j i = true → (j, v) ∉ hs) → StepG P (fun d v _ => GK hist GL hs d v) ops a0 (R hs) (fun v w w' => Turned (fun _ => False) w w' ∧ GDL GL o.dst v) o
  | true => ∀ hs, (∀ v, (i, v) ∉ hs) → (∀ j n v, waits ops n j i = true → (j, v) ∉ hs) → StepG P (fun d v _ => GK hist GL hs d v) ops a0 (R hs) (fun v _ w' => R (hs ++ [(i, v)]) w') o
def StepsK (P : Program) (hist : List (Tmp × Nat)) (GL : Tmp → Value → Prop) (ops : Array Oper) (a0 : Act) (st : List Nat) (R : List (Nat × Value) → World → Prop) : Nat → List Oper → Prop
  | _, [] => True
  | i, o :: l => StepK P hist GL ops a0 st R i o ∧ StepsK P hist GL ops a0 st R (i + 1) l
theorem StepsK.at {P : Program} {hist : List (Tmp × Nat)} {GL : Tmp → Value → Prop} {ops : Array Oper} {a0 : Act} {st : List Nat} {R : List (Nat × Value) → World → Prop} {l : List Oper} {b : Nat} (h : StepsK P hist GL ops a0 st R b l) {j : Nat} {o : Oper} (ho : l[j]? = some o) : StepK P hist GL ops a0 st R (b + j) o := by
  induction l generalizing b j with
  | nil => simp at ho
  | cons x l ih =>
    cases j with
    | zero => simp at ho; subst ho; exact h.1
    | succ j =>
      simp at ho
      have := ih h.2 ho
      rwa [show b + 1 + j = b + (j + 1) from by omega] at this
def chkK (ops : Array Oper) (st : List Nat) (hist : List (Tmp × Nat)) : Bool :=
  st.all (fun i => decide (i < ops.size)) && (List.range ops.size).all fun i => match ops[i]? with
    | none => true
    | some o => match o.dst with
      | none => true
      | some d => match st.contains i with
        | true => slotOp hist d == some i
        | false => slotOp hist d == none
structure InvK (ops : Array Oper) (st : List Nat) (R : List (Nat × Value) → World → Prop) (listed : Array Bool) (hs : List (Nat × Value)) (w : World) : Prop where
  state : R hs w
  keys : ∀ i, i ∈ st → (listed.getD i false = true ↔ ∃ v, (i, v) ∈ hs)
  sub : ∀ i v, (i, v) ∈ hs → i ∈ st
  uniq : ∀ i v v', (i, v) ∈ hs → (i, v') ∈ hs → v = v'
  shut : ∀ j o, ops[j]? = some o → listed.getD j false = true → ∀ e ∈ o.after, Region.binds .any e = true → listed.getD e.on false = true
section
variable {P : Program} {hist : List (Tmp × Nat)} {GL : Tmp → Value → Prop} {ops : Array Oper} {a0 : Act} {w0 : World} {Q : Exit → Act → World → Prop} {st : List Nat} {R : List (Nat × Value) → World → Prop}
theorem unlisted {listed : Array Bool} {i : Nat} (h : i ∈ Region.ready .any ops listed) : listed.getD i false = false := by
  obtain ⟨hf, _⟩ := mem_ready.1 h
  have hf' := hf
  simp only [Array.getD_eq_getD_getElem?] at hf' ⊢
  cases h : listed[i]? with
  | none => rfl
  | some b => rw [h] at hf'; simpa using hf'
theorem InvK.later {listed : Array Bool} {hs : List (Nat × Value)} {w : World} (h : InvK ops st R listed hs w) {i : Nat} (hr : i ∈ Region.ready .any ops listed) : ∀ j n v, waits ops n j i = true → (j, v) ∉ hs := by
  intro j n v hw hm
  have h1 := (h.keys j (h.sub j v hm)).2 ⟨v, hm⟩
  have h2 := waits_listed h.shut n j i hw h1
  rw [unlisted hr] at h2
  cases h2
theorem InvK.not {listed : Array Bool} {hs : List (Nat × Value)} {w : World} (h : InvK ops st R listed hs w) {i : Nat} (hr : i ∈ Region.ready .any ops listed) : ∀ v, (i, v) ∉ hs := by
  intro v hm
  have h1 := (h.keys i (h.sub i v hm)).2 ⟨v, hm⟩
  rw [unlisted hr] at h1
  cases h1
theorem k_go (hc : chkAny ops a0.tmps.size = true) (hk : chkK ops st hist = true) (hRt : ∀ hs w w', R hs w → Turned (fun _ => False) w w' → R hs w') (hs : StepsK P hist GL ops a0 st R 0 ops.toList)
    (hQ : ∀ hs a w, (∀ i ∈ st, ∃ v, (i, v) ∈ hs) → (∀ i v v', (i, v) ∈ hs → (i, v') ∈ hs → v = v') → R hs w → (∀ s, Looks (fun d v _ => GK hist GL hs d v) ops a0 a w s) → a.defers = a0.defers → a.tmps.size = a0.tmps.size → Q .normal a w) :
    ∀ (fuel : Nat) (listed : Array Bool) (a : Act) (w : World) (hs : List (Nat × Value)), listed.toList.count false ≤ fuel → InvK ops st R listed hs w → InvA (fun d v _ => GK hist GL hs d v) ops a0 a listed w → wpAny P .any ops Q fuel listed a w := by
  have hk1 : ∀ i ∈ st, i < ops.size := by
    simp only [chkK, Bool.and_eq_true, List.all_eq_true] at hk
    intro i hi
    simpa using hk.1 i hi
  have hk2 : ∀ i o d, ops[i]? = some o → o.dst = some d → slotOp hist d = (match st.contains i with | true => some i | false => none) := by
    intro i o d ho hd
    simp only [chkK, Bool.and_eq_true, List.all_eq_true] at hk
    have := hk.2 i (List.mem_range.2 (Array.getElem?_eq_some_iff.1 ho).1)
    rw [ho] at this
    simp only [hd] at this
    cases hp : st.contains i with
    | true => rw [hp] at this; simpa using this
    | false => rw [hp] at this; simpa using this
  intro fuel
  have hend : ∀ (listed : Array Bool) (a : Act) (w : World) (hs : List (Nat × Value)), InvK ops st R listed hs w → InvA (fun d v _ => GK hist GL hs d v) ops a0 a listed w → Region.ready .any ops listed = [] → Q .normal a w := by
    intro listed a w hs hT hI hr
    have hall := all_listed hc hI.lsize hr
    refine hQ hs a w (fun i hi => (hT.keys i hi).1 (hall i (hk1 i hi))) hT.uniq hT.state (fun s => ?_) hI.defers hI.size
    unfold Looks
    split
    · rename_i hm
      obtain ⟨oj, hoj, hd⟩ := List.mem_filterMap.1 hm
      obtain ⟨j, hj⟩ := List.getElem?_of_mem hoj
      rw [Array.getElem?_toList] at hj
      exact hI.done j oj s hj hd (hall j (Array.getElem?_eq_some_iff.1 hj).1)
    · rename_i hm
      refine hI.rest s fun j oj hj hd => absurd (List.mem_filterMap.2 ⟨oj, ?_, hd⟩) hm
      exact List.mem_of_getElem? (by rw [Array.getElem?_toList]; exact hj)
  induction fuel with
  | zero =>
    intro listed a w hs' hf hT hI
    have hr : Region.ready .any ops listed = [] := by
      apply List.eq_nil_iff_forall_not_mem.2
      intro i hi
      obtain ⟨hfalse, o, ho, _⟩ := mem_ready.1 hi
      have hlt : i < listed.size := by rw [hI.lsize]; exact (Array.getElem?_eq_some_iff.1 ho).1
      simp [hlt] at hfalse
      have : false ∈ listed.toList := by rw [← hfalse]; exact Array.getElem_mem_toList hlt
      have := List.count_pos_iff.2 this
      omega
    exact ⟨hr, hend _ _ _ _ hT hI hr⟩
  | succ fuel ih =>
    intro listed a w hs' hf hT hI
    refine ⟨hend _ _ _ _ hT hI, fun i hi => ?_⟩
    obtain ⟨hfalse, o, ho, _⟩ := mem_ready.1 hi
    have hlt : i < listed.size := by rw [hI.lsize]; exact (Array.getElem?_eq_some_iff.1 ho).1
    have hcnt : (listed.setIfInBounds i true).toList.count false ≤ fuel := by
      have h1 : listed.toList[i]? = some false := by
        simp [hlt] at hfalse
        rw [Array.getElem?_toList, Array.getElem?_eq_getElem hlt, hfalse]
      have := count_set h1
      rw [Array.toList_setIfInBounds]
      omega
    have hst1 := hs.at (j := i) (o := o) (by rw [Array.getElem?_toList]; exact ho)
    rw [Nat.zero_add] at hst1
    unfold wpOp
    simp only [ho]
    unfold StepK at hst1
    have hli : (listed.setIfInBounds i true).getD i false = true := by simp [hlt]
    cases hp : st.contains i with
    | false =>
      rw [hp] at hst1
      have hni : i ∉ st := by intro e; rw [← List.contains_iff_mem, hp] at e; cases e
      have hst2 := hst1 hs' (hT.later hi) a w hT.state (hI.looks hc ho hi)
      have hg : ∀ v, GDL GL o.dst v → ∀ w', GD (fun d v _ => GK hist GL hs' d v) o.dst v w' := by
        intro v hv w'
        cases hd : o.dst with
        | none => trivial
        | some d =>
          rw [hd] at hv
          show GK hist GL hs' d v
          unfold GK
          rw [hk2 i o d ho hd, hp]
          exact hv
      have hT' : ∀ w', R hs' w' → InvK ops st R (listed.setIfInBounds i true) hs' w' := fun w' hR => by
        refine ⟨hR, fun j hj => ?_, hT.sub, hT.uniq, shut_set hT.shut hI.lsize hi⟩
        rw [getD_set_ne false (show i ≠ j from fun e => hni (by rw [e]; exact hj))]
        exact hT.keys j hj
      split
      · rename_i hw
        refine .inl ?_
        exact Brings.upon (hst2.1 hw) fun v w' hv => ih _ _ _ hs' hcnt (hT' _ (hRt _ _ _ hT.state hv.1)) (hI.stepG hc (fun d v h => h) ho (hg _ hv.2 _))
      · rename_i hw
        have := hst2.2 (by simpa using hw)
        exact ih _ _ _ hs' hcnt (hT' _ hT.state) (hI.stepG hc (fun d v h => h) ho (hg _ this.2 _))
    | true =>
      rw [hp] at hst1
      have hni : i ∈ st := by rw [← List.contains_iff_mem]; exact hp
      have hst2 := hst1 hs' (hT.not hi) (hT.later hi) a w hT.state (hI.looks hc ho hi)
      have hg2 : ∀ v w', GD (fun d u _ => GK hist GL (hs' ++ [(i, v)]) d u) o.dst v w' := by
        intro v w'
        cases hd : o.dst with
        | none => trivial
        | some d =>
          show GK hist GL (hs' ++ [(i, v)]) d v
          unfold GK
          rw [hk2 i o d ho hd, hp]
          simp
      have hmono : ∀ v d u, GK hist GL hs' d u → GK hist GL (hs' ++ [(i, v)]) d u := by
        intro v d u h
        unfold GK at h ⊢
        split at h
        · exact List.mem_append_left _ h
        · exact h
      have hT' : ∀ v w', R (hs' ++ [(i, v)]) w' → InvK ops st R (listed.setIfInBounds i true) (hs' ++ [(i, v)]) w' := fun v w' hR => by
        refine ⟨hR, fun j hj => ?_, fun j u hm => ?_, fun j u u' h1 h2 => ?_, shut_set hT.shut hI.lsize hi⟩
        · by_cases e : j = i
          · subst e
            rw [hli]
            exact ⟨fun _ => ⟨v, by simp⟩, fun _ => rfl⟩
          · rw [getD_set_ne false (Ne.symm e), hT.keys j hj]
            constructor
            · rintro ⟨u, hu⟩; exact ⟨u, List.mem_append_left _ hu⟩
            · rintro ⟨u, hu⟩
              rcases List.mem_append.1 hu with hu | hu
              · exact ⟨u, hu⟩
              · simp at hu; exact absurd hu.1 e
        · rcases List.mem_append.1 hm with hm | hm
          · exact hT.sub j u hm
          · simp at hm; rw [hm.1]; exact hni
        · rcases List.mem_append.1 h1 with h1 | h1 <;> rcases List.mem_append.1 h2 with h2 | h2
          · exact hT.uniq j u u' h1 h2
          · simp at h2; rw [h2.1] at h1; exact absurd h1 (hT.not hi _)
          · simp at h1; rw [h1.1] at h2; exact absurd h2 (hT.not hi _)
          · simp at h1 h2; rw [h1.2, h2.2]
      split
      · rename_i hw
        refine .inl ?_
        exact Brings.upon (hst2.1 hw) fun v w' hv => ih _ _ _ (hs' ++ [(i, v)]) hcnt (hT' v _ hv) (hI.stepG hc (fun d u h => hmono v d u h) ho (hg2 v w'))
      · rename_i hw
        have := hst2.2 (by simpa using hw)
        exact ih _ _ _ (hs' ++ [(i, undef)]) hcnt (hT' undef _ this) (hI.stepG hc (fun d u h => hmono undef d u h) ho (hg2 undef w))
/-- THE LAW. -/
theorem wp_region_k {id : Nat} (dl : List Tmp) (st : List Nat) (hist : List (Tmp × Nat)) (GL : Tmp → Value → Prop) (R : List (Nat × Value) → World → Prop) (hdl : ops.toList.filterMap (·.dst) = dl) (hm : P.follows .mixedOrders = true) (hc : chkAny ops a0.tmps.size = true) (hk : chkK ops st hist = true)
    (hR0 : ∀ w, Turned (fun _ => False) w0 w → R [] w) (hRt : ∀ hs w w', R hs w → Turned (fun _ => False) w w' → R hs w') (hs : StepsK P hist GL ops a0 st R 0 ops.toList)
    (hQ : ∀ (hs : List (Nat × Value)) (vs : Tmp → Value) w, (∀ i ∈ st, ∃ v, (i, v) ∈ hs) → (∀ i v v', (i, v) ∈ hs → (i, v') ∈ hs → v = v') → R hs w → (∀ s ∈ dl, GK hist GL hs s (vs s)) → Q .normal ⟨dl.foldl (fun t d => t.setIfInBounds d (vs d)) a0.tmps, a0.defers⟩ w) : (Code.region id ops true).wp P Q a0 w0 := by
  refine wp_region_any hm (k_go hc hk hRt hs ?_ _ _ _ _ [] ?_ ⟨hR0 _ ((Turned.refl _ w0).drew), fun i hi => ?_, fun i v h => (List.not_mem_nil h).elim, fun i v v' h => (List.not_mem_nil h).elim, fun j o ho hj => ?_⟩ ?_)
  · intro hs a w hall huniq hR hL hd hsz
    have := hQ hs (fun d => a.tmps.getD d undef) w hall huniq hR (fun s hs => by
      have := hL s
      unfold Looks at this
      rw [hdl, if_pos hs] at this
      exact this)
    have e : a = ⟨dl.foldl (fun t d => t.setIfInBounds d (a.tmps.getD d undef)) a0.tmps, a0.defers⟩ := by
      cases a with | mk tmps defers =>
      simp only at hd hsz this ⊢
      subst hd
      congr 1
      apply Array.ext
      · rw [fold_size]; exact hsz
      · intro i h1 h2
        have h3 : i < a0.tmps.size := by rw [← hsz]; exact h1
        have hf := fold_getD (fun d => tmps.getD d undef) dl a0.tmps i h3
        have hl := hL i
        unfold Looks at hl
        rw [hdl] at hl
        have e1 := getD_lt tmps i h1
        have e2 := getD_lt _ i h2
        rw [← e1, ← e2, hf]
        by_cases hm : i ∈ dl
        · rw [if_pos hm]
        · rw [if_neg hm] at hl ⊢
          exact hl
    rw [e]
    exact this
  · rw [Array.toList_replicate, List.count_replicate_self]
    exact Nat.le_refl _
  · constructor
    · intro h
      exfalso
      simp only [Array.getD_eq_getD_getElem?] at h
      cases hx : (Array.replicate ops.size false)[i]? with
      | none => rw [hx] at h; cases h
      | some b =>
        rw [hx] at h
        rw [Array.getElem?_replicate] at hx
        split at hx
        · injection hx with hx; subst hx; cases h
        · cases hx
    · rintro ⟨v, h⟩; exact (List.not_mem_nil h).elim
  · have hlt := (Array.getElem?_eq_some_iff.1 ho).1
    simp [hlt] at hj
  · refine ⟨rfl, rfl, by simp, fun j oj d hj hd hl => ?_, fun d _ => rfl⟩
    have hlt := (Array.getElem?_eq_some_iff.1 hj).1
    simp [hlt] at hl
end
end Go.Proofs.Ytoihjobdfjajfaa

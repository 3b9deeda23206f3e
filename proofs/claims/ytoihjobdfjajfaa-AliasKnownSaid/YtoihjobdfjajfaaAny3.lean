/- A region that draws its order and WRITES: the operations that turn the state come up in ONE order (each waits for the one ahead); the others anywhere between. One obligation an operation. -/
import Derived.Test.YtoihjobdfjajfaaAny2
namespace Go.Proofs.Ytoihjobdfjajfaa
open Go

/-- The place of an operation among those that turn the state. -/
def posOf : List Nat → Nat → Option Nat
  | [], _ => none
  | s :: l, i => if s == i then some 0 else (posOf l i).map (· + 1)
theorem posOf_some {l : List Nat} {i k : Nat} (h : posOf l i = some k) : l[k]? = some i := by
  induction l generalizing k with
  | nil => cases h
  | cons s l ih =>
    unfold posOf at h
    split at h
    · rename_i e
      injection h with h
      subst h
      simp at e
      simp [e]
    · cases hp : posOf l i with
      | none => rw [hp] at h; cases h
      | some q =>
        rw [hp] at h
        injection h with h
        subst h
        rw [List.getElem?_cons_succ]
        exact ih hp
theorem posOf_none {l : List Nat} {i k : Nat} (h : posOf l i = none) : l[k]? ≠ some i := by
  induction l generalizing k with
  | nil => simp
  | cons s l ih =>
    unfold posOf at h
    split at h
    · cases h
    · rename_i e
      have h2 : posOf l i = none := by
        cases hp : posOf l i with
        | none => rfl
        | some q => rw [hp] at h; cases h
      cases k with
      | zero => simp at e; simpa using e
      | succ k => rw [List.getElem?_cons_succ]; exact ih h2
def StepG (P : Program) (G : Tmp → Value → World → Prop) (ops : Array Oper) (a0 : Act) (Pre : World → Prop) (Post : Value → World → World → Prop) (o : Oper) : Prop :=
  ∀ a w, Pre w → (∀ s ∈ o.looksAt ops, Looks G ops a0 a w s) →
    (Region.wanted o (yielded ops a.tmps) = true → Brings P (fun v w' => Post v w w') ((execOp a.eval o).run P w)) ∧
    (Region.wanted o (yielded ops a.tmps) = false → Post undef w w)
/-- What an operation that turns nothing owes. -/
def Idle (G : List Value → Tmp → Value → World → Prop) (R : List Value → World → Prop) (Step : World → World → Prop) (hs : List Value) (d : Option Tmp) (v : Value) (w w' : World) : Prop := R hs w' ∧ Step w w' ∧ GD (G hs) d v w'
/-- What an operation that turns the state owes. -/
def Turns (G : List Value → Tmp → Value → World → Prop) (R : List Value → World → Prop) (Step : World → World → Prop) (hs : List Value) (d : Option Tmp) (v : Value) (w w' : World) : Prop := R (hs ++ [v]) w' ∧ Step w w' ∧ GD (G (hs ++ [v])) d v w'
/-- An operation waits for another, be it through others. -/
def waits (ops : Array Oper) : Nat → Nat → Nat → Bool
  | 0, _, _ => false
  | n + 1, j, i => match ops[j]? with
    | none => false
    | some o => o.after.any fun e => Region.binds .any e && (e.on == i || waits ops n e.on i)
theorem waits_listed {ops : Array Oper} {listed : Array Bool} (h : ∀ j o, ops[j]? = some o → listed.getD j false = true → ∀ e ∈ o.after, Region.binds .any e = true → listed.getD e.on false = true) (n : Nat) : ∀ j i, waits ops n j i = true → listed.getD j false = true → listed.getD i false = true := by
  induction n with
  | zero => intro j i hw; cases hw
  | succ n ih =>
    intro j i hw hj
    unfold waits at hw
    cases ho : ops[j]? with
    | none => rw [ho] at hw; cases hw
    | some o =>
      rw [ho] at hw
      obtain ⟨e, he, hb⟩ := (Array.any_eq_true').1 hw
      simp only [Bool.and_eq_true, Bool.or_eq_true, beq_iff_eq] at hb
      have h1 := h j o ho hj e he hb.1
      rcases hb.2 with e' | e'
      · rw [← e']; exact h1
      · exact ih _ _ e' h1
def StepAt (P : Program) (G : List Value → Tmp → Value → World → Prop) (ops : Array Oper) (a0 : Act) (st : List Nat) (R : List Value → World → Prop) (Step : World → World → Prop) (i : Nat) (o : Oper) : Prop :=
  match posOf st i with
  | none => ∀ hs, hs.length ≤ st.length → (∀ k j n, st[k]? = some j → waits ops n j i = true → hs.length ≤ k) → StepG P (G hs) ops a0 (R hs) (Idle G R Step hs o.dst) o
  | some k => ∀ hs, hs.length = k → StepG P (G hs) ops a0 (R hs) (Turns G R Step hs o.dst) o
def StepsAt (P : Program) (G : List Value → Tmp → Value → World → Prop) (ops : Array Oper) (a0 : Act) (st : List Nat) (R : List Value → World → Prop) (Step : World → World → Prop) : Nat → List Oper → Prop
  | _, [] => True
  | i, o :: l => StepAt P G ops a0 st R Step i o ∧ StepsAt P G ops a0 st R Step (i + 1) l
theorem StepsAt.at {P : Program} {G : List Value → Tmp → Value → World → Prop} {ops : Array Oper} {a0 : Act} {st : List Nat} {R : List Value → World → Prop} {Step : World → World → Prop} {l : List Oper} {b : Nat} (h : StepsAt P G ops a0 st R Step b l) {j : Nat} {o : Oper} (ho : l[j]? = some o) : StepAt P G ops a0 st R Step (b + j) o := by
  induction l generalizing b j with
  | nil => simp at ho
  | cons x l ih =>
    cases j with
    | zero => simp at ho; subst ho; exact h.1
    | succ j =>
      simp at ho
      have := ih h.2 ho
      rwa [show b + 1 + j = b + (j + 1) from by omega] at this
def chkSt (ops : Array Oper) (st : List Nat) : Bool :=
  st.all (fun i => decide (i < ops.size)) && (List.range st.length).all fun k => match st[k]?, st[k + 1]? with
    | some i, some j => decide (i < j) && ((ops[j]?).map fun o => o.after.any fun e => Region.binds .any e && e.on == i).getD false
    | _, _ => true
theorem chkSt_lt {ops : Array Oper} {st : List Nat} (h : chkSt ops st = true) {k i : Nat} (hi : st[k]? = some i) : i < ops.size := by
  simp only [chkSt, Bool.and_eq_true, List.all_eq_true] at h
  simpa using h.1 i (List.mem_of_getElem? hi)
theorem chkSt_next {ops : Array Oper} {st : List Nat} (h : chkSt ops st = true) {k i j : Nat} (hi : st[k]? = some i) (hj : st[k + 1]? = some j) : i < j ∧ ∀ o, ops[j]? = some o → ∃ e ∈ o.after, Region.binds .any e = true ∧ e.on = i := by
  simp only [chkSt, Bool.and_eq_true, List.all_eq_true] at h
  have := h.2 k (List.mem_range.2 (List.getElem?_eq_some_iff.1 hi).1)
  rw [hi, hj] at this
  simp only [Bool.and_eq_true, decide_eq_true_eq] at this
  refine ⟨this.1, fun o ho => ?_⟩
  have h2 := this.2
  rw [ho] at h2
  simp only [Option.map_some, Option.getD_some] at h2
  obtain ⟨e, he, hb⟩ := (Array.any_eq_true').1 h2
  simp only [Bool.and_eq_true, beq_iff_eq] at hb
  exact ⟨e, he, hb⟩
theorem chkSt_mono {ops : Array Oper} {st : List Nat} (h : chkSt ops st = true) (d : Nat) : ∀ {k i j : Nat}, st[k]? = some i → st[k + d + 1]? = some j → i < j := by
  induction d with
  | zero => intro k i j hi hj; exact (chkSt_next h hi hj).1
  | succ d ih =>
    intro k i j hi hj
    have hlt : k + d + 1 < st.length := by have := (List.getElem?_eq_some_iff.1 hj).1; omega
    have hm : st[k + d + 1]? = some st[k + d + 1] := List.getElem?_eq_getElem hlt
    have h1 := ih hi hm
    have h2 := (chkSt_next h hm (by rw [show k + d + 1 + 1 = k + (d + 1) + 1 from by omega]; exact hj)).1
    omega
theorem chkSt_inj {ops : Array Oper} {st : List Nat} (h : chkSt ops st = true) {k k' i : Nat} (hi : st[k]? = some i) (hj : st[k']? = some i) : k = k' := by
  rcases Nat.lt_trichotomy k k' with hl | hl | hl
  · have := chkSt_mono h (k' - k - 1) hi (by rw [show k + (k' - k - 1) + 1 = k' from by omega]; exact hj)
    omega
  · exact hl
  · have := chkSt_mono h (k - k' - 1) hj (by rw [show k' + (k - k' - 1) + 1 = k from by omega]; exact hi)
    omega
section
variable {P : Program} {G : List Value → Tmp → Value → World → Prop} {ops : Array Oper} {a0 : Act} {w0 : World} {Q : Exit → Act → World → Prop} {st : List Nat} {R : List Value → World → Prop} {Step : World → World → Prop}
theorem InvA.stepG {G G' : Tmp → Value → World → Prop} {a : Act} {listed : Array Bool} {w w' : World} (h : InvA G ops a0 a listed w) (hc : chkAny ops a0.tmps.size = true) (hG : ∀ d v, G d v w → G' d v w') {i : Nat} {oi : Oper} (hi : ops[i]? = some oi) {v : Value} (hv : GD G' oi.dst v w') : InvA G' ops a0 (a.put oi.dst v) (listed.setIfInBounds i true) w' := by
  have hlt := (Array.getElem?_eq_some_iff.1 hi).1
  have hli : (listed.setIfInBounds i true).getD i false = true := by
    have : i < listed.size := by rw [h.lsize]; exact hlt
    simp [this]
  have hbk : ∀ j, j ≠ i → (listed.setIfInBounds i true).getD j false = listed.getD j false := fun j hj => getD_set_ne false (Ne.symm hj)
  cases hd : oi.dst with
  | none =>
    refine ⟨h.defers, h.size, by simpa using h.lsize, fun j oj d hj hdj hl => ?_, fun d hall => h.rest d fun j oj hj hdj => ?_⟩
    · by_cases e : j = i
      · subst e
        rw [hi] at hj
        injection hj with hj
        subst hj
        rw [hd] at hdj
        cases hdj
      · rw [hbk j e] at hl
        exact hG _ _ (h.done j oj d hj hdj hl)
    · have h2 := hall j oj hj hdj
      by_cases e : j = i
      · subst e; rw [hli] at h2; cases h2
      · rw [hbk j e] at h2; exact h2
  | some c =>
    have hcN := (chkPair_spec ((chkAny_at hc hi).2 i oi hi) hd).1
    rw [hd] at hv
    have hsz : c < a.tmps.size := by rw [h.size]; exact hcN
    refine ⟨h.defers, by simpa [Act.put] using h.size, by simpa using h.lsize, fun j oj d hj hdj hl => ?_, fun d hall => ?_⟩
    · show G' d ((a.tmps.setIfInBounds c v).getD d undef) w'
      rw [getD_set _ _ _ _ hsz]
      by_cases e : j = i
      · subst e
        rw [hi] at hj
        injection hj with hj
        subst hj
        rw [hd] at hdj
        injection hdj with hdj
        subst hdj
        rw [if_pos rfl]
        exact hv
      · have hne := (chkPair_spec ((chkAny_at hc hi).2 j oj hj) hdj).2.2 (Ne.symm e)
        rw [hd] at hne
        have hne : d ≠ c := fun e' => hne (by rw [e'])
        rw [if_neg hne]
        rw [hbk j e] at hl
        exact hG _ _ (h.done j oj d hj hdj hl)
    · show (a.tmps.setIfInBounds c v).getD d undef = _
      rw [getD_set _ _ _ _ hsz]
      by_cases e : d = c
      · subst e
        have := hall i oi hi hd
        rw [hli] at this
        cases this
      · rw [if_neg e]
        refine h.rest d fun j oj hj hdj => ?_
        have h2 := hall j oj hj hdj
        by_cases e : j = i
        · subst e; rw [hli] at h2; cases h2
        · rw [hbk j e] at h2; exact h2
/-- How far the state has come. -/
structure InvS (ops : Array Oper) (st : List Nat) (R : List Value → World → Prop) (listed : Array Bool) (hs : List Value) (m : Nat) (w : World) : Prop where
  le : m ≤ st.length
  len : hs.length = m
  state : R hs w
  done : ∀ k i, st[k]? = some i → listed.getD i false = decide (k < m)
  shut : ∀ j o, ops[j]? = some o → listed.getD j false = true → ∀ e ∈ o.after, Region.binds .any e = true → listed.getD e.on false = true
theorem shut_set {listed : Array Bool} {i : Nat} (h : ∀ j o, ops[j]? = some o → listed.getD j false = true → ∀ e ∈ o.after, Region.binds .any e = true → listed.getD e.on false = true) (hl : listed.size = ops.size) (hr : i ∈ Region.ready .any ops listed) :
    ∀ j o, ops[j]? = some o → (listed.setIfInBounds i true).getD j false = true → ∀ e ∈ o.after, Region.binds .any e = true → (listed.setIfInBounds i true).getD e.on false = true := by
  obtain ⟨hf, oi, hoi, hall⟩ := mem_ready.1 hr
  have hlt : i < listed.size := by rw [hl]; exact (Array.getElem?_eq_some_iff.1 hoi).1
  have hmono : ∀ k, listed.getD k false = true → (listed.setIfInBounds i true).getD k false = true := by
    intro k hk
    by_cases e : k = i
    · subst e; simp [hlt]
    · rw [getD_set_ne false (Ne.symm e)]; exact hk
  intro j o ho hj e he hb
  by_cases e' : j = i
  · subst e'
    rw [hoi] at ho
    injection ho with ho
    subst ho
    exact hmono _ (hall e he hb)
  · rw [getD_set_ne false (Ne.symm e')] at hj
    exact hmono _ (h j o ho hj e he hb)
theorem InvS.other {listed : Array Bool} {hs : List Value} {m : Nat} {w w' : World} (h : InvS ops st R listed hs m w) {i : Nat} (hp : posOf st i = none) (hl : listed.size = ops.size) (hr : i ∈ Region.ready .any ops listed) (hR : R hs w') : InvS ops st R (listed.setIfInBounds i true) hs m w' := by
  refine ⟨h.le, h.len, hR, fun k j hj => ?_, shut_set h.shut hl hr⟩
  have hne : j ≠ i := fun e => posOf_none hp (e ▸ hj)
  rw [getD_set_ne false (Ne.symm hne)]
  exact h.done k j hj
theorem InvS.here {listed : Array Bool} {hs : List Value} {m : Nat} {w : World} (h : InvS ops st R listed hs m w) (hst : chkSt ops st = true) {i k : Nat} (hp : posOf st i = some k) (hr : i ∈ Region.ready .any ops listed) : k = m := by
  obtain ⟨hf, o, ho, hall⟩ := mem_ready.1 hr
  have hk := posOf_some hp
  have h1 := h.done k i hk
  have hmk : m ≤ k := by
    have : listed.getD i false = false := by
      have hf' := hf
      simp only [Array.getD_eq_getD_getElem?] at hf' ⊢
      cases h : listed[i]? with
      | none => rfl
      | some b => rw [h] at hf'; simpa using hf'
    rw [this] at h1
    have := of_decide_eq_false h1.symm
    omega
  by_cases e : k = m
  · exact e
  · exfalso
    have hk1 : st[k - 1]? = some (st[k - 1]'(by have := (List.getElem?_eq_some_iff.1 hk).1; omega)) := List.getElem?_eq_getElem _
    obtain ⟨_, hedge⟩ := chkSt_next hst hk1 (by rw [show k - 1 + 1 = k from by omega]; exact hk)
    obtain ⟨e', he', hb, hon⟩ := hedge o ho
    have h2 := h.done _ _ hk1
    rw [← hon, hall e' he' hb] at h2
    have := of_decide_eq_true h2.symm
    omega
theorem InvS.next {listed : Array Bool} {hs : List Value} {m : Nat} {w w' : World} (h : InvS ops st R listed hs m w) (hst : chkSt ops st = true) (hl : listed.size = ops.size) {i : Nat} (hr : i ∈ Region.ready .any ops listed) (hp : posOf st i = some m) {v : Value} (hR : R (hs ++ [v]) w') : InvS ops st R (listed.setIfInBounds i true) (hs ++ [v]) (m + 1) w' := by
  have hk := posOf_some hp
  have hlt := (List.getElem?_eq_some_iff.1 hk).1
  refine ⟨hlt, by rw [List.length_append, h.len]; rfl, hR, fun k j hj => ?_, shut_set h.shut hl hr⟩
  by_cases e : j = i
  · subst e
    have := chkSt_inj hst hj hk
    subst this
    have hb : j < listed.size := by rw [hl]; exact chkSt_lt hst hk
    simp [hb]
  · rw [getD_set_ne false (Ne.symm e), h.done k j hj, decide_eq_decide]
    have hne : k ≠ m := fun e' => by subst e'; rw [hk] at hj; injection hj with hj; exact e hj.symm
    omega
theorem st_go (hc : chkAny ops a0.tmps.size = true) (hst : chkSt ops st = true) (hG : ∀ hs d v w w', Step w w' → G hs d v w → G hs d v w') (hG2 : ∀ hs x d v w, G hs d v w → G (hs ++ [x]) d v w) (hs : StepsAt P G ops a0 st R Step 0 ops.toList)
    (hQ : ∀ hs a w, hs.length = st.length → R hs w → (∀ s, Looks (G hs) ops a0 a w s) → a.defers = a0.defers → a.tmps.size = a0.tmps.size → Q .normal a w) :
    ∀ (fuel : Nat) (listed : Array Bool) (a : Act) (w : World) (hs : List Value) (m : Nat), listed.toList.count false ≤ fuel → InvS ops st R listed hs m w → InvA (G hs) ops a0 a listed w → wpAny P .any ops Q fuel listed a w := by
  intro fuel
  have hend : ∀ (listed : Array Bool) (a : Act) (w : World) (hs : List Value) (m : Nat), InvS ops st R listed hs m w → InvA (G hs) ops a0 a listed w → Region.ready .any ops listed = [] → Q .normal a w := by
    intro listed a w hs m hT hI hr
    have hall := all_listed hc hI.lsize hr
    have hm : m = st.length := by
      rcases Nat.lt_or_ge m st.length with hl | hl
      · have hk : st[m]? = some st[m] := List.getElem?_eq_getElem hl
        have h1 := hT.done m _ hk
        rw [hall _ (chkSt_lt hst hk)] at h1
        have := of_decide_eq_true h1.symm
        omega
      · have := hT.le; omega
    subst hm
    refine hQ hs a w hT.len hT.state (fun s => ?_) hI.defers hI.size
    unfold Looks
    split
    · rename_i hm
      obtain ⟨oj, hoj, hd⟩ := List.mem_filterMap.1 hm
      obtain ⟨j, hj⟩ := List.getElem?_of_mem hoj
      rw [Array.getElem?_toList] at hj
      exact hI.done j oj s hj hd (hall j (Array.getElem?_eq_some_iff.1 hj).1)
    · rename_i hm
      refine hI.rest s fun j oj hj hd => absurd (List.mem_filterMap.2 ⟨oj, ?_, hd⟩) hm
      exact List.mem_of_getElem? (by rw [Array.getElem?_toList]; exact hj)
  induction fuel with
  | zero =>
    intro listed a w hs' m hf hT hI
    have hr : Region.ready .any ops listed = [] := by
      apply List.eq_nil_iff_forall_not_mem.2
      intro i hi
      obtain ⟨hfalse, o, ho, _⟩ := mem_ready.1 hi
      have hlt : i < listed.size := by rw [hI.lsize]; exact (Array.getElem?_eq_some_iff.1 ho).1
      simp [hlt] at hfalse
      have : false ∈ listed.toList := by rw [← hfalse]; exact Array.getElem_mem_toList hlt
      have := List.count_pos_iff.2 this
      omega
    exact ⟨hr, hend _ _ _ _ _ hT hI hr⟩
  | succ fuel ih =>
    intro listed a w hs' m hf hT hI
    refine ⟨hend _ _ _ _ _ hT hI, fun i hi => ?_⟩
    obtain ⟨hfalse, o, ho, _⟩ := mem_ready.1 hi
    have hlt : i < listed.size := by rw [hI.lsize]; exact (Array.getElem?_eq_some_iff.1 ho).1
    have hcnt : (listed.setIfInBounds i true).toList.count false ≤ fuel := by
      have h1 : listed.toList[i]? = some false := by
        simp [hlt] at hfalse
        rw [Array.getElem?_toList, Array.getElem?_eq_getElem hlt, hfalse]
      have := count_set h1
      rw [Array.toList_setIfInBounds]
      omega
    have hst1 := hs.at (j := i) (o := o) (by rw [Array.getElem?_toList]; exact ho)
    rw [Nat.zero_add] at hst1
    unfold wpOp
    simp only [ho]
    unfold StepAt at hst1
    cases hp : posOf st i with
    | none =>
      rw [hp] at hst1
      have hst2 := hst1 hs' (by rw [hT.len]; exact hT.le) (fun k j n hk hedge => by
        rw [hT.len]
        have h1 := hT.done k j hk
        rcases Nat.lt_or_ge k m with hl | hl
        · exfalso
          have h2 := waits_listed hT.shut n j i hedge (by rw [h1]; exact decide_eq_true hl)
          have h3 : listed.getD i true = false := by simpa using hfalse
          simp only [Array.getD_eq_getD_getElem?] at h2 h3
          cases hx : listed[i]? with
          | none => rw [hx] at h2; simp at h2
          | some b => rw [hx] at h2 h3; simp at h2 h3; rw [h2] at h3; cases h3
        · exact hl) a w hT.state (hI.looks hc ho hi)
      split
      · rename_i hw
        refine .inl ?_
        exact Brings.upon (hst2.1 hw) fun v w' hv => ih _ _ _ hs' m hcnt (hT.other hp hI.lsize hi hv.1) (hI.stepG hc (fun d v => hG hs' d v _ _ hv.2.1) ho hv.2.2)
      · rename_i hw
        have := hst2.2 (by simpa using hw)
        exact ih _ _ _ hs' m hcnt (hT.other hp hI.lsize hi this.1) (hI.stepG hc (fun d v h => h) ho this.2.2)
    | some k =>
      rw [hp] at hst1
      have hkm := hT.here hst hp hi
      subst hkm
      have hst2 := hst1 hs' hT.len a w hT.state (hI.looks hc ho hi)
      split
      · rename_i hw
        refine .inl ?_
        exact Brings.upon (hst2.1 hw) fun v w' hv => ih _ _ _ (hs' ++ [v]) (k + 1) hcnt (hT.next hst hI.lsize hi hp hv.1) (hI.stepG hc (fun d u h => hG2 _ _ _ _ _ (hG hs' d u _ _ hv.2.1 h)) ho hv.2.2)
      · rename_i hw
        have := hst2.2 (by simpa using hw)
        exact ih _ _ _ (hs' ++ [undef]) (k + 1) hcnt (hT.next hst hI.lsize hi hp this.1) (hI.stepG hc (fun d u h => hG2 _ _ _ _ _ h) ho this.2.2)
/-- THE LAW: dl = the slots that the region writes, st = the operations that turn the state, R = the state when so many of them have been. -/
theorem wp_region_st {id : Nat} (dl : List Tmp) (st : List Nat) (R : List Value → World → Prop) (Step : World → World → Prop) (hdl : ops.toList.filterMap (·.dst) = dl) (hm : P.follows .mixedOrders = true) (hc : chkAny ops a0.tmps.size = true) (hst : chkSt ops st = true) (hR : ∀ w, Turned (fun _ => False) w0 w → R [] w) (hG : ∀ hs d v w w', Step w w' → G hs d v w → G hs d v w') (hG2 : ∀ hs x d v w, G hs d v w → G (hs ++ [x]) d v w) (hs : StepsAt P G ops a0 st R Step 0 ops.toList)
    (hQ : ∀ (hs : List Value) (vs : Tmp → Value) w, hs.length = st.length → R hs w → (∀ s ∈ dl, G hs s (vs s) w) → Q .normal ⟨dl.foldl (fun t d => t.setIfInBounds d (vs d)) a0.tmps, a0.defers⟩ w) : (Code.region id ops true).wp P Q a0 w0 := by
  refine wp_region_any hm (st_go hc hst hG hG2 hs ?_ _ _ _ _ [] 0 ?_ ⟨Nat.zero_le _, rfl, hR _ ((Turned.refl _ w0).drew), fun k i hi => ?_, fun j o ho hj => ?_⟩ ?_)
  · intro hs a w hlen hR hL hd hsz
    have := hQ hs (fun d => a.tmps.getD d undef) w hlen hR (fun s hs => by
      have := hL s
      unfold Looks at this
      rw [hdl, if_pos hs] at this
      exact this)
    have e : a = ⟨dl.foldl (fun t d => t.setIfInBounds d (a.tmps.getD d undef)) a0.tmps, a0.defers⟩ := by
      cases a with | mk tmps defers =>
      simp only at hd hsz this ⊢
      subst hd
      congr 1
      apply Array.ext
      · rw [fold_size]; exact hsz
      · intro i h1 h2
        have h3 : i < a0.tmps.size := by rw [← hsz]; exact h1
        have hf := fold_getD (fun d => tmps.getD d undef) dl a0.tmps i h3
        have hl := hL i
        unfold Looks at hl
        rw [hdl] at hl
        have e1 := getD_lt tmps i h1
        have e2 := getD_lt _ i h2
        rw [← e1, ← e2, hf]
        by_cases hm : i ∈ dl
        · rw [if_pos hm]
        · rw [if_neg hm] at hl ⊢
          exact hl
    rw [e]
    exact this
  · rw [Array.toList_replicate, List.count_replicate_self]
    exact Nat.le_refl _
  · have hlt := chkSt_lt hst hi
    simp [hlt]
  · have hlt := (Array.getElem?_eq_some_iff.1 ho).1
    simp [hlt] at hj
  · refine ⟨rfl, rfl, by simp, fun j oj d hj hd hl => ?_, fun d _ => rfl⟩
    have hlt := (Array.getElem?_eq_some_iff.1 hj).1
    simp [hlt] at hl
/-- What an obligation asks, as it is typed: nothing guards it. -/
theorem stepG_free {G : Tmp → Value → World → Prop} {Pre : World → Prop} {Post : Value → World → World → Prop} {o : Oper} (ins outs : List Tmp) (hck : chkIns ops o ins outs = true) (hg : o.guard = none)
    (h : ∀ (a : Act) (w : World), Pre w → (∀ s ∈ ins, G s (a.tmps.getD s undef) w) → (∀ s ∈ outs, a.tmps.getD s undef = a0.tmps.getD s undef) → Brings P (fun v w' => Post v w w') ((execOp a.eval o).run P w)) : StepG P G ops a0 Pre Post o := by
  intro a w hT hl
  obtain ⟨h1, h2⟩ := chkIns_ins hck hl
  refine ⟨fun _ => h a w hT h1 h2, fun hw => ?_⟩
  unfold Region.wanted at hw
  rw [hg] at hw
  simp at hw
/-- A guarded one. -/
theorem stepG_guard {G : Tmp → Value → World → Prop} {Pre : World → Prop} {Post : Value → World → World → Prop} {o : Oper} (ins outs : List Tmp) (hck : chkIns ops o ins outs = true) (g : Nat) (want : Bool) (s : Tmp) (hg : o.guard = some (g, want)) (hs : ((ops[g]?).bind (·.dst)) = some s) (hsin : s ∈ ins) (c b : Bool)
    (hb : ∀ v w, G s v w → v = bif c then .bool b else undef)
    (hT : (c && (b == want)) = true → ∀ (a : Act) (w : World), Pre w → (∀ s ∈ ins, G s (a.tmps.getD s undef) w) → (∀ s ∈ outs, a.tmps.getD s undef = a0.tmps.getD s undef) → Brings P (fun v w' => Post v w w') ((execOp a.eval o).run P w))
    (hF : (c && (b == want)) = false → ∀ w, Pre w → Post undef w w) : StepG P G ops a0 Pre Post o := by
  intro a w hTw hl
  obtain ⟨h1, h2⟩ := chkIns_ins hck hl
  have hv := hb _ _ (h1 s hsin)
  have hy : Region.wanted o (yielded ops a.tmps) = (c && (b == want)) := by
    unfold Region.wanted
    rw [hg]
    simp only
    unfold yielded
    rw [hs]
    simp only [Option.bind_some]
    rw [Array.getD_eq_getD_getElem?] at hv
    cases hx : a.tmps[s]? with
    | none =>
      rw [hx] at hv
      cases c with
      | true => simp [undef] at hv
      | false => simp
    | some v =>
      rw [hx] at hv
      simp only [Option.getD_some] at hv
      subst hv
      cases c with
      | true => cases b <;> cases want <;> rfl
      | false => cases want <;> rfl
  rw [hy]
  exact ⟨fun h => hT h a w hTw h1 h2, fun h => hF h w hTw⟩
end
end Go.Proofs.Ytoihjobdfjajfaa

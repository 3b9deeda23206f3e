/- The laws of Any3 and Any4, where an operation that turns the state waits for the one ahead of it be it through others. -/
import Derived.Test.YtoihjobdfjajfaaAny4
namespace Go.Proofs.Ytoihjobdfjajfaa
open Go
/-- What an operation waits for, as bits. -/
def edgeMask (ops : Array Oper) (i : Nat) : Nat := match ops[i]? with
  | none => 0
  | some o => o.after.toList.foldl (fun m e => if Region.binds .any e then m ||| 1 <<< e.on else m) 0
/-- All that it waits for, be it through others, as bits; and itself. -/
def reachMask (ops : Array Oper) (j : Nat) : Nat := (List.range (j + 1)).reverse.foldl (fun m i => if m.testBit i then m ||| edgeMask ops i else m) (1 <<< j)
theorem bit_one (k i : Nat) : (1 <<< k).testBit i = true ↔ k = i := by
  rw [Nat.one_shiftLeft, Nat.testBit_two_pow, decide_eq_true_eq]
theorem edgeMask_bit {ops : Array Oper} {i k : Nat} (h : (edgeMask ops i).testBit k = true) : ∃ o, ops[i]? = some o ∧ ∃ e ∈ o.after, Region.binds .any e = true ∧ e.on = k := by
  unfold edgeMask at h
  cases ho : ops[i]? with
  | none => rw [ho] at h; simp at h
  | some o =>
    rw [ho] at h
    simp only at h
    refine ⟨o, rfl, ?_⟩
    have key : ∀ (l : List Edge) (m : Nat), (l.foldl (fun m e => if Region.binds .any e then m ||| 1 <<< e.on else m) m).testBit k = true → m.testBit k = true ∨ ∃ e ∈ l, Region.binds .any e = true ∧ e.on = k := by
      intro l
      induction l with
      | nil => intro m h; exact .inl h
      | cons x l ih =>
        intro m h
        rw [List.foldl_cons] at h
        rcases ih _ h with h | ⟨e, he, hb⟩
        · split at h
          · rename_i hb
            rw [Nat.testBit_or, Bool.or_eq_true] at h
            rcases h with h | h
            · exact .inl h
            · exact .inr ⟨x, List.mem_cons_self .., hb, (bit_one _ _).1 h⟩
          · exact .inl h
        · exact .inr ⟨e, List.mem_cons_of_mem _ he, hb⟩
    rcases key _ _ h with h | ⟨e, he, hb⟩
    · simp at h
    · exact ⟨e, by simpa using he, hb⟩
theorem waits_edge {ops : Array Oper} {i k : Nat} (he : ∃ o, ops[i]? = some o ∧ ∃ e ∈ o.after, Region.binds .any e = true ∧ e.on = k) : ∀ (n j : Nat), waits ops n j i = true → waits ops (n + 1) j k = true := by
  intro n
  induction n with
  | zero => intro j h; cases h
  | succ n ih =>
    intro j h
    unfold waits at h ⊢
    cases ho : ops[j]? with
    | none => rw [ho] at h; cases h
    | some o =>
      rw [ho] at h
      simp only at h ⊢
      obtain ⟨e, hm, hb⟩ := (Array.any_eq_true').1 h
      simp only [Bool.and_eq_true, Bool.or_eq_true, beq_iff_eq] at hb
      refine (Array.any_eq_true').2 ⟨e, hm, ?_⟩
      simp only [Bool.and_eq_true, Bool.or_eq_true, beq_iff_eq]
      refine ⟨hb.1, .inr ?_⟩
      rcases hb.2 with hq | hq
      · subst hq
        obtain ⟨o', ho', e', he', hb', hon⟩ := he
        unfold waits
        rw [ho']
        refine (Array.any_eq_true').2 ⟨e', he', ?_⟩
        simp only [Bool.and_eq_true, Bool.or_eq_true, beq_iff_eq]
        exact ⟨hb', .inl hon⟩
      · exact ih _ hq
theorem waits_one {ops : Array Oper} {i k : Nat} (he : ∃ o, ops[i]? = some o ∧ ∃ e ∈ o.after, Region.binds .any e = true ∧ e.on = k) : waits ops 1 i k = true := by
  obtain ⟨o', ho', e', he', hb', hon⟩ := he
  unfold waits
  rw [ho']
  refine (Array.any_eq_true').2 ⟨e', he', ?_⟩
  simp only [Bool.and_eq_true, Bool.or_eq_true, beq_iff_eq]
  exact ⟨hb', .inl hon⟩
theorem reachMask_bit {ops : Array Oper} {j i : Nat} (h : (reachMask ops j).testBit i = true) : i = j ∨ ∃ n, waits ops n j i = true := by
  unfold reachMask at h
  have key : ∀ (l : List Nat) (m : Nat), (∀ i, m.testBit i = true → i = j ∨ ∃ n, waits ops n j i = true) → ∀ i, (l.foldl (fun m i => if m.testBit i then m ||| edgeMask ops i else m) m).testBit i = true → i = j ∨ ∃ n, waits ops n j i = true := by
    intro l
    induction l with
    | nil => intro m hm i h; exact hm i h
    | cons x l ih =>
      intro m hm i h
      rw [List.foldl_cons] at h
      refine ih _ ?_ i h
      intro k hk
      split at hk
      · rename_i hx
        rw [Nat.testBit_or, Bool.or_eq_true] at hk
        rcases hk with hk | hk
        · exact hm k hk
        · have he := edgeMask_bit hk
          rcases hm x hx with rfl | ⟨n, hn⟩
          · exact .inr ⟨1, waits_one he⟩
          · exact .inr ⟨n + 1, waits_edge he n j hn⟩
      · exact hm k hk
  refine key _ _ (fun i h => ?_) i h
  exact .inl ((bit_one _ _).1 h).symm
def chkStW (ops : Array Oper) (st : List Nat) : Bool :=
  st.all (fun i => decide (i < ops.size)) && (List.range st.length).all fun k => match st[k]?, st[k + 1]? with
    | some i, some j => decide (i < j) && (reachMask ops j).testBit i
    | _, _ => true
theorem chkSt_ltW {ops : Array Oper} {st : List Nat} (h : chkStW ops st = true) {k i : Nat} (hi : st[k]? = some i) : i < ops.size := by
  simp only [chkStW, Bool.and_eq_true, List.all_eq_true] at h
  simpa using h.1 i (List.mem_of_getElem? hi)
theorem chkSt_nextW {ops : Array Oper} {st : List Nat} (h : chkStW ops st = true) {k i j : Nat} (hi : st[k]? = some i) (hj : st[k + 1]? = some j) : i < j ∧ ∃ n, waits ops n j i = true := by
  simp only [chkStW, Bool.and_eq_true, List.all_eq_true] at h
  have := h.2 k (List.mem_range.2 (List.getElem?_eq_some_iff.1 hi).1)
  rw [hi, hj] at this
  simp only [Bool.and_eq_true, decide_eq_true_eq] at this
  refine ⟨this.1, ?_⟩
  rcases reachMask_bit this.2 with e | e
  · omega
  · exact e
theorem chkSt_monoW {ops : Array Oper} {st : List Nat} (h : chkStW ops st = true) (d : Nat) : ∀ {k i j : Nat}, st[k]? = some i → st[k + d + 1]? = some j → i < j := by
  induction d with
  | zero => intro k i j hi hj; exact (chkSt_nextW h hi hj).1
  | succ d ih =>
    intro k i j hi hj
    have hlt : k + d + 1 < st.length := by have := (List.getElem?_eq_some_iff.1 hj).1; omega
    have hm : st[k + d + 1]? = some st[k + d + 1] := List.getElem?_eq_getElem hlt
    have h1 := ih hi hm
    have h2 := (chkSt_nextW h hm (by rw [show k + d + 1 + 1 = k + (d + 1) + 1 from by omega]; exact hj)).1
    omega
theorem chkSt_injW {ops : Array Oper} {st : List Nat} (h : chkStW ops st = true) {k k' i : Nat} (hi : st[k]? = some i) (hj : st[k']? = some i) : k = k' := by
  rcases Nat.lt_trichotomy k k' with hl | hl | hl
  · have := chkSt_monoW h (k' - k - 1) hi (by rw [show k + (k' - k - 1) + 1 = k' from by omega]; exact hj)
    omega
  · exact hl
  · have := chkSt_monoW h (k - k' - 1) hj (by rw [show k' + (k - k' - 1) + 1 = k from by omega]; exact hi)
    omega
section
variable {P : Program} {G : List Value → Tmp → Value → World → Prop} {ops : Array Oper} {a0 : Act} {w0 : World} {Q : Exit → Act → World → Prop} {st : List Nat} {R : List Value → World → Prop} {Step : World → World → Prop}
theorem InvS.hereW {listed : Array Bool} {hs : List Value} {m : Nat} {w : World} (h : InvS ops st R listed hs m w) (hst : chkStW ops st = true) {i k : Nat} (hp : posOf st i = some k) (hr : i ∈ Region.ready .any ops listed) : k = m := by
  obtain ⟨hf, o, ho, hall⟩ := mem_ready.1 hr
  have hk := posOf_some hp
  have h1 := h.done k i hk
  have hmk : m ≤ k := by
    have : listed.getD i false = false := by
      have hf' := hf
      simp only [Array.getD_eq_getD_getElem?] at hf' ⊢
      cases h : listed[i]? with
      | none => rfl
      | some b => rw [h] at hf'; simpa using hf'
    rw [this] at h1
    have := of_decide_eq_false h1.symm
    omega
  by_cases e : k = m
  · exact e
  · exfalso
    have hk1 : st[k - 1]? = some (st[k - 1]'(by have := (List.getElem?_eq_some_iff.1 hk).1; omega)) := List.getElem?_eq_getElem _
    obtain ⟨_, hedge⟩ := chkSt_nextW hst hk1 (by rw [show k - 1 + 1 = k from by omega]; exact hk)
    have h2 := h.done _ _ hk1
    have h3 : listed.getD (st[k - 1]'(by have := (List.getElem?_eq_some_iff.1 hk).1; omega)) false = true := by
      obtain ⟨n, hedge⟩ := hedge
      cases n with
      | zero => cases hedge
      | succ n =>
      unfold waits at hedge
      rw [ho] at hedge
      obtain ⟨e', he', hb⟩ := (Array.any_eq_true').1 hedge
      simp only [Bool.and_eq_true, Bool.or_eq_true, beq_iff_eq] at hb
      have h4 := hall e' he' hb.1
      rcases hb.2 with hq | hq
      · rw [← hq]; exact h4
      · exact waits_listed h.shut n _ _ hq h4
    rw [h3] at h2
    have := of_decide_eq_true h2.symm
    omega
theorem InvS.nextW {listed : Array Bool} {hs : List Value} {m : Nat} {w w' : World} (h : InvS ops st R listed hs m w) (hst : chkStW ops st = true) (hl : listed.size = ops.size) {i : Nat} (hr : i ∈ Region.ready .any ops listed) (hp : posOf st i = some m) {v : Value} (hR : R (hs ++ [v]) w') : InvS ops st R (listed.setIfInBounds i true) (hs ++ [v]) (m + 1) w' := by
  have hk := posOf_some hp
  have hlt := (List.getElem?_eq_some_iff.1 hk).1
  refine ⟨hlt, by rw [List.length_append, h.len]; rfl, hR, fun k j hj => ?_, shut_set h.shut hl hr⟩
  by_cases e : j = i
  · subst e
    have := chkSt_injW hst hj hk
    subst this
    have hb : j < listed.size := by rw [hl]; exact chkSt_ltW hst hk
    simp [hb]
  · rw [getD_set_ne false (Ne.symm e), h.done k j hj, decide_eq_decide]
    have hne : k ≠ m := fun e' => by subst e'; rw [hk] at hj; injection hj with hj; exact e hj.symm
    omega
theorem st_goW (hc : chkAny ops a0.tmps.size = true) (hst : chkStW ops st = true) (hG : ∀ hs d v w w', Step w w' → G hs d v w → G hs d v w') (hG2 : ∀ hs x d v w, G hs d v w → G (hs ++ [x]) d v w) (hs : StepsAt P G ops a0 st R Step 0 ops.toList)
    (hQ : ∀ hs a w, hs.length = st.length → R hs w → (∀ s, Looks (G hs) ops a0 a w s) → a.defers = a0.defers → a.tmps.size = a0.tmps.size → Q .normal a w) :
    ∀ (fuel : Nat) (listed : Array Bool) (a : Act) (w : World) (hs : List Value) (m : Nat), listed.toList.count false ≤ fuel → InvS ops st R listed hs m w → InvA (G hs) ops a0 a listed w → wpAny P .any ops Q fuel listed a w := by
  intro fuel
  have hend : ∀ (listed : Array Bool) (a : Act) (w : World) (hs : List Value) (m : Nat), InvS ops st R listed hs m w → InvA (G hs) ops a0 a listed w → Region.ready .any ops listed = [] → Q .normal a w := by
    intro listed a w hs m hT hI hr
    have hall := all_listed hc hI.lsize hr
    have hm : m = st.length := by
      rcases Nat.lt_or_ge m st.length with hl | hl
      · have hk : st[m]? = some st[m] := List.getElem?_eq_getElem hl
        have h1 := hT.done m _ hk
        rw [hall _ (chkSt_ltW hst hk)] at h1
        have := of_decide_eq_true h1.symm
        omega
      · have := hT.le; omega
    subst hm
    refine hQ hs a w hT.len hT.state (fun s => ?_) hI.defers hI.size
    unfold Looks
    split
    · rename_i hm
      obtain ⟨oj, hoj, hd⟩ := List.mem_filterMap.1 hm
      obtain ⟨j, hj⟩ := List.getElem?_of_mem hoj
      rw [Array.getElem?_toList] at hj
      exact hI.done j oj s hj hd (hall j (Array.getElem?_eq_some_iff.1 hj).1)
    · rename_i hm
      refine hI.rest s fun j oj hj hd => absurd (List.mem_filterMap.2 ⟨oj, ?_, hd⟩) hm
      exact List.mem_of_getElem? (by rw [Array.getElem?_toList]; exact hj)
  induction fuel with
  | zero =>
    intro listed a w hs' m hf hT hI
    have hr : Region.ready .any ops listed = [] := by
      apply List.eq_nil_iff_forall_not_mem.2
      intro i hi
      obtain ⟨hfalse, o, ho, _⟩ := mem_ready.1 hi
      have hlt : i < listed.size := by rw [hI.lsize]; exact (Array.getElem?_eq_some_iff.1 ho).1
      simp [hlt] at hfalse
      have : false ∈ listed.toList := by rw [← hfalse]; exact Array.getElem_mem_toList hlt
      have := List.count_pos_iff.2 this
      omega
    exact ⟨hr, hend _ _ _ _ _ hT hI hr⟩
  | succ fuel ih =>
    intro listed a w hs' m hf hT hI
    refine ⟨hend _ _ _ _ _ hT hI, fun i hi => ?_⟩
    obtain ⟨hfalse, o, ho, _⟩ := mem_ready.1 hi
    have hlt : i < listed.size := by rw [hI.lsize]; exact (Array.getElem?_eq_some_iff.1 ho).1
    have hcnt : (listed.setIfInBounds i true).toList.count false ≤ fuel := by
      have h1 : listed.toList[i]? = some false := by
        simp [hlt] at hfalse
        rw [Array.getElem?_toList, Array.getElem?_eq_getElem hlt, hfalse]
      have := count_set h1
      rw [Array.toList_setIfInBounds]
      omega
    have hst1 := hs.at (j := i) (o := o) (by rw [Array.getElem?_toList]; exact ho)
    rw [Nat.zero_add] at hst1
    unfold wpOp
    simp only [ho]
    unfold StepAt at hst1
    cases hp : posOf st i with
    | none =>
      rw [hp] at hst1
      have hst2 := hst1 hs' (by rw [hT.len]; exact hT.le) (fun k j n hk hedge => by
        rw [hT.len]
        have h1 := hT.done k j hk
        rcases Nat.lt_or_ge k m with hl | hl
        · exfalso
          have h2 := waits_listed hT.shut n j i hedge (by rw [h1]; exact decide_eq_true hl)
          have h3 : listed.getD i true = false := by simpa using hfalse
          simp only [Array.getD_eq_getD_getElem?] at h2 h3
          cases hx : listed[i]? with
          | none => rw [hx] at h2; simp at h2
          | some b => rw [hx] at h2 h3; simp at h2 h3; rw [h2] at h3; cases h3
        · exact hl) a w hT.state (hI.looks hc ho hi)
      split
      · rename_i hw
        refine .inl ?_
        exact Brings.upon (hst2.1 hw) fun v w' hv => ih _ _ _ hs' m hcnt (hT.other hp hI.lsize hi hv.1) (hI.stepG hc (fun d v => hG hs' d v _ _ hv.2.1) ho hv.2.2)
      · rename_i hw
        have := hst2.2 (by simpa using hw)
        exact ih _ _ _ hs' m hcnt (hT.other hp hI.lsize hi this.1) (hI.stepG hc (fun d v h => h) ho this.2.2)
    | some k =>
      rw [hp] at hst1
      have hkm := InvS.hereW hT hst hp hi
      subst hkm
      have hst2 := hst1 hs' hT.len a w hT.state (hI.looks hc ho hi)
      split
      · rename_i hw
        refine .inl ?_
        exact Brings.upon (hst2.1 hw) fun v w' hv => ih _ _ _ (hs' ++ [v]) (k + 1) hcnt (InvS.nextW hT hst hI.lsize hi hp hv.1) (hI.stepG hc (fun d u h => hG2 _ _ _ _ _ (hG hs' d u _ _ hv.2.1 h)) ho hv.2.2)
      · rename_i hw
        have := hst2.2 (by simpa using hw)
        exact ih _ _ _ (hs' ++ [undef]) (k + 1) hcnt (InvS.nextW hT hst hI.lsize hi hp this.1) (hI.stepG hc (fun d u h => hG2 _ _ _ _ _ h) ho this.2.2)
/-- THE LAW: dl = the slots that the region writes, st = the operations that turn the state, R = the state when so many of them have been. -/
theorem wp_region_stW {id : Nat} (dl : List Tmp) (st : List Nat) (R : List Value → World → Prop) (Step : World → World → Prop) (hdl : ops.toList.filterMap (·.dst) = dl) (hm : P.follows .mixedOrders = true) (hc : chkAny ops a0.tmps.size = true) (hst : chkStW ops st = true) (hR : ∀ w, Turned (fun _ => False) w0 w → R [] w) (hG : ∀ hs d v w w', Step w w' → G hs d v w → G hs d v w') (hG2 : ∀ hs x d v w, G hs d v w → G (hs ++ [x]) d v w) (hs : StepsAt P G ops a0 st R Step 0 ops.toList)
    (hQ : ∀ (hs : List Value) (vs : Tmp → Value) w, hs.length = st.length → R hs w → (∀ s ∈ dl, G hs s (vs s) w) → Q .normal ⟨dl.foldl (fun t d => t.setIfInBounds d (vs d)) a0.tmps, a0.defers⟩ w) : (Code.region id ops true).wp P Q a0 w0 := by
  refine wp_region_any hm (st_goW hc hst hG hG2 hs ?_ _ _ _ _ [] 0 ?_ ⟨Nat.zero_le _, rfl, hR _ ((Turned.refl _ w0).drew), fun k i hi => ?_, fun j o ho hj => ?_⟩ ?_)
  · intro hs a w hlen hR hL hd hsz
    have := hQ hs (fun d => a.tmps.getD d undef) w hlen hR (fun s hs => by
      have := hL s
      unfold Looks at this
      rw [hdl, if_pos hs] at this
      exact this)
    have e : a = ⟨dl.foldl (fun t d => t.setIfInBounds d (a.tmps.getD d undef)) a0.tmps, a0.defers⟩ := by
      cases a with | mk tmps defers =>
      simp only at hd hsz this ⊢
      subst hd
      congr 1
      apply Array.ext
      · rw [fold_size]; exact hsz
      · intro i h1 h2
        have h3 : i < a0.tmps.size := by rw [← hsz]; exact h1
        have hf := fold_getD (fun d => tmps.getD d undef) dl a0.tmps i h3
        have hl := hL i
        unfold Looks at hl
        rw [hdl] at hl
        have e1 := getD_lt tmps i h1
        have e2 := getD_lt _ i h2
        rw [← e1, ← e2, hf]
        by_cases hm : i ∈ dl
        · rw [if_pos hm]
        · rw [if_neg hm] at hl ⊢
          exact hl
    rw [e]
    exact this
  · rw [Array.toList_replicate, List.count_replicate_self]
    exact Nat.le_refl _
  · have hlt := chkSt_ltW hst hi
    simp [hlt]
  · have hlt := (Array.getElem?_eq_some_iff.1 ho).1
    simp [hlt] at hj
  · refine ⟨rfl, rfl, by simp, fun j oj d hj hd hl => ?_, fun d _ => rfl⟩
    have hlt := (Array.getElem?_eq_some_iff.1 hj).1
    simp [hlt] at hl
end
def chkBdW (ops : Array Oper) (st bd : List Nat) : Bool :=
  (List.range ops.size).all fun i => bd.getD i st.length == st.length || match st[bd.getD i st.length]? with
    | none => false
    | some j => !(j == i) && (reachMask ops j).testBit i
theorem chkBd_atW {ops : Array Oper} {st bd : List Nat} (h : chkBdW ops st bd = true) {i : Nat} {o : Oper} (ho : ops[i]? = some o) {hs : List Value} (h1 : hs.length ≤ st.length)
    (h2 : ∀ k j n, st[k]? = some j → waits ops n j i = true → hs.length ≤ k) : hs.length ≤ bd.getD i st.length := by
  have := List.all_eq_true.1 h i (List.mem_range.2 (Array.getElem?_eq_some_iff.1 ho).1)
  rw [Bool.or_eq_true] at this
  rcases this with this | this
  · rw [beq_iff_eq] at this; omega
  · cases hj : st[bd.getD i st.length]? with
    | none => rw [hj] at this; cases this
    | some j =>
      rw [hj] at this
      simp only [Bool.and_eq_true, Bool.not_eq_true', beq_eq_false_iff_ne] at this
      rcases reachMask_bit this.2 with e | ⟨n, hn⟩
      · exact absurd e.symm this.1
      · exact h2 _ j n hj hn
section
variable {P : Program} {hist : List Tmp} {GL : Tmp → Value → Prop} {ops : Array Oper} {a0 : Act} {w0 : World} {Q : Exit → Act → World → Prop} {st bd : List Nat} {R : List Value → World → Prop}
theorem StepsH.upW (hh : chkHist ops st hist = true) (hb0 : chkBdW ops st bd = true) (hRt : ∀ hs w w', R hs w → Turned (fun _ => False) w w' → R hs w') : ∀ (l : List Oper) (b : Nat), (∀ j o, l[j]? = some o → ops[b + j]? = some o) → StepsH P hist GL ops a0 st bd R b l → StepsAt P (fun hs d v _ => GH hist GL hs d v) ops a0 st R (fun _ _ => True) b l := by
  intro l
  induction l with
  | nil => intro b _ _; trivial
  | cons o l ih =>
    intro b hb hs
    refine ⟨?_, ih (b + 1) (fun j x hx => by have := hb (j + 1) x (by simpa using hx); rwa [show b + (j + 1) = b + 1 + j from by omega] at this) hs.2⟩
    have ho : ops[b]? = some o := hb 0 o (by simp)
    have h1 := hs.1
    unfold StepH at h1
    unfold StepAt
    cases hp : posOf st b with
    | none =>
      rw [hp] at h1
      intro hl hl1 hl2 a w hR hL
      obtain ⟨k1, k2⟩ := h1 hl (chkBd_atW hb0 ho hl1 hl2) a w hR hL
      have hg : ∀ v, GDL GL o.dst v → ∀ w', GD (fun d v _ => GH hist GL hl d v) o.dst v w' := by
        intro v hv w'
        cases hd : o.dst with
        | none => trivial
        | some d =>
          rw [hd] at hv
          show GH hist GL hl d v
          unfold GH
          rw [chkHist_at hh ho hd, hp]
          exact hv
      refine ⟨fun hw => (k1 hw).mono fun v w' hv => ⟨hRt _ _ _ hR hv.1, trivial, hg v hv.2 _⟩, fun hw => ⟨hR, trivial, hg _ (k2 hw).2 _⟩⟩
    | some k =>
      rw [hp] at h1
      intro hl hk a w hR hL
      obtain ⟨k1, k2⟩ := h1 hl hk a w hR hL
      have hg : ∀ v w', GD (fun d v _ => GH hist GL (hl ++ [v]) d v) o.dst v w' := by
        intro v w'
        cases hd : o.dst with
        | none => trivial
        | some d =>
          show GH hist GL (hl ++ [v]) d v
          unfold GH
          rw [chkHist_at hh ho hd, hp]
          simp only
          rw [← hk]
          simp
      refine ⟨fun hw => (k1 hw).mono fun v w' hv => ⟨hv, trivial, ?_⟩, fun hw => ⟨k2 hw, trivial, ?_⟩⟩
      · have := hg v w'
        cases hd : o.dst with
        | none => trivial
        | some d => rw [hd] at this; exact this
      · have := hg undef w
        cases hd : o.dst with
        | none => trivial
        | some d => rw [hd] at this; exact this
/-- THE LAW: dl = the slots that the region writes; st = the operations that turn the state, hist = their slots; R = the state when they have brought so much. -/
theorem wp_region_hsW {id : Nat} (dl : List Tmp) (st bd : List Nat) (hist : List Tmp) (GL : Tmp → Value → Prop) (R : List Value → World → Prop) (hdl : ops.toList.filterMap (·.dst) = dl) (hm : P.follows .mixedOrders = true) (hc : chkAny ops a0.tmps.size = true) (hst : chkStW ops st = true) (hh : chkHist ops st hist = true) (hb : chkBdW ops st bd = true)
    (hR0 : ∀ w, Turned (fun _ => False) w0 w → R [] w) (hRt : ∀ hs w w', R hs w → Turned (fun _ => False) w w' → R hs w') (hs : StepsH P hist GL ops a0 st bd R 0 ops.toList)
    (hQ : ∀ (hs : List Value) (vs : Tmp → Value) w, hs.length = st.length → R hs w → (∀ s ∈ dl, GH hist GL hs s (vs s)) → Q .normal ⟨dl.foldl (fun t d => t.setIfInBounds d (vs d)) a0.tmps, a0.defers⟩ w) : (Code.region id ops true).wp P Q a0 w0 := by
  refine wp_region_stW (G := fun hs d v _ => GH hist GL hs d v) dl st R (fun _ _ => True) hdl hm hc hst hR0 (fun _ _ _ _ _ _ h => h) (fun hl x d v _ h => ?_) (StepsH.upW hh hb hRt _ 0 (fun j o ho => by rw [Nat.zero_add]; rwa [Array.getElem?_toList] at ho) hs) hQ
  show GH hist GL (hl ++ [x]) d v
  have h' : GH hist GL hl d v := h
  unfold GH at h' ⊢
  split at h'
  · rename_i k hk
    exact (List.getElem?_append_left (List.getElem?_eq_some_iff.1 h').1).trans h'
  · exact h'
end
end Go.Proofs.Ytoihjobdfjajfaa

/- A region that draws its order, where each operation brings, in any world behind the start, a value of which something is known: ONE obligation an operation, in whatever order they come up. -/
import Derived.Test.YtoihjobdfjajfaaBase
namespace Go.Proofs.Ytoihjobdfjajfaa
open Go

/-- What a step brings: a value (and a world) with F; it does not panic. -/
def Brings (P : Program) (F : Value → World → Prop) : Result Next → Prop
  | .ok (.value v) w' => F v w'
  | .ok .skip w' => F undef w'
  | .ok (.enter f args) w' => Calls P f args w' fun e w'' => ∃ v, e = .returned v ∧ F v w''
  | .ok (.row row args) w' => Rows P row args w' fun v w'' => F v w''
  | _ => False
theorem Brings.upon {P : Program} {o : Oper} {a : Act} {K : Act → World → Prop} {Q : Exit → Act → World → Prop} {F : Value → World → Prop} {r : Result Next} (h : Brings P F r) (hK : ∀ v w, F v w → K (a.put o.dst v) w) : o.upon P a K Q r := by
  cases r with
  | ok n w' =>
    cases n <;> simp only [Brings, Oper.upon] at h ⊢ <;> first
      | exact hK _ _ h
      | exact Calls.mono h (fun e w'' he => by obtain ⟨v, rfl, hv⟩ := he; exact hK _ _ hv)
      | exact Rows.mono h (fun _ _ hv => hK _ _ hv)
      | exact h.elim
  | halt x w' => exact (by cases x <;> exact h.elim)

def GD (G : Tmp → Value → World → Prop) : Option Tmp → Value → World → Prop
  | none, _, _ => True
  | some d, v, w => G d v w
/-- What is known of a slot that an operation looks at. -/
def Looks (G : Tmp → Value → World → Prop) (ops : Array Oper) (a0 a : Act) (w : World) (s : Tmp) : Prop :=
  if s ∈ ops.toList.filterMap (·.dst) then G s (a.tmps.getD s undef) w else a.tmps.getD s undef = a0.tmps.getD s undef
def StepOk (P : Program) (G : Tmp → Value → World → Prop) (ops : Array Oper) (a0 : Act) (w0 : World) (o : Oper) : Prop :=
  ∀ a w, Turned (fun _ => False) w0 w → (∀ s ∈ o.looksAt ops, Looks G ops a0 a w s) →
    (Region.wanted o (yielded ops a.tmps) = true → Brings P (fun v w' => Turned (fun _ => False) w w' ∧ GD G o.dst v w') ((execOp a.eval o).run P w)) ∧
    (Region.wanted o (yielded ops a.tmps) = false → GD G o.dst undef w)
def StepsOk (P : Program) (G : Tmp → Value → World → Prop) (ops : Array Oper) (a0 : Act) (w0 : World) : List Oper → Prop
  | [] => True
  | o :: l => StepOk P G ops a0 w0 o ∧ StepsOk P G ops a0 w0 l
theorem StepsOk.at {P : Program} {G : Tmp → Value → World → Prop} {ops : Array Oper} {a0 : Act} {w0 : World} {l : List Oper} (h : StepsOk P G ops a0 w0 l) {o : Oper} (ho : o ∈ l) : StepOk P G ops a0 w0 o := by
  induction l with
  | nil => cases ho
  | cons x l ih =>
    rcases List.mem_cons.1 ho with rfl | ho
    · exact h.1
    · exact ih h.2 ho
/-- The frame of the region, looked at by the kernel. -/
def chkPair (ops : Array Oper) (N i j : Nat) (oi oj : Oper) : Bool :=
  match oj.dst with
  | some d => decide (d < N) && ((!(oi.looksAt ops).contains d || oi.after.any fun e => Region.binds .any e && e.on == j) && (i == j || oi.dst != some d))
  | none => true
def chkOrd (i : Nat) (oi : Oper) : Bool := oi.after.all fun e => !Region.binds .any e || decide (e.on < i)
def chkAny (ops : Array Oper) (N : Nat) : Bool :=
  (List.range ops.size).all fun i => ((ops[i]?).map fun oi => chkOrd i oi && (List.range ops.size).all fun j => ((ops[j]?).map fun oj => chkPair ops N i j oi oj).getD true).getD true
theorem chkAny_at {ops : Array Oper} {N : Nat} (h : chkAny ops N = true) {i : Nat} {oi : Oper} (hi : ops[i]? = some oi) :
    chkOrd i oi = true ∧ ∀ j oj, ops[j]? = some oj → chkPair ops N i j oi oj = true := by
  have hlt := (Array.getElem?_eq_some_iff.1 hi).1
  have := List.all_eq_true.1 h i (List.mem_range.2 hlt)
  rw [hi] at this
  simp only [Option.map_some, Option.getD_some, Bool.and_eq_true] at this
  refine ⟨this.1, fun j oj hj => ?_⟩
  have hlj := (Array.getElem?_eq_some_iff.1 hj).1
  have := List.all_eq_true.1 this.2 j (List.mem_range.2 hlj)
  rw [hj] at this
  simpa using this
theorem chkPair_spec {ops : Array Oper} {N i j : Nat} {oi oj : Oper} (h : chkPair ops N i j oi oj = true) {d : Tmp} (hd : oj.dst = some d) :
    d < N ∧ (d ∈ oi.looksAt ops → ∃ e ∈ oi.after, Region.binds .any e = true ∧ e.on = j) ∧ (i ≠ j → oi.dst ≠ some d) := by
  unfold chkPair at h
  rw [hd] at h
  simp only [Bool.and_eq_true, decide_eq_true_eq, Bool.or_eq_true, Bool.not_eq_true', beq_iff_eq, bne_iff_ne] at h
  obtain ⟨h1, h2, h3⟩ := h
  refine ⟨h1, fun hm => ?_, fun hij => ?_⟩
  · rcases h2 with h2 | h2
    · rw [← Bool.not_eq_true, List.contains_iff_mem] at h2
      exact absurd hm h2
    · obtain ⟨e, he, hb⟩ := (Array.any_eq_true' ).1 h2
      simp only [Bool.and_eq_true, beq_iff_eq] at hb
      exact ⟨e, he, hb⟩
  · rcases h3 with h3 | h3
    · exact absurd h3 hij
    · exact h3

structure InvA (G : Tmp → Value → World → Prop) (ops : Array Oper) (a0 a : Act) (listed : Array Bool) (w : World) : Prop where
  defers : a.defers = a0.defers
  size : a.tmps.size = a0.tmps.size
  lsize : listed.size = ops.size
  done : ∀ j oj d, ops[j]? = some oj → oj.dst = some d → listed.getD j false = true → G d (a.tmps.getD d undef) w
  rest : ∀ d, (∀ j oj, ops[j]? = some oj → oj.dst = some d → listed.getD j false = false) → a.tmps.getD d undef = a0.tmps.getD d undef
theorem getD_set (t : Array Value) (d s : Nat) (v : Value) (h : d < t.size) : (t.setIfInBounds d v).getD s undef = if s = d then v else t.getD s undef := by
  by_cases e : s = d
  · subst e; simp [h]
  · simp only [Array.getD_eq_getD_getElem?, Array.getElem?_setIfInBounds_ne (Ne.symm e), if_neg e]
theorem count_set {l : List Bool} {i : Nat} (h : l[i]? = some false) : (l.set i true).count false + 1 = l.count false := by
  induction l generalizing i with
  | nil => simp at h
  | cons x l ih =>
    cases i with
    | zero => simp at h; subst h; simp
    | succ i =>
      simp at h
      have := ih h
      simp only [List.set_cons_succ, List.count_cons]
      omega
section
variable {P : Program} {G : Tmp → Value → World → Prop} {ops : Array Oper} {a0 : Act} {w0 : World} {Q : Exit → Act → World → Prop}
theorem InvA.looks {a : Act} {listed : Array Bool} {w : World} (h : InvA G ops a0 a listed w) (hc : chkAny ops a0.tmps.size = true) {i : Nat} {oi : Oper} (hi : ops[i]? = some oi) (hr : i ∈ Region.ready .any ops listed) : ∀ s ∈ oi.looksAt ops, Looks G ops a0 a w s := by
  intro s hs
  obtain ⟨_, o', ho', hall⟩ := mem_ready.1 hr
  rw [hi] at ho'
  injection ho' with ho'
  subst ho'
  unfold Looks
  split
  · rename_i hm
    obtain ⟨oj, hoj, hd⟩ := List.mem_filterMap.1 hm
    obtain ⟨j, hj⟩ := List.getElem?_of_mem hoj
    rw [Array.getElem?_toList] at hj
    obtain ⟨e, he, hb, hon⟩ := (chkPair_spec ((chkAny_at hc hi).2 j oj hj) hd).2.1 hs
    exact h.done j oj s hj hd (hon ▸ hall e he hb)
  · rename_i hm
    refine h.rest s fun j oj hj hd => absurd (List.mem_filterMap.2 ⟨oj, ?_, hd⟩) hm
    exact List.mem_of_getElem? (by rw [Array.getElem?_toList]; exact hj)
theorem InvA.step {a : Act} {listed : Array Bool} {w w' : World} (h : InvA G ops a0 a listed w) (hc : chkAny ops a0.tmps.size = true) (hG : ∀ d v w w', Turned (fun _ => False) w w' → G d v w → G d v w') {i : Nat} {oi : Oper} (hi : ops[i]? = some oi) {v : Value} (hT : Turned (fun _ => False) w w') (hv : GD G oi.dst v w') : InvA G ops a0 (a.put oi.dst v) (listed.setIfInBounds i true) w' := by
  have hlt := (Array.getElem?_eq_some_iff.1 hi).1
  have hli : (listed.setIfInBounds i true).getD i false = true := by
    have : i < listed.size := by rw [h.lsize]; exact hlt
    simp [this]
  have hbk : ∀ j, j ≠ i → (listed.setIfInBounds i true).getD j false = listed.getD j false := fun j hj => getD_set_ne false (Ne.symm hj)
  cases hd : oi.dst with
  | none =>
    refine ⟨h.defers, h.size, by simpa using h.lsize, fun j oj d hj hdj hl => ?_, fun d hall => h.rest d fun j oj hj hdj => ?_⟩
    · by_cases e : j = i
      · subst e
        rw [hi] at hj
        injection hj with hj
        subst hj
        rw [hd] at hdj
        cases hdj
      · rw [hbk j e] at hl
        exact hG _ _ _ _ hT (h.done j oj d hj hdj hl)
    · have h2 := hall j oj hj hdj
      by_cases e : j = i
      · subst e; rw [hli] at h2; cases h2
      · rw [hbk j e] at h2; exact h2
  | some c =>
    have hcN := (chkPair_spec ((chkAny_at hc hi).2 i oi hi) hd).1
    rw [hd] at hv
    have hsz : c < a.tmps.size := by rw [h.size]; exact hcN
    refine ⟨h.defers, by simpa [Act.put] using h.size, by simpa using h.lsize, fun j oj d hj hdj hl => ?_, fun d hall => ?_⟩
    · show G d ((a.tmps.setIfInBounds c v).getD d undef) w'
      rw [getD_set _ _ _ _ hsz]
      by_cases e : j = i
      · subst e
        rw [hi] at hj
        injection hj with hj
        subst hj
        rw [hd] at hdj
        injection hdj with hdj
        subst hdj
        rw [if_pos rfl]
        exact hv
      · have hne := (chkPair_spec ((chkAny_at hc hi).2 j oj hj) hdj).2.2 (Ne.symm e)
        rw [hd] at hne
        have hne : d ≠ c := fun e' => hne (by rw [e'])
        rw [if_neg hne]
        rw [hbk j e] at hl
        exact hG _ _ _ _ hT (h.done j oj d hj hdj hl)
    · show (a.tmps.setIfInBounds c v).getD d undef = _
      rw [getD_set _ _ _ _ hsz]
      by_cases e : d = c
      · subst e
        have := hall i oi hi hd
        rw [hli] at this
        cases this
      · rw [if_neg e]
        refine h.rest d fun j oj hj hdj => ?_
        have h2 := hall j oj hj hdj
        by_cases e : j = i
        · subst e; rw [hli] at h2; cases h2
        · rw [hbk j e] at h2; exact h2
theorem all_listed (hc : chkAny ops a0.tmps.size = true) {listed : Array Bool} (hl : listed.size = ops.size) (hr : Region.ready .any ops listed = []) : ∀ i, i < ops.size → listed.getD i false = true := by
  intro i
  induction i using Nat.strongRecOn with
  | ind i ih =>
    intro hi
    cases hlb : listed.getD i false with
    | true => rfl
    | false =>
      exfalso
      have ho : ops[i]? = some ops[i] := Array.getElem?_eq_getElem hi
      have : i ∈ Region.ready .any ops listed := by
        refine mem_ready.2 ⟨?_, _, ho, fun e he hb => ?_⟩
        · have hs : i < listed.size := by rw [hl]; exact hi
          simp [hs] at hlb ⊢
          exact hlb
        · have := Array.all_eq_true_iff_forall_mem.1 (chkAny_at hc ho).1 e he
          rw [hb] at this
          simp at this
          exact ih e.on this (by omega)
      rw [hr] at this
      cases this
theorem any_go (hc : chkAny ops a0.tmps.size = true) (hG : ∀ d v w w', Turned (fun _ => False) w w' → G d v w → G d v w') (hs : StepsOk P G ops a0 w0 ops.toList)
    (hQ : ∀ a w, Turned (fun _ => False) w0 w → (∀ s, Looks G ops a0 a w s) → a.defers = a0.defers → a.tmps.size = a0.tmps.size → Q .normal a w) :
    ∀ (fuel : Nat) (listed : Array Bool) (a : Act) (w : World), listed.toList.count false ≤ fuel → Turned (fun _ => False) w0 w → InvA G ops a0 a listed w → wpAny P .any ops Q fuel listed a w := by
  intro fuel
  have hend : ∀ (listed : Array Bool) (a : Act) (w : World), Turned (fun _ => False) w0 w → InvA G ops a0 a listed w → Region.ready .any ops listed = [] → Q .normal a w := by
    intro listed a w hT hI hr
    have hall := all_listed hc hI.lsize hr
    refine hQ a w hT (fun s => ?_) hI.defers hI.size
    unfold Looks
    split
    · rename_i hm
      obtain ⟨oj, hoj, hd⟩ := List.mem_filterMap.1 hm
      obtain ⟨j, hj⟩ := List.getElem?_of_mem hoj
      rw [Array.getElem?_toList] at hj
      exact hI.done j oj s hj hd (hall j (Array.getElem?_eq_some_iff.1 hj).1)
    · rename_i hm
      refine hI.rest s fun j oj hj hd => absurd (List.mem_filterMap.2 ⟨oj, ?_, hd⟩) hm
      exact List.mem_of_getElem? (by rw [Array.getElem?_toList]; exact hj)
  induction fuel with
  | zero =>
    intro listed a w hf hT hI
    have hr : Region.ready .any ops listed = [] := by
      apply List.eq_nil_iff_forall_not_mem.2
      intro i hi
      obtain ⟨hfalse, o, ho, _⟩ := mem_ready.1 hi
      have hlt : i < listed.size := by rw [hI.lsize]; exact (Array.getElem?_eq_some_iff.1 ho).1
      simp [hlt] at hfalse
      have : false ∈ listed.toList := by rw [← hfalse]; exact Array.getElem_mem_toList hlt
      have := List.count_pos_iff.2 this
      omega
    exact ⟨hr, hend _ _ _ hT hI hr⟩
  | succ fuel ih =>
    intro listed a w hf hT hI
    refine ⟨hend _ _ _ hT hI, fun i hi => ?_⟩
    obtain ⟨hfalse, o, ho, _⟩ := mem_ready.1 hi
    have hlt : i < listed.size := by rw [hI.lsize]; exact (Array.getElem?_eq_some_iff.1 ho).1
    have hcnt : (listed.setIfInBounds i true).toList.count false ≤ fuel := by
      have h1 : listed.toList[i]? = some false := by
        simp [hlt] at hfalse
        rw [Array.getElem?_toList, Array.getElem?_eq_getElem hlt, hfalse]
      have := count_set h1
      rw [Array.toList_setIfInBounds]
      omega
    have hst := (hs.at (o := o) (List.mem_of_getElem? (i := i) (by rw [Array.getElem?_toList]; exact ho))) a w hT (hI.looks hc ho hi)
    unfold wpOp
    simp only [ho]
    split
    · rename_i hw
      refine .inl ?_
      exact Brings.upon (hst.1 hw) fun v w' hv => ih _ _ _ hcnt (hT.trans hv.1) (hI.step hc hG ho hv.1 hv.2)
    · rename_i hw
      exact ih _ _ _ hcnt hT (hI.step hc hG ho (Turned.refl _ w) (hst.2 (by simpa using hw)))
/-- THE LAW: a region that draws its order, one obligation an operation. -/
theorem wp_region_ssa {id : Nat} (hm : P.follows .mixedOrders = true) (hc : chkAny ops a0.tmps.size = true) (hG : ∀ d v w w', Turned (fun _ => False) w w' → G d v w → G d v w') (hs : StepsOk P G ops a0 w0 ops.toList)
    (hQ : ∀ a w, Turned (fun _ => False) w0 w → (∀ s, Looks G ops a0 a w s) → a.defers = a0.defers → a.tmps.size = a0.tmps.size → Q .normal a w) : (Code.region id ops true).wp P Q a0 w0 := by
  refine wp_region_any hm (any_go hc hG hs hQ _ _ _ _ ?_ ((Turned.refl _ w0).drew) ?_)
  · rw [Array.toList_replicate, List.count_replicate_self]
    exact Nat.le_refl _
  · refine ⟨rfl, rfl, by simp, fun j oj d hj hd hl => ?_, fun d _ => rfl⟩
    have hlt := (Array.getElem?_eq_some_iff.1 hj).1
    simp [hlt] at hl
end
end Go.Proofs.Ytoihjobdfjajfaa

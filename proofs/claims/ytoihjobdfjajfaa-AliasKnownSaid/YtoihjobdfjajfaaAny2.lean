/- The obligations of Any.lean, as they are typed. -/
import Derived.Test.YtoihjobdfjajfaaAny
namespace Go.Proofs.Ytoihjobdfjajfaa
open Go
def chkIns (ops : Array Oper) (o : Oper) (ins outs : List Tmp) : Bool :=
  (ins.all fun s => (o.looksAt ops).contains s && (ops.toList.filterMap (·.dst)).contains s) && (outs.all fun s => (o.looksAt ops).contains s && !(ops.toList.filterMap (·.dst)).contains s)
section
variable {P : Program} {G : Tmp → Value → World → Prop} {ops : Array Oper} {a0 : Act} {w0 : World} {o : Oper}
theorem chkIns_ins {ins outs : List Tmp} (h : chkIns ops o ins outs = true) {a : Act} {w : World} (hl : ∀ s ∈ o.looksAt ops, Looks G ops a0 a w s) :
    (∀ s ∈ ins, G s (a.tmps.getD s undef) w) ∧ (∀ s ∈ outs, a.tmps.getD s undef = a0.tmps.getD s undef) := by
  simp only [chkIns, Bool.and_eq_true, List.all_eq_true, List.contains_iff_mem, Bool.not_eq_true', ← Bool.not_eq_true] at h
  refine ⟨fun s hs => ?_, fun s hs => ?_⟩
  · have h1 := h.1 s hs
    have := hl s h1.1
    unfold Looks at this
    rwa [if_pos h1.2] at this
  · have h1 := h.2 s hs
    have := hl s h1.1
    unfold Looks at this
    rwa [if_neg h1.2] at this
theorem stepOk_free (ins outs : List Tmp) (hck : chkIns ops o ins outs = true) (hg : o.guard = none)
    (h : ∀ (a : Act) (w : World), Turned (fun _ => False) w0 w → (∀ s ∈ ins, G s (a.tmps.getD s undef) w) → (∀ s ∈ outs, a.tmps.getD s undef = a0.tmps.getD s undef) → Brings P (fun v w' => Turned (fun _ => False) w w' ∧ GD G o.dst v w') ((execOp a.eval o).run P w)) : StepOk P G ops a0 w0 o := by
  intro a w hT hl
  obtain ⟨h1, h2⟩ := chkIns_ins hck hl
  refine ⟨fun _ => h a w hT h1 h2, fun hw => ?_⟩
  unfold Region.wanted at hw
  rw [hg] at hw
  simp at hw
theorem stepOk_guard (ins outs : List Tmp) (hck : chkIns ops o ins outs = true) (g : Nat) (want : Bool) (s : Tmp) (hg : o.guard = some (g, want)) (hs : ((ops[g]?).bind (·.dst)) = some s) (hsin : s ∈ ins) (c b : Bool)
    (hb : ∀ v w, G s v w → v = bif c then .bool b else undef)
    (hT : (c && (b == want)) = true → ∀ (a : Act) (w : World), Turned (fun _ => False) w0 w → (∀ s ∈ ins, G s (a.tmps.getD s undef) w) → (∀ s ∈ outs, a.tmps.getD s undef = a0.tmps.getD s undef) → Brings P (fun v w' => Turned (fun _ => False) w w' ∧ GD G o.dst v w') ((execOp a.eval o).run P w))
    (hF : (c && (b == want)) = false → ∀ w, GD G o.dst undef w) : StepOk P G ops a0 w0 o := by
  intro a w hTw hl
  obtain ⟨h1, h2⟩ := chkIns_ins hck hl
  have hv := hb _ _ (h1 s hsin)
  have hy : Region.wanted o (yielded ops a.tmps) = (c && (b == want)) := by
    unfold Region.wanted
    rw [hg]
    simp only
    unfold yielded
    rw [hs]
    simp only [Option.bind_some]
    rw [Array.getD_eq_getD_getElem?] at hv
    cases hx : a.tmps[s]? with
    | none =>
      rw [hx] at hv
      cases c with
      | true => simp [undef] at hv
      | false => simp
    | some v =>
      rw [hx] at hv
      simp only [Option.getD_some] at hv
      subst hv
      cases c with
      | true => cases b <;> cases want <;> rfl
      | false => cases want <;> rfl
  rw [hy]
  exact ⟨fun h => hT h a w hTw h1 h2, fun h => hF h w⟩
theorem fold_getD (f : Tmp → Value) (l : List Tmp) : ∀ (t : Array Value) (s : Nat), s < t.size → (l.foldl (fun t d => t.setIfInBounds d (f d)) t).getD s undef = if s ∈ l then f s else t.getD s undef := by
  induction l with
  | nil => intro t s _; simp
  | cons d l ih =>
    intro t s hs
    rw [List.foldl_cons, ih _ _ (by simpa using hs)]
    by_cases hm : s ∈ l
    · rw [if_pos hm, if_pos (List.mem_cons_of_mem _ hm)]
    · rw [if_neg hm]
      by_cases e : s = d
      · subst e
        rw [getD_set _ _ _ _ hs, if_pos rfl, if_pos (List.mem_cons_self ..)]
      · rw [if_neg (by rw [List.mem_cons]; rintro (h | h); exact e h; exact hm h)]
        simp only [Array.getD_eq_getD_getElem?, Array.getElem?_setIfInBounds_ne (Ne.symm e)]
theorem fold_size (f : Tmp → Value) (l : List Tmp) : ∀ (t : Array Value), (l.foldl (fun t d => t.setIfInBounds d (f d)) t).size = t.size := by
  induction l with
  | nil => intro t; rfl
  | cons d l ih => intro t; rw [List.foldl_cons, ih]; simp
theorem getD_lt (t : Array Value) (i : Nat) (h : i < t.size) : t.getD i undef = t[i] := by simp [h]
/-- THE LAW, as it is typed: dl = the slots that the region writes; at the end, whatever stands there. -/
theorem wp_region_ssa' {Q : Exit → Act → World → Prop} {id : Nat} (dl : List Tmp) (hdl : ops.toList.filterMap (·.dst) = dl) (hm : P.follows .mixedOrders = true) (hc : chkAny ops a0.tmps.size = true) (hG : ∀ d v w w', Turned (fun _ => False) w w' → G d v w → G d v w') (hs : StepsOk P G ops a0 w0 ops.toList)
    (hQ : ∀ (vs : Tmp → Value) w, Turned (fun _ => False) w0 w → (∀ s ∈ dl, G s (vs s) w) → Q .normal ⟨dl.foldl (fun t d => t.setIfInBounds d (vs d)) a0.tmps, a0.defers⟩ w) : (Code.region id ops true).wp P Q a0 w0 := by
  refine wp_region_ssa hm hc hG hs fun a w hT hL hd hsz => ?_
  have := hQ (fun d => a.tmps.getD d undef) w hT (fun s hs => by
    have := hL s
    unfold Looks at this
    rw [hdl, if_pos hs] at this
    exact this)
  have e : a = ⟨dl.foldl (fun t d => t.setIfInBounds d (a.tmps.getD d undef)) a0.tmps, a0.defers⟩ := by
    cases a with | mk tmps defers =>
    simp only at hd hsz this ⊢
    subst hd
    congr 1
    apply Array.ext
    · rw [fold_size]; exact hsz
    · intro i h1 h2
      have h3 : i < a0.tmps.size := by rw [← hsz]; exact h1
      have hf := fold_getD (fun d => tmps.getD d undef) dl a0.tmps i h3
      have hl := hL i
      unfold Looks at hl
      rw [hdl] at hl
      have e1 := getD_lt tmps i h1
      have e2 := getD_lt _ i h2
      rw [← e1, ← e2, hf]
      by_cases hm : i ∈ dl
      · rw [if_pos hm]
      · rw [if_neg hm] at hl ⊢
        exact hl
  rw [e]
  exact this
end
end Go.Proofs.Ytoihjobdfjajfaa

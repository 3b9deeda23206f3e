/- Maps with integers for keys, as functions; the elements are whatever values they are. -/
import Derived.Test.YtoihjobdfjajfaaBase
namespace Go.Proofs.Ytoihjobdfjajfaa
set_option linter.unusedVariables false
set_option linter.unusedSimpArgs false
open Go.RowKit Go.Maps

/-- An element read as itself. -/
def rawR (v : Value) : Option (DataW Value × List MemPlace) := some (.held v, [])
def kI (n : Int) : Lit := .int .i64 n
theorem kI_inj {a b : Int} (h : kI a = kI b) : a = b := by unfold kI at h; injection h
def upd (f : Int → Option Value) (i : Int) (v : Value) : Int → Option Value := fun j => if j = i then some v else f j

/-- Block b is a map of n entries that has f. -/
def IMap (P : Program) (kt : TypeId) (w : World) (b n : Nat) (f : Int → Option Value) : Prop :=
  ∃ D : DataW Value, w.ownsMap P kt rawR b n D ∧ Maps.Tidy D ∧ Maps.size D = n ∧ ∀ i, Maps.has D (kI i) = (f i).isSome ∧ ∀ v, f i = some v → ∀ z, D.atKey (kI i) z = .held v

section
variable {P : Program} {kt : TypeId} {w w' : World} {b n : Nat} {f : Int → Option Value}
theorem IMap.made (w : World) (P : Program) (kt : TypeId) : IMap P kt (w.alloc (.map #[] 0)) w.heap.size 0 (fun _ => none) :=
  ⟨_, World.ownsMap_made _ _ _ _, ⟨[], rfl, List.Pairwise.nil⟩, rfl, fun i => ⟨rfl, fun v h => by cases h⟩⟩
theorem IMap.lt (h : IMap P kt w b n f) : b < w.heap.size := by obtain ⟨D, h, _⟩ := h; exact h.lt
theorem IMap.turned {S : Nat → Prop} (h : IMap P kt w b n f) (ht : Turned S w w') (hS : ¬ S b) : IMap P kt w' b n f := by
  obtain ⟨D, ⟨es, clock, hb, F, hs, hD⟩, h2, h3, h4⟩ := h
  exact ⟨D, ⟨es, clock, (ht.block b (Array.getElem?_eq_some_iff.1 hb).1 hS).trans hb, F, hs, hD⟩, h2, h3, h4⟩
theorem IMap.alloc (h : IMap P kt w b n f) (o : Obj) : IMap P kt (w.alloc o) b n f := h.turned ((Turned.refl (fun _ => False) w).alloc o) (fun f => f)

theorem rawR_inj {v : Value} {d : DataW Value} {ps : List MemPlace} (h : rawR v = some (d, ps)) : d = .held v := by unfold rawR at h; injection h with h; injection h with h _; exact h.symm
theorem IMap.look {t e : TypeId} (h : IMap P kt w b n f) (K : Keyed P kt) (ht : P.underlying t = some (.map kt e)) {z : Value} (hz : (zeroValue e).run P w = .ok z w) {i : Int} (hkey : keyOf P kt (.int .i64 i) = some (kI i)) :
    (Instr.lookup t (.map (some b)) (.int .i64 i) false).run P w = .ok ((f i).getD z) w := by
  obtain ⟨D, h1, h2, h3, h4⟩ := h
  obtain ⟨v, ps, hr, hv⟩ := h1.lookup K ht hz (zd := .held z) (zp := []) rfl hkey
  rw [hr]
  have hd := rawR_inj hv
  obtain ⟨hh, hs⟩ := h4 i
  cases hf : f i with
  | none =>
    rw [hf] at hh
    rw [Maps.atKey_of_not_has hh] at hd
    injection hd with hd; subst hd; rfl
  | some u =>
    rw [hs u hf] at hd
    injection hd with hd; subst hd; rfl
theorem IMap.look_ok {t e : TypeId} (h : IMap P kt w b n f) (K : Keyed P kt) (ht : P.underlying t = some (.map kt e)) {z : Value} (hz : (zeroValue e).run P w = .ok z w) {i : Int} (hkey : keyOf P kt (.int .i64 i) = some (kI i)) :
    (Instr.lookup t (.map (some b)) (.int .i64 i) true).run P w = .ok (.tuple #[(f i).getD z, .bool (f i).isSome]) w := by
  obtain ⟨D, h1, h2, h3, h4⟩ := h
  obtain ⟨v, ps, hr, hv⟩ := h1.look_ok K ht hz (zd := .held z) (zp := []) rfl hkey
  rw [hr]
  have hd := rawR_inj hv
  obtain ⟨hh, hs⟩ := h4 i
  rw [hh]
  cases hf : f i with
  | none =>
    rw [hf] at hh
    rw [Maps.atKey_of_not_has hh] at hd
    injection hd with hd; subst hd; rfl
  | some u =>
    rw [hs u hf] at hd
    injection hd with hd; subst hd; rfl
theorem IMap.put {t e : TypeId} (h : IMap P kt w b n f) (K : Keyed P kt) (ht : P.underlying t = some (.map kt e)) (hn : n < maxLen) {i : Int} {v : Value} (hkey : keyOf P kt (.int .i64 i) = some (kI i)) (hk : WideAt.IsKeyLit (kI i)) :
    ∃ w', (Instr.mapUpdate t (.map (some b)) (.int .i64 i) v).run P w = .ok () w' ∧ IMap P kt w' b (if (f i).isSome then n else n + 1) (upd f i v) ∧ Turned (· = b) w w' := by
  obtain ⟨D, h1, h2, h3, h4⟩ := h
  obtain ⟨w', hr, ho, hg⟩ := h1.update K ht hn (val := v) (d := .held v) (ps := []) hkey rfl
  have hsz : Maps.size (D.put (kI i) (.held v)) = if (f i).isSome then n else n + 1 := by
    rw [Maps.size_put h2, (h4 i).1, h3]
  refine ⟨w', hr, ⟨_, ?_, h2.put hk _, hsz, fun j => ?_⟩, (Turned.refl _ w).grown hg (fun k e => by cases e; exact .inr rfl)⟩
  · have : w'.ownsMap P kt rawR b (Maps.size (D.put (kI i) (.held v))) (D.put (kI i) (.held v)) := by
      obtain ⟨es, clock, hb, F, hs, hD⟩ := ho
      exact ⟨es, clock, hb, F, by rw [hD]; simp [Maps.size, length_sorted], hD⟩
    rw [hsz] at this
    exact this
  · unfold upd
    by_cases e : j = i
    · subst e
      rw [if_pos rfl]
      exact ⟨Maps.has_put_same h2.isMap hk _, fun u hu z => by injection hu with hu; subst hu; exact Maps.atKey_put_same h2.isMap hk _ _⟩
    · rw [if_neg e]
      have hne : kI j ≠ kI i := fun e' => e (kI_inj e')
      rw [Maps.has_put_other hne]
      exact ⟨(h4 j).1, fun u hu z => by rw [Maps.atKey_put_other hne]; exact (h4 j).2 u hu z⟩
theorem IMap.len {t e : TypeId} (h : IMap P kt w b n f) (ht : P.underlying t = some (.map kt e)) (ty : TypeId) : (Builtin.len_ #[t] ty #[.map (some b)]).run P w = .ok (.int .i64 n) w := by
  obtain ⟨D, h1, h2, h3, h4⟩ := h
  rw [h1.len ht ty, h3]

/-- At the operation. -/
theorem wpList_put {ops : Array Oper} {rest : List Oper} {o : Oper} {a : Act} {Q : Exit → Act → World → Prop} (hg : o.guard = none) (m x v : Operand) (t : TypeId) (hop : o.op = Op.mapUpdate t m x v)
    {e : TypeId} (K : Keyed P kt) (ht : P.underlying t = some (.map kt e)) (hm : a.eval m = .map (some b)) (hown : IMap P kt w b n f) (hn : n < maxLen) {i : Int} {val : Value} (hx : a.eval x = .int .i64 i) (hv : a.eval v = val)
    (hkey : keyOf P kt (.int .i64 i) = some (kI i)) (hk : WideAt.IsKeyLit (kI i))
    (hK : ∀ w', IMap P kt w' b (if (f i).isSome then n else n + 1) (upd f i val) → Turned (· = b) w w' → wpList P ops Q rest (a.put o.dst undef) w') :
    wpList P ops Q (o :: rest) a w := by
  refine wpList_plain hg fun K' hK' => ?_
  obtain ⟨w', hrun, r1, r2⟩ := hown.put K ht hn (v := val) hkey hk
  unfold Oper.wp
  simp [execOp, hop, hm, hx, hv, hrun, Result.andThen]
  exact hK' _ _ (hK w' r1 r2)
end
end Go.Proofs.Ytoihjobdfjajfaa

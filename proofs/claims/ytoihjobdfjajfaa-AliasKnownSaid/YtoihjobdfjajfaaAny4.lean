/- The law of Any3, as it is typed: what the operations that turn the state have brought is a list of values; of all other slots one says what they hold. -/
import Derived.Test.YtoihjobdfjajfaaAny3
namespace Go.Proofs.Ytoihjobdfjajfaa
open Go
/-- What is known of a slot: of those that the list tells, what it tells; of the others GL. -/
def GH (hist : List Tmp) (GL : Tmp → Value → Prop) (hs : List Value) (d : Tmp) (v : Value) : Prop :=
  match posOf hist d with
  | some k => hs[k]? = some v
  | none => GL d v
def GDL (GL : Tmp → Value → Prop) : Option Tmp → Value → Prop
  | none, _ => True
  | some d, v => GL d v
theorem Brings.mono {P : Program} {F F' : Value → World → Prop} {r : Result Next} (h : Brings P F r) (hF : ∀ v w, F v w → F' v w) : Brings P F' r := by
  cases r with
  | ok n w' =>
    cases n <;> simp only [Brings] at h ⊢ <;> first
      | exact hF _ _ h
      | exact Calls.mono h (fun e w'' he => by obtain ⟨v, rfl, hv⟩ := he; exact ⟨v, rfl, hF _ _ hv⟩)
      | exact Rows.mono h (fun _ _ hv => hF _ _ hv)
      | exact h.elim
  | halt x w' => exact (by cases x <;> exact h.elim)
def StepH (P : Program) (hist : List Tmp) (GL : Tmp → Value → Prop) (ops : Array Oper) (a0 : Act) (st bd : List Nat) (R : List Value → World → Prop) (i : Nat) (o : Oper) : Prop :=
  match posOf st i with
  | none => ∀ hs, hs.length ≤ bd.getD i st.length → StepG P (fun d v _ => GH hist GL hs d v) ops a0 (R hs) (fun v w w' => Turned (fun _ => False) w w' ∧ GDL GL o.dst v) o
  | some k => ∀ hs, hs.length = k → StepG P (fun d v _ => GH hist GL hs d v) ops a0 (R hs) (fun v _ w' => R (hs ++ [v]) w') o
def StepsH (P : Program) (hist : List Tmp) (GL : Tmp → Value → Prop) (ops : Array Oper) (a0 : Act) (st bd : List Nat) (R : List Value → World → Prop) : Nat → List Oper → Prop
  | _, [] => True
  | i, o :: l => StepH P hist GL ops a0 st bd R i o ∧ StepsH P hist GL ops a0 st bd R (i + 1) l
def chkHist (ops : Array Oper) (st : List Nat) (hist : List Tmp) : Bool :=
  decide (hist.length = st.length) && (List.range ops.size).all fun i => match ops[i]? with
    | none => true
    | some o => match o.dst with
      | none => true
      | some d => match posOf st i with
        | some k => posOf hist d == some k
        | none => posOf hist d == none
theorem chkHist_at {ops : Array Oper} {st : List Nat} {hist : List Tmp} (h : chkHist ops st hist = true) {i : Nat} {o : Oper} (ho : ops[i]? = some o) {d : Tmp} (hd : o.dst = some d) : posOf hist d = posOf st i := by
  simp only [chkHist, Bool.and_eq_true, List.all_eq_true] at h
  have := h.2 i (List.mem_range.2 (Array.getElem?_eq_some_iff.1 ho).1)
  rw [ho] at this
  simp only [hd] at this
  cases hp : posOf st i with
  | none => rw [hp] at this; simpa using this
  | some k => rw [hp] at this; simpa using this
/-- How many of the state's turns can have been, when an operation comes up: no more than stand ahead of the first that waits for it. -/
def chkBd (ops : Array Oper) (st bd : List Nat) : Bool :=
  (List.range ops.size).all fun i => bd.getD i st.length == st.length || match st[bd.getD i st.length]? with
    | none => false
    | some j => waits ops ops.size j i
theorem chkBd_at {ops : Array Oper} {st bd : List Nat} (h : chkBd ops st bd = true) {i : Nat} {o : Oper} (ho : ops[i]? = some o) {hs : List Value} (h1 : hs.length ≤ st.length)
    (h2 : ∀ k j n, st[k]? = some j → waits ops n j i = true → hs.length ≤ k) : hs.length ≤ bd.getD i st.length := by
  have := List.all_eq_true.1 h i (List.mem_range.2 (Array.getElem?_eq_some_iff.1 ho).1)
  rw [Bool.or_eq_true] at this
  rcases this with this | this
  · rw [beq_iff_eq] at this; omega
  · cases hj : st[bd.getD i st.length]? with
    | none => rw [hj] at this; cases this
    | some j =>
      rw [hj] at this
      exact h2 _ j _ hj this
section
variable {P : Program} {hist : List Tmp} {GL : Tmp → Value → Prop} {ops : Array Oper} {a0 : Act} {w0 : World} {Q : Exit → Act → World → Prop} {st bd : List Nat} {R : List Value → World → Prop}
theorem StepsH.up (hh : chkHist ops st hist = true) (hb0 : chkBd ops st bd = true) (hRt : ∀ hs w w', R hs w → Turned (fun _ => False) w w' → R hs w') : ∀ (l : List Oper) (b : Nat), (∀ j o, l[j]? = some o → ops[b + j]? = some o) → StepsH P hist GL ops a0 st bd R b l → StepsAt P (fun hs d v _ => GH hist GL hs d v) ops a0 st R (fun _ _ => True) b l := by
  intro l
  induction l with
  | nil => intro b _ _; trivial
  | cons o l ih =>
    intro b hb hs
    refine ⟨?_, ih (b + 1) (fun j x hx => by have := hb (j + 1) x (by simpa using hx); rwa [show b + (j + 1) = b + 1 + j from by omega] at this) hs.2⟩
    have ho : ops[b]? = some o := hb 0 o (by simp)
    have h1 := hs.1
    unfold StepH at h1
    unfold StepAt
    cases hp : posOf st b with
    | none =>
      rw [hp] at h1
      intro hl hl1 hl2 a w hR hL
      obtain ⟨k1, k2⟩ := h1 hl (chkBd_at hb0 ho hl1 hl2) a w hR hL
      have hg : ∀ v, GDL GL o.dst v → ∀ w', GD (fun d v _ => GH hist GL hl d v) o.dst v w' := by
        intro v hv w'
        cases hd : o.dst with
        | none => trivial
        | some d =>
          rw [hd] at hv
          show GH hist GL hl d v
          unfold GH
          rw [chkHist_at hh ho hd, hp]
          exact hv
      refine ⟨fun hw => (k1 hw).mono fun v w' hv => ⟨hRt _ _ _ hR hv.1, trivial, hg v hv.2 _⟩, fun hw => ⟨hR, trivial, hg _ (k2 hw).2 _⟩⟩
    | some k =>
      rw [hp] at h1
      intro hl hk a w hR hL
      obtain ⟨k1, k2⟩ := h1 hl hk a w hR hL
      have hg : ∀ v w', GD (fun d v _ => GH hist GL (hl ++ [v]) d v) o.dst v w' := by
        intro v w'
        cases hd : o.dst with
        | none => trivial
        | some d =>
          show GH hist GL (hl ++ [v]) d v
          unfold GH
          rw [chkHist_at hh ho hd, hp]
          simp only
          rw [← hk]
          simp
      refine ⟨fun hw => (k1 hw).mono fun v w' hv => ⟨hv, trivial, ?_⟩, fun hw => ⟨k2 hw, trivial, ?_⟩⟩
      · have := hg v w'
        cases hd : o.dst with
        | none => trivial
        | some d => rw [hd] at this; exact this
      · have := hg undef w
        cases hd : o.dst with
        | none => trivial
        | some d => rw [hd] at this; exact this
/-- THE LAW: dl = the slots that the region writes; st = the operations that turn the state, hist = their slots; R = the state when they have brought so much. -/
theorem wp_region_hs {id : Nat} (dl : List Tmp) (st bd : List Nat) (hist : List Tmp) (GL : Tmp → Value → Prop) (R : List Value → World → Prop) (hdl : ops.toList.filterMap (·.dst) = dl) (hm : P.follows .mixedOrders = true) (hc : chkAny ops a0.tmps.size = true) (hst : chkSt ops st = true) (hh : chkHist ops st hist = true) (hb : chkBd ops st bd = true)
    (hR0 : ∀ w, Turned (fun _ => False) w0 w → R [] w) (hRt : ∀ hs w w', R hs w → Turned (fun _ => False) w w' → R hs w') (hs : StepsH P hist GL ops a0 st bd R 0 ops.toList)
    (hQ : ∀ (hs : List Value) (vs : Tmp → Value) w, hs.length = st.length → R hs w → (∀ s ∈ dl, GH hist GL hs s (vs s)) → Q .normal ⟨dl.foldl (fun t d => t.setIfInBounds d (vs d)) a0.tmps, a0.defers⟩ w) : (Code.region id ops true).wp P Q a0 w0 := by
  refine wp_region_st (G := fun hs d v _ => GH hist GL hs d v) dl st R (fun _ _ => True) hdl hm hc hst hR0 (fun _ _ _ _ _ _ h => h) (fun hl x d v _ h => ?_) (StepsH.up hh hb hRt _ 0 (fun j o ho => by rw [Nat.zero_add]; rwa [Array.getElem?_toList] at ho) hs) hQ
  show GH hist GL (hl ++ [x]) d v
  have h' : GH hist GL hl d v := h
  unfold GH at h' ⊢
  split at h'
  · rename_i k hk
    exact (List.getElem?_append_left (List.getElem?_eq_some_iff.1 h').1).trans h'
  · exact h'
end
theorem wrapI {n : Int} (h0 : -9223372036854775808 ≤ n) (h1 : n ≤ 9223372036854775807) : IntKind.i64.wrap n = n := by rw [IntKind.wrap_i64]; omega
/-- append of at least one element, as a step brings it. -/
theorem brings_append {P : Program} {w : World} {o : Oper} {a : Act} {F : Value → World → Prop} (s x : Operand) (t : TypeId)
    (ho : o.op = .call { callee := .builtin .append, args := #[s, x], argTypes := #[t, t] })
    (e : TypeId) (i : TypeInfo) (z : Value) (size bytes : Nat) (ht : P.underlying t = some (.slice e)) (hi : P.info? e = some i) (hz : i.zero = some z)
    (hsize : i.size = size) (hby : i.bytes = bytes) (hzs : z.cells.size = size) (hsz : 0 < size)
    (v : Value) (n : Nat) (xs : List Value) (hs : a.eval s = v) (hown : Row w e size v n xs)
    (ad : Addr) (m c : Nat) (news : List Value) (hx : a.eval x = .slice (some ad) m c) (hl : news.length = m * size) (hnews : ∀ j u, news[j]? = some u → w.cell? (ad.add j) = some u) (h1 : ∀ u ∈ news, u.oneCell' = true)
    (hm : 0 < m) (h63 : n + m ≤ maxLen) (hbytes : (n + m) * bytes ≤ 140737488355328)
    (h : ∀ g cap w', Row w' e size (.slice (some ⟨g, 0, none⟩) (n + m) cap) (n + m) (xs ++ news) → Turned (fun k => v.ownBlock = some k) w w' → (some g = v.ownBlock ∨ g = w.heap.size) → F (.slice (some ⟨g, 0, none⟩) (n + m) cap) w') : Brings P F ((execOp a.eval o).run P w) := by
  obtain ⟨v', w', hr, h2, h3, h4, h5⟩ := run_append_row (P := P) w t o.type e i z size bytes ht hi hz hsize hby hzs hsz v n xs hown ad m c news hl hnews h1 h63 hbytes
  obtain ⟨g, cap, rfl⟩ := h2.shape_pos (by omega)
  unfold execOp
  simp only [ho, resolve, invoke, builtin, Sem.run_bind, Sem.run_pure, Result.andThen_ok, List.map_toArray, List.map_cons, List.map_nil, hs, hx, hr]
  refine h g cap w' h2 h3 ?_
  rcases h4 with h4 | h4
  · exact .inl h4
  · exact .inr (by simpa [Value.ownBlock] using h4)
end Go.Proofs.Ytoihjobdfjajfaa

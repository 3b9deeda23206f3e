/- Merged texts: Opens, IP1, IP2, Opens3, BP1. -/
import Derived.Test.YtoihjobdfjajfaaBp4
import Derived.ProofKit
import Derived.Deep.Strs
import Derived.Lib.SmallJoins
namespace Go.Proofs.Ytoihjobdfjajfaa
open Go.Joins Go.Deep Go.ChangeShapes Go.WideShapes Go.ChangeAt Go.RowKit
set_option linter.unusedVariables false
set_option linter.unusedSimpArgs false
theorem cellsOf27 : Try.prog.cellsOf 27 = 4 := by kernel_rfl
theorem cellsOf22 : Try.prog.cellsOf 22 = 1 := by kernel_rfl
theorem cellsOf3 : Try.prog.cellsOf 3 = 1 := by kernel_rfl
theorem cellsOf2 : Try.prog.cellsOf 2 = 1 := by kernel_rfl
theorem cellsOf9 : Try.prog.cellsOf 9 = 1 := by kernel_rfl
theorem I64_of {n : Int} (h : (Lit.int .i64 n).wf = true) : I64 n := by
  unfold I64
  simp [Lit.wf] at h
  have e1 : IntKind.i64.min = -9223372036854775808 := by decide
  have e2 : IntKind.i64.max = 9223372036854775807 := by decide
  omega
section
variable {H : Type} {enc : TypeId × Value → H} {W : World} {base : Nat} {sp : Nat → Bool} {held : Bool}
theorem list4 {α : Type} {l : List α} (h : l.length = 4) : ∃ a b c d, l = [a, b, c, d] := by
  match l, h with
  | [a, b, c, d], _ => exact ⟨a, b, c, d, rfl⟩
set_option maxRecDepth 100000 in
theorem terms_of (fuel : Nat) : (∀ cs (x : DataW H × List MemPlace), DataW.trod enc Try.prog W base sp held fuel 27 cs = some x → ∃ t : LT, cs = t.cells ∧ t.In (fun _ => True) W) ∧
    (∀ cs (x : DataW H × List MemPlace), DataW.trod enc Try.prog W base sp held fuel 22 cs = some x → ∃ a cap, ∃ l : List LT, cs = [.slice a l.length cap] ∧ LT.Sl (fun _ => True) W a cap l) := by
  induction fuel with
  | zero => exact ⟨fun cs x h => by simp [DataW.trod] at h, fun cs x h => by simp [DataW.trod] at h⟩
  | succ fuel ih =>
    refine ⟨fun cs x h => ?_, fun cs x h => ?_⟩
    · obtain ⟨xs, n, hn, hx, hcs, hlen, hf⟩ := DataW.trod_struct Try.underlying27 h
      have hn : fuel = n := by omega
      subst hn
      rw [cellsOf27] at hcs
      obtain ⟨u0, u1, u2, u3, rfl⟩ := list4 hcs
      obtain ⟨y0, y1, y2, y3, rfl⟩ := list4 hlen
      · · have f0 : DataW.trod enc Try.prog W base sp held fuel 3 (([u0, u1, u2, u3].drop 0).take (Try.prog.cellsOf 3)) = some y0 := hf 0 _ rfl
          have f1 : DataW.trod enc Try.prog W base sp held fuel 2 (([u0, u1, u2, u3].drop 1).take (Try.prog.cellsOf 2)) = some y1 := hf 1 _ rfl
          have f2 : DataW.trod enc Try.prog W base sp held fuel 9 (([u0, u1, u2, u3].drop 2).take (Try.prog.cellsOf 9)) = some y2 := hf 2 _ rfl
          have f3 : DataW.trod enc Try.prog W base sp held fuel 22 (([u0, u1, u2, u3].drop 3).take (Try.prog.cellsOf 22)) = some y3 := hf 3 _ rfl
          simp only [cellsOf3, cellsOf2, cellsOf9, cellsOf22] at f0 f1 f2 f3
          simp at f0 f1 f2 f3
          obtain ⟨k, e0, _, wk⟩ := DataW.trod_int Try.underlying3 f0
          obtain ⟨m, e1, _, wm⟩ := DataW.trod_int Try.underlying2 f1
          obtain ⟨s, e2, _, ws⟩ := DataW.trod_string Try.underlying9 f2
          obtain ⟨a, cap, l, e3, hl⟩ := ih.2 _ _ f3
          simp at e0 e1 e2 e3
          subst e0 e1 e2 e3
          exact ⟨.mk k m s (a, cap) l, rfl, hl.in_ (I64_of wk) (I64_of wm) ws⟩
    · rcases DataW.trod_slice Try.underlying22 h with ⟨hcs, _⟩ | ⟨ad, len, cap, elems, rest, n, hn, hcs, _, _, hl, hm, hlen, hel, _⟩
      · exact ⟨none, 0, [], hcs, ⟨fun _ => ⟨rfl, rfl⟩, fun h => by simp at h, trivial, Nat.le_refl _, by unfold maxLen; omega⟩⟩
      · have hn : fuel = n := by omega
        subst hn
        rw [cellsOf27] at hel
        have hp : ∀ i, ∃ t : LT, i < len → t.In (fun _ => True) W ∧ ∀ j, j < 4 → W.cell? (ad.add (i * 4 + j)) = t.cells[j]? := by
          intro i
          by_cases hi : i < len
          · have he := hel i hi
            rw [List.getElem?_eq_getElem (by omega)] at he
            obtain ⟨cs', hc, ht⟩ := Option.bind_eq_some_iff.1 he
            obtain ⟨t, rfl, hin⟩ := ih.1 _ _ ht
            obtain ⟨_, _, hat⟩ := World.cells?_some hc
            refine ⟨t, fun _ => ⟨hin, fun j hj => ?_⟩⟩
            rw [← hat j hj]
            congr 1
            exact (add_add ..).symm
          · exact ⟨.mk 0 0 ByteArray.empty (none, 0) [], fun h => absurd h hi⟩
        obtain ⟨f, hff⟩ := Classical.axiomOfChoice hp
        refine ⟨some ad, cap, (List.range len).map f, by simpa using hcs, ⟨(fun e => by cases e), fun hpos => ?_, (LT.ins_iff _).2 fun x hx => ?_, by simpa using hl, hm⟩⟩
        · simp at hpos
          obtain ⟨b, o, spot⟩ := ad
          have hc := (hff 0 (by omega)).2 0 (by omega)
          have hspot : spot = none := by
            rw [LT.cells_eq] at hc
            simpa [Addr.add] using World.cell?_spot hc
          subst hspot
          refine ⟨b, o, rfl, trivial, fun j u hu => ?_⟩
          have hlt := (List.getElem?_eq_some_iff.1 hu).1
          rw [LT.flat_length, List.length_map, List.length_range] at hlt
          have hi : j / 4 < len := by omega
          have hx : ((List.range len).map f)[j / 4]? = some (f (j / 4)) := by rw [List.getElem?_map, List.getElem?_range hi]; rfl
          have h4 := LT.flat_at hx (j % 4) (by omega)
          rw [show j / 4 * 4 + j % 4 = j by omega, hu] at h4
          have hc := (hff (j / 4) hi).2 (j % 4) (by omega)
          rw [show j / 4 * 4 + j % 4 = j by omega, Addr.add_lit] at hc
          rw [hc, h4]
        · obtain ⟨i, hi, rfl⟩ := List.mem_map.1 hx
          exact (hff i (by simpa using hi)).1
set_option maxRecDepth 100000 in
theorem tmT_of {fuel : Nat} {r : Reach} {b0 : Nat} {v : Value} {x : DataW H × List MemPlace} (hv : Value.okWide Try.prog W r b0 27 v) (hf : DataW.trod enc Try.prog W base sp held fuel 27 v.cells.toList = some x) : ∃ t : LT, v = t.val ∧ t.In (fun _ => True) W := by
  obtain ⟨cs, rfl, hsz⟩ := okWide_struct Try.underlying27 hv
  obtain ⟨t, hcs, hin⟩ := (terms_of fuel).1 _ _ hf
  refine ⟨t, ?_, hin⟩
  cases t with | mk k n s e bs =>
  simp only [Value.cells] at hcs
  show Value.agg cs = Value.agg _
  congr 1
  exact Array.toList_inj.1 hcs
end
end Go.Proofs.Ytoihjobdfjajfaa
namespace Go.Proofs.Ytoihjobdfjajfaa
set_option linter.unusedVariables false
set_option linter.unusedSimpArgs false
open Go.RowKit Go.Maps
attribute [local go_sem ↓] Go.wp_at_zero Go.wp_at_succ
structure Act2 where
  op : Int
  i : Int
  k : Key
def Act2.cells (a : Act2) : List Value := [.int .i64 a.op, .int .i64 a.i, .int .i64 a.k.kind, .int .i64 a.k.n, .string a.k.name, .int .i64 a.k.arity]
structure ASl (w : World) (a : Option Addr) (c : Nat) (l : List Act2) : Prop where
  none_ : a = none → l.length = 0 ∧ c = 0
  lies : 0 < l.length → ∃ b o, a = some ⟨b, o, none⟩ ∧ ∀ (i : Nat) x, l[i]? = some x → ∀ (j : Nat) u, x.cells[j]? = some u → w.cell? ⟨b, o + (i * 6 + j), none⟩ = some u
  cap : l.length ≤ c
  max : c ≤ 9223372036854775807
  wf : ∀ x ∈ l, I64 x.i
theorem ASl.turned0 {w w' : World} {a : Option Addr} {c : Nat} {l : List Act2} (h : ASl w a c l) (ht : Turned (fun _ => False) w w') : ASl w' a c l := by
  refine ⟨h.none_, fun hp => ?_, h.cap, h.max, h.wf⟩
  obtain ⟨b, o, he, hc⟩ := h.lies hp
  exact ⟨b, o, he, fun i x hx j u hu => ht.cell (hc i x hx j u hu) (fun f => f)⟩
theorem ASl.at {w : World} {b o c : Nat} {l : List Act2} (h : ASl w (some ⟨b, o, none⟩) c l) {i : Nat} {x : Act2} (hi : l[i]? = some x) :
    w.cell? ⟨b, o + i * 6, none⟩ = some (.int .i64 x.op) ∧ w.cell? ⟨b, o + i * 6 + 1, none⟩ = some (.int .i64 x.i) ∧ w.cell? ⟨b, o + i * 6 + 2, none⟩ = some (.int .i64 x.k.kind) ∧ w.cell? ⟨b, o + i * 6 + 3, none⟩ = some (.int .i64 x.k.n) ∧ w.cell? ⟨b, o + i * 6 + 4, none⟩ = some (.string x.k.name) ∧ w.cell? ⟨b, o + i * 6 + 5, none⟩ = some (.int .i64 x.k.arity) := by
  obtain ⟨b', o', e, hc⟩ := h.lies (by have := (List.getElem?_eq_some_iff.1 hi).1; omega)
  injection e with e
  injection e with e1 e2
  subst e1 e2
  have hh := hc i x hi
  refine ⟨hh 0 _ rfl, ?_, ?_, ?_, ?_, ?_⟩
  all_goals rw [Nat.add_assoc]
  · exact hh 1 _ rfl
  · exact hh 2 _ rfl
  · exact hh 3 _ rfl
  · exact hh 4 _ rfl
  · exact hh 5 _ rfl
end Go.Proofs.Ytoihjobdfjajfaa
namespace Go.Proofs.Ytoihjobdfjajfaa
open Go.Joins Go.Deep Go.ChangeShapes Go.WideShapes Go.ChangeAt Go.RowKit
set_option linter.unusedVariables false
set_option linter.unusedSimpArgs false
theorem list6 {α : Type} {l : List α} (h : l.length = 6) : ∃ a b c d e f, l = [a, b, c, d, e, f] := by
  match l, h with
  | [a, b, c, d, e, f], _ => exact ⟨a, b, c, d, e, f, rfl⟩
theorem list3 {α : Type} {l : List α} (h : l.length = 3) : ∃ a b c, l = [a, b, c] := by
  match l, h with
  | [a, b, c], _ => exact ⟨a, b, c, rfl⟩
end Go.Proofs.Ytoihjobdfjajfaa
namespace Go.Proofs.Ytoihjobdfjajfaa
open Go.Joins Go.Deep Go.ChangeShapes Go.WideShapes Go.ChangeAt Go.RowKit
set_option linter.unusedVariables false
set_option linter.unusedSimpArgs false
theorem cellsOf98 : Try.prog.cellsOf 98 = 6 := by kernel_rfl
structure ActT where
  op : Int
  i : Int
  t : LT
def ActT.cells (a : ActT) : List Value := [.int .i64 a.op, .int .i64 a.i, .int .i64 a.t.kind, .int .i64 a.t.n, .string a.t.name, .slice a.t.at_.1 a.t.args.length a.t.at_.2]
structure TASl (w : World) (a : Option Addr) (c : Nat) (l : List ActT) : Prop where
  none_ : a = none → l.length = 0 ∧ c = 0
  lies : 0 < l.length → ∃ b o, a = some ⟨b, o, none⟩ ∧ ∀ (i : Nat) x, l[i]? = some x → ∀ (j : Nat) u, x.cells[j]? = some u → w.cell? ⟨b, o + (i * 6 + j), none⟩ = some u
  cap : l.length ≤ c
  max : c ≤ 9223372036854775807
  wf : ∀ x ∈ l, I64 x.i ∧ x.t.In (fun _ => True) w
theorem TASl.turned0 {w w' : World} {a : Option Addr} {c : Nat} {l : List ActT} (h : TASl w a c l) (ht : Turned (fun _ => False) w w') : TASl w' a c l := by
  refine ⟨h.none_, fun hp => ?_, h.cap, h.max, fun x hx => ⟨(h.wf x hx).1, (h.wf x hx).2.turned0 ht⟩⟩
  obtain ⟨b, o, he, hc⟩ := h.lies hp
  exact ⟨b, o, he, fun i x hx j u hu => ht.cell (hc i x hx j u hu) (fun f => f)⟩
theorem TASl.turned {w w' : World} {a : Option Addr} {c : Nat} {l : List ActT} {S : Nat → Prop} {b0 : Nat} (h : TASl w a c l) (hb : ∀ b o, a = some ⟨b, o, none⟩ → b < b0) (hin : ∀ x ∈ l, x.t.In (· < b0) w) (ht : Turned S w w') (hS : ∀ k, k < b0 → ¬ S k) : TASl w' a c l := by
  refine ⟨h.none_, fun hp => ?_, h.cap, h.max, fun x hx => ⟨(h.wf x hx).1, LT.In.turned ht (fun k _ hk => hS k hk) (fun _ _ _ => trivial) _ (hin x hx)⟩⟩
  obtain ⟨b, o, he, hc⟩ := h.lies hp
  exact ⟨b, o, he, fun i x hx j u hu => ht.cell (hc i x hx j u hu) (hS b (hb b o he))⟩
theorem TASl.at {w : World} {b o c : Nat} {l : List ActT} (h : TASl w (some ⟨b, o, none⟩) c l) {i : Nat} {x : ActT} (hi : l[i]? = some x) :
    w.cell? ⟨b, o + i * 6, none⟩ = some (.int .i64 x.op) ∧ w.cell? ⟨b, o + i * 6 + 1, none⟩ = some (.int .i64 x.i) ∧ w.cell? ⟨b, o + i * 6 + 2, none⟩ = some (.int .i64 x.t.kind) ∧ w.cell? ⟨b, o + i * 6 + 3, none⟩ = some (.int .i64 x.t.n) ∧ w.cell? ⟨b, o + i * 6 + 4, none⟩ = some (.string x.t.name) ∧ w.cell? ⟨b, o + i * 6 + 5, none⟩ = some (.slice x.t.at_.1 x.t.args.length x.t.at_.2) := by
  obtain ⟨b', o', e, hc⟩ := h.lies (by have := (List.getElem?_eq_some_iff.1 hi).1; omega)
  injection e with e
  injection e with e1 e2
  subst e1 e2
  have hh := hc i x hi
  refine ⟨hh 0 _ rfl, ?_, ?_, ?_, ?_, ?_⟩
  all_goals rw [Nat.add_assoc]
  · exact hh 1 _ rfl
  · exact hh 2 _ rfl
  · exact hh 3 _ rfl
  · exact hh 4 _ rfl
  · exact hh 5 _ rfl
section
variable {H : Type} {enc : TypeId × Value → H} {W : World} {base : Nat} {sp : Nat → Bool} {held : Bool}
set_option maxRecDepth 100000 in
theorem actT_of {fuel : Nat} {cs : List Value} {x : DataW H × List MemPlace} (h : DataW.trod enc Try.prog W base sp held fuel 98 cs = some x) : ∃ k : ActT, cs = k.cells ∧ I64 k.i ∧ k.t.In (fun _ => True) W := by
  cases fuel with
  | zero => simp [DataW.trod] at h
  | succ fuel =>
  obtain ⟨xs, n, hn, hx, hcs, hlen, hf⟩ := DataW.trod_struct Try.underlying98 h
  have hn : fuel = n := by omega
  subst hn
  rw [cellsOf98] at hcs
  obtain ⟨u0, u1, u2, u3, u4, u5, rfl⟩ := list6 hcs
  obtain ⟨y0, y1, y2, rfl⟩ := list3 hlen
  have f0 : DataW.trod enc Try.prog W base sp held fuel 3 (([u0, u1, u2, u3, u4, u5].drop 0).take (Try.prog.cellsOf 3)) = some y0 := hf 0 _ rfl
  have f1 : DataW.trod enc Try.prog W base sp held fuel 2 (([u0, u1, u2, u3, u4, u5].drop 1).take (Try.prog.cellsOf 2)) = some y1 := hf 1 _ rfl
  have f2 : DataW.trod enc Try.prog W base sp held fuel 27 (([u0, u1, u2, u3, u4, u5].drop 2).take (Try.prog.cellsOf 27)) = some y2 := hf 2 _ rfl
  simp only [cellsOf3, cellsOf2, cellsOf27] at f0 f1 f2
  simp at f0 f1 f2
  obtain ⟨k, e0, _, wk⟩ := DataW.trod_int Try.underlying3 f0
  obtain ⟨m, e1, _, wm⟩ := DataW.trod_int Try.underlying2 f1
  obtain ⟨q, e2, wq⟩ := (terms_of fuel).1 _ _ f2
  rw [LT.cells_eq] at e2
  simp at e0 e1 e2
  obtain ⟨rfl, rfl, rfl, rfl⟩ := e2
  subst e0 e1
  exact ⟨⟨k, m, q⟩, rfl, I64_of wm, wq⟩
set_option maxRecDepth 100000 in
theorem tasT_of {fuel : Nat} {a : Option Addr} {len cap : Nat} {x : DataW H × List MemPlace} (hf : DataW.trod enc Try.prog W base sp held fuel 92 (Value.slice a len cap).cells.toList = some x) : ∃ l : List ActT, l.length = len ∧ TASl W a cap l := by
  cases fuel with
  | zero => simp [DataW.trod] at hf
  | succ fuel =>
  rcases DataW.trod_slice Try.underlying92 hf with ⟨hcs, _⟩ | ⟨ad, len', cap', elems, rest, n, hn, hcs, _, _, hl, hm, hlen, hel, _⟩
  · simp [Value.cells] at hcs
    obtain ⟨rfl, rfl, rfl⟩ := hcs
    exact ⟨[], rfl, ⟨fun _ => ⟨rfl, rfl⟩, fun h => by simp at h, Nat.le_refl _, by omega, fun x hx => by cases hx⟩⟩
  · simp [Value.cells] at hcs
    obtain ⟨rfl, rfl, rfl⟩ := hcs
    rw [cellsOf98] at hel
    have hp : ∀ i, ∃ k : ActT, i < len → (I64 k.i ∧ k.t.In (fun _ => True) W) ∧ ∀ j, j < 6 → W.cell? (ad.add (i * 6 + j)) = k.cells[j]? := by
      intro i
      by_cases hi : i < len
      · have he := hel i hi
        rw [List.getElem?_eq_getElem (by omega)] at he
        obtain ⟨cs', hc, ht⟩ := Option.bind_eq_some_iff.1 he
        obtain ⟨k, rfl, wk⟩ := actT_of ht
        obtain ⟨_, _, hat⟩ := World.cells?_some hc
        refine ⟨k, fun _ => ⟨wk, fun j hj => ?_⟩⟩
        rw [← hat j hj]
        congr 1
        exact (add_add ..).symm
      · exact ⟨⟨0, 0, leaf 0 0 ByteArray.empty⟩, fun h => absurd h hi⟩
    obtain ⟨f, hff⟩ := Classical.axiomOfChoice hp
    refine ⟨(List.range len).map f, by simp, ⟨(fun e => by cases e), fun hpos => ?_, by simpa using hl, by unfold maxLen at hm; omega, fun x hx => ?_⟩⟩
    · simp at hpos
      obtain ⟨b, o, spot⟩ := ad
      have hc := (hff 0 (by omega)).2 0 (by omega)
      have hspot : spot = none := by
        have : W.cell? ((⟨b, o, spot⟩ : Addr).add (0 * 6 + 0)) = some (.int .i64 (f 0).op) := hc
        simpa [Addr.add] using World.cell?_spot this
      subst hspot
      refine ⟨b, o, rfl, fun i x hx j u hu => ?_⟩
      have hlt := (List.getElem?_eq_some_iff.1 hx).1
      rw [List.length_map, List.length_range] at hlt
      have hx2 : ((List.range len).map f)[i]? = some (f i) := by rw [List.getElem?_map, List.getElem?_range hlt]; rfl
      rw [hx] at hx2
      obtain rfl := Option.some.inj hx2
      have hj : j < 6 := (List.getElem?_eq_some_iff.1 hu).1
      have hc := (hff i hlt).2 j hj
      rw [Addr.add_lit] at hc
      rw [hc, hu]
    · obtain ⟨i, hi, rfl⟩ := List.mem_map.1 hx
      exact (hff i (by simpa using hi)).1
end
end Go.Proofs.Ytoihjobdfjajfaa
namespace Go.Proofs.Ytoihjobdfjajfaa
open Go.RowKit Go.Maps
set_option linter.unusedVariables false
set_option linter.unusedSimpArgs false
theorem cells6b {w : World} {g : Nat} {a b c d e f : Value} {T : TypeId} (h : w.heap[g]? = some (.cells #[a, b, c, d, e, f] T (0, 0))) :
    w.cell? ⟨g, 0, none⟩ = some a ∧ w.cell? ⟨g, 1, none⟩ = some b ∧ w.cell? ⟨g, 2, none⟩ = some c ∧ w.cell? ⟨g, 3, none⟩ = some d ∧ w.cell? ⟨g, 4, none⟩ = some e ∧ w.cell? ⟨g, 5, none⟩ = some f :=
  ⟨cell_of_row w g 0 _ T (0, 0) h, cell_of_row w g 1 _ T (0, 0) h, cell_of_row w g 2 _ T (0, 0) h, cell_of_row w g 3 _ T (0, 0) h, cell_of_row w g 4 _ T (0, 0) h, cell_of_row w g 5 _ T (0, 0) h⟩
theorem bpCells {N bb wb m mw : Nat} {tr lw : Tm.Trail} {bx : List (Nat × Obj)} {w1 W : World} (h : BPQ N bb wb m mw tr lw bx w1 W) :
    ∃ (ta : Option Addr) (tc : Nat) (ia : Option Addr) (ic : Nat) (ra : Option Addr) (rc : Nat), W.heap[wb]? = some (.cells #[.slice ta mw tc, .slice ia mw ic, .slice ra lw.length rc] 113 (0, 0)) := by
  obtain ⟨q, l2, h1, h2, O, D, b1, _⟩ := h
  obtain ⟨ta, ia, ra, tc, ic, rc, us, is, D, R, hlu, hli, hO⟩ := b1.d.parts
  exact ⟨ta, tc, ia, ic, ra, rc, D.b⟩
theorem brings_sliceI {o : Oper} {a : Act} {w : World} {F : Value → World → Prop} (x : Tmp) (ho : o.op = Op.buildSlice 24 1 #[(0, .tmp x)]) {v : Int} (hx : a.tmps.getD x undef = .int .i64 v)
    (h : F (.slice (some ⟨w.heap.size, 0, none⟩) 1 1) (w.alloc (.cells #[.int .i64 v] 2))) : Brings Try.prog F ((execOp a.eval o).run Try.prog w) := by
  have hx' : a.tmps[x]?.getD undef = .int .i64 v := by rw [← Array.getD_eq_getD_getElem?]; exact hx
  simp only [execOp, ho, Act.eval]
  go_simp
  exact h
theorem UndS.box {b1 b2 : Bool} {Q1 Q2 : World → Prop} {w0 : World} {P : World → Prop} : ∀ (hs : List Value) (W : World), hs.length ≤ 1 → UndS b1 b2 Q1 Q2 w0 hs W → (∀ W, Turned (fun _ => False) w0 W → P W) → (∀ W, Q1 W → P W) → P W
  | [], W, _, h, h1, _ => h1 W h
  | [_], W, _, h, _, h2 => h2 W h.2
theorem UndS.val0 {b1 b2 : Bool} {Q1 Q2 : World → Prop} {w0 : World} : ∀ (hs : List Value) (W : World) {x : Value}, UndS b1 b2 Q1 Q2 w0 hs W → hs[0]? = some x → x = .bool b1
  | [], _, _, _, e => by simp at e
  | [_], _, _, h, e => by simp at e; rw [← e]; exact h.1
  | [_, _], _, _, h, e => by simp at e; rw [← e]; exact h.1
  | _ :: _ :: _ :: _, _, _, h, _ => h.elim
theorem UndS.val1 {b1 b2 : Bool} {Q1 Q2 : World → Prop} {w0 : World} : ∀ (hs : List Value) (W : World) {x : Value}, UndS b1 b2 Q1 Q2 w0 hs W → hs[1]? = some x → x = .bool b2
  | [], _, _, _, e => by simp at e
  | [_], _, _, _, e => by simp at e
  | [_, _], _, _, h, e => by simp at e; rw [← e]; exact h.2.1
  | _ :: _ :: _ :: _, _, _, h, _ => h.elim
def BPL (N bb wb n : Nat) (w1 : World) (k : Nat) (iv : Value) (wr : World) : Prop :=
  ∃ (j m : Nat) (tr : Tm.Trail), Hid (j + k = n) ∧ j ≤ n ∧ iv = .int .i64 (j : Int) ∧ m ≤ 6 + j ∧ Hid (BPQ N bb wb m m tr tr [] w1 wr)
set_option maxRecDepth 100000 in
set_option maxHeartbeats 51200000 in
theorem bindPlays {w : World} {a : Option Addr} {c : Nat} {l : List ActT} {t : LT} {n most : Int} (hl : TASl w a c l) (ht : t.In (fun _ => True) w) (hn : I64 n) (hmo : I64 most) :
    Calls Try.prog 21 #[.slice a l.length c, t.val, .int .i64 n, .int .i64 most] w fun e w' => e = .returned (.bool true) ∧ Turned (fun _ => False) w w' := by
  obtain ⟨wx, hwx⟩ : ∃ z, z = w.alloc (.cells #[.int .i64 t.kind, .int .i64 t.n, .string t.name, .slice t.at_.1 t.args.length t.at_.2] 27) := ⟨_, rfl⟩
  have TX : Turned (fun _ => False) w wx := by rw [hwx]; exact (Turned.refl _ w).alloc _
  have hbx : wx.heap[w.heap.size]? = some (.cells #[.int .i64 t.kind, .int .i64 t.n, .string t.name, .slice t.at_.1 t.args.length t.at_.2] 27 (0, 0)) := by rw [hwx]; exact heap_alloc_new w _
  have hkp := fun W (T : Turned (fun _ => False) wx W) => cells4 ((T.block _ (Array.getElem?_eq_some_iff.1 hbx).1 (fun f => f)).trans hbx)
  have HKP := Lib.hid hkp
  have HTX := Lib.hid TX
  have HWX := Lib.hid hwx
  have HT := Lib.hid (ht.turned0 TX)
  have HL := Lib.hid (hl.turned0 TX)
  have hmax := hl.max
  have hcap := hl.cap
  have HNI := Lib.hid (And.intro hn hmo)
  rw [LT.val_eq]
  clear hl ht hkp hbx hwx TX hn hmo
  by_cases h60 : 60 < l.length
  · have d60 : decide (60 < (l.length : Int)) = true := decide_eq_true (by omega)
    go_enter Try.func21, Try.ntmps21
    go_wp2_with (go_at_call 84; refine (awake84 _).mono ?_; rintro e W0 ⟨rfl, T0⟩; rw [← HWX.out] at T0; have HT0 := Lib.hid T0; clear T0)
    go_ret
    exact ⟨rfl, HTX.out.trans HT0.out⟩
  have d60 : decide (60 < (l.length : Int)) = false := decide_eq_false (by omega)
  cases dt : deepB 70 t with
  | true =>
    have HDT := Lib.hid dt
    clear dt
    go_enter Try.func21, Try.ntmps21
    go_wp2_with (first
      | (go_at_call 85; (with_reducible refine (bpDeep 70 t _ 70 rfl (by omega) (HT.out.turned0 HT0.out)).mono ?_); rintro e W1 ⟨rfl, T1⟩; rw [HDT.out]; have HT1 := Lib.hid T1; clear T1)
      | (go_at_call 84; refine (awake84 _).mono ?_; rintro e W0 ⟨rfl, T0⟩; rw [← HWX.out] at T0; obtain ⟨c0, c1, c2, c3, _⟩ := HKP.out _ T0; have HT0 := Lib.hid T0; clear T0))
    go_ret
    exact ⟨rfl, (HTX.out.trans HT0.out).trans HT1.out⟩
  | false =>
  have HDT := Lib.hid dt
  have HST := Lib.hid (deep_slim 70 t dt)
  clear dt
  go_enter Try.func21, Try.ntmps21
  go_wp2_with (first
    | (go_at_call 97; have HS1 := HS1; (with_reducible refine (bpBoth w1).mono ?_); rintro e w2 ⟨bb, wb, rfl, hB⟩; have HB := Lib.hid hB; clear hB)
    | (go_at_call 85; (with_reducible refine (bpDeep 70 t _ 70 rfl (by omega) (HT.out.turned0 HT0.out)).mono ?_); rintro e w1 ⟨rfl, T1⟩; rw [HDT.out]; have HS1 := Lib.hid (HT0.out.trans T1); clear T1 c0 c1 c2 c3)
    | (go_at_call 84; refine (awake84 _).mono ?_; rintro e W0 ⟨rfl, T0⟩; rw [← HWX.out] at T0; obtain ⟨c0, c1, c2, c3, _⟩ := HKP.out _ T0; have HT0 := Lib.hid T0; clear T0))
  have HTO : Hid (∀ W, Turned (fun _ => False) w1 W → t.In (fun k => k < w1.heap.size) W) := Lib.hid (fun W T => (((HT.out.turned0 HS1.out).mono (q := fun k => k < w1.heap.size) (fun k hk _ => hk)).turned0 T))
  have HL1 := Lib.hid (HL.out.turned0 HS1.out)
  go_loopg [11] l.length (fun k iv wr => BPL w1.heap.size bb wb l.length w1 k iv wr)
  case atStart => exact ⟨0, 6, [], Nat.zero_add _, Nat.zero_le _, rfl, by omega, HB⟩
  case round =>
    obtain ⟨j, m, tr, HG, hj, rfl, hmj, HQ0⟩ := hrel
    have HO0 := Lib.hid HQ0.out.old
    by_cases hjl : j < l.length
    · have dj : decide ((j : Int) < (l.length : Int)) = true := decide_eq_true (by omega)
      obtain ⟨z, hx⟩ : ∃ z : ActT, l[j]? = some z := ⟨_, List.getElem?_eq_getElem hjl⟩
      obtain ⟨op, i, xt⟩ := z
      have hlr := HL1.out.turned0 HO0.out
      obtain ⟨gb, go, hgo, _⟩ := hlr.lies (by omega)
      subst hgo
      obtain ⟨x0, x1, x2, x3, x4, x5⟩ := hlr.at hx
      have hwf := HL1.out.wf _ (List.mem_of_getElem? hx)
      simp only [] at x0 x1 x2 x3 x4 x5 hwf
      have HXO : Hid (∀ W, Turned (fun _ => False) w1 W → xt.In (fun k => k < w1.heap.size) W) := Lib.hid (fun W T => ((hwf.2.mono (q := fun k => k < w1.heap.size) (fun k hk _ => hk)).turned0 T))
      have HI64 := Lib.hid hwf.1
      have hB1 := HQ0.out.box (.cells #[.int .i64 op, .int .i64 i, .int .i64 xt.kind, .int .i64 xt.n, .string xt.name, .slice xt.at_.1 xt.args.length xt.at_.2] 98)
      have hO1 := hB1.old
      have HB1 := Lib.hid hB1
      have HO1 := Lib.hid hO1
      have HXT := Lib.hid (And.intro hO1 (And.intro (HXO.out _ hO1) trivial))
      have HBK := Lib.hid (fun W (T : Turned (fun _ => False) (wr.alloc (.cells #[.int .i64 op, .int .i64 i, .int .i64 xt.kind, .int .i64 xt.n, .string xt.name, .slice xt.at_.1 xt.args.length xt.at_.2] 98)) W) => cells6b ((hB1.turned0 T).boxes _ (.head _)))
      have HMJ := Lib.hid hmj
      clear hlr hwf hx hB1 hO1
      cases dx : deepB 30 xt with
      | true =>
        have HDX := Lib.hid dx
        clear dx
        obtain ⟨k0, k1, k2, k3, k4, k5⟩ := HBK.out _ (Turned.refl _ _)
        go_wp2_with (go_at_call 85; (with_reducible refine (bpDeep 30 xt _ 30 rfl (by omega) HXT.out.2.1).mono ?_); rintro e w4 ⟨rfl, T4⟩; rw [HDX.out]; obtain ⟨k0, k1, k2, k3, k4, k5⟩ := HBK.out w4 T4; have HT4 := Lib.hid T4; clear T4)
        go_ret
        exact ⟨rfl, (HTX.out.trans HS1.out).trans (HO1.out.trans HT4.out)⟩
      | false =>
      have HDX := Lib.hid dx
      have HSX := Lib.hid (deep_slim 30 xt dx)
      clear dx
      obtain ⟨k0, k1, k2, k3, k4, k5⟩ := HBK.out _ (Turned.refl _ _)
      by_cases h0 : op = 0
      · have b0 : (op == 0) = true := by simp [h0]
        have H0 := Lib.hid h0
        clear h0
        obtain ⟨E, hE⟩ : ∃ z, z = Tm.setE m tr i xt.bare := ⟨_, rfl⟩
        have HE := Lib.hid hE
        clear hE
        go_wp2_with (first
          | (go_at_call 98; have HS5 := HS5; (with_reducible refine (bpOwn ((HXO.out w5 HS5.out.old).mono (fun _ _ _ => trivial)) HSX.out).mono ?_); rintro e w6 ⟨X, rfl, hXb, hXi, T6⟩; have HX6 := Lib.hid (And.intro hXb (And.intro hXi T6)); clear hXb hXi T6)
          | (go_at_call 88; have HT4 := HT4; (with_reducible refine (bpSet rfl (HB1.out.turned0 HT4.out) (HXO.out w4 (HO1.out.trans HT4.out)) HSX.out i HI64.out).mono ?_); rintro e w5 ⟨rfl, h5⟩; rw [← HE.out] at h5 ⊢; obtain ⟨k0, k1, k2, k3, k4, k5⟩ := cells6b (h5.boxes _ (.head _)); have HS5 := Lib.hid h5; clear h5)
          | (go_at_call 85; (with_reducible refine (bpDeep 30 xt _ 30 rfl (by omega) HXT.out.2.1).mono ?_); rintro e w4 ⟨rfl, T4⟩; rw [HDX.out]; obtain ⟨k0, k1, k2, k3, k4, k5⟩ := HBK.out w4 T4; have HT4 := Lib.hid T4; clear T4))
        have h7 := (HS5.out.turned0 HX6.out.2.2).box (.cells #[.int .i64 X.kind, .int .i64 X.n, .string X.name, .slice X.at_.1 X.args.length X.at_.2] 41)
        have HK12 := Lib.hid (fun W (T : Turned (fun _ => False) (w6.alloc (.cells #[.int .i64 X.kind, .int .i64 X.n, .string X.name, .slice X.at_.1 X.args.length X.at_.2] 41)) W) => cells6b ((h7.turned0 T).boxes _ (.tail _ (.head _))))
        have HK14 := Lib.hid (fun W (T : Turned (fun _ => False) (w6.alloc (.cells #[.int .i64 X.kind, .int .i64 X.n, .string X.name, .slice X.at_.1 X.args.length X.at_.2] 41)) W) => cells4 ((h7.turned0 T).boxes _ (.head _)))
        have HXI7 := Lib.hid (fun W (T : Turned (fun _ => False) (w6.alloc (.cells #[.int .i64 X.kind, .int .i64 X.n, .string X.name, .slice X.at_.1 X.args.length X.at_.2] 41)) W) => (HX6.out.2.1.turned0 ((Turned.refl (fun _ => False) w6).alloc (.cells #[.int .i64 X.kind, .int .i64 X.n, .string X.name, .slice X.at_.1 X.args.length X.at_.2] 41))).turned0 T)
        obtain ⟨ya, yc, yb, yd, ye, yf, hdb⟩ := bpCells h7
        have HDBW := Lib.hid (fun W (T : Turned (fun _ => False) (w6.alloc (.cells #[.int .i64 X.kind, .int .i64 X.n, .string X.name, .slice X.at_.1 X.args.length X.at_.2] 41)) W) => rec3b ((T.block _ (Array.getElem?_eq_some_iff.1 hdb).1 (fun f => f)).trans hdb))
        have H7 := Lib.hid h7
        have HT57 := Lib.hid (HX6.out.2.2.alloc (.cells #[.int .i64 X.kind, .int .i64 X.n, .string X.name, .slice X.at_.1 X.args.length X.at_.2] 41))
        clear h7 hdb k0 k1 k2 k3 k4 k5
        by_cases hi0 : i < 0
        · have hE1 : E = 1 := by rw [HE.out]; exact if_neg (fun c => by have := c.1; omega)
          have b108 : decide (i < 0) = true := decide_eq_true hi0
          clear hi0
          refine wp_region_ssa' (G := (fun dd vv W => (match dd with | 106 => vv = .pointer (some ⟨wr.heap.size, 1, none⟩) | 107 => vv = .int .i64 i | 108 => vv = .bool true | 109 => vv = .bool true | 110 => vv = undef | 111 => vv = undef | 112 => vv = undef | 113 => vv = undef | 114 => vv = undef | 115 => vv = undef | 116 => vv = undef | 117 => vv = undef | 118 => vv = .bool true | 119 => vv = .bool true | 120 => vv = undef | 121 => vv = undef | 122 => vv = undef | 123 => vv = undef | 124 => vv = .bool true | 105 => vv = .bool true  | _ => True : Prop))) [106, 107, 108, 109, 110, 111, 112, 113, 114, 115, 116, 117, 118, 119, 120, 121, 122, 123, 124, 105] (by kernel_rfl) rfl (by kernel_rfl) ?hG ?hs ?hQ
          case hG => exact fun d v _ _ _ h => h
          case hs =>
            refine ⟨?s0, ?s1, ?s2, ?s3, ?s4, ?s5, ?s6, ?s7, ?s8, ?s9, ?s10, ?s11, ?s12, ?s13, ?s14, ?s15, ?s16, ?s17, ?s18, ?s19, trivial⟩
            case s0 =>
              refine stepOk_free [] [12] (by kernel_rfl) rfl ?_
              intro ac W hT hI hO
              have h12 : ac.tmps.getD 12 undef = .pointer (some ⟨wr.heap.size, 0, none⟩) := hO 12 (by simp)
              show Brings Try.prog (fun vv w' => Turned (fun _ => False) W w' ∧ vv = .pointer (some ⟨wr.heap.size, 1, none⟩)) _
              simp only [execOp, Act.eval, h12]
              go_simp
              try exact ⟨Turned.refl _ _, rfl⟩
            case s1 =>
              refine stepOk_free [106] [] (by kernel_rfl) rfl ?_
              intro ac W hT hI hO
              have h106 : ac.tmps.getD 106 undef = .pointer (some ⟨wr.heap.size, 1, none⟩) := hI 106 (by simp)
              show Brings Try.prog (fun vv w' => Turned (fun _ => False) W w' ∧ vv = .int .i64 i) _
              obtain ⟨k0, k1, k2, k3, k4, k5⟩ := HK12.out W hT
              simp only [execOp, Act.eval, h106]
              go_simp
              try exact ⟨Turned.refl _ _, rfl⟩
            case s2 =>
              refine stepOk_free [107] [] (by kernel_rfl) rfl ?_
              intro ac W hT hI hO
              have h107 : ac.tmps.getD 107 undef = .int .i64 i := hI 107 (by simp)
              show Brings Try.prog (fun vv w' => Turned (fun _ => False) W w' ∧ vv = .bool true) _
              simp only [execOp, Act.eval, h107]
              go_simp
              try exact ⟨Turned.refl _ _, rfl⟩
            case s3 =>
              refine stepOk_free [108] [] (by kernel_rfl) rfl ?_
              intro ac W hT hI hO
              have h108 : ac.tmps.getD 108 undef = .bool true := hI 108 (by simp)
              show Brings Try.prog (fun vv w' => Turned (fun _ => False) W w' ∧ vv = .bool true) _
              simp only [execOp, Act.eval, h108]
              go_simp
              try exact ⟨Turned.refl _ _, rfl⟩
            case s4 => exact stepOk_guard [109] [12] (by kernel_rfl) 3 false 109 rfl rfl (by simp) true true (fun _ _ h => h) (fun hc => by cases hc) (fun _ _ => rfl)
            case s5 => exact stepOk_guard [110, 109] [] (by kernel_rfl) 3 false 109 rfl rfl (by simp) true true (fun _ _ h => h) (fun hc => by cases hc) (fun _ _ => rfl)
            case s6 => exact stepOk_guard [109] [10] (by kernel_rfl) 3 false 109 rfl rfl (by simp) true true (fun _ _ h => h) (fun hc => by cases hc) (fun _ _ => rfl)
            case s7 => exact stepOk_guard [112, 109] [] (by kernel_rfl) 3 false 109 rfl rfl (by simp) true true (fun _ _ h => h) (fun hc => by cases hc) (fun _ _ => rfl)
            case s8 => exact stepOk_guard [113, 109] [] (by kernel_rfl) 3 false 109 rfl rfl (by simp) true true (fun _ _ h => h) (fun hc => by cases hc) (fun _ _ => rfl)
            case s9 => exact stepOk_guard [114, 109] [] (by kernel_rfl) 3 false 109 rfl rfl (by simp) true true (fun _ _ h => h) (fun hc => by cases hc) (fun _ _ => rfl)
            case s10 => exact stepOk_guard [115, 109] [] (by kernel_rfl) 3 false 109 rfl rfl (by simp) true true (fun _ _ h => h) (fun hc => by cases hc) (fun _ _ => rfl)
            case s11 => exact stepOk_guard [111, 116, 109] [] (by kernel_rfl) 3 false 109 rfl rfl (by simp) true true (fun _ _ h => h) (fun hc => by cases hc) (fun _ _ => rfl)
            case s12 =>
              refine stepOk_free [109, 117] [] (by kernel_rfl) rfl ?_
              intro ac W hT hI hO
              have h109 : ac.tmps.getD 109 undef = .bool true := hI 109 (by simp)
              have h117 : ac.tmps.getD 117 undef = undef := hI 117 (by simp)
              show Brings Try.prog (fun vv w' => Turned (fun _ => False) W w' ∧ vv = .bool true) _
              simp only [execOp, Act.eval, h109, h117]
              go_simp
              try exact ⟨Turned.refl _ _, rfl⟩
            case s13 =>
              refine stepOk_free [118] [] (by kernel_rfl) rfl ?_
              intro ac W hT hI hO
              have h118 : ac.tmps.getD 118 undef = .bool true := hI 118 (by simp)
              show Brings Try.prog (fun vv w' => Turned (fun _ => False) W w' ∧ vv = .bool true) _
              simp only [execOp, Act.eval, h118]
              go_simp
              try exact ⟨Turned.refl _ _, rfl⟩
            case s14 => exact stepOk_guard [119] [10] (by kernel_rfl) 13 false 119 rfl rfl (by simp) true true (fun _ _ h => h) (fun hc => by cases hc) (fun _ _ => rfl)
            case s15 => exact stepOk_guard [119] [14] (by kernel_rfl) 13 false 119 rfl rfl (by simp) true true (fun _ _ h => h) (fun hc => by cases hc) (fun _ _ => rfl)
            case s16 => exact stepOk_guard [120, 121, 119] [] (by kernel_rfl) 13 false 119 rfl rfl (by simp) true true (fun _ _ h => h) (fun hc => by cases hc) (fun _ _ => rfl)
            case s17 => exact stepOk_guard [122, 119] [] (by kernel_rfl) 13 false 119 rfl rfl (by simp) true true (fun _ _ h => h) (fun hc => by cases hc) (fun _ _ => rfl)
            case s18 =>
              refine stepOk_free [119, 123] [] (by kernel_rfl) rfl ?_
              intro ac W hT hI hO
              have h119 : ac.tmps.getD 119 undef = .bool true := hI 119 (by simp)
              have h123 : ac.tmps.getD 123 undef = undef := hI 123 (by simp)
              show Brings Try.prog (fun vv w' => Turned (fun _ => False) W w' ∧ vv = .bool true) _
              simp only [execOp, Act.eval, h119, h123]
              go_simp
              try exact ⟨Turned.refl _ _, rfl⟩
            case s19 =>
              refine stepOk_free [124] [] (by kernel_rfl) rfl ?_
              intro ac W hT hI hO
              have h124 : ac.tmps.getD 124 undef = .bool true := hI 124 (by simp)
              show Brings Try.prog (fun vv w' => Turned (fun _ => False) W w' ∧ vv = .bool true) _
              simp only [execOp, Act.eval, h124]
              go_simp
              try exact ⟨Turned.refl _ _, rfl⟩
          case hQ =>
            intro vs w8 T8 hV
            have q105 : vs 105 = .bool true := hV 105 (by simp)
            simp only [List.foldl_cons, List.foldl_nil, List.setIfInBounds_toArray, List.set_cons_zero, List.set_cons_succ, q105]
            subst hE1
            have h8 := H7.out.turned0 T8
            rw [if_neg (by decide)] at h8
            have HFIN := Lib.hid h8
            obtain ⟨xa, xc, xb, xd, xe, xf, hdb⟩ := bpCells h8
            obtain ⟨r0, r1, r2, _⟩ := rec3b hdb
            clear hV q105 T8 h8 hdb
            go_wp2_with (go_at_call 104; have HFIN := HFIN; (with_reducible refine (bpAlike HFIN.out).mono ?_); rintro e w20 ⟨rfl, T20⟩; have HEND := Lib.hid (HFIN.out.turned0 T20); clear T20)
            go_roundg (gk - 1)
            case measure => have := HG.out; omega
            case rel => exact ⟨j + 1, m, tr, show _ = _ by have := HG.out; omega, by omega, by go_num, by omega, HEND.out.drop⟩
        · have b108 : decide (i < 0) = false := decide_eq_false hi0
          by_cases him : i < (m : Int)
          · have b117 : decide ((m : Int) ≤ i) = false := decide_eq_false (by omega)
            cases hob : Tm.ownB m xt.bare with
            | false =>
              have hE1 : E = 1 := by rw [HE.out]; exact if_neg (fun c => by have := c.2.2; rw [hob] at this; cases this)
              have HOB : Hid (Tm.ownB m X.bare = false) := by show _ = _; rw [HX6.out.1]; exact hob
              clear hi0 him hob
              refine wp_region_ssa' (G := (fun dd vv W => (match dd with | 106 => vv = .pointer (some ⟨wr.heap.size, 1, none⟩) | 107 => vv = .int .i64 i | 108 => vv = .bool false | 109 => vv = .bool false | 110 => vv = .pointer (some ⟨wr.heap.size, 1, none⟩) | 111 => vv = .int .i64 i | 112 => vv = .pointer (some ⟨wb, 0, none⟩) | 113 => vv = .pointer (some ⟨wb, 0, none⟩) | 114 => vv = .pointer (some ⟨wb, 0, none⟩) | 115 => vv = .slice ya m yc | 116 => vv = .int .i64 (m : Int) | 117 => vv = .bool false | 118 => vv = .bool false | 119 => vv = .bool false | 120 => vv = .pointer (some ⟨wb, 0, none⟩) | 121 => vv = .agg #[.int .i64 X.kind, .int .i64 X.n, .string X.name, .slice X.at_.1 X.args.length X.at_.2] | 122 => vv = .bool false | 123 => vv = .bool true | 124 => vv = .bool true | 105 => vv = .bool true  | _ => True : Prop))) [106, 107, 108, 109, 110, 111, 112, 113, 114, 115, 116, 117, 118, 119, 120, 121, 122, 123, 124, 105] (by kernel_rfl) rfl (by kernel_rfl) ?hG ?hs ?hQ
              case hG => exact fun d v _ _ _ h => h
              case hs =>
                refine ⟨?s0, ?s1, ?s2, ?s3, ?s4, ?s5, ?s6, ?s7, ?s8, ?s9, ?s10, ?s11, ?s12, ?s13, ?s14, ?s15, ?s16, ?s17, ?s18, ?s19, trivial⟩
                case s0 =>
                  refine stepOk_free [] [12] (by kernel_rfl) rfl ?_
                  intro ac W hT hI hO
                  have h12 : ac.tmps.getD 12 undef = .pointer (some ⟨wr.heap.size, 0, none⟩) := hO 12 (by simp)
                  show Brings Try.prog (fun vv w' => Turned (fun _ => False) W w' ∧ vv = .pointer (some ⟨wr.heap.size, 1, none⟩)) _
                  simp only [execOp, Act.eval, h12]
                  go_simp
                  try exact ⟨Turned.refl _ _, rfl⟩
                case s1 =>
                  refine stepOk_free [106] [] (by kernel_rfl) rfl ?_
                  intro ac W hT hI hO
                  have h106 : ac.tmps.getD 106 undef = .pointer (some ⟨wr.heap.size, 1, none⟩) := hI 106 (by simp)
                  show Brings Try.prog (fun vv w' => Turned (fun _ => False) W w' ∧ vv = .int .i64 i) _
                  obtain ⟨k0, k1, k2, k3, k4, k5⟩ := HK12.out W hT
                  simp only [execOp, Act.eval, h106]
                  go_simp
                  try exact ⟨Turned.refl _ _, rfl⟩
                case s2 =>
                  refine stepOk_free [107] [] (by kernel_rfl) rfl ?_
                  intro ac W hT hI hO
                  have h107 : ac.tmps.getD 107 undef = .int .i64 i := hI 107 (by simp)
                  show Brings Try.prog (fun vv w' => Turned (fun _ => False) W w' ∧ vv = .bool false) _
                  simp only [execOp, Act.eval, h107]
                  go_simp
                  try exact ⟨Turned.refl _ _, rfl⟩
                case s3 =>
                  refine stepOk_free [108] [] (by kernel_rfl) rfl ?_
                  intro ac W hT hI hO
                  have h108 : ac.tmps.getD 108 undef = .bool false := hI 108 (by simp)
                  show Brings Try.prog (fun vv w' => Turned (fun _ => False) W w' ∧ vv = .bool false) _
                  simp only [execOp, Act.eval, h108]
                  go_simp
                  try exact ⟨Turned.refl _ _, rfl⟩
                case s4 =>
                  refine stepOk_guard [109] [12] (by kernel_rfl) 3 false 109 rfl rfl (by simp) true false (fun _ _ h => h) (fun hc => ?_) (fun hc => by cases hc)
                  intro ac W hT hI hO
                  have h12 : ac.tmps.getD 12 undef = .pointer (some ⟨wr.heap.size, 0, none⟩) := hO 12 (by simp)
                  show Brings Try.prog (fun vv w' => Turned (fun _ => False) W w' ∧ vv = .pointer (some ⟨wr.heap.size, 1, none⟩)) _
                  simp only [execOp, Act.eval, h12]
                  go_simp
                  try exact ⟨Turned.refl _ _, rfl⟩
                case s5 =>
                  refine stepOk_guard [110, 109] [] (by kernel_rfl) 3 false 109 rfl rfl (by simp) true false (fun _ _ h => h) (fun hc => ?_) (fun hc => by cases hc)
                  intro ac W hT hI hO
                  have h110 : ac.tmps.getD 110 undef = .pointer (some ⟨wr.heap.size, 1, none⟩) := hI 110 (by simp)
                  show Brings Try.prog (fun vv w' => Turned (fun _ => False) W w' ∧ vv = .int .i64 i) _
                  obtain ⟨k0, k1, k2, k3, k4, k5⟩ := HK12.out W hT
                  simp only [execOp, Act.eval, h110]
                  go_simp
                  try exact ⟨Turned.refl _ _, rfl⟩
                case s6 =>
                  refine stepOk_guard [109] [10] (by kernel_rfl) 3 false 109 rfl rfl (by simp) true false (fun _ _ h => h) (fun hc => ?_) (fun hc => by cases hc)
                  intro ac W hT hI hO
                  have h10 : ac.tmps.getD 10 undef = .pointer (some ⟨wb, 0, none⟩) := hO 10 (by simp)
                  show Brings Try.prog (fun vv w' => Turned (fun _ => False) W w' ∧ vv = .pointer (some ⟨wb, 0, none⟩)) _
                  simp only [execOp, Act.eval, h10]
                  go_simp
                  try exact ⟨Turned.refl _ _, rfl⟩
                case s7 =>
                  refine stepOk_guard [112, 109] [] (by kernel_rfl) 3 false 109 rfl rfl (by simp) true false (fun _ _ h => h) (fun hc => ?_) (fun hc => by cases hc)
                  intro ac W hT hI hO
                  have h112 : ac.tmps.getD 112 undef = .pointer (some ⟨wb, 0, none⟩) := hI 112 (by simp)
                  show Brings Try.prog (fun vv w' => Turned (fun _ => False) W w' ∧ vv = .pointer (some ⟨wb, 0, none⟩)) _
                  simp only [execOp, Act.eval, h112]
                  go_simp
                  try exact ⟨Turned.refl _ _, rfl⟩
                case s8 =>
                  refine stepOk_guard [113, 109] [] (by kernel_rfl) 3 false 109 rfl rfl (by simp) true false (fun _ _ h => h) (fun hc => ?_) (fun hc => by cases hc)
                  intro ac W hT hI hO
                  have h113 : ac.tmps.getD 113 undef = .pointer (some ⟨wb, 0, none⟩) := hI 113 (by simp)
                  show Brings Try.prog (fun vv w' => Turned (fun _ => False) W w' ∧ vv = .pointer (some ⟨wb, 0, none⟩)) _
                  simp only [execOp, Act.eval, h113]
                  go_simp
                  try exact ⟨Turned.refl _ _, rfl⟩
                case s9 =>
                  refine stepOk_guard [114, 109] [] (by kernel_rfl) 3 false 109 rfl rfl (by simp) true false (fun _ _ h => h) (fun hc => ?_) (fun hc => by cases hc)
                  intro ac W hT hI hO
                  have h114 : ac.tmps.getD 114 undef = .pointer (some ⟨wb, 0, none⟩) := hI 114 (by simp)
                  show Brings Try.prog (fun vv w' => Turned (fun _ => False) W w' ∧ vv = .slice ya m yc) _
                  obtain ⟨r0, r1, r2, _⟩ := HDBW.out W hT
                  simp only [execOp, Act.eval, h114]
                  go_simp
                  try exact ⟨Turned.refl _ _, rfl⟩
                case s10 =>
                  refine stepOk_guard [115, 109] [] (by kernel_rfl) 3 false 109 rfl rfl (by simp) true false (fun _ _ h => h) (fun hc => ?_) (fun hc => by cases hc)
                  intro ac W hT hI hO
                  have h115 : ac.tmps.getD 115 undef = .slice ya m yc := hI 115 (by simp)
                  show Brings Try.prog (fun vv w' => Turned (fun _ => False) W w' ∧ vv = .int .i64 (m : Int)) _
                  simp only [execOp, Act.eval, h115]
                  go_simp
                  try exact ⟨Turned.refl _ _, rfl⟩
                case s11 =>
                  refine stepOk_guard [111, 116, 109] [] (by kernel_rfl) 3 false 109 rfl rfl (by simp) true false (fun _ _ h => h) (fun hc => ?_) (fun hc => by cases hc)
                  intro ac W hT hI hO
                  have h111 : ac.tmps.getD 111 undef = .int .i64 i := hI 111 (by simp)
                  have h116 : ac.tmps.getD 116 undef = .int .i64 (m : Int) := hI 116 (by simp)
                  show Brings Try.prog (fun vv w' => Turned (fun _ => False) W w' ∧ vv = .bool false) _
                  simp only [execOp, Act.eval, h111, h116]
                  go_simp
                  try exact ⟨Turned.refl _ _, rfl⟩
                case s12 =>
                  refine stepOk_free [109, 117] [] (by kernel_rfl) rfl ?_
                  intro ac W hT hI hO
                  have h109 : ac.tmps.getD 109 undef = .bool false := hI 109 (by simp)
                  have h117 : ac.tmps.getD 117 undef = .bool false := hI 117 (by simp)
                  show Brings Try.prog (fun vv w' => Turned (fun _ => False) W w' ∧ vv = .bool false) _
                  simp only [execOp, Act.eval, h109, h117]
                  go_simp
                  try exact ⟨Turned.refl _ _, rfl⟩
                case s13 =>
                  refine stepOk_free [118] [] (by kernel_rfl) rfl ?_
                  intro ac W hT hI hO
                  have h118 : ac.tmps.getD 118 undef = .bool false := hI 118 (by simp)
                  show Brings Try.prog (fun vv w' => Turned (fun _ => False) W w' ∧ vv = .bool false) _
                  simp only [execOp, Act.eval, h118]
                  go_simp
                  try exact ⟨Turned.refl _ _, rfl⟩
                case s14 =>
                  refine stepOk_guard [119] [10] (by kernel_rfl) 13 false 119 rfl rfl (by simp) true false (fun _ _ h => h) (fun hc => ?_) (fun hc => by cases hc)
                  intro ac W hT hI hO
                  have h10 : ac.tmps.getD 10 undef = .pointer (some ⟨wb, 0, none⟩) := hO 10 (by simp)
                  show Brings Try.prog (fun vv w' => Turned (fun _ => False) W w' ∧ vv = .pointer (some ⟨wb, 0, none⟩)) _
                  simp only [execOp, Act.eval, h10]
                  go_simp
                  try exact ⟨Turned.refl _ _, rfl⟩
                case s15 =>
                  refine stepOk_guard [119] [14] (by kernel_rfl) 13 false 119 rfl rfl (by simp) true false (fun _ _ h => h) (fun hc => ?_) (fun hc => by cases hc)
                  intro ac W hT hI hO
                  have h14 : ac.tmps.getD 14 undef = .pointer (some ⟨w6.heap.size, 0, none⟩) := hO 14 (by simp)
                  show Brings Try.prog (fun vv w' => Turned (fun _ => False) W w' ∧ vv = .agg #[.int .i64 X.kind, .int .i64 X.n, .string X.name, .slice X.at_.1 X.args.length X.at_.2]) _
                  obtain ⟨c0, c1, c2, c3, _⟩ := HK14.out W hT
                  simp only [execOp, Act.eval, h14]
                  go_simp
                  try exact ⟨Turned.refl _ _, rfl⟩
                case s16 =>
                  refine stepOk_guard [120, 121, 119] [] (by kernel_rfl) 13 false 119 rfl rfl (by simp) true false (fun _ _ h => h) (fun hc => ?_) (fun hc => by cases hc)
                  intro ac W hT hI hO
                  have h120 : ac.tmps.getD 120 undef = .pointer (some ⟨wb, 0, none⟩) := hI 120 (by simp)
                  have h121 : ac.tmps.getD 121 undef = .agg #[.int .i64 X.kind, .int .i64 X.n, .string X.name, .slice X.at_.1 X.args.length X.at_.2] := hI 121 (by simp)
                  show Brings Try.prog (fun vv w' => Turned (fun _ => False) W w' ∧ vv = .bool false) _
                  simp only [execOp, Act.eval, h120, h121]
                  go_simp
                  show Calls Try.prog 99 _ W _
                  (with_reducible refine (bpKnown (H7.out.turned0 hT) (HXI7.out W hT) HOB.out).mono ?_)
                  rintro e w' ⟨rfl, T'⟩
                  exact ⟨_, rfl, T', rfl⟩
                case s17 =>
                  refine stepOk_guard [122, 119] [] (by kernel_rfl) 13 false 119 rfl rfl (by simp) true false (fun _ _ h => h) (fun hc => ?_) (fun hc => by cases hc)
                  intro ac W hT hI hO
                  have h122 : ac.tmps.getD 122 undef = .bool false := hI 122 (by simp)
                  show Brings Try.prog (fun vv w' => Turned (fun _ => False) W w' ∧ vv = .bool true) _
                  simp only [execOp, Act.eval, h122]
                  go_simp
                  try exact ⟨Turned.refl _ _, rfl⟩
                case s18 =>
                  refine stepOk_free [119, 123] [] (by kernel_rfl) rfl ?_
                  intro ac W hT hI hO
                  have h119 : ac.tmps.getD 119 undef = .bool false := hI 119 (by simp)
                  have h123 : ac.tmps.getD 123 undef = .bool true := hI 123 (by simp)
                  show Brings Try.prog (fun vv w' => Turned (fun _ => False) W w' ∧ vv = .bool true) _
                  simp only [execOp, Act.eval, h119, h123]
                  go_simp
                  try exact ⟨Turned.refl _ _, rfl⟩
                case s19 =>
                  refine stepOk_free [124] [] (by kernel_rfl) rfl ?_
                  intro ac W hT hI hO
                  have h124 : ac.tmps.getD 124 undef = .bool true := hI 124 (by simp)
                  show Brings Try.prog (fun vv w' => Turned (fun _ => False) W w' ∧ vv = .bool true) _
                  simp only [execOp, Act.eval, h124]
                  go_simp
                  try exact ⟨Turned.refl _ _, rfl⟩
              case hQ =>
                intro vs w8 T8 hV
                have q105 : vs 105 = .bool true := hV 105 (by simp)
                simp only [List.foldl_cons, List.foldl_nil, List.setIfInBounds_toArray, List.set_cons_zero, List.set_cons_succ, q105]
                subst hE1
                have h8 := H7.out.turned0 T8
                rw [if_neg (by decide)] at h8
                have HFIN := Lib.hid h8
                obtain ⟨xa, xc, xb, xd, xe, xf, hdb⟩ := bpCells h8
                obtain ⟨r0, r1, r2, _⟩ := rec3b hdb
                clear hV q105 T8 h8 hdb
                go_wp2_with (go_at_call 104; have HFIN := HFIN; (with_reducible refine (bpAlike HFIN.out).mono ?_); rintro e w20 ⟨rfl, T20⟩; have HEND := Lib.hid (HFIN.out.turned0 T20); clear T20)
                go_roundg (gk - 1)
                case measure => have := HG.out; omega
                case rel => exact ⟨j + 1, m, tr, show _ = _ by have := HG.out; omega, by omega, by go_num, by omega, HEND.out.drop⟩
            | true =>
              have HOB : Hid (Tm.ownB m X.bare = true) := by show _ = _; rw [HX6.out.1]; exact hob
              have HOX := Lib.hid hob
              obtain ⟨I, rfl⟩ : ∃ I : Nat, i = I := ⟨i.toNat, by omega⟩
              have hIm : I < m := by omega
              have b117n : decide (m ≤ I) = false := decide_eq_false (by omega)
              clear hi0 him hob
              refine wp_region_ssa' (G := (fun dd vv W => (match dd with | 106 => vv = .pointer (some ⟨wr.heap.size, 1, none⟩) | 107 => vv = .int .i64 (I : Int) | 108 => vv = .bool false | 109 => vv = .bool false | 110 => vv = .pointer (some ⟨wr.heap.size, 1, none⟩) | 111 => vv = .int .i64 (I : Int) | 112 => vv = .pointer (some ⟨wb, 0, none⟩) | 113 => vv = .pointer (some ⟨wb, 0, none⟩) | 114 => vv = .pointer (some ⟨wb, 0, none⟩) | 115 => vv = .slice ya m yc | 116 => vv = .int .i64 (m : Int) | 117 => vv = .bool false | 118 => vv = .bool false | 119 => vv = .bool false | 120 => vv = .pointer (some ⟨wb, 0, none⟩) | 121 => vv = .agg #[.int .i64 X.kind, .int .i64 X.n, .string X.name, .slice X.at_.1 X.args.length X.at_.2] | 122 => vv = .bool true | 123 => vv = .bool false | 124 => vv = .bool false | 105 => vv = .bool false  | _ => True : Prop))) [106, 107, 108, 109, 110, 111, 112, 113, 114, 115, 116, 117, 118, 119, 120, 121, 122, 123, 124, 105] (by kernel_rfl) rfl (by kernel_rfl) ?hG ?hs ?hQ
              case hG => exact fun d v _ _ _ h => h
              case hs =>
                refine ⟨?s0, ?s1, ?s2, ?s3, ?s4, ?s5, ?s6, ?s7, ?s8, ?s9, ?s10, ?s11, ?s12, ?s13, ?s14, ?s15, ?s16, ?s17, ?s18, ?s19, trivial⟩
                case s0 =>
                  refine stepOk_free [] [12] (by kernel_rfl) rfl ?_
                  intro ac W hT hI hO
                  have h12 : ac.tmps.getD 12 undef = .pointer (some ⟨wr.heap.size, 0, none⟩) := hO 12 (by simp)
                  show Brings Try.prog (fun vv w' => Turned (fun _ => False) W w' ∧ vv = .pointer (some ⟨wr.heap.size, 1, none⟩)) _
                  simp only [execOp, Act.eval, h12]
                  go_simp
                  try exact ⟨Turned.refl _ _, rfl⟩
                case s1 =>
                  refine stepOk_free [106] [] (by kernel_rfl) rfl ?_
                  intro ac W hT hI hO
                  have h106 : ac.tmps.getD 106 undef = .pointer (some ⟨wr.heap.size, 1, none⟩) := hI 106 (by simp)
                  show Brings Try.prog (fun vv w' => Turned (fun _ => False) W w' ∧ vv = .int .i64 (I : Int)) _
                  obtain ⟨k0, k1, k2, k3, k4, k5⟩ := HK12.out W hT
                  simp only [execOp, Act.eval, h106]
                  go_simp
                  try exact ⟨Turned.refl _ _, rfl⟩
                case s2 =>
                  refine stepOk_free [107] [] (by kernel_rfl) rfl ?_
                  intro ac W hT hI hO
                  have h107 : ac.tmps.getD 107 undef = .int .i64 (I : Int) := hI 107 (by simp)
                  show Brings Try.prog (fun vv w' => Turned (fun _ => False) W w' ∧ vv = .bool false) _
                  simp only [execOp, Act.eval, h107]
                  go_simp
                  try exact ⟨Turned.refl _ _, rfl⟩
                case s3 =>
                  refine stepOk_free [108] [] (by kernel_rfl) rfl ?_
                  intro ac W hT hI hO
                  have h108 : ac.tmps.getD 108 undef = .bool false := hI 108 (by simp)
                  show Brings Try.prog (fun vv w' => Turned (fun _ => False) W w' ∧ vv = .bool false) _
                  simp only [execOp, Act.eval, h108]
                  go_simp
                  try exact ⟨Turned.refl _ _, rfl⟩
                case s4 =>
                  refine stepOk_guard [109] [12] (by kernel_rfl) 3 false 109 rfl rfl (by simp) true false (fun _ _ h => h) (fun hc => ?_) (fun hc => by cases hc)
                  intro ac W hT hI hO
                  have h12 : ac.tmps.getD 12 undef = .pointer (some ⟨wr.heap.size, 0, none⟩) := hO 12 (by simp)
                  show Brings Try.prog (fun vv w' => Turned (fun _ => False) W w' ∧ vv = .pointer (some ⟨wr.heap.size, 1, none⟩)) _
                  simp only [execOp, Act.eval, h12]
                  go_simp
                  try exact ⟨Turned.refl _ _, rfl⟩
                case s5 =>
                  refine stepOk_guard [110, 109] [] (by kernel_rfl) 3 false 109 rfl rfl (by simp) true false (fun _ _ h => h) (fun hc => ?_) (fun hc => by cases hc)
                  intro ac W hT hI hO
                  have h110 : ac.tmps.getD 110 undef = .pointer (some ⟨wr.heap.size, 1, none⟩) := hI 110 (by simp)
                  show Brings Try.prog (fun vv w' => Turned (fun _ => False) W w' ∧ vv = .int .i64 (I : Int)) _
                  obtain ⟨k0, k1, k2, k3, k4, k5⟩ := HK12.out W hT
                  simp only [execOp, Act.eval, h110]
                  go_simp
                  try exact ⟨Turned.refl _ _, rfl⟩
                case s6 =>
                  refine stepOk_guard [109] [10] (by kernel_rfl) 3 false 109 rfl rfl (by simp) true false (fun _ _ h => h) (fun hc => ?_) (fun hc => by cases hc)
                  intro ac W hT hI hO
                  have h10 : ac.tmps.getD 10 undef = .pointer (some ⟨wb, 0, none⟩) := hO 10 (by simp)
                  show Brings Try.prog (fun vv w' => Turned (fun _ => False) W w' ∧ vv = .pointer (some ⟨wb, 0, none⟩)) _
                  simp only [execOp, Act.eval, h10]
                  go_simp
                  try exact ⟨Turned.refl _ _, rfl⟩
                case s7 =>
                  refine stepOk_guard [112, 109] [] (by kernel_rfl) 3 false 109 rfl rfl (by simp) true false (fun _ _ h => h) (fun hc => ?_) (fun hc => by cases hc)
                  intro ac W hT hI hO
                  have h112 : ac.tmps.getD 112 undef = .pointer (some ⟨wb, 0, none⟩) := hI 112 (by simp)
                  show Brings Try.prog (fun vv w' => Turned (fun _ => False) W w' ∧ vv = .pointer (some ⟨wb, 0, none⟩)) _
                  simp only [execOp, Act.eval, h112]
                  go_simp
                  try exact ⟨Turned.refl _ _, rfl⟩
                case s8 =>
                  refine stepOk_guard [113, 109] [] (by kernel_rfl) 3 false 109 rfl rfl (by simp) true false (fun _ _ h => h) (fun hc => ?_) (fun hc => by cases hc)
                  intro ac W hT hI hO
                  have h113 : ac.tmps.getD 113 undef = .pointer (some ⟨wb, 0, none⟩) := hI 113 (by simp)
                  show Brings Try.prog (fun vv w' => Turned (fun _ => False) W w' ∧ vv = .pointer (some ⟨wb, 0, none⟩)) _
                  simp only [execOp, Act.eval, h113]
                  go_simp
                  try exact ⟨Turned.refl _ _, rfl⟩
                case s9 =>
                  refine stepOk_guard [114, 109] [] (by kernel_rfl) 3 false 109 rfl rfl (by simp) true false (fun _ _ h => h) (fun hc => ?_) (fun hc => by cases hc)
                  intro ac W hT hI hO
                  have h114 : ac.tmps.getD 114 undef = .pointer (some ⟨wb, 0, none⟩) := hI 114 (by simp)
                  show Brings Try.prog (fun vv w' => Turned (fun _ => False) W w' ∧ vv = .slice ya m yc) _
                  obtain ⟨r0, r1, r2, _⟩ := HDBW.out W hT
                  simp only [execOp, Act.eval, h114]
                  go_simp
                  try exact ⟨Turned.refl _ _, rfl⟩
                case s10 =>
                  refine stepOk_guard [115, 109] [] (by kernel_rfl) 3 false 109 rfl rfl (by simp) true false (fun _ _ h => h) (fun hc => ?_) (fun hc => by cases hc)
                  intro ac W hT hI hO
                  have h115 : ac.tmps.getD 115 undef = .slice ya m yc := hI 115 (by simp)
                  show Brings Try.prog (fun vv w' => Turned (fun _ => False) W w' ∧ vv = .int .i64 (m : Int)) _
                  simp only [execOp, Act.eval, h115]
                  go_simp
                  try exact ⟨Turned.refl _ _, rfl⟩
                case s11 =>
                  refine stepOk_guard [111, 116, 109] [] (by kernel_rfl) 3 false 109 rfl rfl (by simp) true false (fun _ _ h => h) (fun hc => ?_) (fun hc => by cases hc)
                  intro ac W hT hI hO
                  have h111 : ac.tmps.getD 111 undef = .int .i64 (I : Int) := hI 111 (by simp)
                  have h116 : ac.tmps.getD 116 undef = .int .i64 (m : Int) := hI 116 (by simp)
                  show Brings Try.prog (fun vv w' => Turned (fun _ => False) W w' ∧ vv = .bool false) _
                  simp only [execOp, Act.eval, h111, h116]
                  go_simp
                  try exact ⟨Turned.refl _ _, rfl⟩
                case s12 =>
                  refine stepOk_free [109, 117] [] (by kernel_rfl) rfl ?_
                  intro ac W hT hI hO
                  have h109 : ac.tmps.getD 109 undef = .bool false := hI 109 (by simp)
                  have h117 : ac.tmps.getD 117 undef = .bool false := hI 117 (by simp)
                  show Brings Try.prog (fun vv w' => Turned (fun _ => False) W w' ∧ vv = .bool false) _
                  simp only [execOp, Act.eval, h109, h117]
                  go_simp
                  try exact ⟨Turned.refl _ _, rfl⟩
                case s13 =>
                  refine stepOk_free [118] [] (by kernel_rfl) rfl ?_
                  intro ac W hT hI hO
                  have h118 : ac.tmps.getD 118 undef = .bool false := hI 118 (by simp)
                  show Brings Try.prog (fun vv w' => Turned (fun _ => False) W w' ∧ vv = .bool false) _
                  simp only [execOp, Act.eval, h118]
                  go_simp
                  try exact ⟨Turned.refl _ _, rfl⟩
                case s14 =>
                  refine stepOk_guard [119] [10] (by kernel_rfl) 13 false 119 rfl rfl (by simp) true false (fun _ _ h => h) (fun hc => ?_) (fun hc => by cases hc)
                  intro ac W hT hI hO
                  have h10 : ac.tmps.getD 10 undef = .pointer (some ⟨wb, 0, none⟩) := hO 10 (by simp)
                  show Brings Try.prog (fun vv w' => Turned (fun _ => False) W w' ∧ vv = .pointer (some ⟨wb, 0, none⟩)) _
                  simp only [execOp, Act.eval, h10]
                  go_simp
                  try exact ⟨Turned.refl _ _, rfl⟩
                case s15 =>
                  refine stepOk_guard [119] [14] (by kernel_rfl) 13 false 119 rfl rfl (by simp) true false (fun _ _ h => h) (fun hc => ?_) (fun hc => by cases hc)
                  intro ac W hT hI hO
                  have h14 : ac.tmps.getD 14 undef = .pointer (some ⟨w6.heap.size, 0, none⟩) := hO 14 (by simp)
                  show Brings Try.prog (fun vv w' => Turned (fun _ => False) W w' ∧ vv = .agg #[.int .i64 X.kind, .int .i64 X.n, .string X.name, .slice X.at_.1 X.args.length X.at_.2]) _
                  obtain ⟨c0, c1, c2, c3, _⟩ := HK14.out W hT
                  simp only [execOp, Act.eval, h14]
                  go_simp
                  try exact ⟨Turned.refl _ _, rfl⟩
                case s16 =>
                  refine stepOk_guard [120, 121, 119] [] (by kernel_rfl) 13 false 119 rfl rfl (by simp) true false (fun _ _ h => h) (fun hc => ?_) (fun hc => by cases hc)
                  intro ac W hT hI hO
                  have h120 : ac.tmps.getD 120 undef = .pointer (some ⟨wb, 0, none⟩) := hI 120 (by simp)
                  have h121 : ac.tmps.getD 121 undef = .agg #[.int .i64 X.kind, .int .i64 X.n, .string X.name, .slice X.at_.1 X.args.length X.at_.2] := hI 121 (by simp)
                  show Brings Try.prog (fun vv w' => Turned (fun _ => False) W w' ∧ vv = .bool true) _
                  simp only [execOp, Act.eval, h120, h121]
                  go_simp
                  show Calls Try.prog 99 _ W _
                  (with_reducible refine (bpKnown (H7.out.turned0 hT) (HXI7.out W hT) HOB.out).mono ?_)
                  rintro e w' ⟨rfl, T'⟩
                  exact ⟨_, rfl, T', rfl⟩
                case s17 =>
                  refine stepOk_guard [122, 119] [] (by kernel_rfl) 13 false 119 rfl rfl (by simp) true false (fun _ _ h => h) (fun hc => ?_) (fun hc => by cases hc)
                  intro ac W hT hI hO
                  have h122 : ac.tmps.getD 122 undef = .bool true := hI 122 (by simp)
                  show Brings Try.prog (fun vv w' => Turned (fun _ => False) W w' ∧ vv = .bool false) _
                  simp only [execOp, Act.eval, h122]
                  go_simp
                  try exact ⟨Turned.refl _ _, rfl⟩
                case s18 =>
                  refine stepOk_free [119, 123] [] (by kernel_rfl) rfl ?_
                  intro ac W hT hI hO
                  have h119 : ac.tmps.getD 119 undef = .bool false := hI 119 (by simp)
                  have h123 : ac.tmps.getD 123 undef = .bool false := hI 123 (by simp)
                  show Brings Try.prog (fun vv w' => Turned (fun _ => False) W w' ∧ vv = .bool false) _
                  simp only [execOp, Act.eval, h119, h123]
                  go_simp
                  try exact ⟨Turned.refl _ _, rfl⟩
                case s19 =>
                  refine stepOk_free [124] [] (by kernel_rfl) rfl ?_
                  intro ac W hT hI hO
                  have h124 : ac.tmps.getD 124 undef = .bool false := hI 124 (by simp)
                  show Brings Try.prog (fun vv w' => Turned (fun _ => False) W w' ∧ vv = .bool false) _
                  simp only [execOp, Act.eval, h124]
                  go_simp
                  try exact ⟨Turned.refl _ _, rfl⟩
              case hQ =>
                intro vs w8 T8 hV
                have q105 : vs 105 = .bool false := hV 105 (by simp)
                simp only [List.foldl_cons, List.foldl_nil, List.setIfInBounds_toArray, List.set_cons_zero, List.set_cons_succ, q105]
                have HT8 := Lib.hid T8
                have HISC : Hid (∃ (ta ia ra : Option Addr) (tc rc gi ic : Nat), w8.heap[wb]? = some (.cells #[.slice ta m tc, .slice (some ⟨gi, 0, none⟩) m ic, .slice ra tr.length rc] 113 (0, 0)) ∧ w8.cell? ⟨gi, I, none⟩ = some (.bool (decide ((I : Int) ∈ Tm.dom tr)))) := by
                  obtain ⟨q, tl, g1, g2, O, D, b1, _⟩ := H7.out.turned0 T8
                  obtain ⟨ta, ia, ra, tc, ic, rc, us, is, DBB, R, hlu, hli, hO⟩ := b1.d.parts
                  have hbs := DBB.bools
                  rw [hli] at hbs
                  obtain ⟨gi, ci, hie⟩ := hbs.shape_pos (by omega)
                  injection hie with e1 _ e3
                  subst e1 e3
                  exact ⟨ta, none, ra, tc, rc, gi, ic, DBB.b, hbs.cells rfl I (.bool (decide ((I : Int) ∈ Tm.dom tr))) (by rw [List.getElem?_map, R.set I hIm]; rfl)⟩
                obtain ⟨ta, ia, ra, tc, rc, gi0, ic, hwb8, hisc⟩ := HISC.out
                obtain ⟨r0, r1, r2, _⟩ := rec3b hwb8
                obtain ⟨k0, k1, k2, k3, k4, k5⟩ := HK12.out w8 T8
                clear hV q105 T8 hwb8
                by_cases hd : (I : Int) ∈ Tm.dom tr
                · rw [decide_eq_true hd] at hisc
                  have hE1 : E = 8 := by rw [HE.out]; unfold Tm.setE; rw [if_pos ⟨by omega, by omega, HOX.out⟩, if_pos hd]
                  subst hE1
                  clear hd
                  go_wp2_with fail
                  go_quiet (fail)
                  have h9 := H7.out.turned0 (HT8.out.drewN nq)
                  rw [if_neg (by decide)] at h9
                  have HFIN := Lib.hid h9
                  clear r0 r1 r2 k0 k1 k2 k3 k4 k5 hisc
                  obtain ⟨xa, xc, xb, xd, xe, xf, hdb⟩ := bpCells h9
                  obtain ⟨r0, r1, r2, _⟩ := rec3b hdb
                  clear h9 hdb
                  go_wp2_with (go_at_call 104; have HFIN := HFIN; (with_reducible refine (bpAlike HFIN.out).mono ?_); rintro e w20 ⟨rfl, T20⟩; have HEND := Lib.hid (HFIN.out.turned0 T20); clear T20)
                  go_roundg (gk - 1)
                  case measure => have := HG.out; omega
                  case rel => exact ⟨j + 1, m, tr, show _ = _ by have := HG.out; omega, by omega, by go_num, by omega, HEND.out.drop⟩
                · rw [decide_eq_false hd] at hisc
                  obtain ⟨R, hR⟩ : ∃ z, z = hasR m tr (I : Int) X.bare (100000 : Int).toNat := ⟨_, rfl⟩
                  obtain ⟨hb, hc⟩ := R
                  have HR := Lib.hid hR.symm
                  have hRL : (hb, hc) = Tm.hasL 100000 (I : Int) 0 (Tm.img tr xt.bare).flat := by
                    rw [hR]; unfold hasR; rw [if_pos HOB.out, HX6.out.1]; rfl
                  have hSE : E = (if (I : Int) ∈ (Tm.img tr xt.bare).vars then 5 else 0) := by rw [HE.out]; unfold Tm.setE; rw [if_pos ⟨by omega, by omega, HOX.out⟩, if_neg hd]
                  have hhv := Tm.hasL_vars (most := 100000) (n := (I : Int)) (t := Tm.img tr xt.bare)
                  rw [← hRL] at hhv
                  have HND := Lib.hid hd
                  have HSE := Lib.hid hSE
                  have HHV := Lib.hid hhv
                  clear hR hRL hd hSE hhv
                  go_wp2_with fail
                  go_quiet (fail)
                  have HTQ := Lib.hid ((HT57.out.trans HT8.out).drewN nq)
                  have HKQ := Lib.hid (HT8.out.drewN nq)
                  clear r0 r1 r2 k0 k1 k2 k3 k4 k5 hisc
                  obtain ⟨k0, k1, k2, k3, k4, k5⟩ := HK12.out _ HKQ.out
                  obtain ⟨c0, c1, c2, c3, _⟩ := HK14.out _ HKQ.out
                  by_cases hk : 100000 < hc
                  · have d4 : decide (100000 < (hc : Int)) = true := decide_eq_true (by omega)
                    clear hk
                    go_wp2_with (go_at_call 100; (with_reducible refine (bpHasD HS5.out HTQ.out (HX6.out.2.1.turned0 (((Turned.refl (fun _ => False) w6).alloc (.cells #[.int .i64 X.kind, .int .i64 X.n, .string X.name, .slice X.at_.1 X.args.length X.at_.2] 41)).trans HKQ.out)) (by omega) (by omega) HR.out).mono ?_); rintro e w9 ⟨rfl, T9⟩; have HT9 := Lib.hid (HTQ.out.trans T9); have HT79 := Lib.hid (HKQ.out.trans T9); obtain ⟨xa, xc, xb, xd, xe, xf, hdb9⟩ := bpCells (HS5.out.turned0 (HTQ.out.trans T9)); obtain ⟨r0, r1, r2, _⟩ := rec3b hdb9; clear T9 hdb9)
                    go_ret
                    exact ⟨rfl, (HTX.out.trans HS1.out).trans (HS5.out.old.trans HT9.out)⟩
                  · have d4 : decide (100000 < (hc : Int)) = false := decide_eq_false (by omega)
                    have hhv : hb = decide ((I : Int) ∈ (Tm.img tr xt.bare).vars) := HHV.out (show hc ≤ 100000 by omega)
                    have hSE := HSE.out
                    clear HHV HSE
                    cases hb with
                    | true =>
                      have hE1 : E = 5 := by rw [hSE, if_pos (of_decide_eq_true hhv.symm)]
                      subst hE1
                      clear hhv hSE hk
                      go_wp2_with (first
                        | (go_at_call 104; have HT9 := HT9; have h9 := HS5.out.turned0 HT9.out; rw [if_neg (by decide)] at h9; (with_reducible refine (bpAlike h9).mono ?_); rintro e w20 ⟨rfl, T20⟩; have HEND := Lib.hid (h9.turned0 T20); clear T20 h9)
                        | (go_at_call 100; (with_reducible refine (bpHasD HS5.out HTQ.out (HX6.out.2.1.turned0 (((Turned.refl (fun _ => False) w6).alloc (.cells #[.int .i64 X.kind, .int .i64 X.n, .string X.name, .slice X.at_.1 X.args.length X.at_.2] 41)).trans HKQ.out)) (by omega) (by omega) HR.out).mono ?_); rintro e w9 ⟨rfl, T9⟩; have HT9 := Lib.hid (HTQ.out.trans T9); have HT79 := Lib.hid (HKQ.out.trans T9); obtain ⟨xa, xc, xb, xd, xe, xf, hdb9⟩ := bpCells (HS5.out.turned0 (HTQ.out.trans T9)); obtain ⟨r0, r1, r2, _⟩ := rec3b hdb9; clear T9 hdb9))
                      go_roundg (gk - 1)
                      case measure => have := HG.out; omega
                      case rel => exact ⟨j + 1, m, tr, show _ = _ by have := HG.out; omega, by omega, by go_num, by omega, HEND.out.drop⟩
                    | false =>
                      have hE1 : E = 0 := by rw [hSE, if_neg (of_decide_eq_false hhv.symm)]
                      have hok : Tm.okT m (((I : Int), xt.bare) :: tr) := Tm.setE_ok HQ0.out.ok (by rw [← HE.out, hE1])
                      have HOK := Lib.hid hok
                      subst hE1
                      clear hhv hSE hk hok
                      go_wp2_with (go_at_call 100; (with_reducible refine (bpHasD HS5.out HTQ.out (HX6.out.2.1.turned0 (((Turned.refl (fun _ => False) w6).alloc (.cells #[.int .i64 X.kind, .int .i64 X.n, .string X.name, .slice X.at_.1 X.args.length X.at_.2] 41)).trans HKQ.out)) (by omega) (by omega) HR.out).mono ?_); rintro e w9 ⟨rfl, T9⟩; have HT9 := Lib.hid (HTQ.out.trans T9); have HT79 := Lib.hid (HKQ.out.trans T9); obtain ⟨xa, xc, xb, xd, xe, xf, hdb9⟩ := bpCells (HS5.out.turned0 (HTQ.out.trans T9)); obtain ⟨r0, r1, r2, _⟩ := rec3b hdb9; clear T9 hdb9)
                      obtain ⟨i0, hi0, hz0, hz1, hz2⟩ := info_parts infoN3
                      obtain ⟨q, tl, g1, g2, O, D, b1, b2, b3, b4, b5⟩ := HS5.out
                      have hBG := b1.grown HT9.out
                      have g2 := g2.trans (show _ = ((I : Int), xt.bare) :: tr by simp)
                      obtain ⟨ta, ia, ra, tc, ic, rcc, us, is, DBB, R9, hlu, hli, hO⟩ := hBG.d.parts
                      have hbs := DBB.bools
                      have hts := DBB.row
                      rw [hli] at hbs
                      rw [hlu] at hts
                      obtain ⟨gi, ci, hie⟩ := hbs.shape_pos (by omega)
                      obtain ⟨gt, ct, hte⟩ := hts.shape_pos (by omega)
                      injection hie with e1 _ e3
                      injection hte with e4 _ e6
                      subst e1 e3 e4 e6
                      have hlen : (Tm.dom tr).reverse.length = tr.length := by unfold Tm.dom; rw [List.length_reverse, List.length_map]
                      have htl := Tm.okT_length hBG.d.ok
                      have hm65 := hBG.d.most
                      have hne := DBB.ne
                      have htrw := DBB.trail
                      rw [hlen] at htrw
                      have hmxr := htrw.max
                      have hDl := b1.d.lt
                      obtain ⟨p1, p2, p3⟩ := b5 _ (.head _)
                      have h12 := (Array.getElem?_eq_some_iff.1 p1).1
                      have hb9 := (HT9.out.block _ h12 (fun f => f)).trans p1
                      have hb14 := ((HT79.out.block _ (by show w6.heap.size < (w6.heap.push _).size; rw [Array.size_push]; omega) (fun f => f)).trans (heap_alloc_new w6 (.cells #[.int .i64 X.kind, .int .i64 X.n, .string X.name, .slice X.at_.1 X.args.length X.at_.2] 41)))
                      have h65 := HX6.out.2.2.size
                      simp only [] at p3 h12
                      have HHO := Lib.hid hO
                      have HUL := Lib.hid (And.intro hlu hli)
                      have HGG : Hid (gt ≠ gi) := fun e => (hne.2.2.2.1 gt rfl).1 (by rw [e]; rfl)
                      have HR1 := Lib.hid hts
                      have HR2 := Lib.hid hbs
                      have hgtw : gt ≠ wb := fun e => hne.1 (by rw [e]; rfl)
                      have hgiw : gi ≠ wb := fun e => hne.2.1 (by rw [e]; rfl)
                      have hgt12 : gt ≠ wr.heap.size := fun e => p3 (e ▸ hO gt (.inr (.inl rfl)))
                      have hgi12 : gi ≠ wr.heap.size := fun e => p3 (e ▸ hO gi (.inr (.inr (.inl rfl))))
                      have hgt14 : gt ≠ w6.heap.size := fun e => by have := hDl gt (hO gt (.inr (.inl rfl))); omega
                      have hgi14 : gi ≠ w6.heap.size := fun e => by have := hDl gi (hO gi (.inr (.inr (.inl rfl)))); omega
                      have hrv : ∀ k, (Value.slice ra tr.length rcc).ownBlock = some k → k ≠ gt ∧ k ≠ gi ∧ k ≠ wb ∧ k ≠ wr.heap.size := fun k hk => ⟨fun e => (hne.2.2.2.1 gt rfl).2 (e ▸ hk), fun e => hne.2.2.2.2 gi rfl (e ▸ hk), fun e => hne.2.2.1 (e ▸ hk), fun e => p3 (e ▸ hO k (.inr (.inr (.inr hk))))⟩
                      have HRV := Lib.hid hrv
                      have HDW := Lib.hid (fun W (T : Turned (fun k => k = gt ∨ k = gi) w9 W) => (T.block wb (Array.getElem?_eq_some_iff.1 DBB.b).1 (fun e => by omega)).trans DBB.b)
                      have HB12 := Lib.hid (fun W (T : Turned (fun k => k = gt ∨ k = gi) w9 W) => (T.block wr.heap.size (Array.getElem?_eq_some_iff.1 hb9).1 (fun e => by omega)).trans hb9)
                      have HB14 := Lib.hid (fun W (T : Turned (fun k => k = gt ∨ k = gi) w9 W) => (T.block w6.heap.size (Array.getElem?_eq_some_iff.1 hb14).1 (fun e => by omega)).trans hb14)
                      have HTRW := Lib.hid htrw
                      have HDBB := Lib.hid DBB
                      have HR9 := Lib.hid R9
                      have HBG := Lib.hid hBG
                      have HFACT := Lib.hid (And.intro g1 (And.intro g2 (And.intro b2 (And.intro b3 b4))))
                      have HXB9 := Lib.hid ((HX6.out.2.1.turned0 (((Turned.refl (fun _ => False) w6).alloc (.cells #[.int .i64 X.kind, .int .i64 X.n, .string X.name, .slice X.at_.1 X.args.length X.at_.2] 41)).trans HT79.out)).mono (q := fun k => q k ∨ (w5.heap.size ≤ k ∧ k < w9.heap.size)) (fun k hk h => .inr ⟨h, hk⟩))
                      have HLEN := Lib.hid hlen
                      have hwbl := (Array.getElem?_eq_some_iff.1 DBB.b).1
                      clear g1 g2 b1 b2 b3 b4 b5 hBG DBB R9 hbs hts hlen hne htrw hO hDl p1 p2 p3 hb9 hb14 hgtw hgiw hgt12 hgi12 hgt14 hgi14 hrv hlu hli r0 r1 r2 k0 k1 k2 k3 k4 k5 c0 c1 c2 c3
                      refine wp_region_k [139, 140, 141, 142, 143, 144, 145, 146, 147, 148, 149, 150, 151, 152, 153] [14, 16] [] (fun dd vv => (match dd with | 139 => vv = .pointer (some ⟨wb, 0, none⟩) | 140 => vv = .pointer (some ⟨wb, 0, none⟩) | 141 => vv = .pointer (some ⟨wb, 0, none⟩) | 142 => vv = .slice (some ⟨gt, 0, none⟩) m tc | 143 => vv = .pointer (some ⟨wr.heap.size, 1, none⟩) | 144 => vv = .int .i64 (I : Int) | 145 => vv = .pointer (some ⟨wb, 0, none⟩) | 146 => vv = .pointer (some ⟨wb, 0, none⟩) | 147 => vv = .pointer (some ⟨wb, 1, none⟩) | 148 => vv = .slice (some ⟨gi, 0, none⟩) m ic | 149 => vv = .pointer (some ⟨wr.heap.size, 1, none⟩) | 150 => vv = .int .i64 (I : Int) | 151 => vv = .agg #[.int .i64 X.kind, .int .i64 X.n, .string X.name, .slice X.at_.1 X.args.length X.at_.2] | 152 => vv = .pointer (some ⟨gt, I * 4, none⟩) | 153 => vv = .pointer (some ⟨gi, I, none⟩) | _ => True : Prop)) (SetR 14 16 gt gi m tc ic I X us is w9) (by kernel_rfl) rfl (by kernel_rfl) (by kernel_rfl) (fun w h => SetR.start HR1.out HR2.out h) (fun hs w w' h ht => h.turned0 ht) ?hs ?hQ
                      case hs =>
                        refine ⟨?s0, ?s1, ?s2, ?s3, ?s4, ?s5, ?s6, ?s7, ?s8, ?s9, ?s10, ?s11, ?s12, ?s13, ?s14, ?s15, ?s16, trivial⟩
                        case s0 =>
                          refine fun hs hl => stepG_free [] [10] (by kernel_rfl) rfl ?_
                          intro ac W hT hI hO
                          have h10 : ac.tmps.getD 10 undef = .pointer (some ⟨wb, 0, none⟩) := hO 10 (by simp)
                          show Brings Try.prog (fun vv w' => Turned (fun _ => False) W w' ∧ vv = .pointer (some ⟨wb, 0, none⟩)) _
                          simp only [execOp, Act.eval, h10]
                          go_simp
                          try exact ⟨Turned.refl _ _, rfl⟩
                        case s1 =>
                          refine fun hs hl => stepG_free [139] [] (by kernel_rfl) rfl ?_
                          intro ac W hT hI hO
                          have h139 : ac.tmps.getD 139 undef = .pointer (some ⟨wb, 0, none⟩) := hI 139 (by simp)
                          show Brings Try.prog (fun vv w' => Turned (fun _ => False) W w' ∧ vv = .pointer (some ⟨wb, 0, none⟩)) _
                          simp only [execOp, Act.eval, h139]
                          go_simp
                          try exact ⟨Turned.refl _ _, rfl⟩
                        case s2 =>
                          refine fun hs hl => stepG_free [140] [] (by kernel_rfl) rfl ?_
                          intro ac W hT hI hO
                          have h140 : ac.tmps.getD 140 undef = .pointer (some ⟨wb, 0, none⟩) := hI 140 (by simp)
                          show Brings Try.prog (fun vv w' => Turned (fun _ => False) W w' ∧ vv = .pointer (some ⟨wb, 0, none⟩)) _
                          simp only [execOp, Act.eval, h140]
                          go_simp
                          try exact ⟨Turned.refl _ _, rfl⟩
                        case s3 =>
                          refine fun hs hl => stepG_free [141] [] (by kernel_rfl) rfl ?_
                          intro ac W hT hI hO
                          have h141 : ac.tmps.getD 141 undef = .pointer (some ⟨wb, 0, none⟩) := hI 141 (by simp)
                          show Brings Try.prog (fun vv w' => Turned (fun _ => False) W w' ∧ vv = .slice (some ⟨gt, 0, none⟩) m tc) _
                          obtain ⟨b0, b1, b2, _⟩ := rec3b (HDW.out W hT.tw)
                          simp only [execOp, Act.eval, h141]
                          go_simp
                          try exact ⟨Turned.refl _ _, rfl⟩
                        case s4 =>
                          refine fun hs hl => stepG_free [] [12] (by kernel_rfl) rfl ?_
                          intro ac W hT hI hO
                          have h12 : ac.tmps.getD 12 undef = .pointer (some ⟨wr.heap.size, 0, none⟩) := hO 12 (by simp)
                          show Brings Try.prog (fun vv w' => Turned (fun _ => False) W w' ∧ vv = .pointer (some ⟨wr.heap.size, 1, none⟩)) _
                          simp only [execOp, Act.eval, h12]
                          go_simp
                          try exact ⟨Turned.refl _ _, rfl⟩
                        case s5 =>
                          refine fun hs hl => stepG_free [143] [] (by kernel_rfl) rfl ?_
                          intro ac W hT hI hO
                          have h143 : ac.tmps.getD 143 undef = .pointer (some ⟨wr.heap.size, 1, none⟩) := hI 143 (by simp)
                          show Brings Try.prog (fun vv w' => Turned (fun _ => False) W w' ∧ vv = .int .i64 (I : Int)) _
                          obtain ⟨k0, k1, k2, k3, k4, k5⟩ := cells6b (HB12.out W hT.tw)
                          simp only [execOp, Act.eval, h143]
                          go_simp
                          try exact ⟨Turned.refl _ _, rfl⟩
                        case s6 =>
                          refine fun hs hl => stepG_free [] [10] (by kernel_rfl) rfl ?_
                          intro ac W hT hI hO
                          have h10 : ac.tmps.getD 10 undef = .pointer (some ⟨wb, 0, none⟩) := hO 10 (by simp)
                          show Brings Try.prog (fun vv w' => Turned (fun _ => False) W w' ∧ vv = .pointer (some ⟨wb, 0, none⟩)) _
                          simp only [execOp, Act.eval, h10]
                          go_simp
                          try exact ⟨Turned.refl _ _, rfl⟩
                        case s7 =>
                          refine fun hs hl => stepG_free [145] [] (by kernel_rfl) rfl ?_
                          intro ac W hT hI hO
                          have h145 : ac.tmps.getD 145 undef = .pointer (some ⟨wb, 0, none⟩) := hI 145 (by simp)
                          show Brings Try.prog (fun vv w' => Turned (fun _ => False) W w' ∧ vv = .pointer (some ⟨wb, 0, none⟩)) _
                          simp only [execOp, Act.eval, h145]
                          go_simp
                          try exact ⟨Turned.refl _ _, rfl⟩
                        case s8 =>
                          refine fun hs hl => stepG_free [146] [] (by kernel_rfl) rfl ?_
                          intro ac W hT hI hO
                          have h146 : ac.tmps.getD 146 undef = .pointer (some ⟨wb, 0, none⟩) := hI 146 (by simp)
                          show Brings Try.prog (fun vv w' => Turned (fun _ => False) W w' ∧ vv = .pointer (some ⟨wb, 1, none⟩)) _
                          simp only [execOp, Act.eval, h146]
                          go_simp
                          try exact ⟨Turned.refl _ _, rfl⟩
                        case s9 =>
                          refine fun hs hl => stepG_free [147] [] (by kernel_rfl) rfl ?_
                          intro ac W hT hI hO
                          have h147 : ac.tmps.getD 147 undef = .pointer (some ⟨wb, 1, none⟩) := hI 147 (by simp)
                          show Brings Try.prog (fun vv w' => Turned (fun _ => False) W w' ∧ vv = .slice (some ⟨gi, 0, none⟩) m ic) _
                          obtain ⟨b0, b1, b2, _⟩ := rec3b (HDW.out W hT.tw)
                          simp only [execOp, Act.eval, h147]
                          go_simp
                          try exact ⟨Turned.refl _ _, rfl⟩
                        case s10 =>
                          refine fun hs hl => stepG_free [] [12] (by kernel_rfl) rfl ?_
                          intro ac W hT hI hO
                          have h12 : ac.tmps.getD 12 undef = .pointer (some ⟨wr.heap.size, 0, none⟩) := hO 12 (by simp)
                          show Brings Try.prog (fun vv w' => Turned (fun _ => False) W w' ∧ vv = .pointer (some ⟨wr.heap.size, 1, none⟩)) _
                          simp only [execOp, Act.eval, h12]
                          go_simp
                          try exact ⟨Turned.refl _ _, rfl⟩
                        case s11 =>
                          refine fun hs hl => stepG_free [149] [] (by kernel_rfl) rfl ?_
                          intro ac W hT hI hO
                          have h149 : ac.tmps.getD 149 undef = .pointer (some ⟨wr.heap.size, 1, none⟩) := hI 149 (by simp)
                          show Brings Try.prog (fun vv w' => Turned (fun _ => False) W w' ∧ vv = .int .i64 (I : Int)) _
                          obtain ⟨k0, k1, k2, k3, k4, k5⟩ := cells6b (HB12.out W hT.tw)
                          simp only [execOp, Act.eval, h149]
                          go_simp
                          try exact ⟨Turned.refl _ _, rfl⟩
                        case s12 =>
                          refine fun hs hl => stepG_free [] [14] (by kernel_rfl) rfl ?_
                          intro ac W hT hI hO
                          have h14 : ac.tmps.getD 14 undef = .pointer (some ⟨w6.heap.size, 0, none⟩) := hO 14 (by simp)
                          show Brings Try.prog (fun vv w' => Turned (fun _ => False) W w' ∧ vv = .agg #[.int .i64 X.kind, .int .i64 X.n, .string X.name, .slice X.at_.1 X.args.length X.at_.2]) _
                          obtain ⟨c0, c1, c2, c3, _⟩ := cells4 (HB14.out W hT.tw)
                          simp only [execOp, Act.eval, h14]
                          go_simp
                          try exact ⟨Turned.refl _ _, rfl⟩
                        case s13 =>
                          refine fun hs hl => stepG_free [142, 144] [] (by kernel_rfl) rfl ?_
                          intro ac W hT hI hO
                          have h142 : ac.tmps.getD 142 undef = .slice (some ⟨gt, 0, none⟩) m tc := hI 142 (by simp)
                          have h144 : ac.tmps.getD 144 undef = .int .i64 (I : Int) := hI 144 (by simp)
                          show Brings Try.prog (fun vv w' => Turned (fun _ => False) W w' ∧ vv = .pointer (some ⟨gt, I * 4, none⟩)) _
                          simp only [execOp, Act.eval, h142, h144]
                          go_simp
                          try exact ⟨Turned.refl _ _, rfl⟩
                        case s14 =>
                          refine fun hs hno hl => stepG_free [152, 151] [] (by kernel_rfl) rfl ?_
                          intro ac W hT hI hO
                          have h152 : ac.tmps.getD 152 undef = .pointer (some ⟨gt, I * 4, none⟩) := hI 152 (by simp)
                          have h151 : ac.tmps.getD 151 undef = .agg #[.int .i64 X.kind, .int .i64 X.n, .string X.name, .slice X.at_.1 X.args.length X.at_.2] := hI 151 (by simp)
                          show Brings Try.prog (fun vv w' => SetR 14 16 gt gi m tc ic I X us is w9 (hs ++ [(14, vv)]) w') _
                          obtain ⟨⟨z0, z1, z2, z3, z4, z5, z6, z7⟩, f0, f1, f2, f3⟩ := hT.cellsT hIm
                          simp only [execOp, Act.eval, h152, h151]
                          go_simp
                          exact hT.storeT hIm HUL.out.1 HGG.out (by decide) hno _
                        case s15 =>
                          refine fun hs hl => stepG_free [148, 150] [] (by kernel_rfl) rfl ?_
                          intro ac W hT hI hO
                          have h148 : ac.tmps.getD 148 undef = .slice (some ⟨gi, 0, none⟩) m ic := hI 148 (by simp)
                          have h150 : ac.tmps.getD 150 undef = .int .i64 (I : Int) := hI 150 (by simp)
                          show Brings Try.prog (fun vv w' => Turned (fun _ => False) W w' ∧ vv = .pointer (some ⟨gi, I, none⟩)) _
                          simp only [execOp, Act.eval, h148, h150]
                          go_simp
                          try exact ⟨Turned.refl _ _, rfl⟩
                        case s16 =>
                          refine fun hs hno hl => stepG_free [153] [] (by kernel_rfl) rfl ?_
                          intro ac W hT hI hO
                          have h153 : ac.tmps.getD 153 undef = .pointer (some ⟨gi, I, none⟩) := hI 153 (by simp)
                          show Brings Try.prog (fun vv w' => SetR 14 16 gt gi m tc ic I X us is w9 (hs ++ [(16, vv)]) w') _
                          obtain ⟨⟨z0, z4⟩, f0⟩ := hT.cellI hIm
                          simp only [execOp, Act.eval, h153]
                          go_simp
                          exact hT.storeI hIm HUL.out.2 HGG.out (by decide) hno _
                      case hQ =>
                        intro hs vs w10 hall huniq hR hV
                        obtain ⟨e1, e2, T10⟩ := hR.done (hall _ (by simp)) (hall _ (by simp))
                        simp only [List.foldl_cons, List.foldl_nil, List.setIfInBounds_toArray, List.set_cons_zero, List.set_cons_succ]
                        have HG1 := Lib.hid e1
                        have HG2 := Lib.hid e2
                        have HT10 := Lib.hid T10
                        have hwb10 := HDW.out w10 T10
                        have hb12 := HB12.out w10 T10
                        have HWB := Lib.hid (fun W (T : Turned (fun k => (Value.slice ra tr.length rcc).ownBlock = some k) w10 W) => (T.block wb (Array.getElem?_eq_some_iff.1 hwb10).1 (fun e => (HRV.out wb e).2.2.1 rfl)).trans hwb10)
                        have HB12B := Lib.hid (fun W (T : Turned (fun k => (Value.slice ra tr.length rcc).ownBlock = some k) w10 W) => (T.block wr.heap.size (Array.getElem?_eq_some_iff.1 hb12).1 (fun e => (HRV.out _ e).2.2.2 rfl)).trans hb12)
                        have HRW : Hid (Row w10 2 1 (.slice ra tr.length rcc) tr.length ((Tm.dom tr).reverse.map (Value.int .i64))) := HTRW.out.turned T10 (fun k hk e => by have := HRV.out k hk; omega)
                        have HNW : Hid (¬ (Value.slice ra tr.length rcc).ownBlock = some wb) := fun e => (HRV.out wb e).2.2.1 rfl
                        have HWL : Hid (wb < w10.heap.size) := (Array.getElem?_eq_some_iff.1 hwb10).1
                        clear hall huniq hR hV e1 e2 T10 hwb10 hb12
                        go_wp2_with fail
                        refine wp_region_hsW [154, 155, 156, 157, 158, 159, 160, 161, 162, 163, 164] [7, 8, 11] [2, 1, 1, 1, 1, 0, 0, 1, 2, 2, 2, 3] [161, 162, 100011] (fun dd vv => (match dd with | 154 => vv = .pointer (some ⟨wb, 0, none⟩) | 155 => vv = .pointer (some ⟨wb, 0, none⟩) | 156 => vv = .pointer (some ⟨wb, 0, none⟩) | 157 => vv = .pointer (some ⟨wb, 2, none⟩) | 158 => vv = .slice ra tr.length rcc | 159 => vv = .pointer (some ⟨wr.heap.size, 1, none⟩) | 160 => vv = .int .i64 (I : Int) | 163 => vv = .pointer (some ⟨wb, 0, none⟩) | 164 => vv = .pointer (some ⟨wb, 2, none⟩) | _ => True : Prop)) (AppB (.slice ra tr.length rcc) tr.length ((Tm.dom tr).reverse.map (Value.int .i64)) (I : Int) wb (.slice (some ⟨gt, 0, none⟩) m tc) (.slice (some ⟨gi, 0, none⟩) m ic) w10) (by kernel_rfl) rfl (by kernel_rfl) (by kernel_rfl) (by kernel_rfl) (by kernel_rfl) (fun w h => h) (fun hs w w' h T => AppB.turned0 hs w w' h T) ?hs ?hQ
                        case hs =>
                          refine ⟨?s0, ?s1, ?s2, ?s3, ?s4, ?s5, ?s6, ?s7, ?s8, ?s9, ?s10, ?s11, trivial⟩
                          case s0 =>
                            refine fun hs hle => stepG_free [] [10] (by kernel_rfl) rfl ?_
                            intro ac W hT hI hO
                            have hle : hs.length ≤ 2 := hle
                            have h10 : ac.tmps.getD 10 undef = .pointer (some ⟨wb, 0, none⟩) := hO 10 (by simp)
                            show Brings Try.prog (fun vv w' => Turned (fun _ => False) W w' ∧ vv = .pointer (some ⟨wb, 0, none⟩)) _
                            simp only [execOp, Act.eval, h10]
                            go_simp
                            try exact ⟨Turned.refl _ _, rfl⟩
                          case s1 =>
                            refine fun hs hle => stepG_free [] [10] (by kernel_rfl) rfl ?_
                            intro ac W hT hI hO
                            have hle : hs.length ≤ 1 := hle
                            have h10 : ac.tmps.getD 10 undef = .pointer (some ⟨wb, 0, none⟩) := hO 10 (by simp)
                            show Brings Try.prog (fun vv w' => Turned (fun _ => False) W w' ∧ vv = .pointer (some ⟨wb, 0, none⟩)) _
                            simp only [execOp, Act.eval, h10]
                            go_simp
                            try exact ⟨Turned.refl _ _, rfl⟩
                          case s2 =>
                            refine fun hs hle => stepG_free [155] [] (by kernel_rfl) rfl ?_
                            intro ac W hT hI hO
                            have hle : hs.length ≤ 1 := hle
                            have h155 : ac.tmps.getD 155 undef = .pointer (some ⟨wb, 0, none⟩) := hI 155 (by simp)
                            show Brings Try.prog (fun vv w' => Turned (fun _ => False) W w' ∧ vv = .pointer (some ⟨wb, 0, none⟩)) _
                            obtain ⟨b0, b1, b2, bf0, bf1, bf2⟩ := rec3b (HWB.out W (AppB.turned hs W (by omega) hT))
                            simp only [execOp, Act.eval, h155]
                            go_simp
                            try exact ⟨Turned.refl _ _, rfl⟩
                          case s3 =>
                            refine fun hs hle => stepG_free [156] [] (by kernel_rfl) rfl ?_
                            intro ac W hT hI hO
                            have hle : hs.length ≤ 1 := hle
                            have h156 : ac.tmps.getD 156 undef = .pointer (some ⟨wb, 0, none⟩) := hI 156 (by simp)
                            show Brings Try.prog (fun vv w' => Turned (fun _ => False) W w' ∧ vv = .pointer (some ⟨wb, 2, none⟩)) _
                            simp only [execOp, Act.eval, h156]
                            go_simp
                            try exact ⟨Turned.refl _ _, rfl⟩
                          case s4 =>
                            refine fun hs hle => stepG_free [157] [] (by kernel_rfl) rfl ?_
                            intro ac W hT hI hO
                            have hle : hs.length ≤ 1 := hle
                            have h157 : ac.tmps.getD 157 undef = .pointer (some ⟨wb, 2, none⟩) := hI 157 (by simp)
                            show Brings Try.prog (fun vv w' => Turned (fun _ => False) W w' ∧ vv = .slice ra tr.length rcc) _
                            obtain ⟨b0, b1, b2, bf0, bf1, bf2⟩ := rec3b (HWB.out W (AppB.turned hs W (by omega) hT))
                            simp only [execOp, Act.eval, h157]
                            go_simp
                            try exact ⟨Turned.refl _ _, rfl⟩
                          case s5 =>
                            refine fun hs hle => stepG_free [] [12] (by kernel_rfl) rfl ?_
                            intro ac W hT hI hO
                            have hle : hs.length ≤ 0 := hle
                            have h12 : ac.tmps.getD 12 undef = .pointer (some ⟨wr.heap.size, 0, none⟩) := hO 12 (by simp)
                            show Brings Try.prog (fun vv w' => Turned (fun _ => False) W w' ∧ vv = .pointer (some ⟨wr.heap.size, 1, none⟩)) _
                            simp only [execOp, Act.eval, h12]
                            go_simp
                            try exact ⟨Turned.refl _ _, rfl⟩
                          case s6 =>
                            refine fun hs hle => stepG_free [159] [] (by kernel_rfl) rfl ?_
                            intro ac W hT hI hO
                            have hle : hs.length ≤ 0 := hle
                            have h159 : ac.tmps.getD 159 undef = .pointer (some ⟨wr.heap.size, 1, none⟩) := hI 159 (by simp)
                            show Brings Try.prog (fun vv w' => Turned (fun _ => False) W w' ∧ vv = .int .i64 (I : Int)) _
                            obtain ⟨k0, k1, k2, k3, k4, k5⟩ := cells6b (HB12B.out W (AppB.turned hs W (by omega) hT))
                            simp only [execOp, Act.eval, h159]
                            go_simp
                            try exact ⟨Turned.refl _ _, rfl⟩
                          case s7 =>
                            refine fun hs hlen => stepG_free [160] [] (by kernel_rfl) rfl ?_
                            intro ac W hT hI hO
                            have h160 : ac.tmps.getD 160 undef = .int .i64 (I : Int) := hI 160 (by simp)
                            obtain rfl : hs = [] := List.eq_nil_of_length_eq_zero hlen
                            replace hT : Turned (fun _ => False) w10 W := hT
                            show Brings Try.prog (fun vv w' => AppB (.slice ra tr.length rcc) tr.length ((Tm.dom tr).reverse.map (Value.int .i64)) (I : Int) wb (.slice (some ⟨gt, 0, none⟩) m tc) (.slice (some ⟨gi, 0, none⟩) m ic) w10 [vv] w') _
                            refine brings_sliceI 160 rfl h160 ?_
                            exact ⟨hT.alloc _, _, rfl, heap_alloc_new W _⟩
                          case s8 =>
                            refine fun hs hlen => stepG_free [158, 161] [] (by kernel_rfl) rfl ?_
                            intro ac W hT hI hO
                            have h158 : ac.tmps.getD 158 undef = .slice ra tr.length rcc := hI 158 (by simp)
                            have h161 : hs[0]? = some (ac.tmps.getD 161 undef) := hI 161 (by simp)
                            obtain ⟨a, rfl⟩ := List.length_eq_one_iff.1 hlen
                            obtain ⟨hT1, g0, ha, hg0⟩ := hT
                            have e161 : a = ac.tmps.getD 161 undef := by simpa using h161
                            rw [e161] at ha
                            show Brings Try.prog (fun vv w' => AppB (.slice ra tr.length rcc) tr.length ((Tm.dom tr).reverse.map (Value.int .i64)) (I : Int) wb (.slice (some ⟨gt, 0, none⟩) m tc) (.slice (some ⟨gi, 0, none⟩) m ic) w10 [a, vv] w') _
                            refine brings_append_any (.tmp 158) (.tmp 161) 24 rfl 2 i0 _ 1 8 Try.underlying24 hi0 hz0 hz1 hz2 rfl (by decide) (.slice ra tr.length rcc) _ _ h158 (HRW.out.turned0 hT1) (some ⟨g0, 0, none⟩) 1 1 [.int .i64 (I : Int)] ha (fun e => by cases e) rfl (fun ad e j u hu => by injection e with e; subst e; exact news_one hg0 j u hu) (by simp [Value.oneCell']) (by unfold maxLen; omega) (by omega) ?_
                            intro v5 w5' hr5 T5 ho5
                            obtain ⟨g, cap, rfl⟩ := hr5.shape_pos (by omega)
                            exact ⟨g, cap, rfl, hr5, ho5.elim (fun e => .inl e) (fun e => .inr (by simp [Value.ownBlock] at e; have := hT1.size; omega)), (hT1.mono (fun _ _ f => f.elim)).trans T5⟩
                          case s9 =>
                            refine fun hs hle => stepG_free [154] [] (by kernel_rfl) rfl ?_
                            intro ac W hT hI hO
                            have hle : hs.length ≤ 2 := hle
                            have h154 : ac.tmps.getD 154 undef = .pointer (some ⟨wb, 0, none⟩) := hI 154 (by simp)
                            show Brings Try.prog (fun vv w' => Turned (fun _ => False) W w' ∧ vv = .pointer (some ⟨wb, 0, none⟩)) _
                            obtain ⟨b0, b1, b2, bf0, bf1, bf2⟩ := rec3b (HWB.out W (AppB.turned hs W (by omega) hT))
                            simp only [execOp, Act.eval, h154]
                            go_simp
                            try exact ⟨Turned.refl _ _, rfl⟩
                          case s10 =>
                            refine fun hs hle => stepG_free [163] [] (by kernel_rfl) rfl ?_
                            intro ac W hT hI hO
                            have hle : hs.length ≤ 2 := hle
                            have h163 : ac.tmps.getD 163 undef = .pointer (some ⟨wb, 0, none⟩) := hI 163 (by simp)
                            show Brings Try.prog (fun vv w' => Turned (fun _ => False) W w' ∧ vv = .pointer (some ⟨wb, 2, none⟩)) _
                            simp only [execOp, Act.eval, h163]
                            go_simp
                            try exact ⟨Turned.refl _ _, rfl⟩
                          case s11 =>
                            refine fun hs hlen => stepG_free [162, 164] [] (by kernel_rfl) rfl ?_
                            intro ac W hT hI hO
                            have h162 : hs[1]? = some (ac.tmps.getD 162 undef) := hI 162 (by simp)
                            have h164 : ac.tmps.getD 164 undef = .pointer (some ⟨wb, 2, none⟩) := hI 164 (by simp)
                            obtain ⟨a, b, rfl⟩ := list2' hlen
                            have e162 : b = ac.tmps.getD 162 undef := by simpa using h162
                            obtain ⟨g, cap, hbb, hrow, hg, hTw⟩ := hT
                            have hwb := HWB.out W hTw
                            obtain ⟨b0, b1, b2, bf0, bf1, bf2⟩ := rec3b hwb
                            have HST := Lib.hid (And.intro hrow (And.intro hg (And.intro hTw hwb)))
                            rw [e162] at hbb
                            show Brings Try.prog (fun vv w' => AppB (.slice ra tr.length rcc) tr.length ((Tm.dom tr).reverse.map (Value.int .i64)) (I : Int) wb (.slice (some ⟨gt, 0, none⟩) m tc) (.slice (some ⟨gi, 0, none⟩) m ic) w10 [a, b, vv] w') _
                            simp only [execOp, Act.eval, h164, hbb]
                            clear hrow hg hTw hwb hbb e162
                            go_simp
                            obtain ⟨hrow, hg, hTw, hwb⟩ := HST.out
                            have hr2 := hrow.setCell (p := ⟨wb, 2, none⟩) (fun e => by simp [Value.ownBlock] at e; rcases hg with hg | hg; (exact HNW.out (by rw [← hg, e])); (have := HWL.out; omega)) (.slice (some ⟨g, 0, none⟩) (tr.length + 1) cap)
                            try rw [List.map_reverse] at hr2
                            exact ⟨g, cap, hr2, hg, (hTw.mono (fun _ _ e => .inr e)).setCell (p := ⟨wb, 2, none⟩) (.inr (.inl rfl)) _, by have := heap_setCell_same W wb 2 _ 113 (.slice (some ⟨g, 0, none⟩) (tr.length + 1) cap) hwb; simpa using this⟩
                        case hQ =>
                          intro hs vs w11 hlen hR hV
                          simp only [List.foldl_cons, List.foldl_nil, List.setIfInBounds_toArray, List.set_cons_zero, List.set_cons_succ]
                          obtain ⟨s1, s2, s3, rfl⟩ := list3' hlen
                          obtain ⟨g, cap, hrow, hg, hTw, hwb⟩ := hR
                          have T911 : Turned (fun k => (k = gt ∨ k = gi) ∨ k = wb ∨ (Value.slice ra tr.length rcc).ownBlock = some k) w9 w11 := (HT10.out.mono (fun _ _ e => .inl e)).trans (hTw.mono (fun _ _ e => .inr e))
                          have hne := HDBB.out.ne
                          have hgtw : gt ≠ wb := fun e => hne.1 (by rw [e]; rfl)
                          have hgiw : gi ≠ wb := fun e => hne.2.1 (by rw [e]; rfl)
                          have hDB := bind_db HDBB.out HUL.out.1 HUL.out.2 HXB9.out T911
                            (HG1.out.turned hTw (fun k hk e => by simp [Value.ownBlock] at hk; rcases e with e | e; omega; exact (HRV.out k e).1 hk.symm))
                            (HG2.out.turned hTw (fun k hk e => by simp [Value.ownBlock] at hk; rcases e with e | e; omega; exact (HRV.out k e).2.1 hk.symm))
                            (g := g) (cap := cap) (by rw [HLEN.out]; exact hrow) (hg.imp id (fun h => Nat.le_trans HT10.out.size h)) (by rw [HLEN.out]; exact hwb)
                          have hA := bindAfter HBG.out.d HHO.out HR9.out HUL.out.2 hIm (t := X) (by rw [HX6.out.1]; exact HOK.out) hDB T911 (fun k hk => by
                            simp [Value.ownBlock] at hk
                            rcases hg with hg | hg
                            · exact .inl (by rw [← hg, hk])
                            · exact .inr (by have := HT10.out.size; omega))
                          rw [HX6.out.1] at hA
                          obtain ⟨f1, f2, f3, f4, f5⟩ := HFACT.out
                          have HFIN : Hid (BPQ w1.heap.size bb wb m m (((I : Int), xt.bare) :: tr) (((I : Int), xt.bare) :: tr) [] w1 w11) := Lib.hid (BPQ.stepD rfl (fun k hk => .inl (f1 k hk)) HBG.out f3 f4 (f5.trans HT9.out) (fun b hb => by cases hb) f2 hA)
                          clear hlen hV hrow hg hTw hwb T911 hne hgtw hgiw hDB hA f1 f2 f3 f4 f5
                          obtain ⟨xa, xc, xb, xd, xe, xf, hdb⟩ := bpCells HFIN.out
                          obtain ⟨r0, r1, r2, _⟩ := rec3b hdb
                          clear hdb
                          go_wp2_with (go_at_call 104; have HFIN := HFIN; (with_reducible refine (bpAlike HFIN.out).mono ?_); rintro e w20 ⟨rfl, T20⟩; have HEND := Lib.hid (HFIN.out.turned0 T20); clear T20)
                          go_roundg (gk - 1)
                          case measure => have := HG.out; omega
                          case rel => exact ⟨j + 1, m, (((I : Int), xt.bare) :: tr), show _ = _ by have := HG.out; omega, by omega, by go_num, by omega, HEND.out.drop⟩
          · have b117 : decide ((m : Int) ≤ i) = true := decide_eq_true (by omega)
            have hE1 : E = 1 := by rw [HE.out]; exact if_neg (fun c => him c.2.1)
            clear hi0 him
            refine wp_region_ssa' (G := (fun dd vv W => (match dd with | 106 => vv = .pointer (some ⟨wr.heap.size, 1, none⟩) | 107 => vv = .int .i64 i | 108 => vv = .bool false | 109 => vv = .bool false | 110 => vv = .pointer (some ⟨wr.heap.size, 1, none⟩) | 111 => vv = .int .i64 i | 112 => vv = .pointer (some ⟨wb, 0, none⟩) | 113 => vv = .pointer (some ⟨wb, 0, none⟩) | 114 => vv = .pointer (some ⟨wb, 0, none⟩) | 115 => vv = .slice ya m yc | 116 => vv = .int .i64 (m : Int) | 117 => vv = .bool true | 118 => vv = .bool true | 119 => vv = .bool true | 120 => vv = undef | 121 => vv = undef | 122 => vv = undef | 123 => vv = undef | 124 => vv = .bool true | 105 => vv = .bool true  | _ => True : Prop))) [106, 107, 108, 109, 110, 111, 112, 113, 114, 115, 116, 117, 118, 119, 120, 121, 122, 123, 124, 105] (by kernel_rfl) rfl (by kernel_rfl) ?hG ?hs ?hQ
            case hG => exact fun d v _ _ _ h => h
            case hs =>
              refine ⟨?s0, ?s1, ?s2, ?s3, ?s4, ?s5, ?s6, ?s7, ?s8, ?s9, ?s10, ?s11, ?s12, ?s13, ?s14, ?s15, ?s16, ?s17, ?s18, ?s19, trivial⟩
              case s0 =>
                refine stepOk_free [] [12] (by kernel_rfl) rfl ?_
                intro ac W hT hI hO
                have h12 : ac.tmps.getD 12 undef = .pointer (some ⟨wr.heap.size, 0, none⟩) := hO 12 (by simp)
                show Brings Try.prog (fun vv w' => Turned (fun _ => False) W w' ∧ vv = .pointer (some ⟨wr.heap.size, 1, none⟩)) _
                simp only [execOp, Act.eval, h12]
                go_simp
                try exact ⟨Turned.refl _ _, rfl⟩
              case s1 =>
                refine stepOk_free [106] [] (by kernel_rfl) rfl ?_
                intro ac W hT hI hO
                have h106 : ac.tmps.getD 106 undef = .pointer (some ⟨wr.heap.size, 1, none⟩) := hI 106 (by simp)
                show Brings Try.prog (fun vv w' => Turned (fun _ => False) W w' ∧ vv = .int .i64 i) _
                obtain ⟨k0, k1, k2, k3, k4, k5⟩ := HK12.out W hT
                simp only [execOp, Act.eval, h106]
                go_simp
                try exact ⟨Turned.refl _ _, rfl⟩
              case s2 =>
                refine stepOk_free [107] [] (by kernel_rfl) rfl ?_
                intro ac W hT hI hO
                have h107 : ac.tmps.getD 107 undef = .int .i64 i := hI 107 (by simp)
                show Brings Try.prog (fun vv w' => Turned (fun _ => False) W w' ∧ vv = .bool false) _
                simp only [execOp, Act.eval, h107]
                go_simp
                try exact ⟨Turned.refl _ _, rfl⟩
              case s3 =>
                refine stepOk_free [108] [] (by kernel_rfl) rfl ?_
                intro ac W hT hI hO
                have h108 : ac.tmps.getD 108 undef = .bool false := hI 108 (by simp)
                show Brings Try.prog (fun vv w' => Turned (fun _ => False) W w' ∧ vv = .bool false) _
                simp only [execOp, Act.eval, h108]
                go_simp
                try exact ⟨Turned.refl _ _, rfl⟩
              case s4 =>
                refine stepOk_guard [109] [12] (by kernel_rfl) 3 false 109 rfl rfl (by simp) true false (fun _ _ h => h) (fun hc => ?_) (fun hc => by cases hc)
                intro ac W hT hI hO
                have h12 : ac.tmps.getD 12 undef = .pointer (some ⟨wr.heap.size, 0, none⟩) := hO 12 (by simp)
                show Brings Try.prog (fun vv w' => Turned (fun _ => False) W w' ∧ vv = .pointer (some ⟨wr.heap.size, 1, none⟩)) _
                simp only [execOp, Act.eval, h12]
                go_simp
                try exact ⟨Turned.refl _ _, rfl⟩
              case s5 =>
                refine stepOk_guard [110, 109] [] (by kernel_rfl) 3 false 109 rfl rfl (by simp) true false (fun _ _ h => h) (fun hc => ?_) (fun hc => by cases hc)
                intro ac W hT hI hO
                have h110 : ac.tmps.getD 110 undef = .pointer (some ⟨wr.heap.size, 1, none⟩) := hI 110 (by simp)
                show Brings Try.prog (fun vv w' => Turned (fun _ => False) W w' ∧ vv = .int .i64 i) _
                obtain ⟨k0, k1, k2, k3, k4, k5⟩ := HK12.out W hT
                simp only [execOp, Act.eval, h110]
                go_simp
                try exact ⟨Turned.refl _ _, rfl⟩
              case s6 =>
                refine stepOk_guard [109] [10] (by kernel_rfl) 3 false 109 rfl rfl (by simp) true false (fun _ _ h => h) (fun hc => ?_) (fun hc => by cases hc)
                intro ac W hT hI hO
                have h10 : ac.tmps.getD 10 undef = .pointer (some ⟨wb, 0, none⟩) := hO 10 (by simp)
                show Brings Try.prog (fun vv w' => Turned (fun _ => False) W w' ∧ vv = .pointer (some ⟨wb, 0, none⟩)) _
                simp only [execOp, Act.eval, h10]
                go_simp
                try exact ⟨Turned.refl _ _, rfl⟩
              case s7 =>
                refine stepOk_guard [112, 109] [] (by kernel_rfl) 3 false 109 rfl rfl (by simp) true false (fun _ _ h => h) (fun hc => ?_) (fun hc => by cases hc)
                intro ac W hT hI hO
                have h112 : ac.tmps.getD 112 undef = .pointer (some ⟨wb, 0, none⟩) := hI 112 (by simp)
                show Brings Try.prog (fun vv w' => Turned (fun _ => False) W w' ∧ vv = .pointer (some ⟨wb, 0, none⟩)) _
                simp only [execOp, Act.eval, h112]
                go_simp
                try exact ⟨Turned.refl _ _, rfl⟩
              case s8 =>
                refine stepOk_guard [113, 109] [] (by kernel_rfl) 3 false 109 rfl rfl (by simp) true false (fun _ _ h => h) (fun hc => ?_) (fun hc => by cases hc)
                intro ac W hT hI hO
                have h113 : ac.tmps.getD 113 undef = .pointer (some ⟨wb, 0, none⟩) := hI 113 (by simp)
                show Brings Try.prog (fun vv w' => Turned (fun _ => False) W w' ∧ vv = .pointer (some ⟨wb, 0, none⟩)) _
                simp only [execOp, Act.eval, h113]
                go_simp
                try exact ⟨Turned.refl _ _, rfl⟩
              case s9 =>
                refine stepOk_guard [114, 109] [] (by kernel_rfl) 3 false 109 rfl rfl (by simp) true false (fun _ _ h => h) (fun hc => ?_) (fun hc => by cases hc)
                intro ac W hT hI hO
                have h114 : ac.tmps.getD 114 undef = .pointer (some ⟨wb, 0, none⟩) := hI 114 (by simp)
                show Brings Try.prog (fun vv w' => Turned (fun _ => False) W w' ∧ vv = .slice ya m yc) _
                obtain ⟨r0, r1, r2, _⟩ := HDBW.out W hT
                simp only [execOp, Act.eval, h114]
                go_simp
                try exact ⟨Turned.refl _ _, rfl⟩
              case s10 =>
                refine stepOk_guard [115, 109] [] (by kernel_rfl) 3 false 109 rfl rfl (by simp) true false (fun _ _ h => h) (fun hc => ?_) (fun hc => by cases hc)
                intro ac W hT hI hO
                have h115 : ac.tmps.getD 115 undef = .slice ya m yc := hI 115 (by simp)
                show Brings Try.prog (fun vv w' => Turned (fun _ => False) W w' ∧ vv = .int .i64 (m : Int)) _
                simp only [execOp, Act.eval, h115]
                go_simp
                try exact ⟨Turned.refl _ _, rfl⟩
              case s11 =>
                refine stepOk_guard [111, 116, 109] [] (by kernel_rfl) 3 false 109 rfl rfl (by simp) true false (fun _ _ h => h) (fun hc => ?_) (fun hc => by cases hc)
                intro ac W hT hI hO
                have h111 : ac.tmps.getD 111 undef = .int .i64 i := hI 111 (by simp)
                have h116 : ac.tmps.getD 116 undef = .int .i64 (m : Int) := hI 116 (by simp)
                show Brings Try.prog (fun vv w' => Turned (fun _ => False) W w' ∧ vv = .bool true) _
                simp only [execOp, Act.eval, h111, h116]
                go_simp
                try exact ⟨Turned.refl _ _, rfl⟩
              case s12 =>
                refine stepOk_free [109, 117] [] (by kernel_rfl) rfl ?_
                intro ac W hT hI hO
                have h109 : ac.tmps.getD 109 undef = .bool false := hI 109 (by simp)
                have h117 : ac.tmps.getD 117 undef = .bool true := hI 117 (by simp)
                show Brings Try.prog (fun vv w' => Turned (fun _ => False) W w' ∧ vv = .bool true) _
                simp only [execOp, Act.eval, h109, h117]
                go_simp
                try exact ⟨Turned.refl _ _, rfl⟩
              case s13 =>
                refine stepOk_free [118] [] (by kernel_rfl) rfl ?_
                intro ac W hT hI hO
                have h118 : ac.tmps.getD 118 undef = .bool true := hI 118 (by simp)
                show Brings Try.prog (fun vv w' => Turned (fun _ => False) W w' ∧ vv = .bool true) _
                simp only [execOp, Act.eval, h118]
                go_simp
                try exact ⟨Turned.refl _ _, rfl⟩
              case s14 => exact stepOk_guard [119] [10] (by kernel_rfl) 13 false 119 rfl rfl (by simp) true true (fun _ _ h => h) (fun hc => by cases hc) (fun _ _ => rfl)
              case s15 => exact stepOk_guard [119] [14] (by kernel_rfl) 13 false 119 rfl rfl (by simp) true true (fun _ _ h => h) (fun hc => by cases hc) (fun _ _ => rfl)
              case s16 => exact stepOk_guard [120, 121, 119] [] (by kernel_rfl) 13 false 119 rfl rfl (by simp) true true (fun _ _ h => h) (fun hc => by cases hc) (fun _ _ => rfl)
              case s17 => exact stepOk_guard [122, 119] [] (by kernel_rfl) 13 false 119 rfl rfl (by simp) true true (fun _ _ h => h) (fun hc => by cases hc) (fun _ _ => rfl)
              case s18 =>
                refine stepOk_free [119, 123] [] (by kernel_rfl) rfl ?_
                intro ac W hT hI hO
                have h119 : ac.tmps.getD 119 undef = .bool true := hI 119 (by simp)
                have h123 : ac.tmps.getD 123 undef = undef := hI 123 (by simp)
                show Brings Try.prog (fun vv w' => Turned (fun _ => False) W w' ∧ vv = .bool true) _
                simp only [execOp, Act.eval, h119, h123]
                go_simp
                try exact ⟨Turned.refl _ _, rfl⟩
              case s19 =>
                refine stepOk_free [124] [] (by kernel_rfl) rfl ?_
                intro ac W hT hI hO
                have h124 : ac.tmps.getD 124 undef = .bool true := hI 124 (by simp)
                show Brings Try.prog (fun vv w' => Turned (fun _ => False) W w' ∧ vv = .bool true) _
                simp only [execOp, Act.eval, h124]
                go_simp
                try exact ⟨Turned.refl _ _, rfl⟩
            case hQ =>
              intro vs w8 T8 hV
              have q105 : vs 105 = .bool true := hV 105 (by simp)
              simp only [List.foldl_cons, List.foldl_nil, List.setIfInBounds_toArray, List.set_cons_zero, List.set_cons_succ, q105]
              subst hE1
              have h8 := H7.out.turned0 T8
              rw [if_neg (by decide)] at h8
              have HFIN := Lib.hid h8
              obtain ⟨xa, xc, xb, xd, xe, xf, hdb⟩ := bpCells h8
              obtain ⟨r0, r1, r2, _⟩ := rec3b hdb
              clear hV q105 T8 h8 hdb
              go_wp2_with (go_at_call 104; have HFIN := HFIN; (with_reducible refine (bpAlike HFIN.out).mono ?_); rintro e w20 ⟨rfl, T20⟩; have HEND := Lib.hid (HFIN.out.turned0 T20); clear T20)
              go_roundg (gk - 1)
              case measure => have := HG.out; omega
              case rel => exact ⟨j + 1, m, tr, show _ = _ by have := HG.out; omega, by omega, by go_num, by omega, HEND.out.drop⟩
      · have b0 : (op == 0) = false := by simp [h0]
        have H0 := Lib.hid h0
        clear h0
        by_cases h1 : op = 1
        · have b1 : (op == 1) = true := by simp [h1]
          clear h1
          go_wp2_with (go_at_call 85; (with_reducible refine (bpDeep 30 xt _ 30 rfl (by omega) HXT.out.2.1).mono ?_); rintro e w4 ⟨rfl, T4⟩; rw [HDX.out]; obtain ⟨k0, k1, k2, k3, k4, k5⟩ := HBK.out w4 T4; have HT4 := Lib.hid T4; clear T4)
          refine wp_region_hsW [167, 168, 169, 170, 171, 172, 173, 174, 175] [3, 7] [0, 0, 0, 1, 1, 1, 1, 2, 2] [170, 174] (fun dd vv => (match dd with | 167 => vv = .pointer (some ⟨bb, 0, none⟩) | 168 => vv = .pointer (some ⟨wr.heap.size, 1, none⟩) | 169 => vv = .int .i64 i | 171 => vv = .pointer (some ⟨wb, 0, none⟩) | 172 => vv = .pointer (some ⟨wr.heap.size, 1, none⟩) | 173 => vv = .int .i64 i | 175 => vv = .bool false | _ => True : Prop)) (UndS (undoB tr i) (undoB tr i) (fun W => BPQ w1.heap.size bb wb m m (undoT tr i) tr [(wr.heap.size, .cells #[.int .i64 op, .int .i64 i, .int .i64 xt.kind, .int .i64 xt.n, .string xt.name, .slice xt.at_.1 xt.args.length xt.at_.2] 98)] w1 W) (fun W => BPQ w1.heap.size bb wb m m (undoT tr i) (undoT tr i) [(wr.heap.size, .cells #[.int .i64 op, .int .i64 i, .int .i64 xt.kind, .int .i64 xt.n, .string xt.name, .slice xt.at_.1 xt.args.length xt.at_.2] 98)] w1 W) w4) (by kernel_rfl) rfl (by kernel_rfl) (by kernel_rfl) (by kernel_rfl) (by kernel_rfl) (fun w h => h) (fun hs w w' h T => UndS.turned0 (fun _ _ h T => BPQ.turned0 h T) (fun _ _ h T => BPQ.turned0 h T) hs w w' h T) ?hs ?hQ
          case hs =>
            refine ⟨?s0, ?s1, ?s2, ?s3, ?s4, ?s5, ?s6, ?s7, ?s8, trivial⟩
            case s0 =>
              refine fun hs hle => stepG_free [] [9] (by kernel_rfl) rfl ?_
              intro ac W hT hI hO
              have hle : hs.length ≤ 0 := hle
              have h9 : ac.tmps.getD 9 undef = .pointer (some ⟨bb, 0, none⟩) := hO 9 (by simp)
              show Brings Try.prog (fun vv w' => Turned (fun _ => False) W w' ∧ vv = .pointer (some ⟨bb, 0, none⟩)) _
              simp only [execOp, Act.eval, h9]
              go_simp
              try exact ⟨Turned.refl _ _, rfl⟩
            case s1 =>
              refine fun hs hle => stepG_free [] [12] (by kernel_rfl) rfl ?_
              intro ac W hT hI hO
              have hle : hs.length ≤ 0 := hle
              have h12 : ac.tmps.getD 12 undef = .pointer (some ⟨wr.heap.size, 0, none⟩) := hO 12 (by simp)
              show Brings Try.prog (fun vv w' => Turned (fun _ => False) W w' ∧ vv = .pointer (some ⟨wr.heap.size, 1, none⟩)) _
              simp only [execOp, Act.eval, h12]
              go_simp
              try exact ⟨Turned.refl _ _, rfl⟩
            case s2 =>
              refine fun hs hle => stepG_free [168] [] (by kernel_rfl) rfl ?_
              intro ac W hT hI hO
              have hle : hs.length ≤ 0 := hle
              have h168 : ac.tmps.getD 168 undef = .pointer (some ⟨wr.heap.size, 1, none⟩) := hI 168 (by simp)
              show Brings Try.prog (fun vv w' => Turned (fun _ => False) W w' ∧ vv = .int .i64 i) _
              obtain ⟨k0, k1, k2, k3, k4, k5⟩ := UndS.box (P := fun W => W.cell? ⟨wr.heap.size, 0, none⟩ = some (.int .i64 op) ∧ W.cell? ⟨wr.heap.size, 1, none⟩ = some (.int .i64 i) ∧ W.cell? ⟨wr.heap.size, 2, none⟩ = some (.int .i64 xt.kind) ∧ W.cell? ⟨wr.heap.size, 3, none⟩ = some (.int .i64 xt.n) ∧ W.cell? ⟨wr.heap.size, 4, none⟩ = some (.string xt.name) ∧ W.cell? ⟨wr.heap.size, 5, none⟩ = some (.slice xt.at_.1 xt.args.length xt.at_.2)) hs W (by omega) hT (fun W T => HBK.out W (HT4.out.trans T)) (fun W h => cells6b (h.boxes _ (.head _)))
              simp only [execOp, Act.eval, h168]
              go_simp
              try exact ⟨Turned.refl _ _, rfl⟩
            case s3 =>
              refine fun hs hlen => stepG_free [167, 169] [] (by kernel_rfl) rfl ?_
              intro ac W hT hI hO
              have h167 : ac.tmps.getD 167 undef = .pointer (some ⟨bb, 0, none⟩) := hI 167 (by simp)
              have h169 : ac.tmps.getD 169 undef = .int .i64 i := hI 169 (by simp)
              obtain rfl : hs = [] := List.eq_nil_of_length_eq_zero hlen
              replace hT : Turned (fun _ => False) w4 W := hT
              show Brings Try.prog (fun vv w' => UndS (undoB tr i) (undoB tr i) (fun W => BPQ w1.heap.size bb wb m m (undoT tr i) tr [(wr.heap.size, .cells #[.int .i64 op, .int .i64 i, .int .i64 xt.kind, .int .i64 xt.n, .string xt.name, .slice xt.at_.1 xt.args.length xt.at_.2] 98)] w1 W) (fun W => BPQ w1.heap.size bb wb m m (undoT tr i) (undoT tr i) [(wr.heap.size, .cells #[.int .i64 op, .int .i64 i, .int .i64 xt.kind, .int .i64 xt.n, .string xt.name, .slice xt.at_.1 xt.args.length xt.at_.2] 98)] w1 W) w4 [vv] w') _
              simp only [execOp, Act.eval, h167, h169]
              go_simp
              show Calls Try.prog 101 _ W _
              (with_reducible refine (bpUndo rfl (HB1.out.turned0 (HT4.out.trans hT)) i).mono ?_)
              rintro e w' ⟨rfl, h⟩
              exact ⟨_, rfl, rfl, h⟩
            case s4 =>
              refine fun hs hle => stepG_free [] [10] (by kernel_rfl) rfl ?_
              intro ac W hT hI hO
              have hle : hs.length ≤ 1 := hle
              have h10 : ac.tmps.getD 10 undef = .pointer (some ⟨wb, 0, none⟩) := hO 10 (by simp)
              show Brings Try.prog (fun vv w' => Turned (fun _ => False) W w' ∧ vv = .pointer (some ⟨wb, 0, none⟩)) _
              simp only [execOp, Act.eval, h10]
              go_simp
              try exact ⟨Turned.refl _ _, rfl⟩
            case s5 =>
              refine fun hs hle => stepG_free [] [12] (by kernel_rfl) rfl ?_
              intro ac W hT hI hO
              have hle : hs.length ≤ 1 := hle
              have h12 : ac.tmps.getD 12 undef = .pointer (some ⟨wr.heap.size, 0, none⟩) := hO 12 (by simp)
              show Brings Try.prog (fun vv w' => Turned (fun _ => False) W w' ∧ vv = .pointer (some ⟨wr.heap.size, 1, none⟩)) _
              simp only [execOp, Act.eval, h12]
              go_simp
              try exact ⟨Turned.refl _ _, rfl⟩
            case s6 =>
              refine fun hs hle => stepG_free [172] [] (by kernel_rfl) rfl ?_
              intro ac W hT hI hO
              have hle : hs.length ≤ 1 := hle
              have h172 : ac.tmps.getD 172 undef = .pointer (some ⟨wr.heap.size, 1, none⟩) := hI 172 (by simp)
              show Brings Try.prog (fun vv w' => Turned (fun _ => False) W w' ∧ vv = .int .i64 i) _
              obtain ⟨k0, k1, k2, k3, k4, k5⟩ := UndS.box (P := fun W => W.cell? ⟨wr.heap.size, 0, none⟩ = some (.int .i64 op) ∧ W.cell? ⟨wr.heap.size, 1, none⟩ = some (.int .i64 i) ∧ W.cell? ⟨wr.heap.size, 2, none⟩ = some (.int .i64 xt.kind) ∧ W.cell? ⟨wr.heap.size, 3, none⟩ = some (.int .i64 xt.n) ∧ W.cell? ⟨wr.heap.size, 4, none⟩ = some (.string xt.name) ∧ W.cell? ⟨wr.heap.size, 5, none⟩ = some (.slice xt.at_.1 xt.args.length xt.at_.2)) hs W (by omega) hT (fun W T => HBK.out W (HT4.out.trans T)) (fun W h => cells6b (h.boxes _ (.head _)))
              simp only [execOp, Act.eval, h172]
              go_simp
              try exact ⟨Turned.refl _ _, rfl⟩
            case s7 =>
              refine fun hs hlen => stepG_free [171, 173] [] (by kernel_rfl) rfl ?_
              intro ac W hT hI hO
              have h171 : ac.tmps.getD 171 undef = .pointer (some ⟨wb, 0, none⟩) := hI 171 (by simp)
              have h173 : ac.tmps.getD 173 undef = .int .i64 i := hI 173 (by simp)
              obtain ⟨a, rfl⟩ := List.length_eq_one_iff.1 hlen
              obtain ⟨hT1, hT2⟩ := hT
              show Brings Try.prog (fun vv w' => UndS (undoB tr i) (undoB tr i) (fun W => BPQ w1.heap.size bb wb m m (undoT tr i) tr [(wr.heap.size, .cells #[.int .i64 op, .int .i64 i, .int .i64 xt.kind, .int .i64 xt.n, .string xt.name, .slice xt.at_.1 xt.args.length xt.at_.2] 98)] w1 W) (fun W => BPQ w1.heap.size bb wb m m (undoT tr i) (undoT tr i) [(wr.heap.size, .cells #[.int .i64 op, .int .i64 i, .int .i64 xt.kind, .int .i64 xt.n, .string xt.name, .slice xt.at_.1 xt.args.length xt.at_.2] 98)] w1 W) w4 [a, vv] w') _
              simp only [execOp, Act.eval, h171, h173]
              go_simp
              show Calls Try.prog 102 _ W _
              (with_reducible refine (bpUndoD rfl hT2 i).mono ?_)
              rintro e w' ⟨rfl, h⟩
              exact ⟨_, rfl, by first | rfl | exact hT1, rfl, h⟩
            case s8 =>
              refine fun hs hle => stepG_free [170, 174] [] (by kernel_rfl) rfl ?_
              intro ac W hT hI hO
              have hle : hs.length ≤ 2 := hle
              have h170 : hs[0]? = some (ac.tmps.getD 170 undef) := hI 170 (by simp)
              have h174 : hs[1]? = some (ac.tmps.getD 174 undef) := hI 174 (by simp)
              have e170 := UndS.val0 hs W hT h170
              have e174 := UndS.val1 hs W hT h174
              show Brings Try.prog (fun vv w' => Turned (fun _ => False) W w' ∧ vv = .bool false) _
              simp only [execOp, Act.eval, e170, e174]
              go_simp
              try exact ⟨Turned.refl _ _, rfl⟩
          case hQ =>
            intro hs vs w6 hlen hR hV
            have q175 : vs 175 = .bool false := hV 175 (by simp)
            simp only [List.foldl_cons, List.foldl_nil, List.setIfInBounds_toArray, List.set_cons_zero, List.set_cons_succ, q175]
            obtain ⟨a1, a2, rfl⟩ := list2' hlen
            have HFIN := Lib.hid hR.2.2
            clear hlen hR hV q175
            obtain ⟨xa, xc, xb, xd, xe, xf, hdb⟩ := bpCells HFIN.out
            obtain ⟨r0, r1, r2, _⟩ := rec3b hdb
            clear hdb k0 k1 k2 k3 k4 k5
            go_wp2_with (go_at_call 104; have HFIN := HFIN; (with_reducible refine (bpAlike HFIN.out).mono ?_); rintro e w20 ⟨rfl, T20⟩; have HEND := Lib.hid (HFIN.out.turned0 T20); clear T20)
            go_roundg (gk - 1)
            case measure => have := HG.out; omega
            case rel => exact ⟨j + 1, m, (undoT tr i), show _ = _ by have := HG.out; omega, by omega, by go_num, by omega, HEND.out.drop⟩
        · have b1 : (op == 1) = false := by simp [h1]
          clear h1
          go_wp2_with (first
            | (go_at_call 103; have HS5 := HS5; (with_reducible refine (bpFreshD rfl HS5.out (by have := HMJ.out; omega)).mono ?_); rintro e w6 ⟨rfl, h6⟩; have h7 := h6.box (.cells #[.int .i64 0, .int .i64 (m : Int), .string ByteArray.empty, .slice none 0 0] 41); have hb1 := h7.boxes _ (.head _); have hb2 := h7.boxes _ (.tail _ (.head _)); obtain ⟨y0, y1, y2, y3, _⟩ := cells4 hb1; obtain ⟨z0, z1, z2, z3, _⟩ := cells4 hb2; have HFIN := Lib.hid h7; obtain ⟨xa, xc, xb, xd, xe, xf, hdb⟩ := bpCells h7; obtain ⟨r0, r1, r2, _⟩ := rec3b hdb; clear hdb; clear h6 h7 hb1 hb2)
            | (go_at_call 87; have HT4 := HT4; (with_reducible refine (bpFresh rfl (HB1.out.turned0 HT4.out) (by have := HMJ.out; omega)).mono ?_); rintro e w5 ⟨rfl, h5⟩; have HS5 := Lib.hid (h5.box (.cells #[.int .i64 0, .int .i64 (m : Int), .string ByteArray.empty, .slice none 0 0] 27)); clear h5)
            | (go_at_call 104; have HFIN := HFIN; have hal := bpAlike HFIN.out; rw [show ((m + 1 : Nat) : Int) = (m : Int) + 1 by omega] at hal; (with_reducible refine hal.mono ?_); rintro e w20 ⟨rfl, T20⟩; have HEND := Lib.hid (HFIN.out.turned0 T20); clear T20)
            | (go_at_call 85; (with_reducible refine (bpDeep 30 xt _ 30 rfl (by omega) HXT.out.2.1).mono ?_); rintro e w4 ⟨rfl, T4⟩; rw [HDX.out]; obtain ⟨k0, k1, k2, k3, k4, k5⟩ := HBK.out w4 T4; have HT4 := Lib.hid T4; clear T4))
          go_roundg (gk - 1)
          case measure => have := HG.out; omega
          case rel => exact ⟨j + 1, m + 1, tr, show _ = _ by have := HG.out; omega, by omega, by go_num, by omega, HEND.out.drop⟩
    · obtain rfl : j = l.length := by omega
      have dj : decide ((l.length : Int) < (l.length : Int)) = false := decide_eq_false (by omega)
      obtain ⟨E, hE⟩ : ∃ z, z = wholeE m tr t.bare := ⟨_, rfl⟩
      obtain ⟨R, hR⟩ : ∃ z, z = hasR m tr n t.bare most.toNat := ⟨_, rfl⟩
      obtain ⟨rb, rc⟩ := R
      have HE := Lib.hid hE
      have HR := Lib.hid hR.symm
      have HTR := Lib.hid (HS1.out.trans HO0.out)
      obtain ⟨c0, c1, c2, c3, _⟩ := HKP.out _ (HS1.out.trans HO0.out)
      clear hE hR
      by_cases hm3 : 3000 < most
      · have d3 : decide (3000 < most) = true := decide_eq_true hm3
        clear hm3
        go_wp2_with (first
          | (go_at_call 105; have HX6 := HX6; (with_reducible refine (bpWholeD HQ0.out HX6.out.2.2.1 HX6.out.2.1 (E := E) (by rw [HX6.out.1]; exact HE.out.symm)).mono ?_); rintro e w7 ⟨v, rfl, hvb, hvi, T7⟩; have T7A := T7.alloc (.cells #[.int .i64 v.kind, .int .i64 v.n, .string v.name, .slice v.at_.1 v.args.length v.at_.2] 41); have HV7 := Lib.hid (And.intro (hvb.trans (by rw [HX6.out.1])) (hvi.turned0 ((Turned.refl (fun _ => False) w7).alloc (.cells #[.int .i64 v.kind, .int .i64 v.n, .string v.name, .slice v.at_.1 v.args.length v.at_.2] 41)))); have HBV := Lib.hid (heap_alloc_new w7 (.cells #[.int .i64 v.kind, .int .i64 v.n, .string v.name, .slice v.at_.1 v.args.length v.at_.2] 41)); obtain ⟨f0, f1, f2, f3, _⟩ := HKP.out _ (HTR.out.trans (HX6.out.2.2.1.trans T7A)); have HT7 := Lib.hid (HX6.out.2.2.1.trans T7A); have HT57 := Lib.hid (HX6.out.2.2.2.trans T7A); clear hvb hvi T7 T7A)
          | (go_at_call 98; have HT5 := HT5; (with_reducible refine (bpOwn ((HTO.out _ (HO0.out.trans HT5.out)).mono (fun _ _ _ => trivial)) HST.out).mono ?_); rintro e w6 ⟨X, rfl, hXb, hXi, T6⟩; have HX6 := Lib.hid (And.intro hXb (And.intro (hXi.mono (q := fun k => wr.heap.size ≤ k) (fun k _ h => Nat.le_trans HT5.out.size h)) (And.intro (HT5.out.trans T6) T6))); clear hXb hXi T6)
          | (go_at_call 89; (with_reducible refine (bpWhole HQ0.out (HTO.out _ HO0.out) HST.out HE.out.symm).mono ?_); rintro e w5 ⟨u, rfl, hub, hui, hus, T5⟩; have T5A := T5.alloc (.cells #[.int .i64 u.kind, .int .i64 u.n, .string u.name, .slice u.at_.1 u.args.length u.at_.2] 27); have HU5 := Lib.hid (And.intro hub (And.intro (hui.turned0 ((Turned.refl (fun _ => False) w5).alloc (.cells #[.int .i64 u.kind, .int .i64 u.n, .string u.name, .slice u.at_.1 u.args.length u.at_.2] 27))) hus)); have HBU := Lib.hid (heap_alloc_new w5 (.cells #[.int .i64 u.kind, .int .i64 u.n, .string u.name, .slice u.at_.1 u.args.length u.at_.2] 27)); obtain ⟨e0, e1, e2, e3, _⟩ := HKP.out _ (HTR.out.trans T5A); have HT5 := Lib.hid T5A; clear hub hui hus T5 T5A))
        go_ret
        exact ⟨rfl, HTX.out.trans (HTR.out.trans HT7.out)⟩
      · have d3 : decide (3000 < most) = false := decide_eq_false hm3
        have HM3 := Lib.hid (show most ≤ 100000 ∧ -9223372036854775808 ≤ most by have := HNI.out.2; unfold I64 at this; omega)
        clear hm3
        go_wp2_with (first
          | (go_at_call 100; have HX9 := HX9; (with_reducible refine (bpHasD HQ0.out HX9.out.2.2 HX9.out.2.1 HM3.out.1 HM3.out.2 (show hasR m tr n Z.bare most.toNat = (rb, rc) by rw [HX9.out.1]; exact HR.out)).mono ?_); rintro e w10 ⟨rfl, T10⟩; have HT10 := Lib.hid (HX9.out.2.2.trans T10); have HT10A := Lib.hid (HX9.out.2.2.trans T10); have HT8T := Lib.hid (HX9T.out.trans T10); clear T10)
          | (go_at_call 98; have HT8 := HT8; (with_reducible refine (bpOwn ((HTO.out _ (HO0.out.trans HT8.out)).mono (fun _ _ _ => trivial)) HST.out).mono ?_); rintro e w9 ⟨Z, rfl, hZb, hZi, T9⟩; have HX9 := Lib.hid (And.intro hZb (And.intro (hZi.mono (q := fun k => wr.heap.size ≤ k) (fun k _ h => Nat.le_trans HT8.out.size h)) (HT8.out.trans T9))); have HX9T := Lib.hid (HT78.out.trans T9); clear hZb hZi T9)
          | (go_at_call 106; have HT7 := HT7; (with_reducible refine (bpHas (HQ0.out.turned0 HT7.out) (HTO.out _ (HO0.out.trans HT7.out)) HST.out HM3.out.1 HM3.out.2 HR.out).mono ?_); rintro e w8 ⟨rfl, T8⟩; obtain ⟨g0, g1, g2, g3, _⟩ := HKP.out _ (HTR.out.trans (HT7.out.trans T8)); have HT8 := Lib.hid (HT7.out.trans T8); have HT78 := Lib.hid T8; clear T8)
          | (go_at_call 105; have HX6 := HX6; (with_reducible refine (bpWholeD HQ0.out HX6.out.2.2.1 HX6.out.2.1 (E := E) (by rw [HX6.out.1]; exact HE.out.symm)).mono ?_); rintro e w7 ⟨v, rfl, hvb, hvi, T7⟩; have T7A := T7.alloc (.cells #[.int .i64 v.kind, .int .i64 v.n, .string v.name, .slice v.at_.1 v.args.length v.at_.2] 41); have HV7 := Lib.hid (And.intro (hvb.trans (by rw [HX6.out.1])) (hvi.turned0 ((Turned.refl (fun _ => False) w7).alloc (.cells #[.int .i64 v.kind, .int .i64 v.n, .string v.name, .slice v.at_.1 v.args.length v.at_.2] 41)))); have HBV := Lib.hid (heap_alloc_new w7 (.cells #[.int .i64 v.kind, .int .i64 v.n, .string v.name, .slice v.at_.1 v.args.length v.at_.2] 41)); obtain ⟨f0, f1, f2, f3, _⟩ := HKP.out _ (HTR.out.trans (HX6.out.2.2.1.trans T7A)); have HT7 := Lib.hid (HX6.out.2.2.1.trans T7A); have HT57 := Lib.hid (HX6.out.2.2.2.trans T7A); clear hvb hvi T7 T7A)
          | (go_at_call 98; have HT5 := HT5; (with_reducible refine (bpOwn ((HTO.out _ (HO0.out.trans HT5.out)).mono (fun _ _ _ => trivial)) HST.out).mono ?_); rintro e w6 ⟨X, rfl, hXb, hXi, T6⟩; have HX6 := Lib.hid (And.intro hXb (And.intro (hXi.mono (q := fun k => wr.heap.size ≤ k) (fun k _ h => Nat.le_trans HT5.out.size h)) (And.intro (HT5.out.trans T6) T6))); clear hXb hXi T6)
          | (go_at_call 89; (with_reducible refine (bpWhole HQ0.out (HTO.out _ HO0.out) HST.out HE.out.symm).mono ?_); rintro e w5 ⟨u, rfl, hub, hui, hus, T5⟩; have T5A := T5.alloc (.cells #[.int .i64 u.kind, .int .i64 u.n, .string u.name, .slice u.at_.1 u.args.length u.at_.2] 27); have HU5 := Lib.hid (And.intro hub (And.intro (hui.turned0 ((Turned.refl (fun _ => False) w5).alloc (.cells #[.int .i64 u.kind, .int .i64 u.n, .string u.name, .slice u.at_.1 u.args.length u.at_.2] 27))) hus)); have HBU := Lib.hid (heap_alloc_new w5 (.cells #[.int .i64 u.kind, .int .i64 u.n, .string u.name, .slice u.at_.1 u.args.length u.at_.2] 27)); obtain ⟨e0, e1, e2, e3, _⟩ := HKP.out _ (HTR.out.trans T5A); have HT5 := Lib.hid T5A; clear hub hui hus T5 T5A))
        have HCU := Lib.hid (fun W (T : Turned (fun _ => False) w10 W) => (((HT57.out.trans HT8T.out).trans T).block _ (Array.getElem?_eq_some_iff.1 HBU.out).1 (fun f => f)).trans HBU.out)
        have HIU := Lib.hid (fun W (T : Turned (fun _ => False) w10 W) => HU5.out.2.1.turned0 ((HT57.out.trans HT8T.out).trans T))
        have HCV := Lib.hid (fun W (T : Turned (fun _ => False) w10 W) => ((HT8T.out.trans T).block _ (Array.getElem?_eq_some_iff.1 HBV.out).1 (fun f => f)).trans HBV.out)
        have HIV := Lib.hid (fun W (T : Turned (fun _ => False) w10 W) => HV7.out.2.turned0 (HT8T.out.trans T))
        refine wp_region_ssa' (G := (fun dd vv W => (match dd with | 217 => vv = .int .i64 E | 218 => vv = .int .i64 E | 219 => vv = .bool true | 220 => vv = .bool true | 221 => vv = .agg #[.int .i64 u.kind, .int .i64 u.n, .string u.name, .slice u.at_.1 u.args.length u.at_.2] | 223 => vv = .agg #[.int .i64 v.kind, .int .i64 v.n, .string v.name, .slice v.at_.1 v.args.length v.at_.2] | 224 => vv = .bool true | 225 => vv = .bool true | 226 => vv = .bool true | 227 => vv = .bool rb | 228 => vv = .bool rb | 229 => vv = .bool true | 230 => vv = .bool true | 231 => vv = .bool true | 232 => vv = .int .i64 (rc : Int) | 233 => vv = .int .i64 (rc : Int) | 234 => vv = .bool true | 235 => vv = .bool true | 8 => vv = .bool true | 222 => AlkO u.bare (vv) W | _ => True : Prop))) [217, 218, 219, 220, 221, 222, 223, 224, 225, 226, 227, 228, 229, 230, 231, 232, 233, 234, 235, 8] (by kernel_rfl) rfl (by kernel_rfl) ?hG ?hs ?hQ
        case hG =>
          intro d vv W W2 T h
          split at h <;> first
            | exact h
            | (obtain ⟨x, x1, x2, x3⟩ := h; exact ⟨x, x1, x2.turned0 T, x3⟩)
        case hs =>
          refine ⟨?s0, ?s1, ?s2, ?s3, ?s4, ?s5, ?s6, ?s7, ?s8, ?s9, ?s10, ?s11, ?s12, ?s13, ?s14, ?s15, ?s16, ?s17, ?s18, ?s19, trivial⟩
          case s0 =>
            refine stepOk_free [] [23] (by kernel_rfl) rfl ?_
            intro ac W hT hI hO
            have h23 : ac.tmps.getD 23 undef = .int .i64 E := hO 23 (by simp)
            show Brings Try.prog (fun vv w' => Turned (fun _ => False) W w' ∧ vv = .int .i64 E) _
            simp only [execOp, Act.eval, h23]
            go_simp
            try exact ⟨Turned.refl _ _, rfl⟩
          case s1 =>
            refine stepOk_free [] [25] (by kernel_rfl) rfl ?_
            intro ac W hT hI hO
            have h25 : ac.tmps.getD 25 undef = .int .i64 E := hO 25 (by simp)
            show Brings Try.prog (fun vv w' => Turned (fun _ => False) W w' ∧ vv = .int .i64 E) _
            simp only [execOp, Act.eval, h25]
            go_simp
            try exact ⟨Turned.refl _ _, rfl⟩
          case s2 =>
            refine stepOk_free [217, 218] [] (by kernel_rfl) rfl ?_
            intro ac W hT hI hO
            have h217 : ac.tmps.getD 217 undef = .int .i64 E := hI 217 (by simp)
            have h218 : ac.tmps.getD 218 undef = .int .i64 E := hI 218 (by simp)
            show Brings Try.prog (fun vv w' => Turned (fun _ => False) W w' ∧ vv = .bool true) _
            simp only [execOp, Act.eval, h217, h218]
            go_simp
            try exact ⟨Turned.refl _ _, rfl⟩
          case s3 =>
            refine stepOk_free [219] [] (by kernel_rfl) rfl ?_
            intro ac W hT hI hO
            have h219 : ac.tmps.getD 219 undef = .bool true := hI 219 (by simp)
            show Brings Try.prog (fun vv w' => Turned (fun _ => False) W w' ∧ vv = .bool true) _
            simp only [execOp, Act.eval, h219]
            go_simp
            try exact ⟨Turned.refl _ _, rfl⟩
          case s4 =>
            refine stepOk_guard [220] [22] (by kernel_rfl) 3 true 220 rfl rfl (by simp) true true (fun _ _ h => h) (fun hc => ?_) (fun hc => by cases hc)
            intro ac W hT hI hO
            have h22 : ac.tmps.getD 22 undef = .pointer (some ⟨w5.heap.size, 0, none⟩) := hO 22 (by simp)
            show Brings Try.prog (fun vv w' => Turned (fun _ => False) W w' ∧ vv = .agg #[.int .i64 u.kind, .int .i64 u.n, .string u.name, .slice u.at_.1 u.args.length u.at_.2]) _
            obtain ⟨c0, c1, c2, c3, _⟩ := cells4 (HCU.out W hT)
            simp only [execOp, Act.eval, h22]
            go_simp
            try exact ⟨Turned.refl _ _, rfl⟩
          case s5 =>
            refine stepOk_guard [221, 220] [] (by kernel_rfl) 3 true 220 rfl rfl (by simp) true true (fun _ _ h => h) (fun hc => ?_) (fun hc => by cases hc)
            intro ac W hT hI hO
            have h221 : ac.tmps.getD 221 undef = .agg #[.int .i64 u.kind, .int .i64 u.n, .string u.name, .slice u.at_.1 u.args.length u.at_.2] := hI 221 (by simp)
            show Brings Try.prog (fun vv w' => Turned (fun _ => False) W w' ∧ AlkO u.bare (vv) w') _
            simp only [execOp, Act.eval, h221]
            go_simp
            show Calls Try.prog 98 _ W _
            refine (bpOwn (HIU.out W hT) HU5.out.2.2).mono ?_
            rintro e w' ⟨o, rfl, h1, h2, h3⟩
            exact ⟨_, rfl, h3, o, rfl, h2.mono (fun _ _ _ => trivial), h1⟩
          case s6 =>
            refine stepOk_guard [220] [24] (by kernel_rfl) 3 true 220 rfl rfl (by simp) true true (fun _ _ h => h) (fun hc => ?_) (fun hc => by cases hc)
            intro ac W hT hI hO
            have h24 : ac.tmps.getD 24 undef = .pointer (some ⟨w7.heap.size, 0, none⟩) := hO 24 (by simp)
            show Brings Try.prog (fun vv w' => Turned (fun _ => False) W w' ∧ vv = .agg #[.int .i64 v.kind, .int .i64 v.n, .string v.name, .slice v.at_.1 v.args.length v.at_.2]) _
            obtain ⟨c0, c1, c2, c3, _⟩ := cells4 (HCV.out W hT)
            simp only [execOp, Act.eval, h24]
            go_simp
            try exact ⟨Turned.refl _ _, rfl⟩
          case s7 =>
            refine stepOk_guard [222, 223, 220] [] (by kernel_rfl) 3 true 220 rfl rfl (by simp) true true (fun _ _ h => h) (fun hc => ?_) (fun hc => by cases hc)
            intro ac W hT hI hO
            have h222 := hI 222 (by simp)
            obtain ⟨o222, h222, x222, y222⟩ : AlkO u.bare (ac.tmps.getD 222 undef) W := h222
            have h223 : ac.tmps.getD 223 undef = .agg #[.int .i64 v.kind, .int .i64 v.n, .string v.name, .slice v.at_.1 v.args.length v.at_.2] := hI 223 (by simp)
            show Brings Try.prog (fun vv w' => Turned (fun _ => False) W w' ∧ vv = .bool true) _
            simp only [execOp, Act.eval, h222, h223]
            go_simp
            show Calls Try.prog 48 _ W _
            (with_reducible refine (alkSame x222 (HIV.out W hT) (y222.trans (HU5.out.1.trans HV7.out.1.symm))).mono ?_)
            rintro e w' ⟨rfl, T'⟩
            exact ⟨_, rfl, T', rfl⟩
          case s8 =>
            refine stepOk_free [220, 224] [] (by kernel_rfl) rfl ?_
            intro ac W hT hI hO
            have h220 : ac.tmps.getD 220 undef = .bool true := hI 220 (by simp)
            have h224 : ac.tmps.getD 224 undef = .bool true := hI 224 (by simp)
            show Brings Try.prog (fun vv w' => Turned (fun _ => False) W w' ∧ vv = .bool true) _
            simp only [execOp, Act.eval, h220, h224]
            go_simp
            try exact ⟨Turned.refl _ _, rfl⟩
          case s9 =>
            refine stepOk_free [225] [] (by kernel_rfl) rfl ?_
            intro ac W hT hI hO
            have h225 : ac.tmps.getD 225 undef = .bool true := hI 225 (by simp)
            show Brings Try.prog (fun vv w' => Turned (fun _ => False) W w' ∧ vv = .bool true) _
            simp only [execOp, Act.eval, h225]
            go_simp
            try exact ⟨Turned.refl _ _, rfl⟩
          case s10 =>
            refine stepOk_guard [226] [26] (by kernel_rfl) 9 true 226 rfl rfl (by simp) true true (fun _ _ h => h) (fun hc => ?_) (fun hc => by cases hc)
            intro ac W hT hI hO
            have h26 : ac.tmps.getD 26 undef = .bool rb := hO 26 (by simp)
            show Brings Try.prog (fun vv w' => Turned (fun _ => False) W w' ∧ vv = .bool rb) _
            simp only [execOp, Act.eval, h26]
            go_simp
            try exact ⟨Turned.refl _ _, rfl⟩
          case s11 =>
            refine stepOk_guard [226] [28] (by kernel_rfl) 9 true 226 rfl rfl (by simp) true true (fun _ _ h => h) (fun hc => ?_) (fun hc => by cases hc)
            intro ac W hT hI hO
            have h28 : ac.tmps.getD 28 undef = .bool rb := hO 28 (by simp)
            show Brings Try.prog (fun vv w' => Turned (fun _ => False) W w' ∧ vv = .bool rb) _
            simp only [execOp, Act.eval, h28]
            go_simp
            try exact ⟨Turned.refl _ _, rfl⟩
          case s12 =>
            refine stepOk_guard [227, 228, 226] [] (by kernel_rfl) 9 true 226 rfl rfl (by simp) true true (fun _ _ h => h) (fun hc => ?_) (fun hc => by cases hc)
            intro ac W hT hI hO
            have h227 : ac.tmps.getD 227 undef = .bool rb := hI 227 (by simp)
            have h228 : ac.tmps.getD 228 undef = .bool rb := hI 228 (by simp)
            show Brings Try.prog (fun vv w' => Turned (fun _ => False) W w' ∧ vv = .bool true) _
            simp only [execOp, Act.eval, h227, h228]
            go_simp
            try exact ⟨Turned.refl _ _, rfl⟩
          case s13 =>
            refine stepOk_free [226, 229] [] (by kernel_rfl) rfl ?_
            intro ac W hT hI hO
            have h226 : ac.tmps.getD 226 undef = .bool true := hI 226 (by simp)
            have h229 : ac.tmps.getD 229 undef = .bool true := hI 229 (by simp)
            show Brings Try.prog (fun vv w' => Turned (fun _ => False) W w' ∧ vv = .bool true) _
            simp only [execOp, Act.eval, h226, h229]
            go_simp
            try exact ⟨Turned.refl _ _, rfl⟩
          case s14 =>
            refine stepOk_free [230] [] (by kernel_rfl) rfl ?_
            intro ac W hT hI hO
            have h230 : ac.tmps.getD 230 undef = .bool true := hI 230 (by simp)
            show Brings Try.prog (fun vv w' => Turned (fun _ => False) W w' ∧ vv = .bool true) _
            simp only [execOp, Act.eval, h230]
            go_simp
            try exact ⟨Turned.refl _ _, rfl⟩
          case s15 =>
            refine stepOk_guard [231] [27] (by kernel_rfl) 14 true 231 rfl rfl (by simp) true true (fun _ _ h => h) (fun hc => ?_) (fun hc => by cases hc)
            intro ac W hT hI hO
            have h27 : ac.tmps.getD 27 undef = .int .i64 (rc : Int) := hO 27 (by simp)
            show Brings Try.prog (fun vv w' => Turned (fun _ => False) W w' ∧ vv = .int .i64 (rc : Int)) _
            simp only [execOp, Act.eval, h27]
            go_simp
            try exact ⟨Turned.refl _ _, rfl⟩
          case s16 =>
            refine stepOk_guard [231] [29] (by kernel_rfl) 14 true 231 rfl rfl (by simp) true true (fun _ _ h => h) (fun hc => ?_) (fun hc => by cases hc)
            intro ac W hT hI hO
            have h29 : ac.tmps.getD 29 undef = .int .i64 (rc : Int) := hO 29 (by simp)
            show Brings Try.prog (fun vv w' => Turned (fun _ => False) W w' ∧ vv = .int .i64 (rc : Int)) _
            simp only [execOp, Act.eval, h29]
            go_simp
            try exact ⟨Turned.refl _ _, rfl⟩
          case s17 =>
            refine stepOk_guard [232, 233, 231] [] (by kernel_rfl) 14 true 231 rfl rfl (by simp) true true (fun _ _ h => h) (fun hc => ?_) (fun hc => by cases hc)
            intro ac W hT hI hO
            have h232 : ac.tmps.getD 232 undef = .int .i64 (rc : Int) := hI 232 (by simp)
            have h233 : ac.tmps.getD 233 undef = .int .i64 (rc : Int) := hI 233 (by simp)
            show Brings Try.prog (fun vv w' => Turned (fun _ => False) W w' ∧ vv = .bool true) _
            simp only [execOp, Act.eval, h232, h233]
            go_simp
            try exact ⟨Turned.refl _ _, rfl⟩
          case s18 =>
            refine stepOk_free [231, 234] [] (by kernel_rfl) rfl ?_
            intro ac W hT hI hO
            have h231 : ac.tmps.getD 231 undef = .bool true := hI 231 (by simp)
            have h234 : ac.tmps.getD 234 undef = .bool true := hI 234 (by simp)
            show Brings Try.prog (fun vv w' => Turned (fun _ => False) W w' ∧ vv = .bool true) _
            simp only [execOp, Act.eval, h231, h234]
            go_simp
            try exact ⟨Turned.refl _ _, rfl⟩
          case s19 =>
            refine stepOk_free [235] [] (by kernel_rfl) rfl ?_
            intro ac W hT hI hO
            have h235 : ac.tmps.getD 235 undef = .bool true := hI 235 (by simp)
            show Brings Try.prog (fun vv w' => Turned (fun _ => False) W w' ∧ vv = .bool true) _
            simp only [execOp, Act.eval, h235]
            go_simp
            try exact ⟨Turned.refl _ _, rfl⟩
        case hQ =>
          intro vs w11 T11 hV
          have q8 : vs 8 = .bool true := hV 8 (by simp)
          simp only [List.foldl_cons, List.foldl_nil, List.setIfInBounds_toArray, List.set_cons_zero, List.set_cons_succ, q8]
          have HT11 := Lib.hid T11
          clear hV q8 T11
          go_wp2_with fail
          go_ret
          exact ⟨rfl, HTX.out.trans (HTR.out.trans (HT10.out.trans HT11.out))⟩
end Go.Proofs.Ytoihjobdfjajfaa

/- How a list of acts that came in is opened. -/
import Derived.Test.YtoihjobdfjajfaaIP1
namespace Go.Proofs.Ytoihjobdfjajfaa
open Go.Joins Go.Deep Go.ChangeShapes Go.WideShapes Go.ChangeAt Go.RowKit
set_option linter.unusedVariables false
set_option linter.unusedSimpArgs false
theorem cellsOf58 : Try.prog.cellsOf 58 = 6 := by kernel_rfl
theorem list6 {α : Type} {l : List α} (h : l.length = 6) : ∃ a b c d e f, l = [a, b, c, d, e, f] := by
  match l, h with
  | [a, b, c, d, e, f], _ => exact ⟨a, b, c, d, e, f, rfl⟩
theorem list3 {α : Type} {l : List α} (h : l.length = 3) : ∃ a b c, l = [a, b, c] := by
  match l, h with
  | [a, b, c], _ => exact ⟨a, b, c, rfl⟩
section
variable {H : Type} {enc : TypeId × Value → H} {W : World} {base : Nat} {sp : Nat → Bool} {held : Bool}
set_option maxRecDepth 100000 in
theorem act_of {fuel : Nat} {cs : List Value} {x : DataW H × List MemPlace} (h : DataW.trod enc Try.prog W base sp held fuel 58 cs = some x) : ∃ k : Act2, cs = k.cells ∧ I64 k.i := by
  cases fuel with
  | zero => simp [DataW.trod] at h
  | succ fuel =>
  obtain ⟨xs, n, hn, hx, hcs, hlen, hf⟩ := DataW.trod_struct Try.underlying58 h
  have hn : fuel = n := by omega
  subst hn
  rw [cellsOf58] at hcs
  obtain ⟨u0, u1, u2, u3, u4, u5, rfl⟩ := list6 hcs
  obtain ⟨y0, y1, y2, rfl⟩ := list3 hlen
  have f0 : DataW.trod enc Try.prog W base sp held fuel 3 (([u0, u1, u2, u3, u4, u5].drop 0).take (Try.prog.cellsOf 3)) = some y0 := hf 0 _ rfl
  have f1 : DataW.trod enc Try.prog W base sp held fuel 3 (([u0, u1, u2, u3, u4, u5].drop 1).take (Try.prog.cellsOf 3)) = some y1 := hf 1 _ rfl
  have f2 : DataW.trod enc Try.prog W base sp held fuel 35 (([u0, u1, u2, u3, u4, u5].drop 2).take (Try.prog.cellsOf 35)) = some y2 := hf 2 _ rfl
  simp only [cellsOf3, cellsOf35] at f0 f1 f2
  simp at f0 f1 f2
  obtain ⟨k, e0, _, wk⟩ := DataW.trod_int Try.underlying3 f0
  obtain ⟨m, e1, _, wm⟩ := DataW.trod_int Try.underlying3 f1
  obtain ⟨q, e2⟩ := key_of f2
  simp [Key.cells] at e0 e1 e2
  obtain ⟨rfl, rfl, rfl, rfl⟩ := e2
  subst e0 e1
  exact ⟨⟨k, m, q⟩, rfl, I64_of wm⟩
set_option maxRecDepth 100000 in
theorem asT_of {fuel : Nat} {a : Option Addr} {len cap : Nat} {x : DataW H × List MemPlace} (hf : DataW.trod enc Try.prog W base sp held fuel 52 (Value.slice a len cap).cells.toList = some x) : ∃ l : List Act2, l.length = len ∧ ASl W a cap l := by
  cases fuel with
  | zero => simp [DataW.trod] at hf
  | succ fuel =>
  rcases DataW.trod_slice Try.underlying52 hf with ⟨hcs, _⟩ | ⟨ad, len', cap', elems, rest, n, hn, hcs, _, _, hl, hm, hlen, hel, _⟩
  · simp [Value.cells] at hcs
    obtain ⟨rfl, rfl, rfl⟩ := hcs
    exact ⟨[], rfl, ⟨fun _ => ⟨rfl, rfl⟩, fun h => by simp at h, Nat.le_refl _, by omega, fun x hx => by cases hx⟩⟩
  · simp [Value.cells] at hcs
    obtain ⟨rfl, rfl, rfl⟩ := hcs
    rw [cellsOf58] at hel
    have hp : ∀ i, ∃ k : Act2, i < len → I64 k.i ∧ ∀ j, j < 6 → W.cell? (ad.add (i * 6 + j)) = k.cells[j]? := by
      intro i
      by_cases hi : i < len
      · have he := hel i hi
        rw [List.getElem?_eq_getElem (by omega)] at he
        obtain ⟨cs', hc, ht⟩ := Option.bind_eq_some_iff.1 he
        obtain ⟨k, rfl, wk⟩ := act_of ht
        obtain ⟨_, _, hat⟩ := World.cells?_some hc
        refine ⟨k, fun _ => ⟨wk, fun j hj => ?_⟩⟩
        rw [← hat j hj]
        congr 1
        exact (add_add ..).symm
      · exact ⟨⟨0, 0, Key.zero⟩, fun h => absurd h hi⟩
    obtain ⟨f, hff⟩ := Classical.axiomOfChoice hp
    refine ⟨(List.range len).map f, by simp, ⟨(fun e => by cases e), fun hpos => ?_, by simpa using hl, by unfold maxLen at hm; omega, fun x hx => ?_⟩⟩
    · simp at hpos
      obtain ⟨b, o, spot⟩ := ad
      have hc := (hff 0 (by omega)).2 0 (by omega)
      have hspot : spot = none := by
        have : W.cell? ((⟨b, o, spot⟩ : Addr).add (0 * 6 + 0)) = some (.int .i64 (f 0).op) := hc
        simpa [Addr.add] using World.cell?_spot this
      subst hspot
      refine ⟨b, o, rfl, fun i x hx j u hu => ?_⟩
      have hlt := (List.getElem?_eq_some_iff.1 hx).1
      rw [List.length_map, List.length_range] at hlt
      have hx2 : ((List.range len).map f)[i]? = some (f i) := by rw [List.getElem?_map, List.getElem?_range hlt]; rfl
      rw [hx] at hx2
      obtain rfl := Option.some.inj hx2
      have hj : j < 6 := (List.getElem?_eq_some_iff.1 hu).1
      have hc := (hff i hlt).2 j hj
      rw [Addr.add_lit] at hc
      rw [hc, hu]
    · obtain ⟨i, hi, rfl⟩ := List.mem_map.1 hx
      exact (hff i (by simpa using hi)).1
end
end Go.Proofs.Ytoihjobdfjajfaa

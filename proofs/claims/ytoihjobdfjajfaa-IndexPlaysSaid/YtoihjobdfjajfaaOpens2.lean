/- How a slice of keys, of ints that came in is opened. -/
import Derived.Test.YtoihjobdfjajfaaOpens
import Derived.Test.YtoihjobdfjajfaaIdxAll
namespace Go.Proofs.Ytoihjobdfjajfaa
open Go.Joins Go.Deep Go.ChangeShapes Go.WideShapes Go.ChangeAt Go.RowKit
set_option linter.unusedVariables false
set_option linter.unusedSimpArgs false
theorem cellsOf35 : Try.prog.cellsOf 35 = 4 := by kernel_rfl
section
variable {H : Type} {enc : TypeId × Value → H} {W : World} {base : Nat} {sp : Nat → Bool} {held : Bool}
set_option maxRecDepth 100000 in
theorem isT_of {fuel : Nat} {a : Option Addr} {len cap : Nat} {x : DataW H × List MemPlace} (hf : DataW.trod enc Try.prog W base sp held fuel 61 (Value.slice a len cap).cells.toList = some x) : ∃ l : List Int, l.length = len ∧ ISl W a cap l := by
  cases fuel with
  | zero => simp [DataW.trod] at hf
  | succ fuel =>
  rcases DataW.trod_slice Try.underlying61 hf with ⟨hcs, _⟩ | ⟨ad, len', cap', elems, rest, n, hn, hcs, _, _, hl, hm, hlen, hel, _⟩
  · simp [Value.cells] at hcs
    obtain ⟨rfl, rfl, rfl⟩ := hcs
    exact ⟨[], rfl, ⟨fun _ => ⟨rfl, rfl⟩, fun h => by simp at h, Nat.le_refl _, by omega, fun x hx => by cases hx⟩⟩
  · simp [Value.cells] at hcs
    obtain ⟨rfl, rfl, rfl⟩ := hcs
    rw [cellsOf3] at hel
    have hp : ∀ i, ∃ k : Int, i < len → I64 k ∧ W.cell? (ad.add i) = some (.int .i64 k) := by
      intro i
      by_cases hi : i < len
      · have he := hel i hi
        rw [List.getElem?_eq_getElem (by omega)] at he
        obtain ⟨cs', hc, ht⟩ := Option.bind_eq_some_iff.1 he
        obtain ⟨k, rfl, _, wk⟩ := DataW.trod_int Try.underlying3 ht
        obtain ⟨_, _, hat⟩ := World.cells?_some hc
        have h0 := hat 0 (by omega)
        simp at h0
        refine ⟨k, fun _ => ⟨I64_of wk, ?_⟩⟩
        rw [← h0]
        congr 1
      · exact ⟨0, fun h => absurd h hi⟩
    obtain ⟨f, hff⟩ := Classical.axiomOfChoice hp
    refine ⟨(List.range len).map f, by simp, ⟨(fun e => by cases e), fun hpos => ?_, by simpa using hl, by unfold maxLen at hm; omega, fun x hx => ?_⟩⟩
    · simp at hpos
      obtain ⟨b, o, spot⟩ := ad
      have hc := (hff 0 hpos).2
      have hspot : spot = none := by simpa [Addr.add] using World.cell?_spot hc
      subst hspot
      refine ⟨b, o, rfl, fun j u hu => ?_⟩
      have hlt := (List.getElem?_eq_some_iff.1 hu).1
      rw [List.length_map, List.length_range] at hlt
      have h4 : ((List.range len).map f)[j]? = some (f j) := by rw [List.getElem?_map, List.getElem?_range hlt]; rfl
      rw [hu] at h4
      have hc := (hff j hlt).2
      rw [Addr.add_lit] at hc
      rw [hc, Option.some.inj h4]
    · obtain ⟨i, hi, rfl⟩ := List.mem_map.1 hx
      exact (hff i (by simpa using hi)).1
set_option maxRecDepth 100000 in
theorem key_of {fuel : Nat} {cs : List Value} {x : DataW H × List MemPlace} (h : DataW.trod enc Try.prog W base sp held fuel 35 cs = some x) : ∃ k : Key, cs = k.cells := by
  cases fuel with
  | zero => simp [DataW.trod] at h
  | succ fuel =>
  obtain ⟨xs, n, hn, hx, hcs, hlen, hf⟩ := DataW.trod_struct Try.underlying35 h
  have hn : fuel = n := by omega
  subst hn
  rw [cellsOf35] at hcs
  obtain ⟨u0, u1, u2, u3, rfl⟩ := list4 hcs
  obtain ⟨y0, y1, y2, y3, rfl⟩ := list4 hlen
  have f0 : DataW.trod enc Try.prog W base sp held fuel 3 (([u0, u1, u2, u3].drop 0).take (Try.prog.cellsOf 3)) = some y0 := hf 0 _ rfl
  have f1 : DataW.trod enc Try.prog W base sp held fuel 2 (([u0, u1, u2, u3].drop 1).take (Try.prog.cellsOf 2)) = some y1 := hf 1 _ rfl
  have f2 : DataW.trod enc Try.prog W base sp held fuel 9 (([u0, u1, u2, u3].drop 2).take (Try.prog.cellsOf 9)) = some y2 := hf 2 _ rfl
  have f3 : DataW.trod enc Try.prog W base sp held fuel 3 (([u0, u1, u2, u3].drop 3).take (Try.prog.cellsOf 3)) = some y3 := hf 3 _ rfl
  simp only [cellsOf3, cellsOf2, cellsOf9] at f0 f1 f2 f3
  simp at f0 f1 f2 f3
  obtain ⟨k, e0, _, wk⟩ := DataW.trod_int Try.underlying3 f0
  obtain ⟨m, e1, _, wm⟩ := DataW.trod_int Try.underlying2 f1
  obtain ⟨s, e2, _, ws⟩ := DataW.trod_string Try.underlying9 f2
  obtain ⟨r, e3, _, wr⟩ := DataW.trod_int Try.underlying3 f3
  simp at e0 e1 e2 e3
  subst e0 e1 e2 e3
  exact ⟨⟨k, m, s, r⟩, rfl⟩
set_option maxRecDepth 100000 in
theorem klT_of {fuel : Nat} {a : Option Addr} {len cap : Nat} {x : DataW H × List MemPlace} (hf : DataW.trod enc Try.prog W base sp held fuel 55 (Value.slice a len cap).cells.toList = some x) : ∃ l : List Key, l.length = len ∧ KSl W a cap l := by
  cases fuel with
  | zero => simp [DataW.trod] at hf
  | succ fuel =>
  rcases DataW.trod_slice Try.underlying55 hf with ⟨hcs, _⟩ | ⟨ad, len', cap', elems, rest, n, hn, hcs, _, _, hl, hm, hlen, hel, _⟩
  · simp [Value.cells] at hcs
    obtain ⟨rfl, rfl, rfl⟩ := hcs
    exact ⟨[], rfl, ⟨fun _ => ⟨rfl, rfl⟩, fun h => by simp at h, Nat.le_refl _, by omega⟩⟩
  · simp [Value.cells] at hcs
    obtain ⟨rfl, rfl, rfl⟩ := hcs
    rw [cellsOf35] at hel
    have hp : ∀ i, ∃ k : Key, i < len → ∀ j, j < 4 → W.cell? (ad.add (i * 4 + j)) = k.cells[j]? := by
      intro i
      by_cases hi : i < len
      · have he := hel i hi
        rw [List.getElem?_eq_getElem (by omega)] at he
        obtain ⟨cs', hc, ht⟩ := Option.bind_eq_some_iff.1 he
        obtain ⟨k, rfl⟩ := key_of ht
        obtain ⟨_, _, hat⟩ := World.cells?_some hc
        refine ⟨k, fun _ j hj => ?_⟩
        rw [← hat j hj]
        congr 1
        exact (add_add ..).symm
      · exact ⟨Key.zero, fun h => absurd h hi⟩
    obtain ⟨f, hff⟩ := Classical.axiomOfChoice hp
    refine ⟨(List.range len).map f, by simp, ⟨(fun e => by cases e), fun hpos => ?_, by simpa using hl, by unfold maxLen at hm; omega⟩⟩
    simp at hpos
    obtain ⟨b, o, spot⟩ := ad
    have hc := hff 0 (by omega) 0 (by omega)
    have hspot : spot = none := by
      have : W.cell? ((⟨b, o, spot⟩ : Addr).add (0 * 4 + 0)) = some (.int .i64 (f 0).kind) := hc
      simpa [Addr.add] using World.cell?_spot this
    subst hspot
    refine ⟨b, o, rfl, fun j u hu => ?_⟩
    have hf4 : ∀ x : Key, x.cells.length = 4 := fun _ => rfl
    have hlt := (List.getElem?_eq_some_iff.1 hu).1
    rw [flat4_length Key.cells hf4, List.length_map, List.length_range] at hlt
    have hi : j / 4 < len := by omega
    have hx : ((List.range len).map f)[j / 4]? = some (f (j / 4)) := by rw [List.getElem?_map, List.getElem?_range hi]; rfl
    have h4 := flat4_at Key.cells hf4 hx (j % 4) (by omega)
    rw [show j / 4 * 4 + j % 4 = j by omega, hu] at h4
    have hc := hff (j / 4) hi (j % 4) (by omega)
    rw [show j / 4 * 4 + j % 4 = j by omega, Addr.add_lit] at hc
    rw [hc, h4]
end
end Go.Proofs.Ytoihjobdfjajfaa

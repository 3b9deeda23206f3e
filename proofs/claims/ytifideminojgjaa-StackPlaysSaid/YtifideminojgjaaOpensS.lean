/- How a slice that came in is opened as a source. -/
import Derived.Test.YtifideminojgjaaStksL
import Derived.ProofKit
namespace Go.Proofs.Ytifideminojgjaa
open Go.ChangeShapes Go.WideShapes Go.ChangeAt Go.RowKit
set_option linter.unusedVariables false
set_option linter.unusedSimpArgs false

theorem srcS_of {H : Type} {enc : TypeId × Value → H} {W : World} {base : Nat} {sp : Nat → Bool} {held : Bool} {fuel : Nat} {a : Option Addr} {len cap : Nat} {x : DataW H × List MemPlace}
    (hf : DataW.trod enc Try.prog W base sp held fuel 31 (Value.slice a len cap).cells.toList = some x) : ∃ ss, ss.length = len ∧ Src Value.string W a cap ss ∧ len ≤ maxLen := by
  rcases open_strings Try.underlying31 Try.underlying9 (by kernel_rfl) hf with ⟨hcs, _⟩ | ⟨ad, l, c, ss, hcs, _, hl, hm, hz, _, hcell, hws⟩
  · simp [Value.cells] at hcs
    obtain ⟨rfl, rfl, rfl⟩ := hcs
    exact ⟨[], rfl, ⟨fun _ => ⟨rfl, rfl⟩, fun h => by simp at h, (fun b o e => by cases e)⟩, Nat.zero_le _⟩
  · simp [Value.cells] at hcs
    obtain ⟨rfl, rfl, rfl⟩ := hcs
    have hle : len ≤ ss.length := by rw [hz]; split <;> omega
    refine ⟨ss.take len, by rw [List.length_take]; omega, ⟨(fun e => by cases e), fun h => ?_, ?_⟩, by omega⟩
    · rw [List.length_take] at h
      obtain ⟨b, o, spot⟩ := ad
      have hc := hcell 0 (by omega)
      have hspot : spot = none := by simpa [Addr.add] using World.cell?_spot hc
      subst hspot
      exact ⟨b, o, rfl⟩
    · intro b o e i s hs
      injection e with e
      subst e
      have hi := (List.getElem?_eq_some_iff.1 hs).1
      rw [List.length_take] at hi
      have hc := hcell i (by omega)
      rw [Addr.add_lit] at hc
      rw [hc]
      rw [List.getElem?_take, if_pos (by omega)] at hs
      simp [List.getD, hs]

theorem srcI_of {H : Type} {enc : TypeId × Value → H} {W : World} {base : Nat} {sp : Nat → Bool} {held : Bool} {fuel : Nat} {a : Option Addr} {len cap : Nat} {x : DataW H × List MemPlace}
    (hf : DataW.trod enc Try.prog W base sp held fuel 55 (Value.slice a len cap).cells.toList = some x) : ∃ ss, ss.length = len ∧ Src (Value.int .i64) W a cap ss ∧ len ≤ maxLen := by
  rcases open_ints Try.underlying55 Try.underlying3 (by kernel_rfl) hf with ⟨hcs, _⟩ | ⟨ad, l, c, ss, hcs, _, hl, hm, hz, _, hcell, hws⟩
  · simp [Value.cells] at hcs
    obtain ⟨rfl, rfl, rfl⟩ := hcs
    exact ⟨[], rfl, ⟨fun _ => ⟨rfl, rfl⟩, fun h => by simp at h, (fun b o e => by cases e)⟩, Nat.zero_le _⟩
  · simp [Value.cells] at hcs
    obtain ⟨rfl, rfl, rfl⟩ := hcs
    have hle : len ≤ ss.length := by rw [hz]; split <;> omega
    refine ⟨ss.take len, by rw [List.length_take]; omega, ⟨(fun e => by cases e), fun h => ?_, ?_⟩, by omega⟩
    · rw [List.length_take] at h
      obtain ⟨b, o, spot⟩ := ad
      have hc := hcell 0 (by omega)
      have hspot : spot = none := by simpa [Addr.add] using World.cell?_spot hc
      subst hspot
      exact ⟨b, o, rfl⟩
    · intro b o e i s hs
      injection e with e
      subst e
      have hi := (List.getElem?_eq_some_iff.1 hs).1
      rw [List.length_take] at hi
      have hc := hcell i (by omega)
      rw [Addr.add_lit] at hc
      rw [hc]
      rw [List.getElem?_take, if_pos (by omega)] at hs
      simp [List.getD, hs]

end Go.Proofs.Ytifideminojgjaa

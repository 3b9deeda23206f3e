/- How a slice of calls that came in is opened. -/
import Derived.Test.YtifideminojgjaaPlaysL
import Derived.ProofKit
import Derived.Deep.Strs
namespace Go.Proofs.Ytifideminojgjaa
open Go.Deep Go.ChangeShapes Go.WideShapes Go.ChangeAt Go.RowKit
set_option linter.unusedVariables false
set_option linter.unusedSimpArgs false

theorem mapM_three {α β : Type} {f : α → Option β} {a b c : α} {l : List β} (h : [a, b, c].mapM f = some l) : ∃ x y z, f a = some x ∧ f b = some y ∧ f c = some z ∧ l = [x, y, z] := by
  simp only [List.mapM_cons, List.mapM_nil] at h
  simp only [bind, Option.bind_eq_some_iff, pure, Option.some.injEq] at h
  obtain ⟨x, hx, l', ⟨y, hy, l'', ⟨z, hz, l3, rfl, rfl⟩, rfl⟩, rfl⟩ := h
  exact ⟨x, y, z, hx, hy, hz, rfl⟩

theorem cells43 : Try.prog.cellsOf 43 = 3 := by kernel_rfl
theorem cells3 : Try.prog.cellsOf 3 = 1 := by kernel_rfl
theorem cells9 : Try.prog.cellsOf 9 = 1 := by kernel_rfl

/-- The three cells of a call that came in. -/
theorem act_of {H : Type} {enc : TypeId × Value → H} {W : World} {base : Nat} {sp : Nat → Bool} {held : Bool} {fuel : Nat} {a : Addr} {y : DataW H × List MemPlace}
    (h : (W.cells? base a 3).bind (DataW.trod enc Try.prog W base sp held fuel 43) = some y) : ∃ p : TAct, W.cell? a = some (.int .i64 p.op) ∧ W.cell? (a.add 1) = some (.int .i64 p.n) ∧ W.cell? (a.add 2) = some (.string p.k) ∧ p.k.size ≤ maxLen := by
  obtain ⟨cs, hcs, ht⟩ := Option.bind_eq_some_iff.1 h
  unfold World.cells? at hcs
  split at hcs
  · obtain ⟨c0, c1, c2, h0, h1, h2, rfl⟩ := mapM_three (show [0, 1, 2].mapM _ = some cs from hcs)
    obtain ⟨y0, y1, y2, n, rfl, _, t0, t1, t2⟩ := trod_struct3 Try.underlying43 ht
    simp only [cells3, cells9] at t0 t1 t2
    simp at t0 t1 t2
    obtain ⟨x, hx0, _⟩ := DataW.trod_int Try.underlying3 t0
    obtain ⟨z, hz0, _⟩ := DataW.trod_int Try.underlying3 t1
    obtain ⟨s, hs0, _, ws⟩ := DataW.trod_string Try.underlying9 t2
    simp at hx0 hz0 hs0
    subst hx0; subst hz0; subst hs0
    exact ⟨⟨x, z, s⟩, by simpa [Addr.add] using h0, h1, h2, ws⟩
  · cases hcs

theorem actSl_of {H : Type} {enc : TypeId × Value → H} {W : World} {base : Nat} {sp : Nat → Bool} {held : Bool} {fuel : Nat} {a : Option Addr} {len cap : Nat} {x : DataW H × List MemPlace}
    (hf : DataW.trod enc Try.prog W base sp held fuel 41 (Value.slice a len cap).cells.toList = some x) : ∃ ps, ps.length = len ∧ ActSl W a ps ∧ len ≤ maxLen := by
  rcases DataW.trod_slice Try.underlying41 hf with ⟨hcs, _⟩ | ⟨ad, l, c, elems, rest, n, _, hcs, _, _, hl, hm, hlen, hel, _⟩
  · simp [Value.cells] at hcs
    obtain ⟨rfl, rfl, rfl⟩ := hcs
    exact ⟨[], rfl, ⟨fun h => by simp at h, (fun b o e => by cases e), fun x h => by simp at h⟩, Nat.zero_le _⟩
  · simp [Value.cells] at hcs
    obtain ⟨rfl, rfl, rfl⟩ := hcs
    rw [cells43] at hel
    have hp : ∀ i, ∃ p : TAct, (i < len → W.cell? (ad.add (i * 3)) = some (.int .i64 p.op) ∧ W.cell? ((ad.add (i * 3)).add 1) = some (.int .i64 p.n) ∧ W.cell? ((ad.add (i * 3)).add 2) = some (.string p.k)) ∧ p.k.size ≤ maxLen := by
      intro i
      by_cases hi : i < len
      · have he := hel i hi
        rw [List.getElem?_eq_getElem (by omega)] at he
        obtain ⟨p, h1, h2, h3, h4⟩ := act_of he
        exact ⟨p, fun _ => ⟨h1, h2, h3⟩, h4⟩
      · exact ⟨⟨0, 0, ByteArray.empty⟩, fun h => absurd h hi, by decide⟩
    obtain ⟨f, hff⟩ := Classical.axiomOfChoice hp
    refine ⟨(List.range len).map f, by simp, ⟨fun h => ?_, ?_, ?_⟩, by omega⟩
    · simp at h
      obtain ⟨b, o, spot⟩ := ad
      have hc := ((hff 0).1 (by omega)).1
      have hspot : spot = none := by simpa [Addr.add] using World.cell?_spot hc
      subst hspot
      exact ⟨b, o, rfl⟩
    · intro b o e i p hi
      injection e with e
      subst e
      have hlt := (List.getElem?_eq_some_iff.1 hi).1
      simp at hlt
      rw [List.getElem?_map, List.getElem?_range hlt] at hi
      obtain rfl : f i = p := by simpa using hi
      have := (hff i).1 hlt
      rw [Addr.add_lit, Addr.add_lit, Addr.add_lit] at this
      exact this
    · intro x hx
      obtain ⟨i, _, rfl⟩ := List.mem_map.1 hx
      exact (hff i).2

end Go.Proofs.Ytifideminojgjaa

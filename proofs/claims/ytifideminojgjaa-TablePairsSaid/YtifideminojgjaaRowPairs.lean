/- TablePairs: keys of another kind are numbered alike. For every list of pairs of ints the law returns true and leaves its argument as it was. No condition. -/
import Derived.Test.YtifideminojgjaaRows
import Derived.Test.YtifideminojgjaaPairsL
import Derived.ProofKit
import Derived.ChangeOld
import Derived.OpenShut
namespace Go.Proofs.Ytifideminojgjaa
set_option linter.unusedVariables false
set_option linter.unusedSimpArgs false
open Go.ChangeShapes Go.WideShapes Go.ChangeAt Go.RowKit

theorem ownK : ownKnob Try.prog.godebug = none := by kernel_rfl

theorem mapM_two {α β : Type} {f : α → Option β} {a b : α} {l : List β} (h : [a, b].mapM f = some l) : ∃ x y, f a = some x ∧ f b = some y ∧ l = [x, y] := by
  simp only [List.mapM_cons, List.mapM_nil] at h
  simp only [bind, Option.bind_eq_some_iff, pure, Option.some.injEq] at h
  obtain ⟨x, hx, l', ⟨y, hy, l'', rfl, rfl⟩, rfl⟩ := h
  exact ⟨x, y, hx, hy, rfl⟩

/-- The two cells of a pair that came in. -/
theorem pair_of {H : Type} {enc : TypeId × Value → H} {W : World} {base : Nat} {sp : Nat → Bool} {held : Bool} {fuel : Nat} {a : Addr} {y : DataW H × List MemPlace}
    (h : (W.cells? base a 2).bind (DataW.trod enc Try.prog W base sp held fuel 26) = some y) : ∃ p : I2, W.cell? a = some (.int .i64 p.1.1) ∧ W.cell? (a.add 1) = some (.int .i64 p.1.2) := by
  obtain ⟨cs, hcs, ht⟩ := Option.bind_eq_some_iff.1 h
  unfold World.cells? at hcs
  split at hcs
  · obtain ⟨c0, c1, h0, h1, rfl⟩ := mapM_two (show [0, 1].mapM _ = some cs from hcs)
    obtain ⟨xs, m, rfl, rfl, _, hl, hx⟩ := DataW.trod_array Try.underlying26 ht
    have e0 := hx 0 (by omega)
    have e1 := hx 1 (by omega)
    rw [cellsOf3] at e0 e1
    simp at e0 e1
    rw [List.getElem?_eq_getElem (by omega)] at e0 e1
    obtain ⟨x, hx0, _, wx⟩ := DataW.trod_int Try.underlying3 e0
    obtain ⟨z, hz0, _, wz⟩ := DataW.trod_int Try.underlying3 e1
    simp at hx0 hz0
    subst hx0; subst hz0
    exact ⟨⟨(x, z), wx, wz⟩, by simpa [Addr.add] using h0, h1⟩
  · cases hcs

theorem pairSl_of {H : Type} {enc : TypeId × Value → H} {W : World} {base : Nat} {sp : Nat → Bool} {held : Bool} {fuel : Nat} {a : Option Addr} {len cap : Nat} {x : DataW H × List MemPlace}
    (hf : DataW.trod enc Try.prog W base sp held fuel 22 (Value.slice a len cap).cells.toList = some x) : ∃ ps, ps.length = len ∧ PairSl W a ps ∧ len ≤ maxLen := by
  rcases DataW.trod_slice Try.underlying22 hf with ⟨hcs, _⟩ | ⟨ad, l, c, elems, rest, n, _, hcs, _, _, hl, hm, hlen, hel, _⟩
  · simp [Value.cells] at hcs
    obtain ⟨rfl, rfl, rfl⟩ := hcs
    exact ⟨[], rfl, ⟨fun h => by simp at h, (fun b o e => by cases e)⟩, Nat.zero_le _⟩
  · simp [Value.cells] at hcs
    obtain ⟨rfl, rfl, rfl⟩ := hcs
    rw [cells26] at hel
    have hp : ∀ i, ∃ p : I2, i < len → W.cell? (ad.add (i * 2)) = some (.int .i64 p.1.1) ∧ W.cell? ((ad.add (i * 2)).add 1) = some (.int .i64 p.1.2) := by
      intro i
      by_cases hi : i < len
      · have he := hel i hi
        rw [List.getElem?_eq_getElem (by omega)] at he
        obtain ⟨p, h1, h2⟩ := pair_of he
        exact ⟨p, fun _ => ⟨h1, h2⟩⟩
      · exact ⟨⟨(0, 0), by decide, by decide⟩, fun h => absurd h hi⟩
    obtain ⟨f, hff⟩ := Classical.axiomOfChoice hp
    refine ⟨(List.range len).map f, by simp, ⟨fun h => ?_, ?_⟩, by omega⟩
    · simp at h
      obtain ⟨b, o, spot⟩ := ad
      have hc := (hff 0 (by omega)).1
      have hspot : spot = none := by simpa [Addr.add] using World.cell?_spot hc
      subst hspot
      exact ⟨b, o, rfl⟩
    · intro b o e i p hi
      injection e with e
      subst e
      have hlt := (List.getElem?_eq_some_iff.1 hi).1
      simp at hlt
      rw [List.getElem?_map, List.getElem?_range hlt] at hi
      obtain rfl : f i = p := by simpa using hi
      have := hff i hlt
      rw [Addr.add_lit, Addr.add_lit] at this
      exact this

set_option maxRecDepth 100000 in
theorem tablePairs_lifted (os : Os) (started : os.Started) (H : Type) (enc : TypeId × Value → H) :
    ReturnsInHanded {} Try.checked os 3 .any (Rows.tablePairsSpec.pre6 enc Try.prog Try.f3 Rows.tablePairsRow.domain false) (Rows.tablePairsSpec.post enc Try.prog Try.f3 false true false false) := by
  refine returnsInHanded_of_change (C := Try.checked) ownK started (by kernel_rfl) Try.func3
    (ChangeSpec.witness6 (enc := enc) (C := Try.checked) false ⟨#[], #[.slice none 0 0], []⟩ 8 (by kernel_rfl) (by kernel_rfl) (by kernel_rfl) (by kernel_rfl)) ?_
  intro W base args ds gs before hval0 hW hcnd _
  have hval : ∀ (j : Nat) t v, Try.f3.params[j]? = some t → args[j]? = some v → Value.okWide Try.prog W .any base t v := hval0
  have hW' := hW
  obtain ⟨p, q, hA0, hV, rfl, hfz, hnd⟩ := hW
  have hA : DataW.TrodAll enc Try.prog W 0 (fun _ => true) true Try.f3.params.toList args.toList ds p := hA0
  rw [Try.params3] at hA hval
  obtain ⟨v0, vs0, d0, ds0, p0, q0, hargs, rfl, rfl, h0, r0⟩ := trodAll_cons hA
  obtain ⟨rfl, rfl, rfl⟩ := trodAll_nil r0
  obtain rfl : args = #[v0] := by cases args; simp_all
  obtain ⟨rfl, rfl⟩ := trodVars_none hV
  obtain ⟨a0, len0, cap0, rfl⟩ := okWide_slice Try.underlying22 (hval 0 22 v0 rfl rfl)
  have k0 := h0
  have lt0 : ∀ x ∈ p0, x.block < W.heap.size := by obtain ⟨m, hm⟩ := k0; exact DataW.trod_lt m _ _ _ hm
  obtain ⟨ss, rfl, s0, hml⟩ : ∃ ss, ss.length = len0 ∧ PairSl W a0 ss ∧ len0 ≤ maxLen := by
    obtain ⟨fuel, hf⟩ := h0
    exact pairSl_of hf
  clear hA0 hval0
  refine (tablePairs a0 cap0 ss W s0 hml).mono fun e W' ⟨he, hT⟩ => ?_
  subst he
  have bel := hT.toBelow
  exact ⟨_, rfl, _, _, _, [], _, [], hW', trodAll_mk1 (shut_bool Try.underlying4 _), (trodAll_cons_mk (Below.trod laidOut (by kernel_rfl) (of_decide_eq_true (by kernel_rfl)) k0 bel lt0) trodAll_mk0), rfl, bel.frame _, fun h => by cases h⟩

theorem tablePairs_holds : Rows.TablePairsSaid :=
  OpenClaim.holds_of_wide 3 Try.f3 rfl rfl rfl rfl rfl rfl rfl ⟨rfl, rfl, rfl, rfl, rfl⟩ rfl rfl rfl rfl rfl (by kernel_rfl) Try.func3 (by kernel_rfl)
    (of_decide_eq_true (by kernel_rfl)) (by unfold Func.isWrapper; first | (rw [if_pos (by decide +kernel)]; kernel_rfl) | (rw [if_neg (by decide +kernel)]; exact ⟨rfl, rfl⟩))
    (fun os started H enc _ => tablePairs_lifted os started H enc)
#print axioms tablePairs_holds
end Go.Proofs.Ytifideminojgjaa

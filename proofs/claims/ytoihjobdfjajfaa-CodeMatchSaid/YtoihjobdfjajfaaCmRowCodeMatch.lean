/- CodeMatch: the steps of a head do just what making the head and the call alike does: the closed law returns true. No condition. -/
import Derived.Test.YtoihjobdfjajfaaCm7
import Derived.Test.YtoihjobdfjajfaaRows
import Derived.ProofKit
import Derived.ChangeOld
import Derived.OpenShut
namespace Go.Proofs.Ytoihjobdfjajfaa
open Go.ChangeShapes Go.WideShapes Go.ChangeAt Go.RowKit
open Go.ChangeMaps (open_string shut_string)
set_option linter.unusedVariables false
set_option linter.unusedSimpArgs false


theorem codeMatch_own : ownKnob Try.prog.godebug = none := by kernel_rfl
theorem codeMatch_laidOut : laidOutB Try.prog = true := closed_laidOut

set_option maxRecDepth 100000 in
theorem codeMatch_lifted (os : Os) (started : os.Started) (H : Type) (enc : TypeId × Value → H) :
    ReturnsInHanded {} Try.checked os 29 .any (Rows.codeMatchSpec.pre6 enc Try.prog Try.f29 Rows.codeMatchRow.domain false) (Rows.codeMatchSpec.post enc Try.prog Try.f29 false true false false) := by
  refine returnsInHanded_of_change (C := Try.checked) codeMatch_own started (by kernel_rfl) Try.func29
    (ChangeSpec.witness6 (enc := enc) (C := Try.checked) false ⟨#[], #[.agg #[.int .i64 0, .int .i64 0, .string ByteArray.empty, .slice none 0 0], .slice none 0 0], []⟩ 8 (by kernel_rfl) (by kernel_rfl) (by kernel_rfl) (by kernel_rfl)) ?_
  intro W base args ds gs before hval0 hW hcnd _
  have hval : ∀ (j : Nat) t v, Try.f29.params[j]? = some t → args[j]? = some v → Value.okWide Try.prog W .any base t v := hval0
  have hW' := hW
  obtain ⟨p, q, hA0, hV, rfl, hfz, hnd⟩ := hW
  have hA : DataW.TrodAll enc Try.prog W 0 (fun _ => true) true Try.f29.params.toList args.toList ds p := hA0
  rw [Try.params29] at hA hval
  obtain ⟨v0, vs0, d0, ds0, p0, q0, hargs, rfl, rfl, h0, r0⟩ := trodAll_cons hA
  obtain ⟨v1, vs1, d1, ds1, p1, q1, rfl, rfl, rfl, h1, r1⟩ := trodAll_cons r0
  obtain ⟨rfl, rfl, rfl⟩ := trodAll_nil r1
  obtain rfl : args = #[v0, v1] := by cases args; simp_all
  obtain ⟨rfl, rfl⟩ := trodVars_none hV
  have k0 := h0
  have lt0 : ∀ x ∈ p0, x.block < W.heap.size := by obtain ⟨m, hm⟩ := k0; exact DataW.trod_lt m _ _ _ hm
  obtain ⟨a1, len1, cap1, rfl⟩ := okWide_slice Try.underlying22 (hval 1 22 v1 rfl rfl)
  have k1 := h1
  have lt1 : ∀ x ∈ p1, x.block < W.heap.size := by obtain ⟨m, hm⟩ := k1; exact DataW.trod_lt m _ _ _ hm
  obtain ⟨t0, rfl, s0⟩ : ∃ t : LT, v0 = t.val ∧ t.In (fun _ => True) W := by obtain ⟨fuel, hf⟩ := h0; exact tmT_of (hval 0 27 v0 rfl rfl) hf
  obtain ⟨l1, rfl, s1⟩ : ∃ l : List LT, l.length = len1 ∧ LT.Sl (fun _ => True) W a1 cap1 l := by obtain ⟨fuel, hf⟩ := h1; exact slT_of hf
  clear hA0 hval0
  refine (codeMatch s0 s1).mono fun e W' ⟨he, hT⟩ => ?_
  subst he
  have bel := hT.toBelow
  exact ⟨_, rfl, _, _, _, [], _, [], hW', trodAll_mk1 (shut_bool Try.underlying4 _), (trodAll_cons_mk (Below.trod codeMatch_laidOut (by kernel_rfl) (of_decide_eq_true (by kernel_rfl)) k0 bel lt0) (trodAll_cons_mk (Below.trod codeMatch_laidOut (by kernel_rfl) (of_decide_eq_true (by kernel_rfl)) k1 bel lt1) trodAll_mk0)), rfl, bel.frame _, fun h => by cases h⟩

theorem codeMatch_closed : joinedFacts Try.prog 29 Try.f29 Rows.codeMatchSpec Rows.codeMatchRow = true :=
  joinedFacts_of closed_laidOut closed_mapsRowed closed_stops closed_stopKnobs closed_plainKeys closed_stopsHeard closed_mayEnter closed_liftsFinal closed_make
    (by kernel_rfl) (by kernel_rfl) (by kernel_rfl) (by kernel_rfl) (by kernel_rfl) (by kernel_rfl) (by kernel_rfl) (by kernel_rfl) (by kernel_rfl) (by kernel_rfl) (by kernel_rfl) (by kernel_rfl) (by kernel_rfl) (by kernel_rfl) (by kernel_rfl) (by kernel_rfl) (by kernel_rfl) (by kernel_rfl) (by kernel_rfl) (by kernel_rfl) (by kernel_rfl) (by kernel_rfl) (by kernel_rfl)
theorem codeMatch_holds : Rows.CodeMatchSaid :=
  OpenClaim.holds_of_wide 29 Try.f29 rfl rfl rfl rfl rfl rfl rfl ⟨rfl, rfl, rfl, rfl, rfl⟩ rfl rfl rfl rfl rfl (by kernel_rfl) Try.func29 codeMatch_closed
    (of_decide_eq_true (by kernel_rfl)) (by unfold Func.isWrapper; first | (rw [if_pos (by decide +kernel)]; kernel_rfl) | (rw [if_neg (by decide +kernel)]; exact ⟨rfl, rfl⟩))
    (fun os started H enc _ => codeMatch_lifted os started H enc)
#print axioms codeMatch_holds
end Go.Proofs.Ytoihjobdfjajfaa

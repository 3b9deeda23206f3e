/- Merged texts: Closed, Base, Tm, Lt, Deep, Made, One, Each, Size, Depth, Good, IMap, Vars, Nums, Aw7, TV1, TV2, Key, KD, Ord, Bare, Same. -/
import Derived.Test.YtoihjobdfjajfaaRows
import Derived.ProofKit
import Derived.Maps.OwnSet
import Derived.Maps.AppendAt
import Derived.WalkKit
import Derived.WalkSpells
import Derived.WalkLawsBesides
import Derived.Lib.Hide
import Derived.Deep.QuietTactic
import Derived.BigQuiet
import Derived.StillTailTactics
import Derived.Deep.RegionHeld3
import Derived.Deep.AppendLies
import Derived.Test.YtoihjobdfjajfaaProg
import Derived.Outline
import Derived.Lib.ConvBytes
import Derived.Deep.LoopGhost
import Derived.Laws.StructEq
/- Closed facts of the whole program: the order word as a list of signs, read once; what hangs on it. -/
namespace Go.Proofs.Ytoihjobdfjajfaa
set_option linter.unusedVariables false
set_option linter.unusedSimpArgs false

/-- The signs of the program's order word, as numbers. -/
def orderCodes : List Nat := [104, 97, 114, 110, 101, 115, 115, 32, 53, 56, 48, 55, 48, 49, 98, 55, 53, 102, 101, 52, 49, 97, 53, 57, 101, 52, 99, 48, 50, 100, 51, 52, 101, 55, 56, 49, 102, 101, 52, 100, 102, 53, 100, 56, 49, 51, 53, 52, 102, 101, 99, 102, 97, 57, 55, 101, 57, 52, 55, 102, 102, 49, 100, 56, 56, 97, 49, 99, 97, 51, 49, 100, 32, 99, 117, 116, 32, 97, 116, 32, 115, 105, 122, 97, 114, 47, 115, 105, 122, 97, 114, 108, 97, 119, 55, 46, 84, 101, 114, 109, 86, 97, 114, 115, 32, 115, 105, 122, 97, 114, 47, 115, 105, 122, 97, 114, 108, 97, 119, 49, 54, 46, 73, 110, 100, 101, 120, 75, 101, 121, 115, 32, 115, 105, 122, 97, 114, 47, 115, 105, 122, 97, 114, 108, 97, 119, 55, 46, 84, 101, 114, 109, 83, 97, 121, 115, 32, 115, 105, 122, 97, 114, 47, 115, 105, 122, 97, 114, 108, 97, 119, 49, 54, 46, 73, 110, 100, 101, 120, 80, 108, 97, 121, 115, 32, 115, 105, 122, 97, 114, 47, 115, 105, 122, 97, 114, 108, 97, 119, 49, 54, 46, 73, 110, 100, 101, 120, 65, 108, 108, 32, 115, 105, 122, 97, 114, 47, 115, 105, 122, 97, 114, 108, 97, 119, 49, 54, 46, 73, 110, 100, 101, 120, 75, 110, 111, 119, 110, 32, 115, 105, 122, 97, 114, 47, 115, 105, 122, 97, 114, 108, 97, 119, 55, 46, 84, 101, 114, 109, 76, 105, 115, 116, 115, 32, 115, 105, 122, 97, 114, 47, 115, 105, 122, 97, 114, 108, 97, 119, 55, 46, 84, 101, 114, 109, 75, 110, 111, 119, 110, 32, 115, 105, 122, 97, 114, 47, 115, 105, 122, 97, 114, 108, 97, 119, 49, 48, 46, 79, 114, 100, 101, 114, 75, 101, 121, 115, 32, 115, 105, 122, 97, 114, 47, 115, 105, 122, 97, 114, 108, 97, 119, 49, 51, 46, 65, 108, 105, 97, 115, 70, 114, 111, 109, 32, 115, 105, 122, 97, 114, 47, 115, 105, 122, 97, 114, 108, 97, 119, 49, 48, 46, 79, 114, 100, 101, 114, 84, 111, 116, 97, 108, 32, 115, 105, 122, 97, 114, 47, 115, 105, 122, 97, 114, 108, 97, 119, 49, 48, 46, 79, 114, 100, 101, 114, 83, 97, 121, 115, 32, 115, 105, 122, 97, 114, 47, 115, 105, 122, 97, 114, 108, 97, 119, 49, 48, 46, 79, 114, 100, 101, 114, 75, 110, 111, 119, 110, 32, 115, 105, 122, 97, 114, 47, 115, 105, 122, 97, 114, 108, 97, 119, 49, 51, 46, 65, 108, 105, 97, 115, 75, 110, 111, 119, 110, 32, 115, 105, 122, 97, 114, 47, 115, 105, 122, 97, 114, 108, 97, 119, 49, 51, 46, 65, 108, 105, 97, 115, 83, 97, 121, 115, 32, 115, 105, 122, 97, 114, 47, 115, 105, 122, 97, 114, 108, 97, 119, 49, 51, 46, 65, 108, 105, 97, 115, 77, 111, 114, 101, 32, 115, 105, 122, 97, 114, 47, 115, 105, 122, 97, 114, 108, 97, 119, 49, 49, 46, 66, 105, 110, 100, 87, 104, 111, 108, 101, 32, 115, 105, 122, 97, 114, 47, 115, 105, 122, 97, 114, 108, 97, 119, 49, 53, 46, 67, 111, 100, 101, 66, 97, 99, 107, 32, 115, 105, 122, 97, 114, 47, 115, 105, 122, 97, 114, 108, 97, 119, 49, 49, 46, 66, 105, 110, 100, 80, 108, 97, 121, 115, 32, 115, 105, 122, 97, 114, 47, 115, 105, 122, 97, 114, 108, 97, 119, 49, 49, 46, 66, 105, 110, 100, 75, 110, 111, 119, 110, 32, 115, 105, 122, 97, 114, 47, 115, 105, 122, 97, 114, 108, 97, 119, 49, 50, 46, 85, 110, 105, 102, 121, 75, 110, 111, 119, 110, 32, 115, 105, 122, 97, 114, 47, 115, 105, 122, 97, 114, 108, 97, 119, 49, 50, 46, 85, 110, 105, 102, 121, 77, 97, 107, 101, 115, 32, 115, 105, 122, 97, 114, 47, 115, 105, 122, 97, 114, 108, 97, 119, 49, 54, 46, 73, 110, 100, 101, 120, 83, 97, 102, 101, 32, 115, 105, 122, 97, 114, 47, 115, 105, 122, 97, 114, 108, 97, 119, 49, 50, 46, 85, 110, 105, 102, 121, 80, 108, 97, 121, 115, 32, 115, 105, 122, 97, 114, 47, 115, 105, 122, 97, 114, 108, 97, 119, 49, 51, 46, 65, 108, 105, 97, 115, 76, 101, 115, 115, 32, 115, 105, 122, 97, 114, 47, 115, 105, 122, 97, 114, 108, 97, 119, 49, 51, 46, 65, 108, 105, 97, 115, 83, 101, 108, 102, 32, 115, 105, 122, 97, 114, 47, 115, 105, 122, 97, 114, 108, 97, 119, 49, 53, 46, 67, 111, 100, 101, 77, 97, 116, 99, 104, 32, 115, 105, 122, 97, 114, 47, 115, 105, 122, 97, 114, 108, 97, 119, 49, 53, 46, 67, 111, 100, 101, 83, 101, 108, 102, 32, 115, 105, 122, 97, 114, 47, 115, 105, 122, 97, 114, 108, 97, 119, 49, 53, 46, 67, 111, 100, 101, 75, 110, 111, 119, 110]
theorem order_eq : Try.prog.initOrder = String.ofList (orderCodes.map Char.ofNat) := by kernel_rfl
theorem order_list : Try.prog.initOrder.toList = orderCodes.map Char.ofNat := by rw [order_eq, String.toList_ofList]
/-- Its words: 'cut', and the others. -/
def wordFirst : List Char := List.map Char.ofNat [99, 117, 116]
def wordRest : List (List Char) := List.map (fun l => List.map Char.ofNat l) [[97, 116], [115, 105, 122, 97, 114, 47, 115, 105, 122, 97, 114, 108, 97, 119, 55, 46, 84, 101, 114, 109, 86, 97, 114, 115], [115, 105, 122, 97, 114, 47, 115, 105, 122, 97, 114, 108, 97, 119, 49, 54, 46, 73, 110, 100, 101, 120, 75, 101, 121, 115], [115, 105, 122, 97, 114, 47, 115, 105, 122, 97, 114, 108, 97, 119, 55, 46, 84, 101, 114, 109, 83, 97, 121, 115], [115, 105, 122, 97, 114, 47, 115, 105, 122, 97, 114, 108, 97, 119, 49, 54, 46, 73, 110, 100, 101, 120, 80, 108, 97, 121, 115], [115, 105, 122, 97, 114, 47, 115, 105, 122, 97, 114, 108, 97, 119, 49, 54, 46, 73, 110, 100, 101, 120, 65, 108, 108], [115, 105, 122, 97, 114, 47, 115, 105, 122, 97, 114, 108, 97, 119, 49, 54, 46, 73, 110, 100, 101, 120, 75, 110, 111, 119, 110], [115, 105, 122, 97, 114, 47, 115, 105, 122, 97, 114, 108, 97, 119, 55, 46, 84, 101, 114, 109, 76, 105, 115, 116, 115], [115, 105, 122, 97, 114, 47, 115, 105, 122, 97, 114, 108, 97, 119, 55, 46, 84, 101, 114, 109, 75, 110, 111, 119, 110], [115, 105, 122, 97, 114, 47, 115, 105, 122, 97, 114, 108, 97, 119, 49, 48, 46, 79, 114, 100, 101, 114, 75, 101, 121, 115], [115, 105, 122, 97, 114, 47, 115, 105, 122, 97, 114, 108, 97, 119, 49, 51, 46, 65, 108, 105, 97, 115, 70, 114, 111, 109], [115, 105, 122, 97, 114, 47, 115, 105, 122, 97, 114, 108, 97, 119, 49, 48, 46, 79, 114, 100, 101, 114, 84, 111, 116, 97, 108], [115, 105, 122, 97, 114, 47, 115, 105, 122, 97, 114, 108, 97, 119, 49, 48, 46, 79, 114, 100, 101, 114, 83, 97, 121, 115], [115, 105, 122, 97, 114, 47, 115, 105, 122, 97, 114, 108, 97, 119, 49, 48, 46, 79, 114, 100, 101, 114, 75, 110, 111, 119, 110], [115, 105, 122, 97, 114, 47, 115, 105, 122, 97, 114, 108, 97, 119, 49, 51, 46, 65, 108, 105, 97, 115, 75, 110, 111, 119, 110], [115, 105, 122, 97, 114, 47, 115, 105, 122, 97, 114, 108, 97, 119, 49, 51, 46, 65, 108, 105, 97, 115, 83, 97, 121, 115], [115, 105, 122, 97, 114, 47, 115, 105, 122, 97, 114, 108, 97, 119, 49, 51, 46, 65, 108, 105, 97, 115, 77, 111, 114, 101], [115, 105, 122, 97, 114, 47, 115, 105, 122, 97, 114, 108, 97, 119, 49, 49, 46, 66, 105, 110, 100, 87, 104, 111, 108, 101], [115, 105, 122, 97, 114, 47, 115, 105, 122, 97, 114, 108, 97, 119, 49, 53, 46, 67, 111, 100, 101, 66, 97, 99, 107], [115, 105, 122, 97, 114, 47, 115, 105, 122, 97, 114, 108, 97, 119, 49, 49, 46, 66, 105, 110, 100, 80, 108, 97, 121, 115], [115, 105, 122, 97, 114, 47, 115, 105, 122, 97, 114, 108, 97, 119, 49, 49, 46, 66, 105, 110, 100, 75, 110, 111, 119, 110], [115, 105, 122, 97, 114, 47, 115, 105, 122, 97, 114, 108, 97, 119, 49, 50, 46, 85, 110, 105, 102, 121, 75, 110, 111, 119, 110], [115, 105, 122, 97, 114, 47, 115, 105, 122, 97, 114, 108, 97, 119, 49, 50, 46, 85, 110, 105, 102, 121, 77, 97, 107, 101, 115], [115, 105, 122, 97, 114, 47, 115, 105, 122, 97, 114, 108, 97, 119, 49, 54, 46, 73, 110, 100, 101, 120, 83, 97, 102, 101], [115, 105, 122, 97, 114, 47, 115, 105, 122, 97, 114, 108, 97, 119, 49, 50, 46, 85, 110, 105, 102, 121, 80, 108, 97, 121, 115], [115, 105, 122, 97, 114, 47, 115, 105, 122, 97, 114, 108, 97, 119, 49, 51, 46, 65, 108, 105, 97, 115, 76, 101, 115, 115], [115, 105, 122, 97, 114, 47, 115, 105, 122, 97, 114, 108, 97, 119, 49, 51, 46, 65, 108, 105, 97, 115, 83, 101, 108, 102], [115, 105, 122, 97, 114, 47, 115, 105, 122, 97, 114, 108, 97, 119, 49, 53, 46, 67, 111, 100, 101, 77, 97, 116, 99, 104], [115, 105, 122, 97, 114, 47, 115, 105, 122, 97, 114, 108, 97, 119, 49, 53, 46, 67, 111, 100, 101, 83, 101, 108, 102], [115, 105, 122, 97, 114, 47, 115, 105, 122, 97, 114, 108, 97, 119, 49, 53, 46, 67, 111, 100, 101, 75, 110, 111, 119, 110]]
theorem order_words0 : behindMainWord (wordsSigns (orderCodes.map Char.ofNat)) = wordFirst :: wordRest := by kernel_rfl
theorem order_words : behindMainWord (wordsSigns Try.prog.initOrder.toList) = wordFirst :: wordRest := by rw [order_list]; exact order_words0
theorem word_first : wordFirst = "cut".toList := by kernel_rfl
theorem closed_strip : stripLifts liftWords (wordFirst :: wordRest) = ([], wordFirst :: wordRest) := by kernel_rfl
theorem liftsFinal_of {P : Program} {c : List Char} {rest : List (List Char)} (h : behindMainWord (wordsSigns P.initOrder.toList) = c :: rest) (hs : stripLifts liftWords (c :: rest) = ([], c :: rest)) (hc : (c == "carried".toList) = false) : P.liftsFinal = false := by
  unfold Program.liftsFinal Program.headLifts
  rw [h, hs]
  simp at hc ⊢
  exact fun e => absurd e hc
theorem mayEnter_of {P : Program} {c : List Char} {rest : List (List Char)} (h : behindMainWord (wordsSigns P.initOrder.toList) = c :: rest) (hs : stripLifts liftWords (c :: rest) = ([], c :: rest)) (hc : c = "cut".toList)
    (h1 : P.laysLater = false) (h2 : P.bearsReflect = false) (h3 : P.doorRows = []) : P.mayEnter = true := by
  unfold Program.mayEnter Program.doorFits
  rw [h]
  dsimp only
  rw [hs, h1, h2, h3]
  subst hc
  simp
theorem closed_liftsFinal : Try.prog.liftsFinal = false := liftsFinal_of order_words closed_strip (by kernel_rfl)
theorem closed_laysLater : Try.prog.laysLater = false := by kernel_rfl
theorem closed_bearsReflect : Try.prog.bearsReflect = false := by kernel_rfl
theorem closed_doorRows : Try.prog.doorRows = [] := by kernel_rfl
theorem closed_mayEnter : Try.prog.mayEnter = true := mayEnter_of order_words closed_strip word_first closed_laysLater closed_bearsReflect closed_doorRows
theorem closed_laidOut : laidOutB Try.prog = true := by kernel_rfl
theorem closed_mapsRowed : mapsRowed Try.prog = true := by kernel_rfl
theorem closed_stops : (Try.prog.stops == []) = true := by kernel_rfl
theorem closed_stopKnobs : (Try.prog.stopKnobs == []) = true := by kernel_rfl
theorem closed_plainKeys : Try.prog.plainKeys = true := by kernel_rfl
theorem closed_stopsHeard : Try.prog.stopsHeard = true := by kernel_rfl
theorem make_of {P : Program} {c : List Char} {rest : List (List Char)} (h : behindMainWord (wordsSigns P.initOrder.toList) = c :: rest) (hc : c = "cut".toList) : P.make = some .cut := by
  unfold Program.make
  rw [h]
  subst hc
  simp
theorem closed_make : Try.prog.make = some .cut := make_of order_words word_first
/-- The facts of a row, one by one: what is of the program alone is asked once. -/
theorem joinedFacts_of {P : Program} {f : FuncId} {fn : Func} {s : ChangeSpec} {c : OpenClaim} (g1 : laidOutB P = true) (g2 : mapsRowed P = true) (g3 : (P.stops == []) = true) (g4 : (P.stopKnobs == []) = true) (g5 : P.plainKeys = true) (g6 : P.stopsHeard = true) (g7 : P.mayEnter = true) (g8 : P.liftsFinal = false) (g9 : P.make = some .cut)
    (k1 : c.wf (OpenSpec.ofChange s) = true) (k2 : fn.params.all (P.readableRec ·) = true) (k3 : namedTie P c.named s.vars = true) (k4 : (c.stops == []) = true) (k5 : (c.knobs == []) = true)
    (k6 : (c.inPlace == P.inPlace f) = true) (k7 : (c.unfollowed == P.unfollowed f) = true) (k8 : (c.recurses == P.recurses f) = true) (k9 : (c.named == P.varsNamed f) = true)
    (k10 : ((c.maps == (fn.params.toList ++ s.plain.varTypes P).any (P.mapsRec ·)) && (c.ifaces == (fn.params.toList ++ s.plain.varTypes P).any (P.ifacesRec ·)) && (c.mapsOut == P.mapsAmong fn.resultTypes.toList)) = true)
    (k11 : ((c.loops == (fn.params.toList ++ s.plain.varTypes P).any (P.loopsFrom ·)) && (c.wideKeys == (fn.params.toList ++ s.plain.varTypes P ++ fn.resultTypes.toList).any (P.wideKeysFrom ·))) = true)
    (k12 : s.vars.all (P.varReadable ·) = true) (k13 : fn.resultTypes.all (fun t => P.readableRec t && decide (t < P.types.size)) = true) (k14 : ((c.ifacesOut == fn.resultTypes.toList.any (P.ifacesRec ·)) && (c.loopsOut == fn.resultTypes.toList.any (P.loopsFrom ·))) = true)
    (k15 : c.plainKeys = true) (k16 : c.shortTexts.isNone = true) (k17 : c.lifted = false) (k18 : c.make = .cut) (k19 : c.domain.isEmpty = true) (k19b : (c.kinds == []) = true) (k20 : (c.pinned == c.pinnedBy) = true)
    (k21 : (c.veiled == (fn.params.toList ++ s.plain.varTypes P ++ fn.resultTypes.toList).any (P.veiledRec ·)) = true) (k22 : c.veiledFits P fn.params.toList (fn.params.toList ++ s.plain.varTypes P ++ fn.resultTypes.toList) = true) : joinedFacts P f fn s c = true := by
  simp only [Bool.and_eq_true] at k10 k11 k14
  unfold joinedFacts
  rw [g1, g2, g3, g4, g6, g7, k1, k2, k3, k4, k5, k6, k7, k8, k9, k10.1.1, k10.1.2, k10.2, k11.1, k11.2, k12, k13, k14.1, k14.2, k16, if_pos k19, k19b, k20, k21, k22, g5, g8, g9, k15, k17, k18]
  simp
end Go.Proofs.Ytoihjobdfjajfaa

/- General lemmas: what has not turned in memory, rows of cells, append. -/
namespace Go.Proofs.Ytoihjobdfjajfaa
set_option linter.unusedVariables false
set_option linter.unusedSimpArgs false
open Go.RowKit


/-- What was there has not turned, but for the blocks of S. -/
structure Turned (S : Nat → Prop) (w w' : World) : Prop where
  os : w'.os = w.os
  tape : w'.tape = w.tape
  output : w'.output = w.output
  size : w.heap.size ≤ w'.heap.size
  block : ∀ k, k < w.heap.size → ¬ S k → w'.heap[k]? = w.heap[k]?

theorem Turned.refl (S : Nat → Prop) (w : World) : Turned S w w := ⟨rfl, rfl, rfl, Nat.le_refl _, fun _ _ _ => rfl⟩
theorem Turned.trans {S : Nat → Prop} {a b c : World} (h : Turned S a b) (k : Turned S b c) : Turned S a c :=
  ⟨k.os.trans h.os, k.tape.trans h.tape, k.output.trans h.output, Nat.le_trans h.size k.size, fun i hi hn => (k.block i (Nat.lt_of_lt_of_le hi h.size) hn).trans (h.block i hi hn)⟩
/-- Two steps, the second one's blocks being the first one's or new. -/
theorem Turned.step {S T : Nat → Prop} {a b c : World} (h : Turned S a b) (k : Turned T b c) (hT : ∀ i, i < a.heap.size → T i → S i) : Turned S a c :=
  ⟨k.os.trans h.os, k.tape.trans h.tape, k.output.trans h.output, Nat.le_trans h.size k.size, fun i hi hn => (k.block i (Nat.lt_of_lt_of_le hi h.size) (fun t => hn (hT i hi t))).trans (h.block i hi hn)⟩
theorem Turned.mono {S T : Nat → Prop} {a b : World} (h : Turned S a b) (hT : ∀ i, i < a.heap.size → S i → T i) : Turned T a b :=
  ⟨h.os, h.tape, h.output, h.size, fun i hi hn => h.block i hi (fun s => hn (hT i hi s))⟩
theorem Turned.alloc {S : Nat → Prop} {a w : World} (h : Turned S a w) (o : Obj) : Turned S a (w.alloc o) :=
  h.trans ⟨rfl, rfl, rfl, by simp, fun k hk _ => Below.heap_alloc _ _ _ hk⟩
theorem Turned.drew {S : Nat → Prop} {a w : World} (h : Turned S a w) : Turned S a w.drew := ⟨h.os, h.tape, h.output, h.size, h.block⟩
theorem Turned.drewN {S : Nat → Prop} {a w : World} (h : Turned S a w) (n : Nat) : Turned S a (w.drewN n) := ⟨h.os, h.tape, h.output, h.size, h.block⟩
theorem Turned.setCell {S : Nat → Prop} {a w : World} (h : Turned S a w) {p : Addr} (hp : a.heap.size ≤ p.block ∨ S p.block) (u : Value) : Turned S a (w.setCell p u) := by
  refine ⟨h.os, h.tape, h.output, by simpa [World.setCell] using h.size, fun k hk hn => ?_⟩
  rw [Below.heap_setCell _ _ _ _ (fun e => by subst e; rcases hp with hp | hp; omega; exact hn hp)]
  exact h.block k hk hn
theorem Turned.grown {S : Nat → Prop} {a w w' : World} {row : Option Nat} (h : Turned S a w) (hg : w.grownBy w' row) (hr : ∀ k, row = some k → a.heap.size ≤ k ∨ S k) : Turned S a w' := by
  refine ⟨hg.os.trans h.os, hg.tape.trans h.tape, hg.output.trans h.output, Nat.le_trans h.size hg.size, fun k hk hn => ?_⟩
  exact (hg.block k (Nat.lt_of_lt_of_le hk h.size) (fun e => by rcases hr k e.symm with hp | hp; omega; exact hn hp)).trans (h.block k hk hn)
theorem Turned.below {S : Nat → Prop} {B : Nat} {a w w' : World} (hb : Below B a w) (h : Turned S w w') (hB : B ≤ w.heap.size) (hS : ∀ k, k < B → ¬ S k) : Below B a w' :=
  hb.trans ⟨h.os, h.tape, h.output, h.size, fun k hk => h.block k (by omega) (hS k hk)⟩


/-- A slice value of n elements (of type e, size cells each) over a row of cells that nobody shares: nil, or at the head of a block; what lies behind the capacity is not asked. -/
def Row (w : World) (e : TypeId) (size : Nat) (v : Value) (n : Nat) (xs : List Value) : Prop :=
  xs.length = n * size ∧ ((v = .slice none 0 0 ∧ n = 0) ∨ ∃ g cap cur, v = .slice (some ⟨g, 0, none⟩) n cap ∧ w.heap[g]? = some (.cells cur e (0, 0)) ∧ n ≤ cap ∧ cap ≤ maxLen ∧ cap * size ≤ cur.size ∧ cur.toList.take (n * size) = xs)

theorem Row.nil (w : World) (e : TypeId) (size : Nat) : Row w e size (.slice none 0 0) 0 [] := ⟨by simp, .inl ⟨rfl, rfl⟩⟩
theorem Row.shape {w : World} {e : TypeId} {size : Nat} {v : Value} {n : Nat} {xs : List Value} (h : Row w e size v n xs) : ∃ a cap, v = .slice a n cap := by
  rcases h.2 with ⟨rfl, rfl⟩ | ⟨g, cap, cur, rfl, _⟩
  · exact ⟨_, _, rfl⟩
  · exact ⟨_, _, rfl⟩
theorem Row.shape_pos {w : World} {e : TypeId} {size : Nat} {v : Value} {n : Nat} {xs : List Value} (h : Row w e size v n xs) (hn : 0 < n) : ∃ g cap, v = .slice (some ⟨g, 0, none⟩) n cap := by
  rcases h.2 with ⟨rfl, rfl⟩ | ⟨g, cap, cur, rfl, _⟩
  · omega
  · exact ⟨_, _, rfl⟩
theorem Row.cells {w : World} {e : TypeId} {size : Nat} {v : Value} {n g cap : Nat} {xs : List Value} (h : Row w e size v n xs) (hv : v = .slice (some ⟨g, 0, none⟩) n cap) : ∀ (j : Nat) (u : Value), xs[j]? = some u → w.cell? ⟨g, j, none⟩ = some u := by
  intro j u hu
  rcases h.2 with ⟨rfl, _⟩ | ⟨g', cap', cur, rfl, hgg, _, _, _, htake⟩
  · cases hv
  · injection hv with hv _ _; injection hv with hv; injection hv with hv; subst hv
    rw [cell_of_row w g' j cur e (0, 0) hgg]
    rw [← htake, List.getElem?_take] at hu
    split at hu
    · simpa using hu
    · cases hu
theorem Row.free {w : World} {e : TypeId} {size : Nat} {v : Value} {n g cap : Nat} {xs : List Value} (h : Row w e size v n xs) (hv : v = .slice (some ⟨g, 0, none⟩) n cap) (j : Nat) : w.frozen? ⟨g, j, none⟩ = false := by
  rcases h.2 with ⟨rfl, _⟩ | ⟨g', cap', cur, rfl, hgg, _⟩
  · cases hv
  · injection hv with hv _ _; injection hv with hv; injection hv with hv; subst hv
    exact frozen_of_row w g' j cur e hgg
theorem Row.lt {w : World} {e : TypeId} {size : Nat} {v : Value} {n : Nat} {xs : List Value} (h : Row w e size v n xs) : ∀ k, v.ownBlock = some k → k < w.heap.size := by
  intro k hk
  rcases h.2 with ⟨rfl, _⟩ | ⟨g, cap, cur, rfl, hg, _⟩
  · simp [Value.ownBlock] at hk
  · simp [Value.ownBlock] at hk; subst hk; exact (Array.getElem?_eq_some_iff.1 hg).1
theorem Row.turned {S : Nat → Prop} {w w' : World} {e : TypeId} {size : Nat} {v : Value} {n : Nat} {xs : List Value} (h : Row w e size v n xs) (ht : Turned S w w') (hS : ∀ k, v.ownBlock = some k → ¬ S k) : Row w' e size v n xs := by
  refine ⟨h.1, ?_⟩
  rcases h.2 with hn | ⟨g, cap, cur, rfl, hg, rest⟩
  · exact .inl hn
  · exact .inr ⟨g, cap, cur, rfl, (ht.block g (Array.getElem?_eq_some_iff.1 hg).1 (hS g rfl)).trans hg, rest⟩
theorem Row.turned0 {w w' : World} {e : TypeId} {size : Nat} {v : Value} {n : Nat} {xs : List Value} (h : Row w e size v n xs) (ht : Turned (fun _ => False) w w') : Row w' e size v n xs := h.turned ht (fun _ _ f => f)
theorem Row.alloc {w : World} {e : TypeId} {size : Nat} {v : Value} {n : Nat} {xs : List Value} (h : Row w e size v n xs) (o : Obj) : Row (w.alloc o) e size v n xs := h.turned0 ((Turned.refl _ _).alloc o)
theorem Row.setCell {w : World} {e : TypeId} {size : Nat} {v : Value} {n : Nat} {xs : List Value} (h : Row w e size v n xs) {p : Addr} (hp : v.ownBlock ≠ some p.block) (u : Value) : Row (w.setCell p u) e size v n xs :=
  h.turned ((Turned.refl (fun k => k = p.block) w).setCell (.inr rfl) u) (fun k hk e => hp (by rw [hk, e]))
/-- A row of the call's own that was just laid. -/
theorem Row.made (w : World) (e : TypeId) (size : Nat) (cs : Array Value) (n : Nat) (h : cs.size = n * size) (hn : n ≤ maxLen) : Row (w.alloc (.cells cs e)) e size (.slice (some ⟨w.heap.size, 0, none⟩) n n) n cs.toList :=
  ⟨by rw [Array.length_toList]; exact h, .inr ⟨w.heap.size, n, cs, rfl, heap_alloc_new w _, Nat.le_refl _, hn, Nat.le_of_eq h.symm, by rw [← h, ← Array.length_toList, List.take_length]⟩⟩
/-- A shorter cut of it from the head on, whatever capacity it leaves. -/
theorem Row.take {w : World} {e : TypeId} {size : Nat} {n g cap : Nat} {xs : List Value} (h : Row w e size (.slice (some ⟨g, 0, none⟩) n cap) n xs) {m c : Nat} (hm : m ≤ n) (hc : m ≤ c) (hcc : c ≤ cap) : Row w e size (.slice (some ⟨g, 0, none⟩) m c) m (xs.take (m * size)) := by
  have hmn : m * size ≤ n * size := Nat.mul_le_mul_right _ hm
  refine ⟨by rw [List.length_take, h.1]; omega, .inr ?_⟩
  rcases h.2 with ⟨e, _⟩ | ⟨g', cap', cur, e, hgg, h1, h2, h3, htake⟩
  · cases e
  · injection e with e1 _ e2; injection e1 with e1; injection e1 with e1; subst e1; subst e2
    refine ⟨g, c, cur, rfl, hgg, hc, by omega, Nat.le_trans (Nat.mul_le_mul_right _ hcc) h3, ?_⟩
    rw [← htake, List.take_take, Nat.min_eq_left hmn]

section
variable {P : Program} (w : World)
/-- append, the run: what comes back, where it lies, what has turned. -/
theorem run_append_row (t ty e : TypeId) (i : TypeInfo) (z : Value) (size bytes : Nat) (ht : P.underlying t = some (.slice e)) (hi : P.info? e = some i) (hz : i.zero = some z)
    (hsize : i.size = size) (hby : i.bytes = bytes) (hzs : z.cells.size = size) (hsz : 0 < size)
    (v : Value) (n : Nat) (xs : List Value) (hown : Row w e size v n xs)
    (a : Addr) (m c : Nat) (news : List Value) (hl : news.length = m * size) (hnews : ∀ j u, news[j]? = some u → w.cell? (a.add j) = some u) (h1 : ∀ u ∈ news, u.oneCell' = true)
    (h63 : n + m ≤ maxLen) (hbytes : (n + m) * bytes ≤ 140737488355328) :
    ∃ v' w', (Builtin.append_ #[t, t] ty #[v, .slice (some a) m c]).run P w = .ok v' w' ∧ Row w' e size v' (n + m) (xs ++ news) ∧ Turned (fun k => v.ownBlock = some k) w w' ∧
      (v'.ownBlock = v.ownBlock ∨ v'.ownBlock = some w.heap.size) ∧ (v' = .slice none 0 0 → v = .slice none 0 0 ∧ m = 0) := by
  subst hsize
  subst hby
  have hsmall : n + m ≤ 9223372036854775807 := by simp only [maxLen] at h63; omega
  have hlen : (xs ++ news).length = (n + m) * i.size := by rw [List.length_append, hown.1, hl, Nat.add_mul]
  have grown : ∀ (old : Nat), old < n + m →
      Row (w.drew.alloc (.cells (xs.toArray ++ news.toArray ++ Builtin.zeroCells z.cells (grownCap w (n + m) old e - (n + m))) e)) e i.size
        (.slice (some ⟨w.heap.size, 0, none⟩) (n + m) (grownCap w (n + m) old e)) (n + m) (xs ++ news) := by
    intro old ho
    have hge := grownCap_ge w (n + m) old e
    have hcm : grownCap w (n + m) old e ≤ maxLen := grownCap_le_maxLen w (n + m) old e h63
    refine ⟨hlen, .inr ⟨w.heap.size, _, _, rfl, heap_alloc_new w.drew _, hge, hcm, ?_, ?_⟩⟩
    · simp only [Array.size_append, List.size_toArray, size_zeroCells, hzs, hown.1, hl, ← Nat.add_mul]
      apply Nat.le_of_eq; congr 1; omega
    · simp only [Array.toList_append, List.append_assoc]
      rw [← List.append_assoc, ← hlen]
      exact List.take_left
  rcases hown.2 with ⟨rfl, rfl⟩ | ⟨g, cap, cur, rfl, hg, hnc, hcm, hcs, htake⟩
  · have hx : xs = [] := List.eq_nil_of_length_eq_zero (by simpa using hown.1)
    subst hx
    by_cases hm : m = 0
    · subst hm
      have hn : news = [] := List.eq_nil_of_length_eq_zero (by simpa using hl)
      subst hn
      refine ⟨.slice none 0 0, w, ?_, Row.nil w e i.size, Turned.refl _ _, Or.inl rfl, by simp⟩
      simp [Builtin.append_, run_underlying ht, sizeOf, typeInfo, hi, Builtin.lenOf, Builtin.firstCells, loadCells, loadCellsFrom]
    · have hr := run_append_nil (P := P) w t ty e i z ht hi hz a m c news hl hnews (by omega) (by omega) (by have hb := hbytes; simp only [Nat.zero_add] at hb; omega)
      have hgr := grown 0 (by omega)
      simp only [Nat.zero_add, List.nil_append, Array.empty_append] at hgr ⊢
      exact ⟨_, _, hr, hgr, ((Turned.refl _ w).drew).alloc _, Or.inr rfl, by simp⟩
  · by_cases hroom : n + m ≤ cap
    · have hfit : n * i.size + news.length ≤ cur.size := by rw [hl, ← Nat.add_mul]; exact Nat.le_trans (Nat.mul_le_mul_right _ hroom) hcs
      have hr := run_append_room (P := P) w t ty e i ht hi g n cap cur hg a m c news hl hnews h1 hroom hfit
      refine ⟨_, _, hr, ⟨hlen, .inr ⟨g, cap, _, rfl, setRow_heap w g cur _ e _ hg, hroom, hcm, ?_, ?_⟩⟩, ⟨rfl, rfl, rfl, by simp, fun k _ hk => setRow_other w g k _ (fun e => hk (by simp [Value.ownBlock, e]))⟩, Or.inl rfl, by simp⟩
      · simp only [List.size_toArray, List.length_append, List.length_take, List.length_drop, Array.length_toList]
        omega
      · rw [htake, ← hlen]
        exact List.take_left
    · have holds : ∀ j u, xs[j]? = some u → w.cell? ((⟨g, 0, none⟩ : Addr).add j) = some u := by
        intro j u hu
        rw [Addr.add_lit, Nat.zero_add]
        exact hown.cells rfl j u hu
      have hr := run_append_grow (P := P) w t ty e i z ht hi hz ⟨g, 0, none⟩ n cap xs hown.1 holds a m c news hl hnews (by omega) (by omega) (growslice_fits (by omega) hbytes)
      exact ⟨_, _, hr, grown cap (by omega), ((Turned.refl _ w).drew).alloc _, Or.inr rfl, by simp⟩

/-- append, the source maybe nil, the run. -/
theorem run_append_any (t ty e : TypeId) (i : TypeInfo) (z : Value) (size bytes : Nat) (ht : P.underlying t = some (.slice e)) (hi : P.info? e = some i) (hz : i.zero = some z)
    (hsize : i.size = size) (hby : i.bytes = bytes) (hzs : z.cells.size = size) (hsz : 0 < size)
    (v : Value) (n : Nat) (xs : List Value) (hown : Row w e size v n xs)
    (ao : Option Addr) (m c : Nat) (news : List Value) (hnone : ao = none → m = 0 ∧ c = 0) (hl : news.length = m * size) (hnews : ∀ ad, ao = some ad → ∀ j u, news[j]? = some u → w.cell? (ad.add j) = some u) (h1 : ∀ u ∈ news, u.oneCell' = true)
    (h63 : n + m ≤ maxLen) (hbytes : (n + m) * bytes ≤ 140737488355328) :
    ∃ v' w', (Builtin.append_ #[t, t] ty #[v, .slice ao m c]).run P w = .ok v' w' ∧ Row w' e size v' (n + m) (xs ++ news) ∧ Turned (fun k => v.ownBlock = some k) w w' ∧
      (v'.ownBlock = v.ownBlock ∨ v'.ownBlock = some w.heap.size) := by
  cases ao with
  | some ad =>
    obtain ⟨v', w', a1, a2, a3, a4, _⟩ := run_append_row (P := P) w t ty e i z size bytes ht hi hz hsize hby hzs hsz v n xs hown ad m c news hl (hnews ad rfl) h1 h63 hbytes
    exact ⟨v', w', a1, a2, a3, a4⟩
  | none =>
    obtain ⟨rfl, rfl⟩ := hnone rfl
    have hn : news = [] := List.eq_nil_of_length_eq_zero (by simpa using hl)
    subst hn
    refine ⟨v, w, ?_, by simpa using hown, Turned.refl _ _, .inl rfl⟩
    rcases hown.2 with ⟨rfl, rfl⟩ | ⟨g, cap, cur, rfl, _, hnc, _⟩
    · simp [Builtin.append_, run_underlying ht, sizeOf, typeInfo, hi, Builtin.lenOf, Builtin.firstCells]
    · simp [Builtin.append_, run_underlying ht, sizeOf, typeInfo, hi, Builtin.lenOf, Builtin.firstCells, hnc, storeCells]

theorem append_any {ops : Array Oper} {rest : List Oper} {o : Oper} {a : Act} {Q : Exit → Act → World → Prop} (hgd : o.guard = none) (s x : Operand) (t : TypeId)
    (ho : o.op = .call { callee := .builtin .append, args := #[s, x], argTypes := #[t, t] })
    (e : TypeId) (i : TypeInfo) (z : Value) (size bytes : Nat) (ht : P.underlying t = some (.slice e)) (hi : P.info? e = some i) (hz : i.zero = some z)
    (hsize : i.size = size) (hby : i.bytes = bytes) (hzs : z.cells.size = size) (hsz : 0 < size)
    (v : Value) (n : Nat) (xs : List Value) (hs : a.eval s = v) (hown : Row w e size v n xs)
    (ao : Option Addr) (m c : Nat) (news : List Value) (hx : a.eval x = .slice ao m c) (hnone : ao = none → m = 0 ∧ c = 0) (hl : news.length = m * size) (hnews : ∀ ad, ao = some ad → ∀ j u, news[j]? = some u → w.cell? (ad.add j) = some u) (h1 : ∀ u ∈ news, u.oneCell' = true)
    (h63 : n + m ≤ maxLen) (hbytes : (n + m) * bytes ≤ 140737488355328)
    (h : ∀ v' w', Row w' e size v' (n + m) (xs ++ news) → Turned (fun k => v.ownBlock = some k) w w' → (v'.ownBlock = v.ownBlock ∨ v'.ownBlock = some w.heap.size) → wpList P ops Q rest (a.put o.dst v') w') : wpList P ops Q (o :: rest) a w := by
  refine wpList_plain hgd fun K hK => ?_
  obtain ⟨v', w', hr, h2, h3, h4⟩ := run_append_any (P := P) w t o.type e i z size bytes ht hi hz hsize hby hzs hsz v n xs hown ao m c news hnone hl hnews h1 h63 hbytes
  unfold Oper.wp execOp
  simp only [ho, resolve, invoke, builtin, Sem.run_bind, Sem.run_pure, Result.andThen_ok, List.map_toArray, List.map_cons, List.map_nil, hs, hx, hr]
  exact hK _ _ (h v' w' h2 h3 h4)

theorem step_append_any {ops : Array Oper} {o : Oper} {a : Act} {K : Act → World → Prop} {Q : Exit → Act → World → Prop} {E : Prop} (hgd : o.guard = none) (s x : Operand) (t : TypeId)
    (ho : o.op = .call { callee := .builtin .append, args := #[s, x], argTypes := #[t, t] })
    (e : TypeId) (i : TypeInfo) (z : Value) (size bytes : Nat) (ht : P.underlying t = some (.slice e)) (hi : P.info? e = some i) (hz : i.zero = some z)
    (hsize : i.size = size) (hby : i.bytes = bytes) (hzs : z.cells.size = size) (hsz : 0 < size)
    (v : Value) (n : Nat) (xs : List Value) (hs : a.eval s = v) (hown : Row w e size v n xs)
    (ao : Option Addr) (m c : Nat) (news : List Value) (hx : a.eval x = .slice ao m c) (hnone : ao = none → m = 0 ∧ c = 0) (hl : news.length = m * size) (hnews : ∀ ad, ao = some ad → ∀ j u, news[j]? = some u → w.cell? (ad.add j) = some u) (h1 : ∀ u ∈ news, u.oneCell' = true)
    (h63 : n + m ≤ maxLen) (hbytes : (n + m) * bytes ≤ 140737488355328)
    (h : ∀ v' w', Row w' e size v' (n + m) (xs ++ news) → Turned (fun k => v.ownBlock = some k) w w' → (v'.ownBlock = v.ownBlock ∨ v'.ownBlock = some w.heap.size) → K (a.put o.dst v') w') :
    if Region.wanted o (yielded ops a.tmps) = true then Oper.wp P o a w K Q else E := by
  have hw : Region.wanted o (yielded ops a.tmps) = true := by simp [Region.wanted, hgd]
  rw [if_pos hw]
  obtain ⟨v', w', hr, h2, h3, h4⟩ := run_append_any (P := P) w t o.type e i z size bytes ht hi hz hsize hby hzs hsz v n xs hown ao m c news hnone hl hnews h1 h63 hbytes
  unfold Oper.wp execOp
  simp only [ho, resolve, invoke, builtin, Sem.run_bind, Sem.run_pure, Result.andThen_ok, List.map_toArray, List.map_cons, List.map_nil, hs, hx, hr]
  exact h v' w' h2 h3 h4

/-- append at the operation. -/
theorem append_row {ops : Array Oper} {rest : List Oper} {o : Oper} {a : Act} {Q : Exit → Act → World → Prop} (hgd : o.guard = none) (s x : Operand) (t : TypeId)
    (ho : o.op = .call { callee := .builtin .append, args := #[s, x], argTypes := #[t, t] })
    (e : TypeId) (i : TypeInfo) (z : Value) (size bytes : Nat) (ht : P.underlying t = some (.slice e)) (hi : P.info? e = some i) (hz : i.zero = some z)
    (hsize : i.size = size) (hby : i.bytes = bytes) (hzs : z.cells.size = size) (hsz : 0 < size)
    (v : Value) (n : Nat) (xs : List Value) (hs : a.eval s = v) (hown : Row w e size v n xs)
    (ad : Addr) (m c : Nat) (news : List Value) (hx : a.eval x = .slice (some ad) m c) (hl : news.length = m * size) (hnews : ∀ j u, news[j]? = some u → w.cell? (ad.add j) = some u) (h1 : ∀ u ∈ news, u.oneCell' = true)
    (h63 : n + m ≤ maxLen) (hbytes : (n + m) * bytes ≤ 140737488355328)
    (h : ∀ v' w', Row w' e size v' (n + m) (xs ++ news) → Turned (fun k => v.ownBlock = some k) w w' → (v'.ownBlock = v.ownBlock ∨ v'.ownBlock = some w.heap.size) → (v' = .slice none 0 0 → v = .slice none 0 0 ∧ m = 0) → wpList P ops Q rest (a.put o.dst v') w') : wpList P ops Q (o :: rest) a w := by
  refine wpList_plain hgd fun K hK => ?_
  obtain ⟨v', w', hr, h2, h3, h4, h5⟩ := run_append_row (P := P) w t o.type e i z size bytes ht hi hz hsize hby hzs hsz v n xs hown ad m c news hl hnews h1 h63 hbytes
  unfold Oper.wp execOp
  simp only [ho, resolve, invoke, builtin, Sem.run_bind, Sem.run_pure, Result.andThen_ok, List.map_toArray, List.map_cons, List.map_nil, hs, hx, hr]
  exact hK _ _ (h v' w' h2 h3 h4 h5)

/-- append of at least one element, at a step of a region that draws its order. -/
theorem step_append_some {ops : Array Oper} {o : Oper} {a : Act} {K : Act → World → Prop} {Q : Exit → Act → World → Prop} {E : Prop} (hgd : o.guard = none) (s x : Operand) (t : TypeId)
    (ho : o.op = .call { callee := .builtin .append, args := #[s, x], argTypes := #[t, t] })
    (e : TypeId) (i : TypeInfo) (z : Value) (size bytes : Nat) (ht : P.underlying t = some (.slice e)) (hi : P.info? e = some i) (hz : i.zero = some z)
    (hsize : i.size = size) (hby : i.bytes = bytes) (hzs : z.cells.size = size) (hsz : 0 < size)
    (v : Value) (n : Nat) (xs : List Value) (hs : a.eval s = v) (hown : Row w e size v n xs)
    (ad : Addr) (m c : Nat) (news : List Value) (hx : a.eval x = .slice (some ad) m c) (hl : news.length = m * size) (hnews : ∀ j u, news[j]? = some u → w.cell? (ad.add j) = some u) (h1 : ∀ u ∈ news, u.oneCell' = true)
    (hm : 0 < m) (h63 : n + m ≤ maxLen) (hbytes : (n + m) * bytes ≤ 140737488355328)
    (h : ∀ g cap w', Row w' e size (.slice (some ⟨g, 0, none⟩) (n + m) cap) (n + m) (xs ++ news) → Turned (fun k => v.ownBlock = some k) w w' → (some g = v.ownBlock ∨ g = w.heap.size) → K (a.put o.dst (.slice (some ⟨g, 0, none⟩) (n + m) cap)) w') :
    if Region.wanted o (yielded ops a.tmps) = true then Oper.wp P o a w K Q else E := by
  have hw : Region.wanted o (yielded ops a.tmps) = true := by simp [Region.wanted, hgd]
  rw [if_pos hw]
  obtain ⟨v', w', hr, h2, h3, h4, h5⟩ := run_append_row (P := P) w t o.type e i z size bytes ht hi hz hsize hby hzs hsz v n xs hown ad m c news hl hnews h1 h63 hbytes
  obtain ⟨g, cap, rfl⟩ := h2.shape_pos (by omega)
  unfold Oper.wp execOp
  simp only [ho, resolve, invoke, builtin, Sem.run_bind, Sem.run_pure, Result.andThen_ok, List.map_toArray, List.map_cons, List.map_nil, hs, hx, hr]
  refine h g cap w' h2 h3 ?_
  rcases h4 with h4 | h4
  · exact .inl h4
  · exact .inr (by simpa [Value.ownBlock] using h4)

/-- append of at least one element: the value comes written out. -/
theorem append_some {ops : Array Oper} {rest : List Oper} {o : Oper} {a : Act} {Q : Exit → Act → World → Prop} (hgd : o.guard = none) (s x : Operand) (t : TypeId)
    (ho : o.op = .call { callee := .builtin .append, args := #[s, x], argTypes := #[t, t] })
    (e : TypeId) (i : TypeInfo) (z : Value) (size bytes : Nat) (ht : P.underlying t = some (.slice e)) (hi : P.info? e = some i) (hz : i.zero = some z)
    (hsize : i.size = size) (hby : i.bytes = bytes) (hzs : z.cells.size = size) (hsz : 0 < size)
    (v : Value) (n : Nat) (xs : List Value) (hs : a.eval s = v) (hown : Row w e size v n xs)
    (ad : Addr) (m c : Nat) (news : List Value) (hx : a.eval x = .slice (some ad) m c) (hl : news.length = m * size) (hnews : ∀ j u, news[j]? = some u → w.cell? (ad.add j) = some u) (h1 : ∀ u ∈ news, u.oneCell' = true)
    (hm : 0 < m) (h63 : n + m ≤ maxLen) (hbytes : (n + m) * bytes ≤ 140737488355328)
    (h : ∀ g cap w', Row w' e size (.slice (some ⟨g, 0, none⟩) (n + m) cap) (n + m) (xs ++ news) → Turned (fun k => v.ownBlock = some k) w w' → (some g = v.ownBlock ∨ g = w.heap.size) → wpList P ops Q rest (a.put o.dst (.slice (some ⟨g, 0, none⟩) (n + m) cap)) w') : wpList P ops Q (o :: rest) a w := by
  refine append_row w hgd s x t ho e i z size bytes ht hi hz hsize hby hzs hsz v n xs hs hown ad m c news hx hl hnews h1 h63 hbytes ?_
  intro v' w' h1 h2 h3 _
  obtain ⟨g, cap, rfl⟩ := h1.shape_pos (by omega)
  refine h g cap w' h1 h2 ?_
  rcases h3 with h3 | h3
  · exact .inl h3
  · exact .inr (by simpa [Value.ownBlock] using h3)
end
/-- Of a row, as a source: nil or its cells. -/
theorem Row.source {w w' : World} {e : TypeId} {size : Nat} {a : Option Addr} {n cap : Nat} {xs : List Value} (h : Row w e size (.slice a n cap) n xs) (h' : Row w' e size (.slice a n cap) n xs) : (a = none → n = 0 ∧ cap = 0) ∧ ∀ ad, a = some ad → ∀ j u, xs[j]? = some u → w'.cell? (ad.add j) = some u := by
  refine ⟨fun e => ?_, fun ad e j u hu => ?_⟩
  · subst e
    rcases h.2 with ⟨e, _⟩ | ⟨g, c, cur, e, _⟩
    · injection e with _ e1 e2; exact ⟨e1, e2⟩
    · cases e
  · subst e
    rcases h.2 with ⟨e, _⟩ | ⟨g, c, cur, e, _⟩
    · cases e
    · injection e with e _ e2; injection e with e; subst e; subst e2
      rw [Addr.add_lit, Nat.zero_add]
      exact h'.cells rfl j u hu
theorem cell_old {w : World} {o : Obj} {a : Addr} {v : Value} (h : w.cell? a = some v) : (w.alloc o).cell? a = some v :=
  (World.cell?_of_block (w := w) (Below.heap_alloc _ _ _ (World.block_lt_of_cell? w a h))).trans h
theorem Turned.cell {S : Nat → Prop} {w w' : World} (h : Turned S w w') {p : Addr} {v : Value} (hc : w.cell? p = some v) (hp : ¬ S p.block) : w'.cell? p = some v :=
  (World.cell?_of_block (w := w) (h.block p.block (World.block_lt_of_cell? w p hc) hp)).trans hc
theorem Turned.cell0 {w w' : World} (h : Turned (fun _ => False) w w') {p : Addr} {v : Value} (hc : w.cell? p = some v) : w'.cell? p = some v := h.cell hc (fun f => f)
theorem Turned.frozen {S : Nat → Prop} {w w' : World} (h : Turned S w w') {p : Addr} {b : Bool} (hb : p.block < w.heap.size) (hc : w.frozen? p = b) (hp : ¬ S p.block) : w'.frozen? p = b :=
  (World.frozen?_of_block (w := w) (h.block p.block hb hp)).trans hc
theorem Turned.toBelow {w w' : World} (h : Turned (fun _ => False) w w') : Below w.heap.size w w' := ⟨h.os, h.tape, h.output, h.size, fun k hk => h.block k hk (fun f => f)⟩
theorem str_neq {x y : ByteArray} (h : x ≠ y) : (x.toList == y.toList) = false := by
  rw [ByteArray.toList_eq, ByteArray.toList_eq, beq_eq_false_iff_ne]
  intro e
  apply h
  cases x; cases y
  congr 1
  exact Array.toList_inj.1 e
theorem own_cases (a : Option Addr) (n cap : Nat) {B : Nat} : ∀ k, (Value.slice a n cap).ownBlock = some k → B ≤ k ∨ (Value.slice a n cap).ownBlock = some k := fun _ hk => .inr hk
/-- A region whose first n operations read alone, then some in a forced order: one walk. -/
theorem region_tail {P : Program} {id : Nat} {Q : Exit → Act → World → Prop} {a : Act} {w : World} {l : List Oper} (n : Nat) (hm : P.follows .mixedOrders = true) (hB : Region.lexTailB .any l.toArray n = true)
    (h : wpStill P l.toArray w.drew (fun a' => wpList P l.toArray Q (l.drop n) a' w.drew) (l.take n) a) : (Code.region id l.toArray true).wp P Q a w := wp_region_still_tail n hm hB h

end Go.Proofs.Ytoihjobdfjajfaa

/- Terms, plainly: size, depth, what is told from left to right. No program in sight. -/
namespace Go.Proofs.Ytoihjobdfjajfaa
set_option linter.unusedVariables false
set_option linter.unusedSimpArgs false

/-- A term; 'note' is whatever one wants to know of it besides (where its args lie). -/
inductive Tm (α : Type) where
  | mk (kind n : Int) (name : ByteArray) (note : α) (args : List (Tm α))

namespace Tm
variable {α : Type}
def kind : Tm α → Int | .mk k _ _ _ _ => k
def n : Tm α → Int | .mk _ n _ _ _ => n
def name : Tm α → ByteArray | .mk _ _ s _ _ => s
def args : Tm α → List (Tm α) | .mk _ _ _ _ asq => asq

mutual
def size : Tm α → Nat
  | .mk _ _ _ _ asq => 1 + sizes asq
def sizes : List (Tm α) → Nat
  | [] => 0
  | x :: l => size x + sizes l
end
mutual
def depth : Tm α → Nat
  | .mk _ _ _ _ asq => 1 + depths asq
def depths : List (Tm α) → Nat
  | [] => 0
  | x :: l => max (depth x) (depths l)
end
mutual
/-- A term and all that it is made of, from left to right. -/
def flat : Tm α → List (Tm α)
  | .mk k n s e asq => .mk k n s e asq :: flats asq
def flats : List (Tm α) → List (Tm α)
  | [] => []
  | x :: l => flat x ++ flats l
end

mutual
theorem flat_length : ∀ t : Tm α, t.flat.length = t.size
  | .mk _ _ _ _ asq => by simp only [flat, size, List.length_cons, flats_length asq]; omega
theorem flats_length : ∀ l : List (Tm α), (flats l).length = sizes l
  | [] => rfl
  | x :: l => by simp only [flats, sizes, List.length_append, flat_length x, flats_length l]
end
theorem flats_append (a b : List (Tm α)) : flats (a ++ b) = flats a ++ flats b := by
  induction a with
  | nil => rfl
  | cons x a ih => simp only [List.cons_append, flats, ih, List.append_assoc]
theorem sizes_append (a b : List (Tm α)) : sizes (a ++ b) = sizes a + sizes b := by
  induction a with
  | nil => simp [sizes]
  | cons x a ih => simp only [List.cons_append, sizes, ih]; omega
theorem size_pos (t : Tm α) : 0 < t.size := by cases t; simp only [size]; omega
theorem depth_pos (t : Tm α) : 0 < t.depth := by cases t; simp only [depth]; omega
theorem flat_eq (t : Tm α) : t.flat = t :: flats t.args := by cases t; rfl
theorem size_eq (t : Tm α) : t.size = 1 + sizes t.args := by cases t; rfl
theorem depth_eq (t : Tm α) : t.depth = 1 + depths t.args := by cases t; rfl

mutual
/-- The document's Size: it stops counting above most. -/
def docSize : Tm α → Nat → Nat
  | .mk _ _ _ _ asq, most => docSizes asq most 1
def docSizes : List (Tm α) → Nat → Nat → Nat
  | [], _, n => n
  | x :: l, most, n => if n ≤ most then docSizes l most (n + docSize x (most - n)) else n
end
mutual
theorem docSize_eq : ∀ (t : Tm α) (most : Nat), docSize t most = min t.size (most + 1)
  | .mk _ _ _ _ asq, most => by
    simp only [docSize, size]
    rw [docSizes_eq asq most 1 (by omega)]
theorem docSizes_eq : ∀ (l : List (Tm α)) (most n : Nat), n ≤ most + 1 → docSizes l most n = min (n + sizes l) (most + 1)
  | [], most, n, h => by simp only [docSizes, sizes]; omega
  | x :: l, most, n, h => by
    simp only [docSizes, sizes]
    split
    · have hx := docSize_eq x (most - n)
      have hp := size_pos x
      rw [docSizes_eq l most _ (by rw [hx]; omega), hx]
      omega
    · have hp := size_pos x
      omega
end
mutual
/-- The document's Depth. -/
def docDepth : Tm α → Nat → Nat
  | .mk _ _ _ _ asq, most => match most with
    | 0 => 1
    | m + 1 => docDepths asq m 0 + 1
def docDepths : List (Tm α) → Nat → Nat → Nat
  | [], _, d => d
  | x :: l, m, d => docDepths l m (max d (docDepth x m))
end
mutual
theorem docDepth_eq : ∀ (t : Tm α) (most : Nat), docDepth t most = min t.depth (most + 1)
  | .mk _ _ _ _ asq, 0 => by simp only [docDepth, depth]; omega
  | .mk _ _ _ _ asq, m + 1 => by
    simp only [docDepth, depth]
    rw [docDepths_eq asq m 0]
    omega
theorem docDepths_eq : ∀ (l : List (Tm α)) (m d : Nat), docDepths l m d = max d (min (depths l) (m + 1))
  | [], m, d => by simp only [docDepths, depths]; omega
  | x :: l, m, d => by
    simp only [docDepths, depths]
    rw [docDepths_eq l m, docDepth_eq x m]
    omega
end

/-- The program's depth: it looks no further than most. -/
def upDepth (l : List (Tm α)) (m d : Nat) : Nat := l.foldl (fun d x => if m ≤ d then d else max d (min x.depth m)) d
theorem upDepth_eq (l : List (Tm α)) (m d : Nat) (hd : d ≤ m) : upDepth l m d = max d (min (depths l) m) := by
  unfold upDepth
  induction l generalizing d with
  | nil => simp only [List.foldl_nil, depths]; omega
  | cons x l ih =>
    simp only [List.foldl_cons, depths]
    split
    · rw [ih d hd]; omega
    · rw [ih _ (by omega)]; omega

/-- A variable more, if it is one and is not there. -/
def addVar (l : List Int) (x : Tm α) : List Int := if x.kind = 0 ∧ x.n ∉ l then l ++ [x.n] else l
def vars (t : Tm α) : List Int := t.flat.foldl addVar []
mutual
/-- The document's vars. -/
def docVars : Tm α → List Int → List Int
  | .mk k n _ _ asq, l => if k = 0 then (if n ∈ l then l else l ++ [n]) else docVarss asq l
def docVarss : List (Tm α) → List Int → List Int
  | [], l => l
  | x :: xs, l => docVarss xs (docVars x l)
end
mutual
theorem docVars_eq : ∀ (t : Tm α) (l : List Int), (∀ x ∈ t.flat, x.kind = 0 → x.args = []) → docVars t l = t.flat.foldl addVar l
  | .mk k n s e asq, l, h => by
    simp only [docVars, flat, List.foldl_cons, addVar, kind, Tm.n]
    by_cases hk : k = 0
    · have := h (.mk k n s e asq) (by simp [flat]) hk
      simp only [args] at this
      subst this
      by_cases hn : n ∈ l <;> simp [hk, hn, flats]
    · simp only [hk, false_and, if_false]
      exact docVarss_eq asq l (fun x hx => h x (by simp only [flat]; exact List.mem_cons_of_mem _ hx))
theorem docVarss_eq : ∀ (xs : List (Tm α)) (l : List Int), (∀ x ∈ flats xs, x.kind = 0 → x.args = []) → docVarss xs l = (flats xs).foldl addVar l
  | [], l, _ => rfl
  | x :: xs, l, h => by
    simp only [docVarss, flats, List.foldl_append]
    rw [docVars_eq x l (fun y hy => h y (by simp only [flats]; exact List.mem_append_left _ hy)), docVarss_eq xs _ (fun y hy => h y (by simp only [flats]; exact List.mem_append_right _ hy))]
end

/-- One step of 'each': the last of the stack is told; its args come on top, the last one first. -/
theorem flats_todo (todo : List (Tm α)) (x : Tm α) : flats (todo ++ [x]).reverse = x :: flats (todo ++ x.args.reverse).reverse := by
  rw [List.reverse_append, List.reverse_append, List.reverse_reverse]
  simp only [List.reverse_singleton, flats, flat_eq, flats_append, List.cons_append, List.nil_append]
mutual
theorem mem_flat_size : ∀ (t x : Tm α), x ∈ t.flat → x.size ≤ t.size
  | .mk k n s e asq, x, h => by
    simp only [flat, List.mem_cons] at h
    rcases h with rfl | h
    · exact Nat.le_refl _
    · have := mem_flats_size asq x h
      simp only [size]; omega
theorem mem_flats_size : ∀ (l : List (Tm α)) (x : Tm α), x ∈ flats l → x.size ≤ sizes l
  | [], x, h => by simp [flats] at h
  | y :: l, x, h => by
    simp only [flats, List.mem_append] at h
    simp only [sizes]
    rcases h with h | h
    · have := mem_flat_size y x h; omega
    · have := mem_flats_size l x h; omega
end
mutual
/-- The term without its notes. -/
def bare : Tm α → Tm Unit
  | .mk k n s _ asq => .mk k n s () (bares asq)
def bares : List (Tm α) → List (Tm Unit)
  | [] => []
  | x :: l => bare x :: bares l
end
mutual
/-- The document's Same, on two terms. -/
def same {β : Type} : Tm α → Tm β → Bool
  | .mk k n s _ asq, .mk k' n' s' _ bs => k == k' && n == n' && decide (s = s') && sames asq bs
def sames {β : Type} : List (Tm α) → List (Tm β) → Bool
  | [], [] => true
  | x :: l, y :: m => same x y && sames l m
  | _, _ => false
end
mutual
theorem same_iff {β : Type} : ∀ (a : Tm α) (b : Tm β), same a b = true ↔ bare a = bare b
  | .mk k n s e asq, .mk k' n' s' e' bs => by
    simp only [same, bare, Bool.and_eq_true, beq_iff_eq, decide_eq_true_eq, sames_iff asq bs, Tm.mk.injEq, and_assoc, true_and]
theorem sames_iff {β : Type} : ∀ (l : List (Tm α)) (m : List (Tm β)), sames l m = true ↔ bares l = bares m
  | [], [] => by simp [sames, bares]
  | x :: l, y :: m => by simp only [sames, bares, Bool.and_eq_true, same_iff x y, sames_iff l m, List.cons.injEq]
  | [], y :: m => by simp [sames, bares]
  | x :: l, [] => by simp [sames, bares]
end
theorem bares_eq (l : List (Tm α)) : bares l = l.map bare := by
  induction l with
  | nil => rfl
  | cons x l ih => simp only [bares, List.map_cons, ih]

/-- Whether a name may be. -/
def goodName (s : ByteArray) : Prop := s.size ≤ 64 ∧ ∀ b ∈ s.data.toList, b = 9 ∨ b = 10 ∨ (32 ≤ b ∧ b ≤ 126)
/-- What is asked of one term, but for its args. -/
def goodOne (t : Tm α) : Prop :=
  (t.kind = 0 ∧ 0 ≤ t.n ∧ t.n ≤ 2147483647 ∧ t.name.size = 0 ∧ t.args = []) ∨ (t.kind = 1 ∧ t.name.size = 0 ∧ t.args = []) ∨
  (t.kind = 2 ∧ t.n = 0 ∧ goodName t.name ∧ t.args.length ≤ 8)
def good (t : Tm α) : Prop := t.size ≤ 2000 ∧ t.depth ≤ 64 ∧ ∀ x ∈ t.flat, goodOne x
theorem good_arg {t x : Tm α} (h : good t) (hx : x ∈ t.flat) : x.size ≤ 2000 := Nat.le_trans (mem_flat_size t x hx) h.1
theorem good_vars {t : Tm α} (h : good t) : ∀ x ∈ t.flat, x.kind = 0 → x.args = [] := by
  intro x hx hk
  rcases h.2.2 x hx with g | g | g
  · exact g.2.2.2.2
  · exact absurd (hk.symm.trans g.1) (by decide)
  · exact absurd (hk.symm.trans g.1) (by decide)
theorem vars_doc {t : Tm α} (h : good t) : docVars t [] = t.vars := docVars_eq t [] (good_vars h)
end Tm
end Go.Proofs.Ytoihjobdfjajfaa

/- Terms in memory: where the args lie, what each cell holds. No program in sight. -/
namespace Go.Proofs.Ytoihjobdfjajfaa
set_option linter.unusedVariables false
set_option linter.unusedSimpArgs false
open Go.RowKit

/-- It fits an int64. -/
def I64 (n : Int) : Prop := -9223372036854775808 ≤ n ∧ n ≤ 9223372036854775807
theorem I64.wf {n : Int} (h : I64 n) : (Lit.int .i64 n).wf = true := WalkArith.wf_i64 h

/-- A term with a note of where its args lie: the slice's address and its capacity. -/
abbrev LT := Tm (Option Addr × Nat)
namespace LT
/-- A term as a value. -/
def sl (t : LT) : Value := match t with | .mk _ _ _ e asq => .slice e.1 asq.length e.2
def cells (t : LT) : List Value := match t with | .mk k n s e asq => [.int .i64 k, .int .i64 n, .string s, .slice e.1 asq.length e.2]
def val (t : LT) : Value := match t with | .mk k n s e asq => .agg #[.int .i64 k, .int .i64 n, .string s, .slice e.1 asq.length e.2]
theorem cells_length (t : LT) : (cells t).length = 4 := by cases t; rfl
theorem cells_one (t : LT) : ∀ u ∈ cells t, u.oneCell' = true := by
  cases t with | mk k n s e asq =>
  intro u hu
  simp only [cells, List.mem_cons, List.not_mem_nil, or_false] at hu
  rcases hu with rfl | rfl | rfl | rfl <;> rfl
theorem flat_length (l : List LT) : (l.flatMap cells).length = l.length * 4 := by
  induction l with
  | nil => rfl
  | cons x l ih => rw [List.flatMap_cons, List.length_append, cells_length, ih, List.length_cons]; omega
theorem flat_one (l : List LT) : ∀ u ∈ l.flatMap cells, u.oneCell' = true := by
  intro u hu
  obtain ⟨x, _, hx⟩ := List.mem_flatMap.1 hu
  exact cells_one x u hx
theorem flat_at {l : List LT} {i : Nat} {x : LT} (h : l[i]? = some x) (j : Nat) (hj : j < 4) : (l.flatMap cells)[i * 4 + j]? = (cells x)[j]? := by
  induction l generalizing i with
  | nil => simp at h
  | cons y l ih =>
    rw [List.flatMap_cons]
    cases i with
    | zero =>
      simp at h; subst h
      rw [List.getElem?_append_left (by rw [cells_length]; omega), Nat.zero_mul, Nat.zero_add]
    | succ i =>
      simp at h
      rw [List.getElem?_append_right (by rw [cells_length]; omega), cells_length]
      have : (i + 1) * 4 + j - 4 = i * 4 + j := by omega
      rw [this]
      exact ih h

mutual
/-- The term lies in memory: its args' cells at the note's address, in blocks of p. -/
def In (p : Nat → Prop) (w : World) : LT → Prop
  | .mk k n s e asq => I64 k ∧ I64 n ∧ s.size ≤ maxLen ∧ asq.length ≤ e.2 ∧ e.2 ≤ maxLen ∧ (e.1 = none → asq.length = 0 ∧ e.2 = 0) ∧
      (0 < asq.length → ∃ b o, e.1 = some ⟨b, o, none⟩ ∧ p b ∧ ∀ j u, (asq.flatMap cells)[j]? = some u → w.cell? ⟨b, o + j, none⟩ = some u) ∧ Ins p w asq
def Ins (p : Nat → Prop) (w : World) : List LT → Prop
  | [] => True
  | x :: l => In p w x ∧ Ins p w l
end
theorem ins_iff {p : Nat → Prop} {w : World} (l : List LT) : Ins p w l ↔ ∀ x ∈ l, In p w x := by
  induction l with
  | nil => simp [Ins]
  | cons x l ih => simp [Ins, ih]
theorem ins_append {p : Nat → Prop} {w : World} (a b : List LT) : Ins p w (a ++ b) ↔ Ins p w a ∧ Ins p w b := by
  rw [ins_iff, ins_iff, ins_iff]; simp [or_imp, forall_and]
mutual
theorem In.turned {p q : Nat → Prop} {S : Nat → Prop} {w w' : World} (ht : Turned S w w') (hS : ∀ k, k < w.heap.size → p k → ¬ S k) (hq : ∀ k, k < w.heap.size → p k → q k) : ∀ t : LT, In p w t → In q w' t
  | .mk k n s e asq, h => by
    obtain ⟨h1, h2, h3, h4, h5, h6, h7, h8⟩ := h
    refine ⟨h1, h2, h3, h4, h5, h6, fun hp => ?_, Ins.turned ht hS hq asq h8⟩
    obtain ⟨b, o, he, hb, hc⟩ := h7 hp
    have hlt : b < w.heap.size := by
      have h0 : (asq.flatMap cells)[0]? = some ((asq.flatMap cells)[0]'(by rw [flat_length]; omega)) := List.getElem?_eq_getElem _
      exact World.block_lt_of_cell? w _ (hc 0 _ h0)
    exact ⟨b, o, he, hq b hlt hb, fun j u hu => ht.cell (hc j u hu) (hS b hlt hb)⟩
theorem Ins.turned {p q : Nat → Prop} {S : Nat → Prop} {w w' : World} (ht : Turned S w w') (hS : ∀ k, k < w.heap.size → p k → ¬ S k) (hq : ∀ k, k < w.heap.size → p k → q k) : ∀ l : List LT, Ins p w l → Ins q w' l
  | [], _ => trivial
  | x :: l, h => ⟨In.turned ht hS hq x h.1, Ins.turned ht hS hq l h.2⟩
end
theorem In.turned0 {p : Nat → Prop} {w w' : World} {t : LT} (h : In p w t) (ht : Turned (fun _ => False) w w') : In p w' t := In.turned ht (fun _ _ _ f => f) (fun _ _ h => h) t h
theorem Ins.turned0 {p : Nat → Prop} {w w' : World} {l : List LT} (h : Ins p w l) (ht : Turned (fun _ => False) w w') : Ins p w' l := Ins.turned ht (fun _ _ _ f => f) (fun _ _ h => h) l h
theorem In.mono {p q : Nat → Prop} {w : World} {t : LT} (h : In p w t) (hq : ∀ k, k < w.heap.size → p k → q k) : In q w t := In.turned (Turned.refl (fun _ => False) w) (fun _ _ _ f => f) hq t h
theorem Ins.mono {p q : Nat → Prop} {w : World} {l : List LT} (h : Ins p w l) (hq : ∀ k, k < w.heap.size → p k → q k) : Ins q w l := Ins.turned (Turned.refl (fun _ => False) w) (fun _ _ _ f => f) hq l h
mutual
theorem In.flat {p : Nat → Prop} {w : World} : ∀ t : LT, In p w t → ∀ x ∈ t.flat, In p w x
  | .mk k n s e asq, h, x, hx => by
    simp only [Tm.flat, List.mem_cons] at hx
    rcases hx with rfl | hx
    · exact h
    · exact Ins.flat asq h.2.2.2.2.2.2.2 x hx
theorem Ins.flat {p : Nat → Prop} {w : World} : ∀ l : List LT, Ins p w l → ∀ x ∈ Tm.flats l, In p w x
  | [], _, x, hx => by simp [Tm.flats] at hx
  | y :: l, h, x, hx => by
    simp only [Tm.flats, List.mem_append] at hx
    rcases hx with hx | hx
    · exact In.flat y h.1 x hx
    · exact Ins.flat l h.2 x hx
end
theorem In.args {p : Nat → Prop} {w : World} {t : LT} (h : In p w t) : Ins p w t.args := by cases t; exact h.2.2.2.2.2.2.2
theorem In.kind {p : Nat → Prop} {w : World} {t : LT} (h : In p w t) : I64 t.kind := by cases t; exact h.1
theorem In.n {p : Nat → Prop} {w : World} {t : LT} (h : In p w t) : I64 t.n := by cases t; exact h.2.1
theorem In.name {p : Nat → Prop} {w : World} {t : LT} (h : In p w t) : t.name.size ≤ maxLen := by cases t; exact h.2.2.1

/-- The note. -/
def at_ (t : LT) : Option Addr × Nat := match t with | .mk _ _ _ e _ => e
theorem In.len {p : Nat → Prop} {w : World} {t : LT} (h : In p w t) : t.args.length ≤ t.at_.2 ∧ t.at_.2 ≤ maxLen ∧ (t.at_.1 = none → t.args.length = 0 ∧ t.at_.2 = 0) := by cases t; exact ⟨h.2.2.2.1, h.2.2.2.2.1, h.2.2.2.2.2.1⟩
theorem val_eq (t : LT) : t.val = .agg #[.int .i64 t.kind, .int .i64 t.n, .string t.name, .slice t.at_.1 t.args.length t.at_.2] := by cases t; rfl
theorem cells_eq (t : LT) : t.cells = [.int .i64 t.kind, .int .i64 t.n, .string t.name, .slice t.at_.1 t.args.length t.at_.2] := by cases t; rfl
/-- A row of terms' cells at an address. -/
def Lies (p : Nat → Prop) (w : World) (a : Option Addr) (l : List LT) : Prop :=
  0 < l.length → ∃ b o, a = some ⟨b, o, none⟩ ∧ p b ∧ ∀ j u, (l.flatMap cells)[j]? = some u → w.cell? ⟨b, o + j, none⟩ = some u
theorem In.lies {p : Nat → Prop} {w : World} {t : LT} (h : In p w t) : Lies p w t.at_.1 t.args := by cases t; exact h.2.2.2.2.2.2.1
theorem Lies.cell {p : Nat → Prop} {w : World} {a : Option Addr} {l : List LT} (h : Lies p w a l) {i : Nat} {x : LT} (hi : l[i]? = some x) :
    ∃ b o, a = some ⟨b, o, none⟩ ∧ p b ∧ w.cell? ⟨b, o + i * 4, none⟩ = some (.int .i64 x.kind) ∧ w.cell? ⟨b, o + i * 4 + 1, none⟩ = some (.int .i64 x.n) ∧ w.cell? ⟨b, o + i * 4 + 2, none⟩ = some (.string x.name) ∧ w.cell? ⟨b, o + i * 4 + 3, none⟩ = some (.slice x.at_.1 x.args.length x.at_.2) := by
  obtain ⟨b, o, rfl, hp, hc⟩ := h (by have := (List.getElem?_eq_some_iff.1 hi).1; omega)
  refine ⟨b, o, rfl, hp, hc _ _ ?_, ?_, ?_, ?_⟩
  rotate_left
  all_goals try (rw [Nat.add_assoc]; refine hc _ _ ?_)
  rotate_right
  · have := flat_at hi 0 (by omega); rw [Nat.add_zero] at this; rw [this, cells_eq]; rfl
  · rw [flat_at hi 1 (by omega), cells_eq]; rfl
  · rw [flat_at hi 2 (by omega), cells_eq]; rfl
  · rw [flat_at hi 3 (by omega), cells_eq]; rfl
theorem In.mk {p : Nat → Prop} {w : World} {k n : Int} {s : ByteArray} {a : Option Addr} {c : Nat} {asq : List LT} (h1 : I64 k) (h2 : I64 n) (h3 : s.size ≤ maxLen) (h4 : asq.length ≤ c) (h5 : c ≤ maxLen) (h6 : a = none → asq.length = 0 ∧ c = 0)
    (h7 : Lies p w a asq) (h8 : Ins p w asq) : In p w (.mk k n s (a, c) asq) := ⟨h1, h2, h3, h4, h5, h6, h7, h8⟩
/-- A row that nobody else holds, as a term's args. -/
theorem lies_of_row {p : Nat → Prop} {w : World} {e : TypeId} {v : Value} {l : List LT} {a : Option Addr} {n c : Nat} (h : Row w e 4 (.slice a n c) n (l.flatMap cells)) (hp : ∀ k, (Value.slice a n c).ownBlock = some k → p k) :
    n = l.length ∧ n ≤ c ∧ c ≤ maxLen ∧ (a = none → n = 0 ∧ c = 0) ∧ Lies p w a l := by
  have hn : n = l.length := by have := h.1; rw [flat_length] at this; omega
  refine ⟨hn, ?_⟩
  rcases h.2 with ⟨e, h0⟩ | ⟨g, cap, cur, e, hg, h1, h2, h3, h4⟩
  · injection e with e1 _ e2; subst e1; subst e2; subst h0
    exact ⟨Nat.le_refl _, by unfold maxLen; omega, fun _ => ⟨rfl, rfl⟩, fun hl => by omega⟩
  · injection e with e1 _ e2; subst e1; subst e2
    refine ⟨h1, h2, (fun e => by cases e), fun _ => ⟨g, 0, rfl, hp g rfl, fun j u hu => ?_⟩⟩
    rw [Nat.zero_add]
    exact h.cells rfl j u hu
end LT
end Go.Proofs.Ytoihjobdfjajfaa

/- deep, nums: what the laws' own helpers do. -/
namespace Go.Proofs.Ytoihjobdfjajfaa
set_option linter.unusedVariables false
set_option linter.unusedSimpArgs false
open Go.RowKit

/-- More than is asked of? -/
def deepB {α : Type} : Nat → Tm α → Bool
  | 0, _ => true
  | k + 1, t => decide (12 < t.args.length) || t.args.any (deepB k)

theorem ret_bool {a b : Bool} (h : a = b) : Ending.returned (.bool a) = .returned (.bool b) := by rw [h]
theorem any_snoc {α : Type} (f : α → Bool) (l : List α) (j : Nat) (x : α) (h : l[j]? = some x) : (l.take (j + 1)).any f = ((l.take j).any f || f x) := by
  have hj := (List.getElem?_eq_some_iff.1 h)
  rw [List.take_succ_eq_append_getElem hj.1, hj.2, List.any_append]
  simp
theorem any_yes {α : Type} (f : α → Bool) (l : List α) (j : Nat) (x : α) (h : l[j]? = some x) (hx : f x = true) : l.any f = true :=
  List.any_eq_true.2 ⟨x, List.mem_of_getElem? h, hx⟩
theorem boxed (w : World) (cs : Array Value) (T : TypeId) (j : Nat) : (w.alloc (.cells cs T)).cell? ⟨w.heap.size, j, none⟩ = cs[j]? := by
  rw [cell_of_row _ w.heap.size j cs T (0, 0) (heap_alloc_new w _)]

set_option maxHeartbeats 800000 in
theorem deep33 (p : Nat → Prop) (k : Nat) : ∀ (t : LT) (w : World), k ≤ 1000 → t.In p w →
    Calls Try.prog 33 #[t.val, .int .i64 k] w fun e w' => e = .returned (.bool (deepB k t)) ∧ Turned (fun _ => False) w w' := by
  induction k with
  | zero =>
    intro t w hk ht
    rw [LT.val_eq]
    go_enter Try.func33, Try.ntmps33
    go_wp2_with fail
    go_ret
    exact ⟨rfl, (Turned.refl _ _).alloc _⟩
  | succ k ih =>
    intro t w hk ht
    rw [LT.val_eq]
    have hl := ht.len
    have hm := hl.2.1
    have hm1 := hl.1
    unfold maxLen at hm
    by_cases h12 : 12 < t.args.length
    · go_enter Try.func33, Try.ntmps33
      go_wp2_with fail
      go_ret
      exact ⟨by simp [deepB, h12], (Turned.refl _ _).alloc _⟩
    · have hd : decide (12 < (t.args.length : Int)) = false := by simp; omega
      have hgo : deepB (k + 1) t = t.args.any (deepB k) := by simp [deepB, h12]
      rw [hgo]
      clear hgo
      go_enter Try.func33, Try.ntmps33
      go_wp2_with fail
      have T1 := (Turned.refl (fun _ => False) w).alloc (.cells #[.int .i64 t.kind, .int .i64 t.n, .string t.name, .slice t.at_.1 t.args.length t.at_.2] 27)
      have hb1 := boxed w #[.int .i64 t.kind, .int .i64 t.n, .string t.name, .slice t.at_.1 t.args.length t.at_.2] 27 3
      revert T1 hb1
      generalize w.alloc (.cells #[.int .i64 t.kind, .int .i64 t.n, .string t.name, .slice t.at_.1 t.args.length t.at_.2] 27) = w1
      intro T1 hb1
      have ht1 := ht.turned0 T1
      clear ht hl
      go_loopw [5] (fun i wr => ∃ j : Nat, j ≤ t.args.length ∧ i = .int .i64 j ∧ (t.args.take j).any (deepB k) = false ∧ Turned (fun _ => False) w1 wr) (fun i _ => t.args.length - (intOf i).toNat)
      case atStart => exact ⟨0, Nat.zero_le _, rfl, rfl, Turned.refl _ _⟩
      case round =>
        obtain ⟨j, hj, rfl, hany, Tr⟩ := hrel
        have hb := Tr.cell0 hb1
        simp at hb
        have HA := Lib.hid hany
        clear hany
        by_cases hjl : j < t.args.length
        · have hx : t.args[j]? = some t.args[j] := List.getElem?_eq_getElem hjl
          obtain ⟨x, hxe⟩ : ∃ x, x = t.args[j] := ⟨_, rfl⟩
          rw [← hxe] at hx
          clear hxe
          have hxin := (LT.ins_iff _).1 (ht1.turned0 Tr).args x (List.mem_of_getElem? hx)
          obtain ⟨b, o, ha, _, c0, c1, c2, c3⟩ := (ht1.turned0 Tr).lies.cell hx
          have HX := Lib.hid hx
          clear hx
          rw [ha] at hb
          have hih := fun W h => ih x W (by omega) h
          rw [LT.val_eq] at hih
          have HI := Lib.hid hih
          clear hih ih
          have HAd := Lib.hid ha
          clear ha
          go_wp2_with (go_at_call 33; refine (HI.out _ hxin).mono ?_; rintro e w2 ⟨rfl, T2⟩)
          · have hd : deepB k x = true := by assumption
            go_ret
            exact ⟨ret_bool (any_yes _ _ _ _ HX.out hd).symm, T1.trans (Tr.trans T2)⟩
          · have hd : deepB k x = false := by assumption
            go_roundw
            case rel => exact ⟨j + 1, by omega, by go_num, by rw [any_snoc _ _ _ _ HX.out, HA.out, hd]; rfl, Tr.trans T2⟩
            case measure => simp [intOf]; omega
        · go_wp2_with fail
          go_ret
          refine ⟨?_, T1.trans Tr⟩
          have : j = t.args.length := by omega
          have h := HA.out
          rw [this, List.take_length] at h
          exact ret_bool h.symm
end Go.Proofs.Ytoihjobdfjajfaa

/- Terms made: Clone, Comp, Int, Var, Atom. -/
namespace Go.Proofs.Ytoihjobdfjajfaa
set_option linter.unusedVariables false
set_option linter.unusedSimpArgs false
open Go.RowKit

def zeroT : Value := .agg #[.int .i64 0, .int .i64 0, .string ByteArray.empty, .slice none 0 0]
theorem infoT : (Try.prog.info? 27).map (fun i => (i.zero, i.size, i.bytes)) = some (some zeroT, 4, 56) := by kernel_rfl

/-- A slice of terms that came in from anywhere. -/
structure LT.Sl (p : Nat → Prop) (w : World) (a : Option Addr) (c : Nat) (l : List LT) : Prop where
  none_ : a = none → l.length = 0 ∧ c = 0
  lies : LT.Lies p w a l
  ins : LT.Ins p w l
  cap : l.length ≤ c
  max : c ≤ maxLen
theorem LT.Sl.turned {p q S : Nat → Prop} {w w' : World} {a : Option Addr} {c : Nat} {l : List LT} (h : LT.Sl p w a c l) (ht : Turned S w w') (hS : ∀ k, k < w.heap.size → p k → ¬ S k) (hq : ∀ k, k < w.heap.size → p k → q k) : LT.Sl q w' a c l := by
  refine ⟨h.none_, fun hp => ?_, LT.Ins.turned ht hS hq l h.ins, h.cap, h.max⟩
  obtain ⟨b, o, he, hb, hc⟩ := h.lies hp
  have hlt : b < w.heap.size := by
    have h0 : (l.flatMap LT.cells)[0]? = some ((l.flatMap LT.cells)[0]'(by rw [LT.flat_length]; omega)) := List.getElem?_eq_getElem _
    exact World.block_lt_of_cell? w _ (hc 0 _ h0)
  exact ⟨b, o, he, hq b hlt hb, fun j u hu => ht.cell (hc j u hu) (hS b hlt hb)⟩
theorem LT.Sl.turned0 {p : Nat → Prop} {w w' : World} {a : Option Addr} {c : Nat} {l : List LT} (h : LT.Sl p w a c l) (ht : Turned (fun _ => False) w w') : LT.Sl p w' a c l := h.turned ht (fun _ _ _ f => f) (fun _ _ h => h)
theorem LT.In.sl {p : Nat → Prop} {w : World} {t : LT} (h : t.In p w) : LT.Sl p w t.at_.1 t.at_.2 t.args := ⟨h.len.2.2, h.lies, h.args, h.len.1, h.len.2.1⟩
theorem LT.Sl.in_ {p : Nat → Prop} {w : World} {a : Option Addr} {c : Nat} {l : List LT} (h : LT.Sl p w a c l) {k n : Int} {s : ByteArray} (h1 : I64 k) (h2 : I64 n) (h3 : s.size ≤ maxLen) : LT.In p w (.mk k n s (a, c) l) :=
  LT.In.mk h1 h2 h3 h.cap h.max h.none_ h.lies h.ins
/-- The row of a slice of the call's own. -/
theorem LT.Sl.of_row {p : Nat → Prop} {w : World} {e : TypeId} {a : Option Addr} {n c : Nat} {l : List LT} (h : Row w e 4 (.slice a n c) n (l.flatMap LT.cells)) (hp : ∀ k, (Value.slice a n c).ownBlock = some k → p k) (hi : LT.Ins p w l) : n = l.length ∧ LT.Sl p w a c l := by
  obtain ⟨h1, h2, h3, h4, h5⟩ := LT.lies_of_row (v := .slice a n c) h hp
  exact ⟨h1, ⟨fun e => by rw [← h1]; exact h4 e, h5, hi, by omega, h3⟩⟩

set_option maxHeartbeats 400000 in
theorem clone128 {p : Nat → Prop} {w : World} {a : Option Addr} {c : Nat} {l : List LT} (h : LT.Sl p w a c l) (hn : l.length ≤ 65536) :
    Calls Try.prog 128 #[.slice a l.length c] w fun e w' => ∃ a' c', e = .returned (.slice a' l.length c') ∧ Row w' 27 4 (.slice a' l.length c') l.length (l.flatMap LT.cells) ∧ (∀ k, (Value.slice a' l.length c').ownBlock = some k → w.heap.size ≤ k) ∧ Turned (fun _ => False) w w' := by
  obtain ⟨i0, hi0, hz0, hz1, hz2⟩ := info_parts infoT
  have hnil := fun (w : World) (a : Option Addr) (n c : Nat) => Lib.run_eql_slice_nil (P := Try.prog) w 22 27 a n c 0 0 Try.underlying22
  cases a with
  | none =>
    obtain ⟨h0, rfl⟩ := h.none_ rfl
    have : l = [] := List.eq_nil_of_length_eq_zero h0
    subst this
    clear h
    show Calls Try.prog 128 #[.slice none 0 0] w _
    go_enter Try.func128, Try.ntmps128
    go_wp2
    go_ret
    exact ⟨none, 0, rfl, Row.nil _ _ _, by simp [Value.ownBlock], Turned.refl _ _⟩
  | some ad =>
    have hc : ∀ o : Obj, ∀ j u, (l.flatMap LT.cells)[j]? = some u → (w.alloc o).cell? (ad.add j) = some u := by
      intro o j u hu
      have hl : 0 < l.length := by
        have := (List.getElem?_eq_some_iff.1 hu).1
        rw [LT.flat_length] at this; omega
      obtain ⟨b, o', e, _, hcc⟩ := h.lies hl
      have e2 := Option.some.inj e; subst e2
      rw [Addr.add_lit]
      exact cell_old (hcc j u hu)
    have HC := Lib.hid hc
    clear hc h
    go_enter Try.func128, Try.ntmps128
    go_wp2_with (first
      | (at_builtin; refine append_row _ rfl _ _ 22 rfl 27 i0 zeroT 4 56 Try.underlying22 hi0 hz0 hz1 hz2 rfl (by decide) _ _ _ rfl (Row.made _ 27 4 #[] 0 rfl (by simp)) ad l.length c (l.flatMap LT.cells) rfl (LT.flat_length l) (HC.out _) (LT.flat_one l) (by unfold maxLen; omega) (by omega) ?_; intro v2 w2 hown2 hg2 hl2 _))
    go_ret
    have hown3 : Row w2 27 4 v2 l.length (l.flatMap LT.cells) := by simpa using hown2
    obtain ⟨a', c', rfl⟩ := hown3.shape
    refine ⟨a', c', rfl, hown3, ?_, ((Turned.refl (fun _ => False) w).alloc (.cells #[] 27)).step hg2 ?_⟩
    · intro k hk
      rcases hl2 with e | e
      · rw [hk] at e; simp [Value.ownBlock, Act.eval] at e; omega
      · rw [hk] at e; simp at e; omega
    · intro k hk1 hk
      simp [Value.ownBlock, Act.eval] at hk
      omega

theorem i64_lit (n : Int) (h : -1000000 ≤ n ∧ n ≤ 1000000) : I64 n := by unfold I64; omega
/-- A block of four cells that was just laid, behind a turn. -/
theorem box4 {w w2 : World} {a b c d : Value} {T : TypeId} (ht : Turned (fun _ => False) (w.alloc (.cells #[a, b, c, d] T)) w2) :
    w2.heap[w.heap.size]? = some (.cells #[a, b, c, d] T (0, 0)) ∧ w.heap.size < w2.heap.size := by
  have hs := ht.size
  simp at hs
  exact ⟨(ht.block w.heap.size (by simp) (fun f => f)).trans (heap_alloc_new w _), by omega⟩
theorem cells4 {w : World} {g : Nat} {a b c d : Value} {T : TypeId} (h : w.heap[g]? = some (.cells #[a, b, c, d] T (0, 0))) :
    w.cell? ⟨g, 0, none⟩ = some a ∧ w.cell? ⟨g, 1, none⟩ = some b ∧ w.cell? ⟨g, 2, none⟩ = some c ∧ w.cell? ⟨g, 3, none⟩ = some d ∧ w.frozen? ⟨g, 0, none⟩ = false ∧ w.frozen? ⟨g, 1, none⟩ = false ∧ w.frozen? ⟨g, 2, none⟩ = false ∧ w.frozen? ⟨g, 3, none⟩ = false :=
  ⟨cell_of_row w g 0 _ T (0, 0) h, cell_of_row w g 1 _ T (0, 0) h, cell_of_row w g 2 _ T (0, 0) h, cell_of_row w g 3 _ T (0, 0) h, frozen_of_row w g 0 _ T h, frozen_of_row w g 1 _ T h, frozen_of_row w g 2 _ T h, frozen_of_row w g 3 _ T h⟩

/-- Four stores that fill such a block. -/
theorem set4 {w : World} {g : Nat} {a b c d a' b' c' d' : Value} {T : TypeId} (h : w.heap[g]? = some (.cells #[a, b, c, d] T (0, 0))) :
    ((((w.setCell ⟨g, 0, none⟩ a').setCell ⟨g, 1, none⟩ b').setCell ⟨g, 2, none⟩ c').setCell ⟨g, 3, none⟩ d').heap[g]? = some (.cells #[a', b', c', d'] T (0, 0)) := by
  have h1 := heap_setCell_same w g 0 _ T a' h
  have h2 := heap_setCell_same _ g 1 _ T b' h1
  have h3 := heap_setCell_same _ g 2 _ T c' h2
  have h4 := heap_setCell_same _ g 3 _ T d' h3
  simpa using h4
theorem turned4 {w w2 : World} {g : Nat} {a b c d : Value} (h : Turned (fun _ => False) w w2) (hg : w.heap.size ≤ g) :
    Turned (fun _ => False) w ((((w2.setCell ⟨g, 0, none⟩ a).setCell ⟨g, 1, none⟩ b).setCell ⟨g, 2, none⟩ c).setCell ⟨g, 3, none⟩ d) :=
  (((h.setCell (.inl hg) _).setCell (.inl hg) _).setCell (.inl hg) _).setCell (.inl hg) _

set_option maxHeartbeats 400000 in
theorem comp37 {p : Nat → Prop} {w : World} {a : Option Addr} {c : Nat} {l : List LT} (s : ByteArray) (hs : s.size ≤ maxLen) (h : LT.Sl p w a c l) (hn : l.length ≤ 65536) :
    Calls Try.prog 37 #[.string s, .slice a l.length c] w fun e w' => ∃ d, e = .returned (LT.val (.mk 2 0 s d l)) ∧ LT.In (fun k => p k ∨ w.heap.size ≤ k) w' (.mk 2 0 s d l) ∧ Turned (fun _ => False) w w' := by
  have hcl : ∀ o, Calls Try.prog 128 #[.slice a l.length c] (w.alloc o) _ := fun o => clone128 (h.turned0 ((Turned.refl _ w).alloc o)) hn
  have HCL := Lib.hid hcl
  clear hcl
  go_enter Try.func37, Try.ntmps37
  go_wp2_with (go_at_call 128; refine (HCL.out _).mono ?_; rintro e w2 ⟨a', c', rfl, hv, hl, ht⟩; obtain ⟨hbox, hlt⟩ := box4 ht; obtain ⟨c0, c1, c2, c3, f0, f1, f2, f3⟩ := cells4 hbox; have HB := Lib.hid hbox; clear hbox)
  have T0 := ((Turned.refl (fun _ => False) w).alloc (.cells #[.int .i64 0, .int .i64 0, .string ⟨#[]⟩, .slice none 0 0] 27)).trans ht
  have hsz : w.heap.size ≤ (w.alloc (.cells #[.int .i64 0, .int .i64 0, .string ⟨#[]⟩, .slice none 0 0] 27)).heap.size := by simp
  have hset := set4 (a' := .int .i64 2) (b' := .int .i64 0) (c' := .string s) (d' := .slice a' l.length c') HB.out
  have T4 := turned4 (a := .int .i64 2) (b := .int .i64 0) (c := .string s) (d := .slice a' l.length c') T0 (Nat.le_refl _)
  have hrow : Row ((((w2.setCell ⟨w.heap.size, 0, none⟩ (.int .i64 2)).setCell ⟨w.heap.size, 1, none⟩ (.int .i64 0)).setCell ⟨w.heap.size, 2, none⟩ (.string s)).setCell ⟨w.heap.size, 3, none⟩ (.slice a' l.length c')) 27 4 (.slice a' l.length c') l.length (l.flatMap LT.cells) := by
    have hne : ∀ j, (Value.slice a' l.length c').ownBlock ≠ some (Addr.block ⟨w.heap.size, j, none⟩) := fun j e => by
      have := hl _ e
      simp at this
      omega
    exact (((hv.setCell (hne 0) _).setCell (hne 1) _).setCell (hne 2) _).setCell (hne 3) _
  refine bodyPost_ret (v := .agg #[.int .i64 2, .int .i64 0, .string s, .slice a' l.length c']) (results_cell_row Try.results37 _ _ w.heap.size 27 _ (0, 0) _ rfl hset Try.underlying27 rfl (by kernel_rfl)) rfl ⟨(a', c'), rfl, ?_, T4⟩
  obtain ⟨_, hsl⟩ := LT.Sl.of_row (p := fun k => p k ∨ w.heap.size ≤ k) hrow (fun k hk => .inr (Nat.le_trans hsz (hl k hk))) (LT.Ins.mono (h.ins.turned0 T4) (fun _ _ hk => .inl hk))
  exact hsl.in_ (i64_lit 2 (by omega)) (i64_lit 0 (by omega)) hs

set_option maxHeartbeats 400000 in
theorem int61 (n : Int) (hn : I64 n) (w : World) :
    Calls Try.prog 61 #[.int .i64 n] w fun e w' => e = .returned (LT.val (.mk 1 n ByteArray.empty (none, 0) [])) ∧ (∀ p, LT.In p w' (.mk 1 n ByteArray.empty (none, 0) [])) ∧ Turned (fun _ => False) w w' := by
  go_enter Try.func61, Try.ntmps61
  go_wp2_with fail
  refine bodyPost_ret (v := .agg #[.int .i64 1, .int .i64 n, .string ByteArray.empty, .slice none 0 0]) (results_cell_row Try.results61 _ _ w.heap.size 27 _ (0, 0) _ rfl (heap_alloc_new w _) Try.underlying27 rfl (by kernel_rfl)) rfl ⟨rfl, fun p => ?_, (Turned.refl _ _).alloc _⟩
  exact LT.In.mk (i64_lit 1 (by omega)) hn (by unfold maxLen; decide) (Nat.le_refl _) (by unfold maxLen; omega) (fun _ => ⟨rfl, rfl⟩) (fun h => absurd h (by decide)) trivial
set_option maxHeartbeats 400000 in
theorem var62 (n : Int) (hn : I64 n) (w : World) :
    Calls Try.prog 62 #[.int .i64 n] w fun e w' => e = .returned (LT.val (.mk 0 n ByteArray.empty (none, 0) [])) ∧ (∀ p, LT.In p w' (.mk 0 n ByteArray.empty (none, 0) [])) ∧ Turned (fun _ => False) w w' := by
  go_enter Try.func62, Try.ntmps62
  go_wp2_with fail
  refine bodyPost_ret (v := .agg #[.int .i64 0, .int .i64 n, .string ByteArray.empty, .slice none 0 0]) (results_cell_row Try.results62 _ _ w.heap.size 27 _ (0, 0) _ rfl (heap_alloc_new w _) Try.underlying27 rfl (by kernel_rfl)) rfl ⟨rfl, fun p => ?_, (Turned.refl _ _).alloc _⟩
  exact LT.In.mk (i64_lit 0 (by omega)) hn (by unfold maxLen; decide) (Nat.le_refl _) (by unfold maxLen; omega) (fun _ => ⟨rfl, rfl⟩) (fun h => absurd h (by decide)) trivial
set_option maxHeartbeats 400000 in
theorem atom63 (s : ByteArray) (hs : s.size ≤ maxLen) (w : World) :
    Calls Try.prog 63 #[.string s] w fun e w' => e = .returned (LT.val (.mk 2 0 s (none, 0) [])) ∧ (∀ p, LT.In p w' (.mk 2 0 s (none, 0) [])) ∧ Turned (fun _ => False) w w' := by
  go_enter Try.func63, Try.ntmps63
  go_wp2_with fail
  refine bodyPost_ret (v := .agg #[.int .i64 2, .int .i64 0, .string s, .slice none 0 0]) (results_cell_row Try.results63 _ _ w.heap.size 27 _ (0, 0) _ rfl (heap_alloc_new w _) Try.underlying27 rfl (by kernel_rfl)) rfl ⟨rfl, fun p => ?_, (Turned.refl _ _).alloc _⟩
  exact LT.In.mk (i64_lit 2 (by omega)) (i64_lit 0 (by omega)) hs (Nat.le_refl _) (by unfold maxLen; omega) (fun _ => ⟨rfl, rfl⟩) (fun h => absurd h (by decide)) trivial
end Go.Proofs.Ytoihjobdfjajfaa

/- goodName, goodOne: whether one term may be, but for its args. -/
namespace Go.Proofs.Ytoihjobdfjajfaa
set_option linter.unusedVariables false
set_option linter.unusedSimpArgs false
open Go.RowKit

def okByte (b : UInt8) : Bool := decide (b.toNat = 9 ∨ b.toNat = 10 ∨ (32 ≤ b.toNat ∧ b.toNat ≤ 126))
def goodNameB (s : ByteArray) : Bool := s.data.toList.all okByte && decide (s.size ≤ 64)
theorem all_snoc {α : Type} (f : α → Bool) (l : List α) (j : Nat) (x : α) (h : l[j]? = some x) : (l.take (j + 1)).all f = ((l.take j).all f && f x) := by
  have hj := (List.getElem?_eq_some_iff.1 h)
  rw [List.take_succ_eq_append_getElem hj.1, hj.2, List.all_append]
  simp
theorem all_no {α : Type} (f : α → Bool) (l : List α) (j : Nat) (x : α) (h : l[j]? = some x) (hx : f x = false) : l.all f = false := by
  rw [List.all_eq_false]
  exact ⟨x, List.mem_of_getElem? h, by simp [hx]⟩
theorem bytesTurned (w : World) (e : TypeId) (s : ByteArray) : Turned (fun _ => False) w (Lib.bytesWorld w e s) :=
  ⟨rfl, rfl, rfl, by rw [Lib.bytesWorld_size]; omega, fun k hk _ => Lib.bytesWorld_at_old w e s k hk⟩

set_option maxRecDepth 100000 in
set_option maxHeartbeats 400000 in
theorem goodName161 (s : ByteArray) (w : World) (hs : s.size ≤ maxLen) :
    Calls Try.prog 161 #[.string s] w fun e w' => e = .returned (.bool (goodNameB s)) ∧ Turned (fun _ => False) w w' := by
  have hconv := Lib.run_convert_string_bytes (P := Try.prog) w 9 219 5 s Try.underlying9 Try.underlying219 Try.underlying5
  have hcell := Lib.bytesWorld_cell w 5 s
  have hT := bytesTurned w 5 s
  revert hconv hcell hT
  generalize Lib.bytesWorld w 5 s = w1
  generalize grownCap w s.size 0 5 = c1
  intro hconv hcell hT
  have HCell := Lib.hid hcell
  clear hcell
  have hm : s.size ≤ 9223372036854775807 := by unfold maxLen at hs; omega
  clear hs
  go_enter Try.func161, Try.ntmps161
  go_wp2_with fail
  go_loop [8] (fun i => ∃ j : Nat, j ≤ s.size ∧ i = .int .i64 j ∧ Hid ((s.data.toList.take j).all okByte = true)) (fun i => s.size - (intOf i).toNat)
  case atStart => exact ⟨0, Nat.zero_le _, rfl, rfl⟩
  case round =>
    obtain ⟨j, hj, rfl, HA⟩ := hrel
    by_cases hjl : j < s.size
    · have hx : s.data.toList[j]? = some (s.data.toList[j]'(by simpa using hjl)) := List.getElem?_eq_getElem _
      obtain ⟨x, hxe⟩ : ∃ x, x = s.data.toList[j]'(by simpa using hjl) := ⟨_, rfl⟩
      rw [← hxe] at hx
      have hc := HCell.out j hjl
      have hgd : s.data.toList.getD j 0 = x := by rw [List.getD, hx]; rfl
      rw [hgd] at hc
      clear hgd hxe
      have HX := Lib.hid hx
      clear hx
      obtain ⟨n, hn⟩ : ∃ n, n = x.toNat := ⟨_, rfl⟩
      rw [← hn] at hc
      by_cases hok : okByte x = true
      · have h9 : n = 9 ∨ n = 10 ∨ (32 ≤ n ∧ n ≤ 126) := by unfold okByte at hok; rw [← hn] at hok; simpa using hok
        have HO := Lib.hid hok
        clear hok
        have HN := Lib.hid hn
        clear hn
        rcases h9 with h9 | h9 | ⟨h8, h9⟩
        · have u1 : n ≤ 9 := by omega
          have u2 : 9 ≤ n := by omega
          have t1 : ((n : Int) != 9) = false := by simp; omega
          clear h9
          go_wp2_with fail
          go_round
          case rel => exact ⟨j + 1, by omega, by go_num, show _ = true by rw [all_snoc _ _ _ _ HX.out, HA.out, HO.out]; rfl⟩
          case measure => simp [intOf]; omega
        · have u1 : n ≤ 10 := by omega
          have u2 : 10 ≤ n := by omega
          have t1 : ((n : Int) != 9) = true := by simp; omega
          have t2 : ((n : Int) != 10) = false := by simp; omega
          clear h9
          go_wp2_with fail
          go_round
          case rel => exact ⟨j + 1, by omega, by go_num, show _ = true by rw [all_snoc _ _ _ _ HX.out, HA.out, HO.out]; rfl⟩
          case measure => simp [intOf]; omega
        · go_wp2_with fail
          go_round
          case rel => exact ⟨j + 1, by omega, by go_num, show _ = true by rw [all_snoc _ _ _ _ HX.out, HA.out, HO.out]; rfl⟩
          case measure => simp [intOf]; omega
      · have ho : okByte x = false := by simpa using hok
        have h9 : ¬ (n = 9 ∨ n = 10 ∨ (32 ≤ n ∧ n ≤ 126)) := by unfold okByte at ho; rw [← hn] at ho; simpa using ho
        have h10 : n ≤ 31 ∨ 127 ≤ n := by omega
        have t1 : ((n : Int) != 9) = true := by simp; omega
        have t2 : ((n : Int) != 10) = true := by simp; omega
        have HO := Lib.hid ho
        clear ho hok h9
        have HN := Lib.hid hn
        clear hn
        rcases h10 with h10 | h10
        all_goals
          go_wp2_with fail
          go_ret
          refine ⟨ret_bool ?_, hT⟩
          unfold goodNameB
          rw [all_no _ _ _ _ HX.out HO.out]; rfl
    · have hje : j = s.size := by omega
      go_wp2_with fail
      go_ret
      refine ⟨ret_bool ?_, hT⟩
      unfold goodNameB
      have h := HA.out
      rw [hje, List.take_of_length_le (by simp)] at h
      rw [h, Bool.true_and, decide_eq_decide]
      omega

theorem bytes_nil (s : ByteArray) : s.toList = [] ↔ s = ByteArray.empty := by
  rw [ByteArray.toList_eq]
  cases s with | mk d => cases d with | mk l =>
  constructor
  · intro h; simp at h; subst h; rfl
  · intro h; injection h with h; injection h
/-- Whether one term may be, but for its args. -/
def goodOneB {α : Type} (t : Tm α) : Bool :=
  if t.kind = 0 then decide (0 ≤ t.n) && (decide (t.n ≤ 2147483647) && (decide (t.name.toList = []) && decide (t.args.length = 0)))
  else if t.kind = 1 then decide (t.name.toList = []) && decide (t.args.length = 0)
  else if t.kind = 2 then decide (t.n = 0) && (goodNameB t.name && decide (t.args.length ≤ 8))
  else false

theorem goodOneB_0 {α : Type} (t : Tm α) (h : t.kind = 0) : goodOneB t = (decide (0 ≤ t.n) && (decide (t.n ≤ 2147483647) && (decide (t.name.toList = []) && decide (t.args.length = 0)))) := by unfold goodOneB; rw [if_pos h]
theorem goodOneB_1 {α : Type} (t : Tm α) (h : t.kind = 1) : goodOneB t = (decide (t.name.toList = []) && decide (t.args.length = 0)) := by unfold goodOneB; rw [if_neg (by omega), if_pos h]
theorem goodOneB_2 {α : Type} (t : Tm α) (h : t.kind = 2) : goodOneB t = (decide (t.n = 0) && (goodNameB t.name && decide (t.args.length ≤ 8))) := by unfold goodOneB; rw [if_neg (by omega), if_neg (by omega), if_pos h]
theorem goodOneB_3 {α : Type} (t : Tm α) (h0 : ¬ t.kind = 0) (h1 : ¬ t.kind = 1) (h2 : ¬ t.kind = 2) : goodOneB t = false := by unfold goodOneB; rw [if_neg h0, if_neg h1, if_neg h2]

set_option maxHeartbeats 400000 in
theorem goodOne129 {p : Nat → Prop} (t : LT) (w : World) (ht : t.In p w) :
    Calls Try.prog 129 #[t.val] w fun e w' => e = .returned (.bool (goodOneB t)) ∧ Turned (fun _ => False) w w' := by
  rw [LT.val_eq]
  have hname := ht.name
  have hl := ht.len
  have hm := hl.2.1
  have hm1 := hl.1
  have hm2 : t.args.length ≤ 9223372036854775807 := by unfold maxLen at hm; omega
  obtain ⟨a, ha⟩ : ∃ a, a = t.at_.1 := ⟨_, rfl⟩
  obtain ⟨c, hc⟩ : ∃ c, c = t.at_.2 := ⟨_, rfl⟩
  rw [← ha, ← hc]
  clear ha hc hl hm hm1
  have T := fun o => (Turned.refl (fun _ => False) w).alloc o
  have hg := fun W => goodName161 t.name W hname
  have HG := Lib.hid hg
  clear hg
  have HLN : Hid (((t.args.length : Int) == 0) = decide (t.args = [])) := by
    show _ = _
    rw [Bool.eq_iff_iff]; simp
  by_cases h0 : t.kind = 0
  · have k0 : (t.kind == 0) = true := by simp [h0]
    have HR := Lib.hid (goodOneB_0 t h0)
    clear h0
    go_enter Try.func129, Try.ntmps129
    go_wp2_with fail
    all_goals
      go_ret
      refine ⟨ret_bool ?_, ?_⟩
      · have hln := HLN.out
        rw [HR.out]
        simp [*] <;> first | omega | (intros; omega)
      · exact T _
  by_cases h1 : t.kind = 1
  · have k0 : (t.kind == 0) = false := by simp [h0]
    have k1 : (t.kind == 1) = true := by simp [h1]
    have HR := Lib.hid (goodOneB_1 t h1)
    clear h0 h1
    go_enter Try.func129, Try.ntmps129
    go_wp2_with fail
    all_goals
      go_ret
      refine ⟨ret_bool ?_, ?_⟩
      · have hln := HLN.out
        rw [HR.out]
        simp [*] <;> first | omega | (intros; omega)
      · exact T _
  by_cases h2 : t.kind = 2
  · have k0 : (t.kind == 0) = false := by simp [h0]
    have k1 : (t.kind == 1) = false := by simp [h1]
    have k2 : (t.kind == 2) = true := by simp [h2]
    have HR := Lib.hid (goodOneB_2 t h2)
    clear h0 h1 h2
    by_cases hn : t.n = 0
    · have kn : (t.n == 0) = true := by simp [hn]
      have HN := Lib.hid hn
      clear hn
      go_enter Try.func129, Try.ntmps129
      go_wp2_with (go_at_call 161; refine (HG.out _).mono ?_; rintro e w2 ⟨rfl, T2⟩; have hb3 := (boxed w #[.int .i64 t.kind, .int .i64 t.n, .string t.name, .slice a t.args.length c] 27 3); have hb4 := T2.cell0 hb3; clear hb3; have T3 := (T _).trans T2)
      all_goals
        go_ret
        refine ⟨ret_bool ?_, T3⟩
        have hn := HN.out
        rw [HR.out]
        simp [*] <;> first | omega | (intros; omega)
    · have kn : (t.n == 0) = false := by simp [hn]
      have HN := Lib.hid hn
      clear hn
      go_enter Try.func129, Try.ntmps129
      go_wp2_with fail
      go_ret
      refine ⟨ret_bool ?_, T _⟩
      have hn := HN.out
      rw [HR.out]
      simp [hn]
  · have k0 : (t.kind == 0) = false := by simp [h0]
    have k1 : (t.kind == 1) = false := by simp [h1]
    have k2 : (t.kind == 2) = false := by simp [h2]
    have HR := Lib.hid (goodOneB_3 t h0 h1 h2)
    clear h0 h1 h2
    go_enter Try.func129, Try.ntmps129
    go_wp2_with fail
    go_ret
    exact ⟨ret_bool HR.out.symm, T _⟩
end Go.Proofs.Ytoihjobdfjajfaa

/- each: a term and all that it is made of are told from left to right, till the answer is false. For any closure with a contract. -/
namespace Go.Proofs.Ytoihjobdfjajfaa
set_option linter.unusedVariables false
set_option linter.unusedSimpArgs false
open Go.RowKit

/-- What is told, and the last answer. -/
def tell {α : Type} (ans : List α → α → Bool) : List α → List α → Bool × List α
  | told, [] => (true, told)
  | told, x :: r => if ans told x then tell ans (told ++ [x]) r else (false, told ++ [x])

/-- A closure's contract, as each wants it: its own blocks M, what they hold when l has been told. -/
structure Told (p : Nat → Prop) (K : FuncId) (capt : Array Value) (t : LT) (M0 : Nat → Prop) (Inv : (Nat → Prop) → List LT → World → Prop) (ans : List LT → LT → Bool) : Prop where
  enter : ∀ (args : Array Value) (w : World), (callFunc K args).run Try.prog w = .ok (.enter K args) w
  lt : ∀ M l w k, Inv M l w → M k → k < w.heap.size
  frame : ∀ M T l w w', Inv M l w → Turned T w w' → (∀ k, k < w.heap.size → T k → ¬ M k) → Inv M l w'
  call : ∀ M l x r w, Inv M l w → l.length ≤ 2002 → t.flat = l ++ x :: r → x.In p w → Calls Try.prog K (#[x.val] ++ capt) w fun e w' => e = .returned (.bool (ans l x)) ∧ ∃ M', Inv M' (l ++ [x]) w' ∧ Turned M w w' ∧ (∀ k, M' k → M k ∨ w.heap.size ≤ k)

/-- The stack of what is still to be told, and what has been. -/
structure EachI (M0 : Nat → Prop) (Inv : (Nat → Prop) → List LT → World → Prop) (w0 : World) (stack told : List LT) (v : Value) (M : Nat → Prop) (w : World) : Prop where
  row : Row w 27 4 v stack.length (stack.flatMap LT.cells)
  own : ∀ g, v.ownBlock = some g → w0.heap.size ≤ g ∧ ¬ M g
  inv : Inv M told w
  sub : ∀ k, M k → M0 k ∨ w0.heap.size ≤ k
  turned : Turned M0 w0 w
  base : w0.heap.size ≤ w.heap.size

section
variable {p : Nat → Prop} {K : FuncId} {capt : Array Value} {t : LT} {M0 : Nat → Prop} {Inv : (Nat → Prop) → List LT → World → Prop} {ans : List LT → LT → Bool} {w0 w : World} {stack told ys : List LT} {v : Value} {M : Nat → Prop} {x y : LT}
theorem EachI.alloc (c : Told p K capt t M0 Inv ans) (h : EachI M0 Inv w0 stack told v M w) (o : Obj) : EachI M0 Inv w0 stack told v M (w.alloc o) :=
  ⟨h.row.alloc o, h.own, c.frame _ _ _ _ _ h.inv ((Turned.refl (fun _ => False) w).alloc o) (fun _ _ f => False.elim f), h.sub, h.turned.alloc o, by simp; have := h.base; omega⟩
theorem EachI.pop {g n cap : Nat} (h : EachI M0 Inv w0 (ys ++ [x]) told (.slice (some ⟨g, 0, none⟩) n cap) M w) : n = ys.length + 1 ∧ EachI M0 Inv w0 ys told (.slice (some ⟨g, 0, none⟩) ys.length cap) M w := by
  have hr := h.row
  have hn : n = ys.length + 1 := by
    rcases hr.2 with ⟨e, _⟩ | ⟨g', c', cur, e, _⟩
    · cases e
    · injection e with _ e _; simp at e; exact e
  subst hn
  have hcap : ys.length ≤ cap := by
    rcases hr.2 with ⟨e, _⟩ | ⟨g', c', cur, e, _, h1, _⟩
    · cases e
    · injection e with _ _ e; subst e; simp at h1; omega
  refine ⟨rfl, ?_, h.own, h.inv, h.sub, h.turned, h.base⟩
  have hr' : Row w 27 4 (.slice (some ⟨g, 0, none⟩) (ys.length + 1) cap) (ys.length + 1) ((ys ++ [x]).flatMap LT.cells) := by simpa using hr
  have ht := hr'.take (m := ys.length) (c := cap) (by omega) hcap (Nat.le_refl _)
  rw [List.flatMap_append, List.take_left' (by rw [LT.flat_length])] at ht
  exact ht
theorem EachI.push {w' : World} {v' : Value} (c : Told p K capt t M0 Inv ans) (h : EachI M0 Inv w0 stack told v M w) (hr : Row w' 27 4 v' (stack.length + 1) (stack.flatMap LT.cells ++ y.cells)) (ht : Turned (fun k => v.ownBlock = some k) w w')
    (ho : v'.ownBlock = v.ownBlock ∨ v'.ownBlock = some w.heap.size) : EachI M0 Inv w0 (stack ++ [y]) told v' M w' := by
  refine ⟨?_, fun g hg => ?_, c.frame _ _ _ _ _ h.inv ht (fun k _ hk => (h.own k hk).2), h.sub, ?_, Nat.le_trans h.base ht.size⟩
  · rw [List.flatMap_append, List.length_append]
    simpa using hr
  · rcases ho with ho | ho
    · rw [ho] at hg; exact h.own g hg
    · rw [ho] at hg
      injection hg with hg; subst hg
      exact ⟨h.base, fun hm => Nat.lt_irrefl _ (c.lt _ _ _ _ h.inv hm)⟩
  · exact h.turned.step ht (fun i hi hk => by have := (h.own i hk).1; omega)
theorem EachI.called {w' : World} {M' : Nat → Prop} (h : EachI M0 Inv w0 stack told v M w) (hi : Inv M' (told ++ [x]) w') (ht : Turned M w w') (hM : ∀ k, M' k → M k ∨ w.heap.size ≤ k) : EachI M0 Inv w0 stack (told ++ [x]) v M' w' := by
  refine ⟨h.row.turned ht (fun k hk => (h.own k hk).2), fun g hg => ⟨(h.own g hg).1, fun hm => ?_⟩, hi, fun k hk => ?_, ?_, Nat.le_trans h.base ht.size⟩
  · rcases hM g hm with hm | hm
    · exact (h.own g hg).2 hm
    · have := h.row.lt g hg; omega
  · rcases hM k hk with hk | hk
    · exact h.sub k hk
    · have := h.base; exact .inr (by omega)
  · refine h.turned.step ht (fun i hi hk => ?_)
    rcases h.sub i hk with hk | hk
    · exact hk
    · omega
end
theorem EachI.top {M0 : Nat → Prop} {Inv : (Nat → Prop) → List LT → World → Prop} {w0 w : World} {told ys : List LT} {M : Nat → Prop} {x : LT} {g n cap : Nat} (h : EachI M0 Inv w0 (ys ++ [x]) told (.slice (some ⟨g, 0, none⟩) n cap) M w) :
    w.cell? ⟨g, ys.length * 4, none⟩ = some (.int .i64 x.kind) ∧ w.cell? ⟨g, ys.length * 4 + 1, none⟩ = some (.int .i64 x.n) ∧ w.cell? ⟨g, ys.length * 4 + 2, none⟩ = some (.string x.name) ∧ w.cell? ⟨g, ys.length * 4 + 3, none⟩ = some (.slice x.at_.1 x.args.length x.at_.2) := by
  have hn := h.pop.1
  subst hn
  have hr : Row w 27 4 (.slice (some ⟨g, 0, none⟩) (ys.length + 1) cap) (ys.length + 1) ((ys ++ [x]).flatMap LT.cells) := by simpa using h.row
  have hi : (ys ++ [x])[ys.length]? = some x := by simp
  refine ⟨hr.cells rfl _ _ ?_, hr.cells rfl _ _ ?_, hr.cells rfl _ _ ?_, hr.cells rfl _ _ ?_⟩
  · have := LT.flat_at hi 0 (by omega); rw [Nat.add_zero] at this; rw [this, LT.cells_eq]; rfl
  · rw [LT.flat_at hi 1 (by omega), LT.cells_eq]; rfl
  · rw [LT.flat_at hi 2 (by omega), LT.cells_eq]; rfl
  · rw [LT.flat_at hi 3 (by omega), LT.cells_eq]; rfl
theorem Tm.sizes_reverse {α : Type} (l : List (Tm α)) : Tm.sizes l.reverse = Tm.sizes l := by
  induction l with
  | nil => rfl
  | cons x l ih => rw [List.reverse_cons, Tm.sizes_append, ih]; simp only [Tm.sizes]; omega
theorem tell_cons {α : Type} (ans : List α → α → Bool) (told : List α) (x : α) (r : List α) : tell ans told (x :: r) = if ans told x then tell ans (told ++ [x]) r else (false, told ++ [x]) := rfl

set_option maxRecDepth 100000 in
set_option maxHeartbeats 1600000 in
theorem each124 {p : Nat → Prop} {K : FuncId} {capt : Array Value} {t : LT} {M0 : Nat → Prop} {Inv : (Nat → Prop) → List LT → World → Prop} {ans : List LT → LT → Bool} {w : World} {M : Nat → Prop}
    (c : Told p K capt t M0 Inv ans) (ht : t.In p w) (hp : ∀ k, p k → ¬ M0 k) (hi : Inv M [] w) (hM : ∀ k, M k → M0 k)
    (hA : ∀ x ∈ t.flat, x.args.length ≤ 12) (hN : ∀ l x r, t.flat = l ++ x :: r → ans l x = true → l.length ≤ 2001) :
    Calls Try.prog 124 #[t.val, .func (.func K) #[] capt] w fun e w' => e = .returned (.bool (tell ans [] t.flat).1) ∧ ∃ M', Inv M' (tell ans [] t.flat).2 w' ∧ (∀ k, M' k → M0 k ∨ w.heap.size ≤ k) ∧ Turned M0 w w' := by
  obtain ⟨i0, hi0, hz0, hz1, hz2⟩ := info_parts infoT
  rw [LT.val_eq]
  go_enter Try.func124, Try.ntmps124
  go_wp2_with fail
  have hst : EachI M0 Inv w [t] [] (.slice (some ⟨w.heap.size + 1, 0, none⟩) 1 1) M ((w.alloc (.cells #[.int .i64 t.kind, .int .i64 t.n, .string t.name, .slice t.at_.1 t.args.length t.at_.2] 27)).alloc (.cells #[.int .i64 t.kind, .int .i64 t.n, .string t.name, .slice t.at_.1 t.args.length t.at_.2] 27)) := by
    refine ⟨?_, fun g hg => ?_, ?_, fun k hk => .inl (hM k hk), ((Turned.refl _ _).alloc _).alloc _, by simp; omega⟩
    · have := Row.made (w.alloc (.cells #[.int .i64 t.kind, .int .i64 t.n, .string t.name, .slice t.at_.1 t.args.length t.at_.2] 27)) 27 4 #[.int .i64 t.kind, .int .i64 t.n, .string t.name, .slice t.at_.1 t.args.length t.at_.2] 1 rfl (by unfold maxLen; omega)
      simpa [LT.cells_eq] using this
    · simp [Value.ownBlock] at hg
      subst hg
      exact ⟨by omega, fun hm => by have := c.lt _ _ _ _ hi hm; omega⟩
    · exact c.frame _ _ _ _ _ hi (((Turned.refl (fun _ => False) w).alloc _).alloc _) (fun _ _ f => False.elim f)
  revert hst
  generalize ((w.alloc (.cells #[.int .i64 t.kind, .int .i64 t.n, .string t.name, .slice t.at_.1 t.args.length t.at_.2] 27)).alloc (.cells #[.int .i64 t.kind, .int .i64 t.n, .string t.name, .slice t.at_.1 t.args.length t.at_.2] 27)) = w1
  intro hst
  go_loopg [5] (Tm.sizes [t]) (fun k v wr => ∃ (stack told : List LT) (M' : Nat → Prop), Hid (Tm.sizes stack = k) ∧ EachI M0 Inv w stack told v M' wr ∧ Hid (t.flat = told ++ Tm.flats stack.reverse) ∧ Hid (tell ans [] t.flat = tell ans told (Tm.flats stack.reverse)) ∧ Hid (stack.length ≤ 1 + 12 * told.length ∧ told.length ≤ 2002))
  case atStart =>
    refine ⟨[t], [], M, rfl, hst, ?_, ?_, ?_⟩
    · show _ = _; simp [Tm.flats]
    · show _ = _; simp [Tm.flats]
    · show _ ∧ _; simp
  case round =>
    obtain ⟨stack, told, M', HK, hE, HF, HT, HL⟩ := hrel
    obtain ⟨wo, rfl⟩ : ∃ wo : World, wo = wr := ⟨_, rfl⟩
    obtain ⟨go, rfl⟩ : ∃ go : Nat, go = gk := ⟨_, rfl⟩
    rcases List.eq_nil_or_concat stack with rfl | ⟨ys, x, rfl⟩
    · obtain ⟨a, cap, rfl⟩ := hE.row.shape
      go_wp2_with fail
      have hF := HF.out
      have hT := HT.out
      simp only [List.reverse_nil, Tm.flats, List.append_nil] at hF hT
      go_ret
      rw [hT]
      exact ⟨rfl, M', by rw [tell]; exact hE.inv, hE.sub, hE.turned⟩
    · rw [List.concat_eq_append] at HK HF HT HL hE
      rw [Tm.flats_todo] at HF HT
      obtain ⟨g, cap, rfl⟩ := hE.row.shape_pos (by simp)
      have hxt : x ∈ t.flat := by rw [HF.out]; simp
      have hA1 := hA x hxt
      obtain ⟨hn, hE1⟩ := hE.pop
      obtain ⟨c0, c1, c2, c3⟩ := hE.top
      have hxin : x.In (fun k => p k ∧ k < w.heap.size) wo := LT.In.turned hE.turned (fun k _ hk hm => hp k hk hm) (fun k hk h => ⟨h, hk⟩) x (LT.In.flat t ht x hxt)
      have hcap : ys.length ≤ cap ∧ cap ≤ 9223372036854775807 := by
        rcases hE1.row.2 with ⟨e, _⟩ | ⟨g', c', cur, e, _, h1, h2, _⟩
        · cases e
        · injection e with _ _ e; subst e; unfold maxLen at h2; omega
      obtain ⟨hc1, hc2⟩ := hcap
      have hE2 := hE1.alloc c (.cells #[.int .i64 x.kind, .int .i64 x.n, .string x.name, .slice x.at_.1 x.args.length x.at_.2] 27)
      have hbox := boxed wo #[.int .i64 x.kind, .int .i64 x.n, .string x.name, .slice x.at_.1 x.args.length x.at_.2] 27
      have hys : ys.length ≤ 24100 := by have := HL.out; simp at this; omega
      rw [List.length_append, List.length_singleton]
      have HE1 := Lib.hid hE1
      have HE := Lib.hid hE
      have HE2 := Lib.hid hE2
      have HXI := Lib.hid hxin
      have HBX := Lib.hid hbox
      clear hE hE1 hE2 hxin hbox hn
      have henter := c.enter
      have hcall := c.call M' told x _ _ HE2.out.inv HL.out.2 HF.out (HXI.out.turned0 ((Turned.refl _ wo).alloc (.cells #[.int .i64 x.kind, .int .i64 x.n, .string x.name, .slice x.at_.1 x.args.length x.at_.2] 27)) |>.mono (fun k _ h => h.1))
      rw [LT.val_eq] at hcall
      have HCALL := Lib.hid hcall
      clear hcall
      have hbx : ∀ W, Turned M' (wo.alloc (.cells #[.int .i64 x.kind, .int .i64 x.n, .string x.name, .slice x.at_.1 x.args.length x.at_.2] 27)) W → W.cell? ⟨wo.heap.size, 3, none⟩ = some (.slice x.at_.1 x.args.length x.at_.2) := fun W hW =>
        hW.cell (HBX.out 3) (fun hm => Nat.lt_irrefl _ (c.lt _ _ _ _ HE.out.inv hm))
      have HBW := Lib.hid hbx
      clear hbx
      have hlm := (LT.In.flat t ht x hxt).len
      have hal : x.args.length ≤ 9223372036854775807 := by omega
      go_wp2_with (with_reducible refine (HCALL.out).mono ?_; rintro e w2 ⟨rfl, M2, hI2, hT2, hM2⟩; have hb3 := HBW.out _ hT2)
      rotate_right
      · have hans : ans told x = true := by simpa using (by assumption : (!ans told x) = false)
        rename_i hq
        clear hq
        have HANS := Lib.hid hans
        clear hans
        have hE3 := HE2.out.called hI2 hT2 hM2
        have hbw : wo.heap.size < w2.heap.size := by have := hT2.size; simp at this; omega
        go_loopg [5, 7] x.args.length (fun j v i wr2 => Hid (j ≤ x.args.length) ∧ i = .int .i64 ((j : Int) - 1) ∧ EachI M0 Inv w (ys ++ (x.args.drop j).reverse) (told ++ [x]) v M2 wr2 ∧ wr2.cell? ⟨wo.heap.size, 3, none⟩ = some (.slice x.at_.1 x.args.length x.at_.2) ∧ (∀ g, v.ownBlock = some g → g ≠ wo.heap.size) ∧ wo.heap.size < wr2.heap.size)
        case atStart =>
          refine ⟨Nat.le_refl _, rfl, by simpa using hE3, hb3, fun g' hg' e => ?_, hbw⟩
          subst e
          exact Nat.lt_irrefl _ (HE1.out.row.lt _ hg')
        case round =>
          obtain ⟨HJ, hi, hE4, hb4, hown4, hsz4⟩ := hrel
          have hxin : x.In (fun k => p k ∧ k < w.heap.size) wr := LT.In.turned hE4.turned (fun k _ hk hm => hp k hk hm) (fun k hk h => ⟨h, hk⟩) x (LT.In.flat t ht x hxt)
          obtain ⟨a4, cap4, rfl⟩ := hE4.row.shape
          rcases gk with _ | m
          · rw [show (((0 : Nat) : Int) - 1) = -1 from rfl] at hi
            subst hi
            go_wp2_with fail
            go_roundg (Tm.sizes (ys ++ x.args.reverse))
            case measure =>
              have hk := HK.out
              rw [Tm.sizes_append] at hk ⊢
              rw [Tm.sizes_reverse, ← hk]
              have := Tm.size_eq x
              simp only [Tm.sizes]; omega
            case rel =>
              have hL := HL.out
              have hF := HF.out
              have hT := HT.out
              rw [tell_cons, HANS.out, if_pos rfl] at hT
              have h01 := hN told x _ hF HANS.out
              refine ⟨ys ++ x.args.reverse, told ++ [x], M2, rfl, by simpa using hE4, ?_, hT, ?_⟩
              · show _ = _; rw [hF]; simp
              · show _ ∧ _; simp at hL ⊢; omega
          · rw [show (((m + 1 : Nat) : Int) - 1) = (m : Int) from by omega] at hi
            subst hi
            have hm : m < x.args.length := by have := HJ.out; omega
            have hy : x.args[m]? = some x.args[m] := List.getElem?_eq_getElem hm
            obtain ⟨y, hye⟩ : ∃ y : LT, y = x.args[m] := ⟨_, rfl⟩
            rw [← hye] at hy
            clear hye
            obtain ⟨b, o, ha, _, d0, d1, d2, d3⟩ := hxin.lies.cell hy
            rw [ha] at hb4
            have HY := Lib.hid hy
            have HAd := Lib.hid ha
            have HE4 := Lib.hid hE4
            have hrow := (hE4.alloc c (.cells #[.int .i64 y.kind, .int .i64 y.n, .string y.name, .slice y.at_.1 y.args.length y.at_.2] 27)).row
            have hnews : ∀ j u, y.cells[j]? = some u → (wr.alloc (.cells #[.int .i64 y.kind, .int .i64 y.n, .string y.name, .slice y.at_.1 y.args.length y.at_.2] 27)).cell? ((⟨wr.heap.size, 0, none⟩ : Addr).add j) = some u := by
              intro j u hu
              rw [Addr.add_lit, Nat.zero_add, boxed]
              rw [LT.cells_eq] at hu
              simpa using hu
            have HN := Lib.hid hnews
            have HR := Lib.hid hrow
            have hlen : (ys ++ (x.args.drop (m + 1)).reverse).length ≤ 24200 := by simp; omega
            clear hy ha hE4 hnews hrow hxin
            go_wp2_with (at_builtin; refine append_some _ rfl _ _ 22 rfl 27 i0 zeroT 4 56 Try.underlying22 hi0 hz0 hz1 hz2 rfl (by decide) _ _ _ rfl HR.out ⟨wr.heap.size, 0, none⟩ 1 1 y.cells rfl (LT.cells_length y) HN.out (LT.cells_one y) (by omega) (by unfold maxLen; omega) (by omega) ?_; intro g5 cap5 w5 hown5 hg5 hloc5)
            go_roundg m
            case measure => omega
            case rel =>
              have hE5 := (HE4.out.alloc c (.cells #[.int .i64 y.kind, .int .i64 y.n, .string y.name, .slice y.at_.1 y.args.length y.at_.2] 27)).push c hown5 hg5 (by
                rcases hloc5 with e | e
                · exact .inl e
                · exact .inr (by rw [e]; rfl))
              have hst : ys ++ (x.args.drop (m + 1)).reverse ++ [y] = ys ++ (x.args.drop m).reverse := by
                rw [List.append_assoc, List.drop_eq_getElem_cons hm, List.reverse_cons]
                have hy := HY.out
                rw [List.getElem?_eq_getElem hm] at hy
                injection hy with hy
                rw [hy]
              rw [hst] at hE5
              have hl5 : (ys ++ (x.args.drop (m + 1)).reverse).length = ys.length + (x.args.length - (m + 1)) := by simp
              rw [hl5] at hE5
              refine ⟨by have := HJ.out; show _ ≤ _; omega, rfl, hE5, ?_, ?_, ?_⟩
              · rw [HAd.out]
                exact hg5.cell (cell_old hb4) (fun e => hown4 _ e rfl)
              · intro g' hg'
                rcases hloc5 with e | e
                · exact hown4 g' (e.symm.trans hg')
                · simp [Value.ownBlock] at hg'; simp at e; omega
              · have := hg5.size; simp at this; omega
      · have hans : ans told x = false := by simpa using (by assumption : (!ans told x) = true)
        have hF := HF.out
        have hT := HT.out
        rw [tell_cons, hans, if_neg (by simp)] at hT
        have hE3 := HE2.out.called hI2 hT2 hM2
        go_ret
        rw [hT]
        exact ⟨rfl, M2, hE3.inv, hE3.sub, hE3.turned⟩
end Go.Proofs.Ytoihjobdfjajfaa

/- Size: how many terms it is made of, up to 2001. -/
namespace Go.Proofs.Ytoihjobdfjajfaa
set_option linter.unusedVariables false
set_option linter.unusedSimpArgs false
open Go.RowKit

theorem cell1_set {w : World} {b : Nat} {u v : Value} {T : TypeId} (h : w.heap[b]? = some (.cells #[u] T (0, 0))) : (w.setCell ⟨b, 0, none⟩ v).heap[b]? = some (.cells #[v] T (0, 0)) := by
  have := heap_setCell_same w b 0 _ T v h
  simpa using this
theorem cell1 {w : World} {b : Nat} {u : Value} {T : TypeId} (h : w.heap[b]? = some (.cells #[u] T (0, 0))) : w.cell? ⟨b, 0, none⟩ = some u ∧ w.frozen? ⟨b, 0, none⟩ = false :=
  ⟨cell_of_row w b 0 _ T (0, 0) h, frozen_of_row w b 0 _ T h⟩

set_option maxHeartbeats 400000 in
theorem sizeOne126 (t : LT) (b l : Nat) (w : World) (hb : w.heap[b]? = some (.cells #[.int .i64 (l : Int)] 3 (0, 0))) (hl : l ≤ 100000) :
    Calls Try.prog 126 #[t.val, .pointer (some ⟨b, 0, none⟩)] w fun e w' => e = .returned (.bool (decide (l + 1 ≤ 2000))) ∧ w'.heap[b]? = some (.cells #[.int .i64 ((l + 1 : Nat) : Int)] 3 (0, 0)) ∧ Turned (· = b) w w' := by
  rw [LT.val_eq]
  have hlt := (Array.getElem?_eq_some_iff.1 hb).1
  obtain ⟨c0, f0⟩ := cell1 hb
  have HB := Lib.hid hb
  clear hb
  go_enter Try.func126, Try.ntmps126
  go_wp2_with fail
  go_ret
  refine ⟨ret_bool (by rw [decide_eq_decide]; omega), ?_, ((Turned.refl (· = b) w).setCell (.inr rfl) _).alloc _⟩
  exact (Below.heap_alloc _ _ _ (by simpa [World.setCell] using hlt)).trans (cell1_set HB.out)

/-- Counting, up to 2001. -/
def ansSize {α : Type} (l : List α) (_ : α) : Bool := decide (l.length + 1 ≤ 2000)
theorem tell_size {α : Type} (told l : List α) (h : told.length ≤ 2000) : (tell ansSize told l).2.length = min (told.length + l.length) 2001 := by
  induction l generalizing told with
  | nil => simp only [tell, List.length_nil]; omega
  | cons x l ih =>
    rw [tell_cons]
    by_cases hx : told.length + 1 ≤ 2000
    · rw [if_pos (by simp [ansSize, hx]), ih _ (by simp; omega)]
      simp; omega
    · rw [if_neg (by simp [ansSize, hx])]
      simp; omega

def InvSize (b : Nat) (M : Nat → Prop) (l : List LT) (w : World) : Prop := (∀ k, M k ↔ k = b) ∧ w.heap[b]? = some (.cells #[.int .i64 (l.length : Int)] 3 (0, 0))
theorem enter126 (args : Array Value) (w : World) : (callFunc 126 args).run Try.prog w = .ok (.enter 126 args) w := by kernel_rfl
theorem told_size (p : Nat → Prop) (t : LT) (b : Nat) (M0 : Nat → Prop) : Told p 126 #[.pointer (some ⟨b, 0, none⟩)] t M0 (InvSize b) (fun l x => ansSize l x) := by
  refine ⟨enter126, fun M l w k h hk => ?_, fun M T l w w' h ht hT => ?_, fun M l x r w h hl hF hx => ?_⟩
  · have := (h.1 k).1 hk; subst this; exact (Array.getElem?_eq_some_iff.1 h.2).1
  · have hlt := (Array.getElem?_eq_some_iff.1 h.2).1
    exact ⟨h.1, (ht.block b hlt (fun k => hT b hlt k ((h.1 b).2 rfl))).trans h.2⟩
  · refine (sizeOne126 x b l.length w h.2 (by omega)).mono ?_
    rintro e w' ⟨rfl, hb, ht⟩
    exact ⟨rfl, M, ⟨h.1, by rw [List.length_append]; exact hb⟩, ht.mono (fun i _ e => (h.1 i).2 e), fun k hk => .inl hk⟩

/-- No more than 12 args anywhere. -/
def slim {α : Type} (t : Tm α) : Prop := ∀ x ∈ t.flat, x.args.length ≤ 12

set_option maxHeartbeats 400000 in
theorem size35 {p : Nat → Prop} {t : LT} {w : World} (ht : t.In p w) (hs : slim t) :
    Calls Try.prog 35 #[t.val] w fun e w' => e = .returned (.int .i64 ((min t.size 2001 : Nat) : Int)) ∧ Turned (fun _ => False) w w' := by
  have hmf : ∀ (fn : Fn) (first cap : Array Value) (w : World), (Instr.makeFunc fn first cap).run Try.prog w = .ok (.func fn first cap) w := fun _ _ _ _ => rfl
  have T1 := ((Turned.refl (fun _ => False) w).alloc (.cells #[.int .i64 t.kind, .int .i64 t.n, .string t.name, .slice t.at_.1 t.args.length t.at_.2] 27)).alloc (.cells #[.int .i64 0] 3)
  have hbk : ((w.alloc (.cells #[.int .i64 t.kind, .int .i64 t.n, .string t.name, .slice t.at_.1 t.args.length t.at_.2] 27)).alloc (.cells #[.int .i64 0] 3)).heap[w.heap.size + 1]? = some (.cells #[.int .i64 0] 3 (0, 0)) := heap_alloc2_new _ _ _
  have hin : t.In (fun k => p k ∧ k < w.heap.size) ((w.alloc (.cells #[.int .i64 t.kind, .int .i64 t.n, .string t.name, .slice t.at_.1 t.args.length t.at_.2] 27)).alloc (.cells #[.int .i64 0] 3)) :=
    LT.In.turned T1 (fun _ _ _ f => f) (fun k hk h => ⟨h, hk⟩) t ht
  have hc := each124 (told_size (fun k => p k ∧ k < w.heap.size) t (w.heap.size + 1) (· = w.heap.size + 1)) hin (fun k hk e => by omega) (M := (· = w.heap.size + 1)) ⟨fun k => Iff.rfl, hbk⟩ (fun k h => h) hs (fun l x r _ h => by simp [ansSize] at h; omega)
  have htl := tell_size [] t.flat (by simp)
  rw [Tm.flat_length] at htl
  rw [LT.val_eq] at hc ⊢
  have HC := Lib.hid hc
  have HTL := Lib.hid htl
  have HB := Lib.hid T1
  clear hc htl hbk T1 hin
  go_enter Try.func35, Try.ntmps35
  go_wp2_with (go_at_call 124; refine HC.out.mono ?_; rintro e w2 ⟨rfl, M2, ⟨hM, hb⟩, hsub, hT⟩; obtain ⟨c0, f0⟩ := cell1 hb; have HB2 := Lib.hid hb; clear hb)
  go_ret
  refine ⟨?_, HB.out.step hT (fun i hi e => by omega)⟩
  rw [HTL.out]
  simp
end Go.Proofs.Ytoihjobdfjajfaa

/- Depth: how deep a term is, up to 65. -/
namespace Go.Proofs.Ytoihjobdfjajfaa
set_option linter.unusedVariables false
set_option linter.unusedSimpArgs false
open Go.RowKit

theorem Tm.depths_append {α : Type} (a b : List (Tm α)) : Tm.depths (a ++ b) = max (Tm.depths a) (Tm.depths b) := by
  induction a with
  | nil => simp [Tm.depths]
  | cons x a ih => simp only [List.cons_append, Tm.depths, ih]; omega
theorem Tm.depths_take_le {α : Type} (l : List (Tm α)) (j : Nat) : Tm.depths (l.take j) ≤ Tm.depths l := by
  have := Tm.depths_append (l.take j) (l.drop j)
  rw [List.take_append_drop] at this; omega
theorem Tm.depths_snoc {α : Type} (l : List (Tm α)) (j : Nat) (x : Tm α) (h : l[j]? = some x) : Tm.depths (l.take (j + 1)) = max (Tm.depths (l.take j)) x.depth := by
  have hj := (List.getElem?_eq_some_iff.1 h)
  rw [List.take_succ_eq_append_getElem hj.1, hj.2, Tm.depths_append]
  simp [Tm.depths]
theorem ret_int' {a b : Int} (h : a = b) : Ending.returned (.int .i64 a) = .returned (.int .i64 b) := by rw [h]

/-- What holds at a round's head. -/
def DepR (l : List LT) (k : Nat) (w1 : World) (g : Nat) (d i : Value) (wr : World) : Prop := ∃ j dd : Nat, Hid (j + g = l.length) ∧ j ≤ l.length ∧ i = .int .i64 j ∧ d = .int .i64 dd ∧ dd ≤ k ∧ Hid (dd = min (Tm.depths (l.take j)) k) ∧ Turned (fun _ => False) w1 wr

set_option maxHeartbeats 800000 in
theorem depth127 (p : Nat → Prop) (m : Nat) : ∀ (t : LT) (w : World), m ≤ 1000 → t.In p w →
    Calls Try.prog 127 #[t.val, .int .i64 ((m : Int) + 1)] w fun e w' => e = .returned (.int .i64 ((min t.depth (m + 1) : Nat) : Int)) ∧ Turned (fun _ => False) w w' := by
  induction m with
  | zero =>
    intro t w hk ht
    rw [LT.val_eq]
    have hlm := ht.len
    have hal : t.args.length ≤ 9223372036854775807 := by have := hlm.1; have := hlm.2.1; unfold maxLen at this; omega
    have T1 := (Turned.refl (fun _ => False) w).alloc (.cells #[.int .i64 t.kind, .int .i64 t.n, .string t.name, .slice t.at_.1 t.args.length t.at_.2] 27)
    have HT1 := Lib.hid T1
    obtain ⟨a, ha⟩ : ∃ a, a = t.at_.1 := ⟨_, rfl⟩
    have hlies := fun W h => (LT.In.lies (p := p) (w := W) (t := t) h)
    rw [← ha] at HT1 hlies ⊢
    have HLI := Lib.hid hlies
    clear T1 hlm ha hlies
    show Calls Try.prog 127 #[_, .int .i64 1] w _
    go_enter Try.func127, Try.ntmps127
    go_wp2_with fail
    revert HT1
    generalize w.alloc (.cells #[.int .i64 t.kind, .int .i64 t.n, .string t.name, .slice a t.args.length t.at_.2] 27) = w1
    intro HT1
    go_loopg [5, 11] t.args.length (fun g d i wr => DepR t.args 0 w1 g d i wr)
    case atStart => exact ⟨0, 0, Nat.zero_add _, Nat.zero_le _, rfl, rfl, Nat.zero_le _, show _ = _ by simp [Tm.depths], Turned.refl _ _⟩
    case round =>
      obtain ⟨j, dd, HG, hj, rfl, rfl, hdd, HD, Tr⟩ := hrel
      by_cases hjl : j < t.args.length
      · have hx : t.args[j]? = some t.args[j] := List.getElem?_eq_getElem hjl
        obtain ⟨x, hxe⟩ : ∃ x : LT, x = t.args[j] := ⟨_, rfl⟩
        rw [← hxe] at hx
        clear hxe
        have hin := ht.turned0 (HT1.out.trans Tr)
        obtain ⟨b, o, rfl, _, c0, c1, c2, c3⟩ := (HLI.out _ hin).cell hx
        clear hx hin
        have hz : 0 ≤ (dd : Int) := by omega
        go_wp2_with fail
        go_ret
        refine ⟨ret_int' ?_, HT1.out.trans (Tr.trans ((Turned.refl _ wr).alloc _))⟩
        have := Tm.depth_pos t; omega
      · go_wp2_with fail
        go_ret
        refine ⟨ret_int' ?_, HT1.out.trans Tr⟩
        have := Tm.depth_pos t; omega
  | succ k ih =>
    intro t w hk ht
    have ek : (((k + 1 : Nat) : Int) + 1) = (k : Int) + 1 + 1 := by omega
    rw [LT.val_eq, ek]
    clear ek
    have hlm := ht.len
    have hal : t.args.length ≤ 9223372036854775807 := by have := hlm.1; have := hlm.2.1; unfold maxLen at this; omega
    have T1 := (Turned.refl (fun _ => False) w).alloc (.cells #[.int .i64 t.kind, .int .i64 t.n, .string t.name, .slice t.at_.1 t.args.length t.at_.2] 27)
    have HT1 := Lib.hid T1
    obtain ⟨a, ha⟩ : ∃ a, a = t.at_.1 := ⟨_, rfl⟩
    have hlies := fun W h => (LT.In.lies (p := p) (w := W) (t := t) h)
    rw [← ha] at HT1 hlies ⊢
    have HLI := Lib.hid hlies
    clear T1 hlm ha hlies
    go_enter Try.func127, Try.ntmps127
    go_wp2_with fail
    revert HT1
    generalize w.alloc (.cells #[.int .i64 t.kind, .int .i64 t.n, .string t.name, .slice a t.args.length t.at_.2] 27) = w1
    intro HT1
    go_loopg [5, 11] t.args.length (fun g d i wr => DepR t.args (k + 1) w1 g d i wr)
    case atStart => exact ⟨0, 0, Nat.zero_add _, Nat.zero_le _, rfl, rfl, Nat.zero_le _, show _ = _ by simp [Tm.depths], Turned.refl _ _⟩
    case round =>
      obtain ⟨j, dd, HG, hj, rfl, rfl, hdd, HD, Tr⟩ := hrel
      by_cases hjl : j < t.args.length
      · have hx : t.args[j]? = some t.args[j] := List.getElem?_eq_getElem hjl
        obtain ⟨x, hxe⟩ : ∃ x : LT, x = t.args[j] := ⟨_, rfl⟩
        rw [← hxe] at hx
        clear hxe
        have hin := ht.turned0 (HT1.out.trans Tr)
        have hxin := (LT.ins_iff _).1 hin.args x (List.mem_of_getElem? hx)
        obtain ⟨b, o, rfl, _, c0, c1, c2, c3⟩ := (HLI.out _ hin).cell hx
        have HX := Lib.hid hx
        have hih := fun W h => ih x W (by omega) h
        rw [LT.val_eq] at hih
        have HI := Lib.hid hih
        have HIN := Lib.hid hxin
        have hxw : ∀ o : Obj, x.In p (wr.alloc o) := fun o => hxin.turned0 ((Turned.refl _ wr).alloc o)
        have HXW := Lib.hid hxw
        clear hx hih ih hxin hin hxw
        by_cases hb : dd < k + 1
        · go_wp2_with (go_at_call 127; refine (HI.out _ (HXW.out _)).mono ?_; rintro e w2 ⟨rfl, T2⟩)
          all_goals
            go_roundg (gk - 1)
            case rel =>
              have hD := HD.out
              have hS := Tm.depths_snoc t.args j x HX.out
              refine ⟨j + 1, _, show _ = _ by have := HG.out; omega, by omega, by go_num, rfl, by omega, ?_, Tr.trans (((Turned.refl _ wr).alloc _).trans T2)⟩
              show _ = _
              rw [hS]; omega
            case measure => have := HG.out; omega
        · go_wp2_with fail
          go_ret
          have hD := HD.out
          have hL := Tm.depths_take_le t.args j
          refine ⟨ret_int' ?_, HT1.out.trans (Tr.trans ((Turned.refl _ wr).alloc _))⟩
          rw [Tm.depth_eq]; omega
      · go_wp2_with fail
        go_ret
        have hD := HD.out
        have : j = t.args.length := by omega
        rw [this, List.take_length] at hD
        refine ⟨ret_int' ?_, HT1.out.trans Tr⟩
        rw [Tm.depth_eq]; omega

set_option maxHeartbeats 400000 in
theorem depth36 {p : Nat → Prop} {t : LT} {w : World} (ht : t.In p w) :
    Calls Try.prog 36 #[t.val] w fun e w' => e = .returned (.int .i64 ((min t.depth 65 : Nat) : Int)) ∧ Turned (fun _ => False) w w' := by
  have hd := fun o => depth127 p 64 t (w.alloc o) (by omega) (ht.turned0 ((Turned.refl _ w).alloc o))
  rw [LT.val_eq] at hd ⊢
  have HD := Lib.hid hd
  clear hd
  go_enter Try.func36, Try.ntmps36
  go_wp2_with (go_at_call 127; refine (HD.out _).mono ?_; rintro e w2 ⟨rfl, T2⟩)
  go_ret
  exact ⟨rfl, ((Turned.refl _ w).alloc _).trans T2⟩
end Go.Proofs.Ytoihjobdfjajfaa

/- Good: whether a term may be. -/
namespace Go.Proofs.Ytoihjobdfjajfaa
set_option linter.unusedVariables false
set_option linter.unusedSimpArgs false
open Go.RowKit

theorem tell_all {α : Type} (f : α → Bool) (told l : List α) : (tell (fun _ x => f x) told l).1 = l.all f := by
  induction l generalizing told with
  | nil => rfl
  | cons x l ih =>
    rw [tell_cons]
    by_cases h : f x = true
    · rw [if_pos h, ih, List.all_cons, h, Bool.true_and]
    · rw [if_neg h, List.all_cons]
      simp [h]
def goodB {α : Type} (t : Tm α) : Bool := decide (t.size ≤ 2000) && (decide (t.depth ≤ 64) && t.flat.all goodOneB)
theorem enter129 (args : Array Value) (w : World) : (callFunc 129 args).run Try.prog w = .ok (.enter 129 args) w := by kernel_rfl
theorem told_good (p : Nat → Prop) (t : LT) : Told p 129 #[] t (fun _ => False) (fun M _ _ => ∀ k, ¬ M k) (fun _ x => goodOneB x) :=
  ⟨enter129, fun M l w k h hk => absurd hk (h k), fun M T l w w' h _ _ => h, fun M l x r w h _ hF hx => by
    rw [show #[x.val] ++ (#[] : Array Value) = #[x.val] from rfl]
    refine (goodOne129 x w hx).mono ?_
    rintro e w' ⟨rfl, ht⟩
    exact ⟨rfl, fun _ => False, fun _ f => f, ht.mono (fun _ _ f => False.elim f), fun _ f => False.elim f⟩⟩
theorem prefix_size {t : LT} {l r : List LT} {x : LT} (h : t.flat = l ++ x :: r) : l.length + 1 ≤ t.size := by
  have := congrArg List.length h
  rw [Tm.flat_length] at this
  simp at this; omega
theorem eachGood {p : Nat → Prop} {t : LT} {w : World} (ht : t.In p w) (hs : slim t) (h2 : t.size ≤ 2000) :
    Calls Try.prog 124 #[t.val, .func (.func 129) #[] #[]] w fun e w' => e = .returned (.bool (t.flat.all goodOneB)) ∧ Turned (fun _ => False) w w' := by
  refine (each124 (told_good p t) ht (fun _ _ f => f) (M := fun _ => False) (fun _ f => f) (fun _ f => f) hs (fun l x r h _ => by have := prefix_size h; omega)).mono ?_
  rintro e w' ⟨rfl, M', _, _, hT⟩
  exact ⟨by rw [tell_all], hT⟩

set_option maxHeartbeats 400000 in
theorem good38 {p : Nat → Prop} {t : LT} {w : World} (ht : t.In p w) (hs : slim t) :
    Calls Try.prog 38 #[t.val] w fun e w' => e = .returned (.bool (goodB t)) ∧ Turned (fun _ => False) w w' := by
  obtain ⟨bx, hbx⟩ : ∃ bx : Obj, bx = .cells #[.int .i64 t.kind, .int .i64 t.n, .string t.name, .slice t.at_.1 t.args.length t.at_.2] 27 := ⟨_, rfl⟩
  have T1 := (Turned.refl (fun _ => False) w).alloc bx
  have hin : ∀ W, Turned (fun _ => False) (w.alloc bx) W → t.In p W := fun W h => ht.turned0 (T1.trans h)
  have hc : ∀ W, Turned (fun _ => False) (w.alloc bx) W → W.cell? ⟨w.heap.size, 0, none⟩ = some (.int .i64 t.kind) ∧ W.cell? ⟨w.heap.size, 1, none⟩ = some (.int .i64 t.n) ∧ W.cell? ⟨w.heap.size, 2, none⟩ = some (.string t.name) ∧ W.cell? ⟨w.heap.size, 3, none⟩ = some (.slice t.at_.1 t.args.length t.at_.2) := by
    intro W h
    subst hbx
    obtain ⟨hb, _⟩ := box4 h
    obtain ⟨c0, c1, c2, c3, _⟩ := cells4 hb
    exact ⟨c0, c1, c2, c3⟩
  have h1 := fun W h => size35 (hin W h) hs
  have h2 := fun W h => depth36 (hin W h)
  have h3 := fun h2 W h => eachGood (hin W h) hs h2
  rw [LT.val_eq] at h1 h2 h3 ⊢
  have H1 := Lib.hid h1
  have H2 := Lib.hid h2
  have H3 := Lib.hid h3
  have HC := Lib.hid hc
  have HT := Lib.hid T1
  subst hbx
  clear h1 h2 h3 hc T1 hin
  by_cases s1 : t.size ≤ 2000
  · by_cases s2 : t.depth ≤ 64
    · have s1' : decide (((min t.size 2001 : Nat) : Int) ≤ 2000) = true := by simp; omega
      have s2' : decide (((min t.depth 65 : Nat) : Int) ≤ 64) = true := by simp; omega
      have HR : Hid (goodB t = t.flat.all goodOneB) := by show _ = _; unfold goodB; simp [s1, s2]
      go_enter Try.func38, Try.ntmps38
      go_wp2_with (first
        | (go_at_call 35; refine (H1.out _ (Turned.refl _ _)).mono ?_; rintro e w2 ⟨rfl, T2⟩; obtain ⟨c0, c1, c2, c3⟩ := HC.out _ T2)
        | (go_at_call 36; refine (H2.out _ T2).mono ?_; rintro e w3 ⟨rfl, T3⟩; obtain ⟨d0, d1, d2, d3⟩ := HC.out _ (T2.trans T3))
        | (go_at_call 124; refine (H3.out s1 _ (T2.trans T3)).mono ?_; rintro e w4 ⟨rfl, T4⟩))
      go_ret
      exact ⟨ret_bool HR.out.symm, HT.out.trans (T2.trans (T3.trans T4))⟩
    · have s1' : decide (((min t.size 2001 : Nat) : Int) ≤ 2000) = true := by simp; omega
      have s2' : decide (((min t.depth 65 : Nat) : Int) ≤ 64) = false := by simp; omega
      have HR : Hid (goodB t = false) := by show _ = _; unfold goodB; simp [s2]
      go_enter Try.func38, Try.ntmps38
      go_wp2_with (first
        | (go_at_call 35; refine (H1.out _ (Turned.refl _ _)).mono ?_; rintro e w2 ⟨rfl, T2⟩; obtain ⟨c0, c1, c2, c3⟩ := HC.out _ T2)
        | (go_at_call 36; refine (H2.out _ T2).mono ?_; rintro e w3 ⟨rfl, T3⟩; obtain ⟨d0, d1, d2, d3⟩ := HC.out _ (T2.trans T3)))
      go_ret
      exact ⟨ret_bool HR.out.symm, HT.out.trans (T2.trans T3)⟩
  · have s1' : decide (((min t.size 2001 : Nat) : Int) ≤ 2000) = false := by simp; omega
    have HR : Hid (goodB t = false) := by show _ = _; unfold goodB; simp [s1]
    go_enter Try.func38, Try.ntmps38
    go_wp2_with (go_at_call 35; refine (H1.out _ (Turned.refl _ _)).mono ?_; rintro e w2 ⟨rfl, T2⟩; obtain ⟨c0, c1, c2, c3⟩ := HC.out _ T2)
    go_ret
    exact ⟨ret_bool HR.out.symm, HT.out.trans T2⟩
end Go.Proofs.Ytoihjobdfjajfaa

/- Maps with integers for keys, as functions; the elements are whatever values they are. -/
namespace Go.Proofs.Ytoihjobdfjajfaa
set_option linter.unusedVariables false
set_option linter.unusedSimpArgs false
open Go.RowKit Go.Maps

/-- An element read as itself. -/
def rawR (v : Value) : Option (DataW Value × List MemPlace) := some (.held v, [])
def kI (n : Int) : Lit := .int .i64 n
theorem kI_inj {a b : Int} (h : kI a = kI b) : a = b := by unfold kI at h; injection h
def upd (f : Int → Option Value) (i : Int) (v : Value) : Int → Option Value := fun j => if j = i then some v else f j

/-- Block b is a map of n entries that has f. -/
def IMap (P : Program) (kt : TypeId) (w : World) (b n : Nat) (f : Int → Option Value) : Prop :=
  ∃ D : DataW Value, w.ownsMap P kt rawR b n D ∧ Maps.Tidy D ∧ Maps.size D = n ∧ ∀ i, Maps.has D (kI i) = (f i).isSome ∧ ∀ v, f i = some v → ∀ z, D.atKey (kI i) z = .held v

section
variable {P : Program} {kt : TypeId} {w w' : World} {b n : Nat} {f : Int → Option Value}
theorem IMap.made (w : World) (P : Program) (kt : TypeId) : IMap P kt (w.alloc (.map #[] 0)) w.heap.size 0 (fun _ => none) :=
  ⟨_, World.ownsMap_made _ _ _ _, ⟨[], rfl, List.Pairwise.nil⟩, rfl, fun i => ⟨rfl, fun v h => by cases h⟩⟩
theorem IMap.lt (h : IMap P kt w b n f) : b < w.heap.size := by obtain ⟨D, h, _⟩ := h; exact h.lt
theorem IMap.turned {S : Nat → Prop} (h : IMap P kt w b n f) (ht : Turned S w w') (hS : ¬ S b) : IMap P kt w' b n f := by
  obtain ⟨D, ⟨es, clock, hb, F, hs, hD⟩, h2, h3, h4⟩ := h
  exact ⟨D, ⟨es, clock, (ht.block b (Array.getElem?_eq_some_iff.1 hb).1 hS).trans hb, F, hs, hD⟩, h2, h3, h4⟩
theorem IMap.alloc (h : IMap P kt w b n f) (o : Obj) : IMap P kt (w.alloc o) b n f := h.turned ((Turned.refl (fun _ => False) w).alloc o) (fun f => f)

theorem rawR_inj {v : Value} {d : DataW Value} {ps : List MemPlace} (h : rawR v = some (d, ps)) : d = .held v := by unfold rawR at h; injection h with h; injection h with h _; exact h.symm
theorem IMap.look {t e : TypeId} (h : IMap P kt w b n f) (K : Keyed P kt) (ht : P.underlying t = some (.map kt e)) {z : Value} (hz : (zeroValue e).run P w = .ok z w) {i : Int} (hkey : keyOf P kt (.int .i64 i) = some (kI i)) :
    (Instr.lookup t (.map (some b)) (.int .i64 i) false).run P w = .ok ((f i).getD z) w := by
  obtain ⟨D, h1, h2, h3, h4⟩ := h
  obtain ⟨v, ps, hr, hv⟩ := h1.lookup K ht hz (zd := .held z) (zp := []) rfl hkey
  rw [hr]
  have hd := rawR_inj hv
  obtain ⟨hh, hs⟩ := h4 i
  cases hf : f i with
  | none =>
    rw [hf] at hh
    rw [Maps.atKey_of_not_has hh] at hd
    injection hd with hd; subst hd; rfl
  | some u =>
    rw [hs u hf] at hd
    injection hd with hd; subst hd; rfl
theorem IMap.look_ok {t e : TypeId} (h : IMap P kt w b n f) (K : Keyed P kt) (ht : P.underlying t = some (.map kt e)) {z : Value} (hz : (zeroValue e).run P w = .ok z w) {i : Int} (hkey : keyOf P kt (.int .i64 i) = some (kI i)) :
    (Instr.lookup t (.map (some b)) (.int .i64 i) true).run P w = .ok (.tuple #[(f i).getD z, .bool (f i).isSome]) w := by
  obtain ⟨D, h1, h2, h3, h4⟩ := h
  obtain ⟨v, ps, hr, hv⟩ := h1.look_ok K ht hz (zd := .held z) (zp := []) rfl hkey
  rw [hr]
  have hd := rawR_inj hv
  obtain ⟨hh, hs⟩ := h4 i
  rw [hh]
  cases hf : f i with
  | none =>
    rw [hf] at hh
    rw [Maps.atKey_of_not_has hh] at hd
    injection hd with hd; subst hd; rfl
  | some u =>
    rw [hs u hf] at hd
    injection hd with hd; subst hd; rfl
theorem IMap.put {t e : TypeId} (h : IMap P kt w b n f) (K : Keyed P kt) (ht : P.underlying t = some (.map kt e)) (hn : n < maxLen) {i : Int} {v : Value} (hkey : keyOf P kt (.int .i64 i) = some (kI i)) (hk : WideAt.IsKeyLit (kI i)) :
    ∃ w', (Instr.mapUpdate t (.map (some b)) (.int .i64 i) v).run P w = .ok () w' ∧ IMap P kt w' b (if (f i).isSome then n else n + 1) (upd f i v) ∧ Turned (· = b) w w' := by
  obtain ⟨D, h1, h2, h3, h4⟩ := h
  obtain ⟨w', hr, ho, hg⟩ := h1.update K ht hn (val := v) (d := .held v) (ps := []) hkey rfl
  have hsz : Maps.size (D.put (kI i) (.held v)) = if (f i).isSome then n else n + 1 := by
    rw [Maps.size_put h2, (h4 i).1, h3]
  refine ⟨w', hr, ⟨_, ?_, h2.put hk _, hsz, fun j => ?_⟩, (Turned.refl _ w).grown hg (fun k e => by cases e; exact .inr rfl)⟩
  · have : w'.ownsMap P kt rawR b (Maps.size (D.put (kI i) (.held v))) (D.put (kI i) (.held v)) := by
      obtain ⟨es, clock, hb, F, hs, hD⟩ := ho
      exact ⟨es, clock, hb, F, by rw [hD]; simp [Maps.size, length_sorted], hD⟩
    rw [hsz] at this
    exact this
  · unfold upd
    by_cases e : j = i
    · subst e
      rw [if_pos rfl]
      exact ⟨Maps.has_put_same h2.isMap hk _, fun u hu z => by injection hu with hu; subst hu; exact Maps.atKey_put_same h2.isMap hk _ _⟩
    · rw [if_neg e]
      have hne : kI j ≠ kI i := fun e' => e (kI_inj e')
      rw [Maps.has_put_other hne]
      exact ⟨(h4 j).1, fun u hu z => by rw [Maps.atKey_put_other hne]; exact (h4 j).2 u hu z⟩
theorem IMap.len {t e : TypeId} (h : IMap P kt w b n f) (ht : P.underlying t = some (.map kt e)) (ty : TypeId) : (Builtin.len_ #[t] ty #[.map (some b)]).run P w = .ok (.int .i64 n) w := by
  obtain ⟨D, h1, h2, h3, h4⟩ := h
  rw [h1.len ht ty, h3]

/-- At the operation. -/
theorem wpList_put {ops : Array Oper} {rest : List Oper} {o : Oper} {a : Act} {Q : Exit → Act → World → Prop} (hg : o.guard = none) (m x v : Operand) (t : TypeId) (hop : o.op = Op.mapUpdate t m x v)
    {e : TypeId} (K : Keyed P kt) (ht : P.underlying t = some (.map kt e)) (hm : a.eval m = .map (some b)) (hown : IMap P kt w b n f) (hn : n < maxLen) {i : Int} {val : Value} (hx : a.eval x = .int .i64 i) (hv : a.eval v = val)
    (hkey : keyOf P kt (.int .i64 i) = some (kI i)) (hk : WideAt.IsKeyLit (kI i))
    (hK : ∀ w', IMap P kt w' b (if (f i).isSome then n else n + 1) (upd f i val) → Turned (· = b) w w' → wpList P ops Q rest (a.put o.dst undef) w') :
    wpList P ops Q (o :: rest) a w := by
  refine wpList_plain hg fun K' hK' => ?_
  obtain ⟨w', hrun, r1, r2⟩ := hown.put K ht hn (v := val) hkey hk
  unfold Oper.wp
  simp [execOp, hop, hm, hx, hv, hrun, Result.andThen]
  exact hK' _ _ (hK w' r1 r2)
end
end Go.Proofs.Ytoihjobdfjajfaa

/- Vars: the variables' numbers, by where they first stand. -/
namespace Go.Proofs.Ytoihjobdfjajfaa
set_option linter.unusedVariables false
set_option linter.unusedSimpArgs false
open Go.RowKit Go.Maps

theorem law2 : Keyed Try.prog 2 := int_keyed Try.underlying2
theorem zero4 (w : World) : (zeroValue 4).run Try.prog w = .ok (.bool false) w := by kernel_rfl
theorem infoI : (Try.prog.info? 2).map (fun i => (i.zero, i.size, i.bytes)) = some (some (.int .i64 0), 1, 8) := by kernel_rfl
theorem key2 {n : Int} (h : I64 n) : keyOf Try.prog 2 (.int .i64 n) = some (kI n) := keyOf_int_mk Try.underlying2 h.wf
/-- A set of numbers, as a map to true. -/
def inSet (l : List Int) : Int → Option Value := fun i => if i ∈ l then some (.bool true) else none
theorem inSet_snoc (l : List Int) (i : Int) : upd (inSet l) i (.bool true) = inSet (l ++ [i]) := by
  funext j
  unfold upd inSet
  by_cases e : j = i
  · subst e; simp
  · simp [e]
theorem inSet_get (l : List Int) (i : Int) : (inSet l i).getD (.bool false) = .bool (decide (i ∈ l)) := by
  unfold inSet; split <;> simp_all

/-- What the closure of Vars holds: the set's block, the row's, and the two variables'. -/
structure VarsIn (bh bo : Nat) (mb : Nat) (v : Value) (vs : List Int) (w : World) : Prop where
  hh : w.heap[bh]? = some (.cells #[.map (some mb)] 140 (0, 0))
  ho : w.heap[bo]? = some (.cells #[v] 24 (0, 0))
  map : IMap Try.prog 2 w mb vs.length (inSet vs)
  row : Row w 2 1 v vs.length (vs.map (Value.int .i64))
  ne : bh ≠ bo
  rowH : v.ownBlock ≠ some bh
  rowO : v.ownBlock ≠ some bo

theorem VarsIn.neH {bh bo mb : Nat} {v : Value} {vs : List Int} {w : World} (h : VarsIn bh bo mb v vs w) : mb ≠ bh ∧ mb ≠ bo ∧ v.ownBlock ≠ some mb := by
  obtain ⟨D, ⟨es, clock, hb, _⟩, _⟩ := h.map
  refine ⟨fun e => ?_, fun e => ?_, fun e => ?_⟩
  · subst e; rw [h.hh] at hb; cases hb
  · subst e; rw [h.ho] at hb; cases hb
  · rcases h.row.2 with ⟨rfl, _⟩ | ⟨g, cap, cur, rfl, hg, _⟩
    · simp [Value.ownBlock] at e
    · simp [Value.ownBlock] at e; subst e; rw [hg] at hb; cases hb
def MineV (bh bo mb : Nat) (v : Value) (k : Nat) : Prop := k = bh ∨ k = bo ∨ k = mb ∨ v.ownBlock = some k
theorem VarsIn.lt {bh bo mb : Nat} {v : Value} {vs : List Int} {w : World} (h : VarsIn bh bo mb v vs w) : ∀ k, MineV bh bo mb v k → k < w.heap.size := by
  rintro k (rfl | rfl | rfl | hk)
  · exact (Array.getElem?_eq_some_iff.1 h.hh).1
  · exact (Array.getElem?_eq_some_iff.1 h.ho).1
  · exact h.map.lt
  · exact h.row.lt k hk
theorem VarsIn.turned {bh bo mb : Nat} {v : Value} {vs : List Int} {w w' : World} {S : Nat → Prop} (h : VarsIn bh bo mb v vs w) (ht : Turned S w w') (hS : ∀ k, k < w.heap.size → S k → ¬ MineV bh bo mb v k) : VarsIn bh bo mb v vs w' :=
  ⟨(ht.block bh (h.lt bh (.inl rfl)) (fun s => hS _ (h.lt bh (.inl rfl)) s (.inl rfl))).trans h.hh, (ht.block bo (h.lt bo (.inr (.inl rfl))) (fun s => hS _ (h.lt bo (.inr (.inl rfl))) s (.inr (.inl rfl)))).trans h.ho,
    h.map.turned ht (fun s => hS _ (h.lt mb (.inr (.inr (.inl rfl)))) s (.inr (.inr (.inl rfl)))), h.row.turned ht (fun k e s => hS k (h.lt k (.inr (.inr (.inr e)))) s (.inr (.inr (.inr e)))), h.ne, h.rowH, h.rowO⟩

theorem vars_close {bh bo mb : Nat} {v : Value} {vs : List Int} {n : Int} {w w1 w2 : World} {bx o1 : Obj} {g2 cap2 : Nat} (h : VarsIn bh bo mb v vs w) (h1 : VarsIn bh bo mb v vs (w.alloc bx)) (T0 : Turned (fun _ => False) w (w.alloc bx)) (hn : I64 n) (hm : Hid (n ∉ vs))
    (T1 : Turned (· = mb) (w.alloc bx) w1) (hmap : IMap Try.prog 2 w1 mb (if (inSet vs n).isSome then vs.length else vs.length + 1) (upd (inSet vs) n (.bool true)))
    (hrow : Row w2 2 1 (.slice (some ⟨g2, 0, none⟩) (vs.length + 1) cap2) (vs.length + 1) (vs.map (Value.int .i64) ++ [.int .i64 n])) (T2 : Turned (fun k => v.ownBlock = some k) (w1.alloc o1) w2)
    (hloc : some g2 = v.ownBlock ∨ g2 = (w1.alloc o1).heap.size) (hb2 : w2.heap[bo]? = some (.cells #[v] 24 (0, 0))) :
    VarsIn bh bo mb (.slice (some ⟨g2, 0, none⟩) (vs.length + 1) cap2) (vs ++ [n]) (w2.setCell ⟨bo, 0, none⟩ (.slice (some ⟨g2, 0, none⟩) (vs.length + 1) cap2)) ∧
      Turned (MineV bh bo mb v) w (w2.setCell ⟨bo, 0, none⟩ (.slice (some ⟨g2, 0, none⟩) (vs.length + 1) cap2)) ∧
      ((Value.slice (some ⟨g2, 0, none⟩) (vs.length + 1) cap2).ownBlock = v.ownBlock ∨ ∃ g, (Value.slice (some ⟨g2, 0, none⟩) (vs.length + 1) cap2).ownBlock = some g ∧ w.heap.size ≤ g) := by
  have hm := hm.out
  have hs0 : (w.alloc bx).heap.size = w.heap.size + 1 := by simp
  have hs1 := T1.size
  have hs2 : (w1.alloc o1).heap.size = w1.heap.size + 1 := by simp
  have hs3 := T2.size
  have lbh := h.lt bh (.inl rfl)
  have lbo := h.lt bo (.inr (.inl rfl))
  have lmb := h.lt mb (.inr (.inr (.inl rfl)))
  have hg : g2 ≠ bh ∧ g2 ≠ bo := by
    rcases hloc with e | e
    · exact ⟨fun e' => h.rowH (by rw [← e, e']), fun e' => h.rowO (by rw [← e, e'])⟩
    · omega
  have T1a := T1.trans ((Turned.refl (· = mb) w1).alloc o1)
  refine ⟨⟨?_, cell1_set hb2, ?_, ?_, h.ne, ?_, ?_⟩, ?_, ?_⟩
  · rw [Below.heap_setCell _ _ _ _ h.ne]
    exact (T2.block bh (by omega) (fun e => h.rowH e)).trans ((T1a.block bh (by omega) (fun e => h.neH.1 e.symm)).trans h1.hh)
  · rw [List.length_append, List.length_singleton]
    have hf : inSet vs n = none := by unfold inSet; rw [if_neg hm]
    rw [hf, inSet_snoc] at hmap
    have h2 := (hmap.alloc o1).turned T2 (fun e => h.neH.2.2 e)
    exact h2.turned ((Turned.refl (· = bo) w2).setCell (.inr rfl) _) (fun e => h.neH.2.1 e)
  · rw [List.length_append, List.length_singleton, List.map_append]
    exact hrow.setCell (by simp [Value.ownBlock]; exact hg.2) _
  · simp [Value.ownBlock]; exact hg.1
  · simp [Value.ownBlock]; exact hg.2
  · refine Turned.setCell ?_ (.inr (.inr (.inl rfl))) _
    exact ((T0.mono (fun _ _ f => False.elim f)).step (T1a.mono (fun i _ e => .inr (.inr (.inl e)))) (fun i _ e => e)).step T2 (fun i hi e => .inr (.inr (.inr e)))
  · rcases hloc with e | e
    · exact .inl e
    · exact .inr ⟨g2, rfl, by omega⟩

set_option maxRecDepth 100000 in
set_option maxHeartbeats 1000000 in
theorem varsOne125 (t : LT) (bh bo mb : Nat) (v : Value) (vs : List Int) (w : World) (h : VarsIn bh bo mb v vs w) (ht : I64 t.n) (hl : vs.length ≤ 100000) :
    Calls Try.prog 125 #[t.val, .pointer (some ⟨bh, 0, none⟩), .pointer (some ⟨bo, 0, none⟩)] w fun e w' => e = .returned (.bool true) ∧ ∃ v', VarsIn bh bo mb v' (Tm.addVar vs t) w' ∧ Turned (MineV bh bo mb v) w w' ∧ (v'.ownBlock = v.ownBlock ∨ ∃ g, v'.ownBlock = some g ∧ w.heap.size ≤ g) := by
  obtain ⟨bx, hbx⟩ : ∃ bx : Obj, bx = .cells #[.int .i64 t.kind, .int .i64 t.n, .string t.name, .slice t.at_.1 t.args.length t.at_.2] 27 := ⟨_, rfl⟩
  have T1 := (Turned.refl (fun _ => False) w).alloc bx
  have h1 := h.turned T1 (fun _ _ f => False.elim f)
  have hkey := key2 ht
  have hlk : (Instr.lookup 140 (.map (some mb)) (.int .i64 t.n) false).run Try.prog (w.alloc bx) = .ok (.bool (decide (t.n ∈ vs))) (w.alloc bx) := by
    rw [h1.map.look law2 Try.underlying140 (zero4 _) hkey, inSet_get]
  have lh := h.lt bh (.inl rfl)
  have lo := h.lt bo (.inr (.inl rfl))
  obtain ⟨c0, f0⟩ := cell1 h.hh
  obtain ⟨d0, g0⟩ := cell1 h.ho
  rw [LT.val_eq]
  subst hbx
  by_cases hk : t.kind = 0
  · have k0 : (t.kind == 0) = true := by simp [hk]
    by_cases hm : t.n ∈ vs
    · have hb : decide (t.n ∈ vs) = true := by simpa using hm
      rw [hb] at hlk
      have HR : Hid (Tm.addVar vs t = vs) := by show _ = _; unfold Tm.addVar; simp [hk, hm]
      have H1 := Lib.hid h1
      have HT := Lib.hid T1
      clear hk hm hb h h1 T1
      go_enter Try.func125, Try.ntmps125
      go_wp2_with fail
      go_ret
      rw [HR.out]
      exact ⟨rfl, v, H1.out, HT.out.mono (fun _ _ f => False.elim f), .inl rfl⟩
    · have hb : decide (t.n ∈ vs) = false := by simpa using hm
      rw [hb] at hlk
      have HR : Hid (Tm.addVar vs t = vs ++ [t.n]) := by show _ = _; unfold Tm.addVar; simp [hk, hm]
      have H1 := Lib.hid h1
      have H0 := Lib.hid h
      have HT := Lib.hid T1
      have hm' := Lib.hid hm
      clear hk hm hb h h1 T1
      have hcell : ∀ W, Turned (· = mb) (w.alloc (.cells #[.int .i64 t.kind, .int .i64 t.n, .string t.name, .slice t.at_.1 t.args.length t.at_.2] 27)) W →
          W.cell? ⟨bo, 0, none⟩ = some v ∧ W.frozen? ⟨bo, 0, none⟩ = false ∧ W.cell? ⟨w.heap.size, 1, none⟩ = some (.int .i64 t.n) ∧ Row W 2 1 v vs.length (vs.map (Value.int .i64)) ∧ w.heap.size < W.heap.size := fun W hW => by
        have hb := (hW.block bo (H1.out.lt bo (.inr (.inl rfl))) (fun e => H1.out.neH.2.1 e.symm)).trans H1.out.ho
        have hs := hW.size
        simp at hs
        refine ⟨(cell1 hb).1, (cell1 hb).2, hW.cell (boxed w _ 27 1) (fun e => ?_), H1.out.row.turned hW (fun k hk e => H1.out.neH.2.2 (by rw [hk, e])), by omega⟩
        have := H0.out.map.lt
        simp at e; omega
      have HC := Lib.hid hcell
      clear hcell
      have hst : ∀ W, Turned (· = mb) (w.alloc (.cells #[.int .i64 t.kind, .int .i64 t.n, .string t.name, .slice t.at_.1 t.args.length t.at_.2] 27)) W → ∀ o W2, Turned (fun k => v.ownBlock = some k) (W.alloc o) W2 → W2.heap[bo]? = some (.cells #[v] 24 (0, 0)) := fun W hW o W2 h2 => by
        have hb := (hW.block bo (H1.out.lt bo (.inr (.inl rfl))) (fun e => H1.out.neH.2.1 e.symm)).trans H1.out.ho
        have hbl := (Array.getElem?_eq_some_iff.1 hb).1
        exact (h2.block bo (by simp; omega) (fun e => H1.out.rowO e)).trans ((Below.heap_alloc _ _ _ hbl).trans hb)
      have HS := Lib.hid hst
      clear hst
      obtain ⟨i0, hi0, hz0, hz1, hz2⟩ := info_parts infoI
      go_enter Try.func125, Try.ntmps125
      go_wp2_with (first
        | (at_mapUpdate; refine wpList_put rfl _ _ _ 140 rfl law2 Try.underlying140 rfl H1.out.map (by unfold maxLen; omega) rfl rfl hkey trivial ?_; intro w1 hmap1 T1; obtain ⟨e0, e1, e2, hrow1, hs1⟩ := HC.out w1 T1; have HM := Lib.hid hmap1; clear hmap1)
        | (at_builtin; refine append_some _ rfl _ _ 24 rfl 2 i0 (.int .i64 0) 1 8 Try.underlying24 hi0 hz0 hz1 hz2 rfl (by decide) _ _ _ rfl (hrow1.alloc _) ⟨w1.heap.size, 0, none⟩ 1 1 [.int .i64 t.n] rfl rfl (cell_one_new _ _ _) (by simp [Value.oneCell']) (by omega) (by unfold maxLen; omega) (by omega) ?_; intro g2 cap2 w2 hrow2 T2 hloc2; have hb2 := HS.out w1 T1 _ w2 T2; obtain ⟨e3, e4⟩ := cell1 hb2; have HB2 := Lib.hid hb2; clear hb2))
      go_ret
      rw [HR.out]
      obtain ⟨r1, r2, r3⟩ := vars_close H0.out H1.out HT.out ht hm' T1 HM.out hrow2 T2 hloc2 HB2.out
      exact ⟨rfl, _, r1, r2, r3⟩
  · have k0 : (t.kind == 0) = false := by simp [hk]
    have HR : Hid (Tm.addVar vs t = vs) := by show _ = _; unfold Tm.addVar; simp [hk]
    have H1 := Lib.hid h1
    have HT := Lib.hid T1
    clear hk h h1 T1
    go_enter Try.func125, Try.ntmps125
    go_wp2_with fail
    go_ret
    rw [HR.out]
    exact ⟨rfl, v, H1.out, HT.out.mono (fun _ _ f => False.elim f), .inl rfl⟩

theorem tell_true {α : Type} (told l : List α) : tell (fun _ _ => true) told l = (true, told ++ l) := by
  induction l generalizing told with
  | nil => simp [tell]
  | cons x l ih => rw [tell_cons, if_pos rfl, ih]; simp
theorem addVar_le {α : Type} (l : List (Tm α)) (vs : List Int) : (l.foldl Tm.addVar vs).length ≤ vs.length + l.length := by
  induction l generalizing vs with
  | nil => simp
  | cons x l ih =>
    rw [List.foldl_cons, List.length_cons]
    have := ih (Tm.addVar vs x)
    have h : (Tm.addVar vs x).length ≤ vs.length + 1 := by unfold Tm.addVar; split <;> simp
    omega
def InvVars (bh bo : Nat) (M : Nat → Prop) (l : List LT) (w : World) : Prop := ∃ mb v, (∀ k, M k ↔ MineV bh bo mb v k) ∧ VarsIn bh bo mb v (l.foldl Tm.addVar []) w
theorem enter125 (args : Array Value) (w : World) : (callFunc 125 args).run Try.prog w = .ok (.enter 125 args) w := by kernel_rfl
theorem told_vars (p : Nat → Prop) (t : LT) (bh bo : Nat) (M0 : Nat → Prop) : Told p 125 #[.pointer (some ⟨bh, 0, none⟩), .pointer (some ⟨bo, 0, none⟩)] t M0 (InvVars bh bo) (fun _ _ => true) := by
  refine ⟨enter125, fun M l w k h hk => ?_, fun M T l w w' h ht hT => ?_, fun M l x r w h hl hF hx => ?_⟩
  · obtain ⟨mb, v, hM, hV⟩ := h
    exact hV.lt k ((hM k).1 hk)
  · obtain ⟨mb, v, hM, hV⟩ := h
    exact ⟨mb, v, hM, hV.turned ht (fun k hk s m => hT k hk s ((hM k).2 m))⟩
  · obtain ⟨mb, v, hM, hV⟩ := h
    have hle := addVar_le l []
    refine (varsOne125 x bh bo mb v _ w hV hx.n (by simp at hle; omega)).mono ?_
    rintro e w' ⟨rfl, v', hV', hT, hv⟩
    refine ⟨rfl, MineV bh bo mb v', ⟨mb, v', fun k => Iff.rfl, by rw [List.foldl_append]; exact hV'⟩, hT.mono (fun i _ m => (hM i).2 m), fun k hk => ?_⟩
    rcases hk with hk | hk | hk | hk
    · exact .inl ((hM k).2 (.inl hk))
    · exact .inl ((hM k).2 (.inr (.inl hk)))
    · exact .inl ((hM k).2 (.inr (.inr (.inl hk))))
    · rcases hv with e | ⟨g, e, hg⟩
      · exact .inl ((hM k).2 (.inr (.inr (.inr (by rw [← e]; exact hk)))))
      · rw [e] at hk; injection hk with hk; subst hk; exact .inr hg
theorem good_size {α : Type} {t : Tm α} (h : goodB t = true) : t.size ≤ 2000 := by
  unfold goodB at h; simp at h; exact h.1

theorem eachVars {p : Nat → Prop} {t : LT} {w : World} (ht : t.In p w) (hs : slim t) (h2 : t.size ≤ 2000) :
    Calls Try.prog 124 #[t.val, .func (.func 125) #[] #[.pointer (some ⟨w.heap.size + 1 + 1, 0, none⟩), .pointer (some ⟨w.heap.size, 0, none⟩)]] (((w.alloc (.cells #[.slice none 0 0] 24)).alloc (.map #[] 0)).alloc (.cells #[.map (some (w.heap.size + 1))] 140))
      fun e w' => (∃ b, e = .returned (.bool b)) ∧ ∃ v, w'.heap[w.heap.size]? = some (.cells #[v] 24 (0, 0)) ∧ Row w' 2 1 v t.vars.length (t.vars.map (Value.int .i64)) ∧ (∀ k, v.ownBlock = some k → w.heap.size ≤ k) ∧ Turned (fun _ => False) w w' := by
  have T3 := (((Turned.refl (fun _ => False) w).alloc (.cells #[.slice none 0 0] 24)).alloc (.map #[] 0)).alloc (.cells #[.map (some (w.heap.size + 1))] 140)
  have hin : t.In (fun k => p k ∧ k < w.heap.size) (((w.alloc (.cells #[.slice none 0 0] 24)).alloc (.map #[] 0)).alloc (.cells #[.map (some (w.heap.size + 1))] 140)) := LT.In.turned T3 (fun _ _ _ f => f) (fun k hk h => ⟨h, hk⟩) t ht
  have hV : VarsIn (w.heap.size + 1 + 1) w.heap.size (w.heap.size + 1) (.slice none 0 0) [] (((w.alloc (.cells #[.slice none 0 0] 24)).alloc (.map #[] 0)).alloc (.cells #[.map (some (w.heap.size + 1))] 140)) := by
    refine ⟨?_, ?_, ?_, Row.nil _ _ _, by omega, by simp [Value.ownBlock], by simp [Value.ownBlock]⟩
    · have := heap_alloc_new ((w.alloc (.cells #[.slice none 0 0] 24)).alloc (.map #[] 0)) (.cells #[.map (some (w.heap.size + 1))] 140)
      simpa using this
    · exact (Below.heap_alloc _ _ _ (by simp; omega)).trans (heap_alloc2_old w _ _)
    · have := (IMap.made (w.alloc (.cells #[.slice none 0 0] 24)) Try.prog 2).alloc (.cells #[.map (some (w.heap.size + 1))] 140)
      have e : inSet [] = fun _ => none := by funext i; simp [inSet]
      rw [e]
      simpa using this
  have hM : ∀ k, MineV (w.heap.size + 1 + 1) w.heap.size (w.heap.size + 1) (.slice none 0 0) k → w.heap.size ≤ k := by
    rintro k (rfl | rfl | rfl | h)
    · omega
    · omega
    · omega
    · simp [Value.ownBlock] at h
  refine (each124 (told_vars (fun k => p k ∧ k < w.heap.size) t (w.heap.size + 1 + 1) w.heap.size (MineV (w.heap.size + 1 + 1) w.heap.size (w.heap.size + 1) (.slice none 0 0))) hin (fun k hk m => by have := hM k m; omega)
    (M := MineV (w.heap.size + 1 + 1) w.heap.size (w.heap.size + 1) (.slice none 0 0)) ⟨_, _, fun k => Iff.rfl, hV⟩ (fun k h => h) hs (fun l x r h _ => by have := prefix_size h; omega)).mono ?_
  rintro e w' ⟨rfl, M', ⟨mb, v, hM', hV'⟩, hsub, hT⟩
  refine ⟨⟨_, rfl⟩, v, hV'.ho, ?_, fun k hk => ?_, T3.step hT (fun i hi m => by have := hM i m; omega)⟩
  · have := hV'.row
    rw [tell_true] at this
    simpa [Tm.vars] using this
  · rcases hsub k ((hM' k).2 (.inr (.inr (.inr hk)))) with m | m
    · exact hM k m
    · simp at m; omega

/-- The variables of a term that may be; of another one, none. -/
def varsB {α : Type} (t : Tm α) : List Int := if goodB t then t.vars else []

set_option maxRecDepth 100000 in
set_option maxHeartbeats 800000 in
theorem vars34 {p : Nat → Prop} {t : LT} {w : World} (ht : t.In p w) (hs : slim t) :
    Calls Try.prog 34 #[t.val] w fun e w' => ∃ v, e = .returned v ∧ Row w' 2 1 v (varsB t).length ((varsB t).map (Value.int .i64)) ∧ (∀ k, v.ownBlock = some k → w.heap.size ≤ k) ∧ Turned (fun _ => False) w w' := by
  have hmf : ∀ (fn : Fn) (first cap : Array Value) (w : World), (Instr.makeFunc fn first cap).run Try.prog w = .ok (.func fn first cap) w := fun _ _ _ _ => rfl
  have hmm := @run_makeMap Try.prog
  obtain ⟨bx, hbx⟩ : ∃ bx : Obj, bx = .cells #[.int .i64 t.kind, .int .i64 t.n, .string t.name, .slice t.at_.1 t.args.length t.at_.2] 27 := ⟨_, rfl⟩
  have T1 := (Turned.refl (fun _ => False) w).alloc bx
  have hg := good38 (ht.turned0 T1) hs
  have hc : ∀ W, Turned (fun _ => False) (w.alloc bx) W → W.cell? ⟨w.heap.size, 0, none⟩ = some (.int .i64 t.kind) ∧ W.cell? ⟨w.heap.size, 1, none⟩ = some (.int .i64 t.n) ∧ W.cell? ⟨w.heap.size, 2, none⟩ = some (.string t.name) ∧ W.cell? ⟨w.heap.size, 3, none⟩ = some (.slice t.at_.1 t.args.length t.at_.2) ∧ w.heap.size < W.heap.size := by
    intro W h
    subst hbx
    obtain ⟨hb, hl⟩ := box4 h
    obtain ⟨c0, c1, c2, c3, _⟩ := cells4 hb
    exact ⟨c0, c1, c2, c3, hl⟩
  have he := fun (h2 : t.size ≤ 2000) W (h : Turned (fun _ => False) (w.alloc bx) W) => eachVars (ht.turned0 (T1.trans h)) hs h2
  rw [LT.val_eq] at hg he ⊢
  have HE := Lib.hid he
  have HG := Lib.hid hg
  have HC := Lib.hid hc
  have HT := Lib.hid T1
  subst hbx
  clear hg hc T1 he
  by_cases g : goodB t = true
  · have HV : Hid (varsB t = t.vars) := by show _ = _; unfold varsB; rw [if_pos g]
    have g2 := good_size g
    have HGG := Lib.hid g
    go_enter Try.func34, Try.ntmps34
    go_wp2_with (first
      | (go_at_call 38; refine HG.out.mono ?_; rintro e w2 ⟨rfl, T2⟩; obtain ⟨c0, c1, c2, c3, hl⟩ := HC.out _ T2; have hl1 : w.heap.size < w2.heap.size + 1 := Nat.lt_succ_of_lt hl; have hl2 : w.heap.size < w2.heap.size + 1 + 1 := Nat.lt_succ_of_lt hl1)
      | (go_at_call 124; refine (HE.out g2 _ T2).mono ?_; rintro e w3 ⟨⟨b3, rfl⟩, v3, ho3, hr3, hv3, T3⟩; obtain ⟨c4, f4⟩ := cell1 ho3; have HO3 := Lib.hid ho3; clear ho3))
    go_ret
    refine ⟨v3, rfl, ?_, fun k hk => ?_, HT.out.trans (T2.trans T3)⟩
    · rw [HV.out]; exact hr3
    · have h2 := T2.size
      have := hv3 k hk
      simp at h2; omega
  · have HV : Hid (varsB t = []) := by show _ = _; unfold varsB; rw [if_neg g]
    have g' : goodB t = false := by simpa using g
    clear g
    go_enter Try.func34, Try.ntmps34
    go_wp2_with (first | (go_at_call 38; refine HG.out.mono ?_; rintro e w2 ⟨rfl, T2⟩))
    go_ret
    refine ⟨_, rfl, ?_, fun k hk => by simp [Value.ownBlock] at hk, HT.out.trans T2⟩
    rw [HV.out]
    exact Row.nil _ _ _
end Go.Proofs.Ytoihjobdfjajfaa

/- nums: two rows of numbers alike? -/
namespace Go.Proofs.Ytoihjobdfjajfaa
set_option linter.unusedVariables false
set_option linter.unusedSimpArgs false
open Go.RowKit

theorem take_snoc' {α : Type} (l : List α) (j : Nat) (x : α) (h : l[j]? = some x) : l.take (j + 1) = l.take j ++ [x] := by
  have hj := (List.getElem?_eq_some_iff.1 h)
  rw [List.take_succ_eq_append_getElem hj.1, hj.2]
theorem Row.int_at {w : World} {e : TypeId} {g cap n : Nat} {xs : List Int} (h : Row w e 1 (.slice (some ⟨g, 0, none⟩) n cap) n (xs.map (Value.int .i64))) {j : Nat} {x : Int} (hx : xs[j]? = some x) : w.cell? ⟨g, j, none⟩ = some (.int .i64 x) :=
  h.cells rfl j _ (by rw [List.getElem?_map, hx]; rfl)
theorem Row.len {w : World} {e : TypeId} {v : Value} {n : Nat} {xs : List Int} (h : Row w e 1 v n (xs.map (Value.int .i64))) : n = xs.length := by have := h.1; simp at this; omega
theorem Row.max {w : World} {e : TypeId} {a : Option Addr} {n c size : Nat} {xs : List Value} (h : Row w e size (.slice a n c) n xs) : n ≤ c ∧ c ≤ 9223372036854775807 := by
  rcases h.2 with ⟨e, rfl⟩ | ⟨g, cap, cur, e, _, h1, h2, _⟩
  · injection e with _ _ e; omega
  · injection e with _ _ e; subst e; unfold maxLen at h2; omega

theorem Row.addr_pos {w : World} {e : TypeId} {a : Option Addr} {n c size : Nat} {xs : List Value} (h : Row w e size (.slice a n c) n xs) (hn : 0 < n) : ∃ g, a = some ⟨g, 0, none⟩ := by
  obtain ⟨g, q, e⟩ := h.shape_pos hn
  injection e with e _ _
  exact ⟨g, e⟩

set_option maxHeartbeats 800000 in
theorem nums39 {w : World} {v1 v2 : Value} {xs ys : List Int} (h1 : Row w 2 1 v1 xs.length (xs.map (Value.int .i64))) (h2 : Row w 2 1 v2 ys.length (ys.map (Value.int .i64))) :
    Calls Try.prog 39 #[v1, v2] w fun e w' => e = .returned (.bool (decide (xs = ys))) ∧ Turned (fun _ => False) w w' := by
  obtain ⟨a1, c1, rfl⟩ := h1.shape
  obtain ⟨a2, c2, rfl⟩ := h2.shape
  obtain ⟨m1, m2⟩ := h1.max
  obtain ⟨m3, m4⟩ := h2.max
  by_cases hl : xs.length = ys.length
  · have hlb : ((xs.length : Int) != (ys.length : Int)) = false := by simp; omega
    have HL := Lib.hid hl
    have hl1 : xs.length ≤ ys.length := by omega
    have hl2 : ys.length ≤ xs.length := by omega
    clear hl
    have H1 := Lib.hid h1
    have H2 := Lib.hid h2
    clear h1 h2
    go_enter Try.func39, Try.ntmps39
    go_wp2_with fail
    go_loopg [5] xs.length (fun g i wr => ∃ j : Nat, Hid (j + g = xs.length) ∧ j ≤ xs.length ∧ i = .int .i64 j ∧ Hid (xs.take j = ys.take j) ∧ Turned (fun _ => False) w wr)
    case atStart => exact ⟨0, Nat.zero_add _, Nat.zero_le _, rfl, rfl, Turned.refl _ _⟩
    case round =>
      obtain ⟨j, HG, hj, rfl, HE, Tr⟩ := hrel
      by_cases hjl : j < xs.length
      · have hx : xs[j]? = some xs[j] := List.getElem?_eq_getElem hjl
        have hy : ys[j]? = some (ys[j]'(by omega)) := List.getElem?_eq_getElem (by omega)
        obtain ⟨x, hxe⟩ : ∃ x, x = xs[j] := ⟨_, rfl⟩
        obtain ⟨y, hye⟩ : ∃ y, y = ys[j]'(by omega) := ⟨_, rfl⟩
        rw [← hxe] at hx
        rw [← hye] at hy
        obtain ⟨g1, rfl⟩ := H1.out.addr_pos (by omega)
        obtain ⟨g2, rfl⟩ := H2.out.addr_pos (by omega)
        have k1 := (H1.out.turned0 Tr).int_at hx
        have k2 := (H2.out.turned0 Tr).int_at hy
        have HX := Lib.hid hx
        have HY := Lib.hid hy
        clear hxe hye hx hy
        have z1 : (0 : Int) ≤ (j : Int) := by omega
        have z2 : (j : Int) < (ys.length : Int) := by omega
        by_cases hxy : x = y
        · subst hxy
          have hne : (x != x) = false := by simp
          go_wp2_with fail
          go_quiet (fail)
          go_wp2_with fail
          go_roundg (gk - 1)
          case measure => have := HG.out; omega
          case rel =>
            refine ⟨j + 1, show _ = _ by have := HG.out; omega, by omega, by go_num, ?_, Tr.trans ((Turned.refl _ _).drewN _)⟩
            show _ = _
            rw [take_snoc' _ _ _ HX.out, take_snoc' _ _ _ HY.out, HE.out]
        · have hne : (x != y) = true := by simp [hxy]
          have HN := Lib.hid hxy
          clear hxy
          go_wp2_with fail
          go_quiet (fail)
          go_wp2_with fail
          go_ret
          refine ⟨ret_bool ?_, Tr.trans ((Turned.refl _ _).drewN _)⟩
          symm
          rw [decide_eq_false_iff_not]
          intro e
          have hx := HX.out
          rw [e, HY.out] at hx
          injection hx with hx
          exact HN.out hx.symm
      · go_wp2_with fail
        go_ret
        refine ⟨ret_bool ?_, Tr⟩
        symm
        rw [decide_eq_true_eq]
        have h := HE.out
        rwa [List.take_of_length_le (by omega), List.take_of_length_le (by omega)] at h
  · have hlb : ((xs.length : Int) != (ys.length : Int)) = true := by simp; omega
    have HL := Lib.hid hl
    clear hl h1 h2
    go_enter Try.func39, Try.ntmps39
    go_wp2_with fail
    go_ret
    refine ⟨ret_bool ?_, Turned.refl _ _⟩
    symm
    rw [decide_eq_false_iff_not]
    intro e
    exact HL.out (by rw [e])
end Go.Proofs.Ytoihjobdfjajfaa

/- Closed terms: the makers once more, with what comes back written out; sizarlaw7's awake. -/
namespace Go.Proofs.Ytoihjobdfjajfaa
set_option linter.unusedVariables false
set_option linter.unusedSimpArgs false
open Go.RowKit

def leaf (k n : Int) (s : ByteArray) : LT := .mk k n s (none, 0) []
theorem varV (n : Int) (hn : I64 n) (w : World) : Calls Try.prog 62 #[.int .i64 n] w fun e w' => e = .returned (.agg #[.int .i64 0, .int .i64 n, .string ByteArray.empty, .slice none 0 0]) ∧ LT.In (fun _ => True) w' (leaf 0 n ByteArray.empty) ∧ Turned (fun _ => False) w w' :=
  (var62 n hn w).mono fun e w' ⟨h1, h2, h3⟩ => ⟨h1, h2 _, h3⟩
theorem intV (n : Int) (hn : I64 n) (w : World) : Calls Try.prog 61 #[.int .i64 n] w fun e w' => e = .returned (.agg #[.int .i64 1, .int .i64 n, .string ByteArray.empty, .slice none 0 0]) ∧ LT.In (fun _ => True) w' (leaf 1 n ByteArray.empty) ∧ Turned (fun _ => False) w w' :=
  (int61 n hn w).mono fun e w' ⟨h1, h2, h3⟩ => ⟨h1, h2 _, h3⟩
theorem atomV (s : ByteArray) (hs : s.size ≤ maxLen) (w : World) : Calls Try.prog 63 #[.string s] w fun e w' => e = .returned (.agg #[.int .i64 2, .int .i64 0, .string s, .slice none 0 0]) ∧ LT.In (fun _ => True) w' (leaf 2 0 s) ∧ Turned (fun _ => False) w w' :=
  (atom63 s hs w).mono fun e w' ⟨h1, h2, h3⟩ => ⟨h1, h2 _, h3⟩
/-- A slice of terms that was just laid. -/
theorem sl_made {w : World} {l : List LT} (h : LT.Ins (fun _ => True) w l) (n : Nat) (hl : n ≤ 1000) (hn : l.length = n) (cs : Array Value) (hcs : cs = (l.flatMap LT.cells).toArray) : LT.Sl (fun _ => True) (w.alloc (.cells cs 27)) (some ⟨w.heap.size, 0, none⟩) n l := by
  subst hn hcs
  have hr := Row.made w 27 4 (l.flatMap LT.cells).toArray l.length (by rw [List.size_toArray, LT.flat_length]) (by unfold maxLen; omega)
  exact (LT.Sl.of_row (p := fun _ => True) hr (fun _ _ => trivial) (LT.Ins.turned0 h ((Turned.refl _ w).alloc _))).2
theorem compV {w : World} {a : Option Addr} {c : Nat} {l : List LT} (s : ByteArray) (hs : s.size ≤ maxLen) (n : Nat) (hl : n ≤ 65536) (hn : l.length = n) (h : LT.Sl (fun _ => True) w a c l) :
    Calls Try.prog 37 #[.string s, .slice a n c] w fun e w' => ∃ a' c', e = .returned (.agg #[.int .i64 2, .int .i64 0, .string s, .slice a' n c']) ∧ LT.In (fun _ => True) w' (.mk 2 0 s (a', c') l) ∧ Turned (fun _ => False) w w' := by
  subst hn
  refine (comp37 s hs h hl).mono ?_
  rintro e w' ⟨d, rfl, hi, ht⟩
  exact ⟨d.1, d.2, rfl, hi.mono (fun _ _ _ => trivial), ht⟩

/-- The four cells of a box that was just laid, in any world behind. -/
theorem boxAt {w : World} {a b c d : Value} {W : World} (h : Turned (fun _ => False) (w.alloc (.cells #[a, b, c, d] 27)) W) :
    W.cell? ⟨w.heap.size, 0, none⟩ = some a ∧ W.cell? ⟨w.heap.size, 1, none⟩ = some b ∧ W.cell? ⟨w.heap.size, 2, none⟩ = some c ∧ W.cell? ⟨w.heap.size, 3, none⟩ = some d ∧ w.heap.size < W.heap.size := by
  obtain ⟨hb, hl⟩ := box4 h
  obtain ⟨c0, c1, c2, c3, _⟩ := cells4 hb
  exact ⟨c0, c1, c2, c3, hl⟩
def tAw (a3 : Option Addr) (c3 : Nat) (a4 : Option Addr) (c4 : Nat) : LT := .mk 2 0 ⟨#[102]⟩ (a4, c4) [leaf 0 3 ByteArray.empty, .mk 2 0 ⟨#[103]⟩ (a3, c3) [leaf 1 1 ByteArray.empty]]
theorem tAw_good (a3 : Option Addr) (c3 : Nat) (a4 : Option Addr) (c4 : Nat) : goodB (tAw a3 c3 a4 c4) = true := by kernel_rfl
theorem tAw_slim (a3 : Option Addr) (c3 : Nat) (a4 : Option Addr) (c4 : Nat) : slim (tAw a3 c3 a4 c4) := by
  intro x hx
  simp [tAw, leaf, Tm.flat, Tm.flats] at hx
  rcases hx with rfl | rfl | rfl | rfl <;> simp [Tm.args]
theorem tAw_vars (a3 : Option Addr) (c3 : Nat) (a4 : Option Addr) (c4 : Nat) : varsB (tAw a3 c3 a4 c4) = [3] := by kernel_rfl

set_option maxRecDepth 100000 in
set_option maxHeartbeats 1600000 in
theorem awake32 (w : World) : Calls Try.prog 32 #[] w fun e w' => e = .returned (.bool true) ∧ Turned (fun _ => False) w w' := by
  go_enter Try.func32, Try.ntmps32
  go_wp2_with (first
    | (go_at_call 62; refine (varV 3 (i64_lit _ (by omega)) _).mono ?_; rintro e w1 ⟨rfl, i1, T1⟩)
    | (go_at_call 61; refine (intV 1 (i64_lit _ (by omega)) _).mono ?_; rintro e w2 ⟨rfl, i2, T2⟩)
    | (go_at_call_of 37 (Value.string ⟨#[103]⟩); refine (compV ⟨#[103]⟩ (by unfold maxLen; decide) 1 (by decide) rfl (sl_made (l := [leaf 1 1 ByteArray.empty]) ⟨i2, trivial⟩ 1 (by decide) rfl _ rfl)).mono ?_; rintro e w3 ⟨a3, c3, rfl, i3, T3⟩)
    | (go_at_call_of 37 (Value.string ⟨#[102]⟩); refine (compV ⟨#[102]⟩ (by unfold maxLen; decide) 2 (by decide) rfl (sl_made (l := [leaf 0 3 ByteArray.empty, .mk 2 0 ⟨#[103]⟩ (a3, c3) [leaf 1 1 ByteArray.empty]]) ⟨i1.turned0 (T2.trans (((Turned.refl _ w2).alloc _).trans T3)), i3, trivial⟩ 2 (by decide) rfl _ rfl)).mono ?_; rintro e w4 ⟨a4, c4, rfl, i4, T4⟩)
    | (go_at_call 35; have T5 := (Turned.refl (fun _ => False) w4).alloc (.cells #[.int .i64 2, .int .i64 0, .string ⟨#[102]⟩, .slice a4 2 c4] 27); refine (size35 (t := tAw a3 c3 a4 c4) (i4.turned0 T5) (tAw_slim _ _ _ _)).mono ?_; rintro e w6 ⟨rfl, T6⟩; obtain ⟨b0, b1, b2, b3, bl⟩ := boxAt T6)
    | (go_at_call 36; refine (depth36 (t := tAw a3 c3 a4 c4) (i4.turned0 (T5.trans T6))).mono ?_; rintro e w7 ⟨rfl, T7⟩; obtain ⟨d0, d1, d2, d3, dl⟩ := boxAt (T6.trans T7))
    | (go_at_call 38; refine (good38 (t := tAw a3 c3 a4 c4) (i4.turned0 (T5.trans (T6.trans T7))) (tAw_slim _ _ _ _)).mono ?_; rintro e w8 ⟨rfl, T8⟩; obtain ⟨f0, f1, f2, f3, fl⟩ := boxAt (T6.trans (T7.trans T8)); have hg8 := tAw_good a3 c3 a4 c4)
    | (go_at_call 34; refine (vars34 (t := tAw a3 c3 a4 c4) (i4.turned0 (T5.trans (T6.trans (T7.trans T8)))) (tAw_slim _ _ _ _)).mono ?_; rintro e w9 ⟨v9, rfl, r9, n9, T9⟩; rw [tAw_vars] at r9; have HR9 := Lib.hid r9; clear r9)
    | (go_at_call 39; refine (nums39 (xs := [3]) (ys := [3]) (HR9.out.alloc _) (Row.made w9 2 1 #[.int .i64 3] 1 rfl (by decide))).mono ?_; rintro e w10 ⟨rfl, T10⟩))
  go_ret
  refine ⟨rfl, ?_⟩
  exact T1.trans (T2.trans (((Turned.refl _ w2).alloc _).trans (T3.trans (((Turned.refl _ w3).alloc _).trans (T4.trans (T5.trans (T6.trans (T7.trans (T8.trans (T9.trans (((Turned.refl _ w9).alloc _).trans T10)))))))))))
end Go.Proofs.Ytoihjobdfjajfaa

/- TermVars, plainly: whose variables are whose. No program in sight. -/
namespace Go.Proofs.Ytoihjobdfjajfaa
set_option linter.unusedVariables false
set_option linter.unusedSimpArgs false

/-- A number more, if it is not there. -/
def addNew (vs : List Int) (n : Int) : List Int := if n ∈ vs then vs else vs ++ [n]
theorem addNew_yes {vs : List Int} {n : Int} (h : n ∈ vs) : addNew vs n = vs := if_pos h
theorem addNew_no {vs : List Int} {n : Int} (h : n ∉ vs) : addNew vs n = vs ++ [n] := if_neg h
theorem mem_addNew {vs : List Int} {n m : Int} : m ∈ addNew vs n ↔ m ∈ vs ∨ m = n := by
  unfold addNew; split <;> simp_all
theorem mem_foldNew {ns vs : List Int} {m : Int} : m ∈ ns.foldl addNew vs ↔ m ∈ vs ∨ m ∈ ns := by
  induction ns generalizing vs with
  | nil => simp
  | cons n ns ih => rw [List.foldl_cons, ih, mem_addNew, List.mem_cons, or_assoc]
theorem foldNew_le (ns vs : List Int) : (ns.foldl addNew vs).length ≤ vs.length + ns.length := by
  induction ns generalizing vs with
  | nil => simp
  | cons n ns ih =>
    rw [List.foldl_cons, List.length_cons]
    have := ih (addNew vs n)
    have h : (addNew vs n).length ≤ vs.length + 1 := by unfold addNew; split <;> simp
    omega
theorem foldNew_idem (ns vs : List Int) : (ns.foldl addNew []).foldl addNew vs = ns.foldl addNew vs := by
  suffices h : ∀ l : List Int, ∀ ns : List Int, l = ns.reverse → (ns.foldl addNew []).foldl addNew vs = ns.foldl addNew vs from h _ ns rfl
  intro l
  induction l with
  | nil => intro ns h; have : ns = [] := by simpa using h.symm
           subst this; rfl
  | cons m l ih =>
    intro ns h
    have hn : ns = l.reverse ++ [m] := by rw [← List.reverse_reverse ns, ← h]; simp
    have ih' := ih l.reverse (by simp)
    rw [hn, List.foldl_append, List.foldl_append, List.foldl_cons, List.foldl_nil, List.foldl_cons, List.foldl_nil]
    by_cases hm : m ∈ l.reverse.foldl addNew []
    · rw [addNew_yes hm, ih', addNew_yes]
      rw [mem_foldNew] at hm ⊢
      rcases hm with hm | hm
      · cases hm
      · exact .inr hm
    · rw [addNew_no hm, List.foldl_append, ih']
      rfl
/-- The numbers of the variables, one by one. -/
def varNs {α : Type} (l : List (Tm α)) : List Int := (l.filter fun x => decide (x.kind = 0)).map Tm.n
theorem foldVar_eq {α : Type} (l : List (Tm α)) (vs : List Int) : l.foldl Tm.addVar vs = (varNs l).foldl addNew vs := by
  induction l generalizing vs with
  | nil => rfl
  | cons x l ih =>
    rw [List.foldl_cons, ih]
    unfold varNs
    by_cases hk : x.kind = 0
    · rw [List.filter_cons_of_pos (by simpa using hk), List.map_cons, List.foldl_cons]
      congr 1
      unfold Tm.addVar addNew
      by_cases hn : x.n ∈ vs <;> simp [hk, hn]
    · rw [List.filter_cons_of_neg (by simpa using hk)]
      congr 1
      unfold Tm.addVar
      simp [hk]
theorem foldVar_idem {α : Type} (l : List (Tm α)) (vs : List Int) : (l.foldl Tm.addVar []).foldl addNew vs = l.foldl Tm.addVar vs := by
  rw [foldVar_eq, foldVar_eq, foldNew_idem]
theorem vars_flats {α : Type} (l : List (Tm α)) (vs : List Int) : l.foldl (fun vs x => x.vars.foldl addNew vs) vs = (Tm.flats l).foldl Tm.addVar vs := by
  induction l generalizing vs with
  | nil => rfl
  | cons x l ih =>
    rw [List.foldl_cons, ih]
    simp only [Tm.flats, List.foldl_append]
    rw [Tm.vars, foldVar_idem]

/-- Of a term that may be, each arg may be. -/
theorem good_args {α : Type} {k n : Int} {s : ByteArray} {e : α} {l : List (Tm α)} (h : goodB (.mk k n s e l) = true) : ∀ x ∈ l, goodB x = true := by
  intro x hx
  unfold goodB at h ⊢
  simp only [Bool.and_eq_true, decide_eq_true_eq, List.all_eq_true] at h ⊢
  obtain ⟨h1, h2, h3⟩ := h
  have hsub : ∀ (l : List (Tm α)), x ∈ l → x.size ≤ Tm.sizes l ∧ x.depth ≤ Tm.depths l ∧ ∀ y ∈ x.flat, y ∈ Tm.flats l := by
    intro l
    induction l with
    | nil => intro h; cases h
    | cons z l ih =>
      intro h
      simp only [Tm.sizes, Tm.depths, Tm.flats]
      rcases List.mem_cons.1 h with rfl | h
      · exact ⟨by omega, by omega, fun y hy => List.mem_append_left _ hy⟩
      · obtain ⟨a, b, c⟩ := ih h
        exact ⟨by omega, by omega, fun y hy => List.mem_append_right _ (c y hy)⟩
  obtain ⟨a, b, c⟩ := hsub l hx
  simp only [Tm.size, Tm.depth] at h1 h2
  refine ⟨by omega, by omega, fun y hy => h3 y ?_⟩
  simp only [Tm.flat]
  exact List.mem_cons_of_mem _ (c y hy)
theorem good_depth {α : Type} {t : Tm α} (h : goodB t = true) : t.depth ≤ 64 := by
  unfold goodB at h; simp at h; exact h.2.1
theorem good_ones {α : Type} {t : Tm α} (h : goodB t = true) : ∀ x ∈ t.flat, goodOneB x = true := by
  unfold goodB at h; simp only [Bool.and_eq_true, List.all_eq_true] at h; exact h.2.2
theorem varsB_le {α : Type} (t : Tm α) : (varsB t).length ≤ 2000 := by
  unfold varsB
  split
  · rename_i h
    have h1 := addVar_le t.flat []
    have h2 := good_size h
    rw [Tm.flat_length] at h1
    simp at h1
    unfold Tm.vars; omega
  · simp

/-- What TermVars sums up. -/
def tvVars {α : Type} (l : List (Tm α)) : List Int := l.foldl (fun vs x => (varsB x).foldl addNew vs) []
def tvSize {α : Type} (l : List (Tm α)) : Nat := 1 + (l.map fun x => min x.size 2001).sum
def tvDepth {α : Type} (l : List (Tm α)) : Nat := l.foldl (fun d x => max d (min x.depth 65)) 0
theorem tvVars_snoc {α : Type} (l : List (Tm α)) (x : Tm α) : tvVars (l ++ [x]) = (varsB x).foldl addNew (tvVars l) := by
  unfold tvVars; rw [List.foldl_append]; rfl
theorem tvSize_snoc {α : Type} (l : List (Tm α)) (x : Tm α) : tvSize (l ++ [x]) = tvSize l + min x.size 2001 := by
  unfold tvSize; rw [List.map_append, List.sum_append]; simp; omega
theorem tvDepth_snoc {α : Type} (l : List (Tm α)) (x : Tm α) : tvDepth (l ++ [x]) = max (tvDepth l) (min x.depth 65) := by
  unfold tvDepth; rw [List.foldl_append]; rfl
theorem tvVars_le {α : Type} (l : List (Tm α)) : (tvVars l).length ≤ 2000 * l.length := by
  suffices h : ∀ vs : List Int, (l.foldl (fun vs x => (varsB x).foldl addNew vs) vs).length ≤ vs.length + 2000 * l.length by
    have := h []; simp at this; exact this
  induction l with
  | nil => simp
  | cons x l ih =>
    intro vs
    rw [List.foldl_cons, List.length_cons]
    have h1 := ih ((varsB x).foldl addNew vs)
    have h2 := foldNew_le (varsB x) vs
    have h3 := varsB_le x
    omega
theorem tv_good {α : Type} {s : ByteArray} {e : α} {l : List (Tm α)} (h : goodB (.mk 2 0 s e l) = true) :
    varsB (.mk 2 0 s e l) = tvVars l ∧ (Tm.mk 2 0 s e l).size = tvSize l ∧ (Tm.mk 2 0 s e l).depth = tvDepth l + 1 := by
  have hg := good_args h
  refine ⟨?_, ?_, ?_⟩
  · unfold varsB
    rw [if_pos h]
    unfold Tm.vars tvVars
    simp only [Tm.flat, List.foldl_cons]
    have h0 : Tm.addVar [] (.mk 2 0 s e l) = [] := by unfold Tm.addVar; simp [Tm.kind]
    rw [h0, ← vars_flats]
    clear h h0
    suffices hh : ∀ vs : List Int, l.foldl (fun vs x => x.vars.foldl addNew vs) vs = l.foldl (fun vs x => (varsB x).foldl addNew vs) vs from hh []
    induction l with
    | nil => intro vs; rfl
    | cons x l ih =>
      intro vs
      rw [List.foldl_cons, List.foldl_cons, ih (fun y hy => hg y (List.mem_cons_of_mem _ hy))]
      rw [show varsB x = x.vars by unfold varsB; rw [if_pos (hg x (List.mem_cons_self ..))]]
  · simp only [Tm.size, tvSize]
    congr 1
    clear h
    induction l with
    | nil => rfl
    | cons x l ih =>
      simp only [Tm.sizes, List.map_cons, List.sum_cons]
      have := good_size (hg x (List.mem_cons_self ..))
      rw [ih (fun y hy => hg y (List.mem_cons_of_mem _ hy))]
      omega
  · simp only [Tm.depth, tvDepth]
    clear h
    suffices hh : ∀ d : Nat, l.foldl (fun d x => max d (min x.depth 65)) d = max d (Tm.depths l) by rw [hh 0]; omega
    induction l with
    | nil => intro d; simp [Tm.depths]
    | cons x l ih =>
      intro d
      have := good_depth (hg x (List.mem_cons_self ..))
      rw [List.foldl_cons, ih (fun y hy => hg y (List.mem_cons_of_mem _ hy))]
      simp only [Tm.depths]; omega

/-- Not deep: slim. -/
theorem deep_slim {α : Type} (k : Nat) : ∀ t : Tm α, deepB k t = false → slim t := by
  induction k with
  | zero => intro t h; simp [deepB] at h
  | succ k ih =>
    intro t h
    simp only [deepB, Bool.or_eq_false_iff, decide_eq_false_iff_not, List.any_eq_false] at h
    intro x hx
    rw [Tm.flat_eq] at hx
    rcases List.mem_cons.1 hx with rfl | hx
    · omega
    · obtain ⟨h1, h2⟩ := h
      clear h1
      revert hx
      generalize t.args = l at h2
      induction l with
      | nil => intro hx; simp [Tm.flats] at hx
      | cons y l ih2 =>
        intro hx
        simp only [Tm.flats, List.mem_append] at hx
        rcases hx with hx | hx
        · exact ih y (by have := h2 y (List.mem_cons_self ..); simpa using this) x hx
        · exact ih2 (fun z hz => h2 z (List.mem_cons_of_mem _ hz)) hx
theorem slim_mk {α : Type} {k n : Int} {s : ByteArray} {e : α} {l : List (Tm α)} (hl : l.length ≤ 12) (h : ∀ x ∈ l, slim x) : slim (.mk k n s e l) := by
  intro x hx
  simp only [Tm.flat, List.mem_cons] at hx
  rcases hx with rfl | hx
  · exact hl
  · clear hl
    induction l with
    | nil => simp [Tm.flats] at hx
    | cons y l ih =>
      simp only [Tm.flats, List.mem_append] at hx
      rcases hx with hx | hx
      · exact h y (List.mem_cons_self ..) x hx
      · exact ih (fun z hz => h z (List.mem_cons_of_mem _ hz)) hx
end Go.Proofs.Ytoihjobdfjajfaa

/- TermVars: the walk. -/
namespace Go.Proofs.Ytoihjobdfjajfaa
set_option linter.unusedVariables false
set_option linter.unusedSimpArgs false
open Go.RowKit

theorem LT.Lies.at {p : Nat → Prop} {w : World} {b o : Nat} {l : List LT} (h : LT.Lies p w (some ⟨b, o, none⟩) l) {i : Nat} {x : LT} (hi : l[i]? = some x) :
    w.cell? ⟨b, o + i * 4, none⟩ = some (.int .i64 x.kind) ∧ w.cell? ⟨b, o + i * 4 + 1, none⟩ = some (.int .i64 x.n) ∧ w.cell? ⟨b, o + i * 4 + 2, none⟩ = some (.string x.name) ∧ w.cell? ⟨b, o + i * 4 + 3, none⟩ = some (.slice x.at_.1 x.args.length x.at_.2) := by
  obtain ⟨b', o', e, _, h⟩ := h.cell hi
  injection e with e
  injection e with e1 e2
  subst e1 e2
  exact h
theorem LT.Sl.mem {p : Nat → Prop} {w : World} {a : Option Addr} {c : Nat} {l : List LT} (h : LT.Sl p w a c l) {i : Nat} {x : LT} (hi : l[i]? = some x) : x.In p w := (LT.ins_iff _).1 h.ins x (List.mem_of_getElem? hi)

/-- At the head of the outer loop. -/
def TVR (w0 : World) (l : List LT) (g : Nat) (v3 n d i : Value) (wr : World) : Prop :=
  ∃ j N D : Nat, Hid (j + g = l.length) ∧ j ≤ l.length ∧ i = .int .i64 j ∧ n = .int .i64 N ∧ Hid (N = tvSize (l.take j)) ∧ N ≤ 1 + 2001 * j ∧ d = .int .i64 D ∧ Hid (D = tvDepth (l.take j)) ∧ D ≤ 65 ∧
    Row wr 2 1 v3 (tvVars (l.take j)).length ((tvVars (l.take j)).map (Value.int .i64)) ∧ (∀ k, v3.ownBlock = some k → w0.heap.size ≤ k) ∧ Turned (fun _ => False) w0 wr ∧ (∀ x ∈ l.take j, slim x)
/-- At the head of the middle loop: k of the numbers ns (in the row of v7) have been looked at; there were vs. -/
def TVM (w0 : World) (ns vs : List Int) (v7 : Value) (g : Nat) (v3 k : Value) (wr : World) : Prop :=
  ∃ j : Nat, Hid (j + g = ns.length) ∧ j ≤ ns.length ∧ k = .int .i64 j ∧ Row wr 2 1 v3 ((ns.take j).foldl addNew vs).length (((ns.take j).foldl addNew vs).map (Value.int .i64)) ∧ (∀ k, v3.ownBlock = some k → w0.heap.size ≤ k ∧ v7.ownBlock ≠ some k) ∧
    Row wr 2 1 v7 ns.length (ns.map (Value.int .i64)) ∧ Turned (fun _ => False) w0 wr
/-- At the head of the inner loop. -/
def TVQ (wb : World) (us : List Int) (y : Int) (g : Nat) (there q : Value) (wr : World) : Prop :=
  ∃ (j : Nat) (t : Bool), Hid (j + g = us.length) ∧ j ≤ us.length ∧ q = .int .i64 j ∧ there = .bool t ∧ Hid (t = decide (y ∈ us.take j)) ∧ Turned (fun _ => False) wb wr

theorem compP {p : Nat → Prop} {w : World} {a : Option Addr} {c : Nat} {l : List LT} (s : ByteArray) (hs : s.size ≤ maxLen) (hl : l.length ≤ 65536) (h : LT.Sl p w a c l) :
    Calls Try.prog 37 #[.string s, .slice a l.length c] w fun e w' => ∃ a' c', e = .returned (.agg #[.int .i64 2, .int .i64 0, .string s, .slice a' l.length c']) ∧ LT.In (fun _ => True) w' (.mk 2 0 s (a', c') l) ∧ Turned (fun _ => False) w w' := by
  refine (comp37 s hs h hl).mono ?_
  rintro e w' ⟨d, rfl, hi, ht⟩
  exact ⟨d.1, d.2, rfl, hi.mono (fun _ _ _ => trivial), ht⟩

set_option maxRecDepth 100000 in
set_option maxHeartbeats 3200000 in
theorem termVars {p : Nat → Prop} {w : World} {a : Option Addr} {c : Nat} {l : List LT} (h : LT.Sl p w a c l) :
    Calls Try.prog 3 #[.slice a l.length c] w fun e w' => e = .returned (.bool true) ∧ Turned (fun _ => False) w w' := by
  have hmx : l.length ≤ 9223372036854775807 := by have := h.cap; have := h.max; unfold maxLen at this; omega
  by_cases h8 : 1 ≤ l.length ∧ l.length ≤ 8
  · obtain ⟨h1, h8⟩ := h8
    obtain ⟨b, o, rfl, _⟩ := h.lies (by omega)
    have H := Lib.hid h
    clear h
    go_enter Try.func3, Try.ntmps3
    go_wp2_with (go_at_call 32; refine (awake32 _).mono ?_; rintro e w1 ⟨rfl, T1⟩)
    go_loopg [3, 4, 5, 6] l.length (fun g v3 n d i wr => TVR w l g v3 n d i wr)
    case atStart =>
      exact ⟨0, 1, 0, Nat.zero_add _, Nat.zero_le _, rfl, rfl, rfl, by omega, rfl, rfl, by omega, Row.nil _ _ _, fun k hk => by simp [Value.ownBlock] at hk, T1, fun x hx => by simp at hx⟩
    case round =>
      obtain ⟨j, N, D, HG, hj, rfl, rfl, HN, hN, rfl, HD, hD, hrow, hown, Tr, hslim⟩ := hrel
      obtain ⟨wo, rfl⟩ : ∃ wo : World, wo = wr := ⟨_, rfl⟩
      obtain ⟨go, rfl⟩ : ∃ go : Nat, go = gk := ⟨_, rfl⟩
      obtain ⟨v3, rfl⟩ : ∃ v3 : Value, v3 = u3 := ⟨_, rfl⟩
      by_cases hjl : j < l.length
      · have hx : l[j]? = some l[j] := List.getElem?_eq_getElem hjl
        obtain ⟨x, hxe⟩ : ∃ x : LT, x = l[j] := ⟨_, rfl⟩
        rw [← hxe] at hx
        clear hxe
        have hcell := fun W (hW : Turned (fun _ => False) w W) => (H.out.turned0 hW).lies.at hx
        have hxin := fun W (hW : Turned (fun _ => False) w W) => (H.out.turned0 hW).mem hx
        have HX := Lib.hid hx
        have HC := Lib.hid hcell
        have HI := Lib.hid hxin
        obtain ⟨c0, c1, c2, c3⟩ := hcell _ Tr
        clear hx hcell hxin
        have hdeep := fun W (hW : Turned (fun _ => False) w W) => deep33 p 30 x W (by omega) (HI.out W hW)
        rw [LT.val_eq] at hdeep
        have HDP := Lib.hid hdeep
        clear hdeep
        cases hdp : deepB 30 x with
        | true =>
          rw [hdp] at HDP
          go_wp2_with (go_at_call 33; refine (HDP.out _ Tr).mono ?_; rintro e w2 ⟨rfl, T2⟩)
          go_ret
          exact ⟨rfl, Tr.trans T2⟩
        | false =>
          rw [hdp] at HDP
          have hsx := deep_slim 30 x hdp
          have hvars := fun W (hW : Turned (fun _ => False) w W) => vars34 (HI.out W hW) hsx
          have hsize := fun W (hW : Turned (fun _ => False) w W) => size35 (HI.out W hW) hsx
          have hdepth := fun W (hW : Turned (fun _ => False) w W) => depth36 (HI.out W hW)
          rw [LT.val_eq] at hvars hsize hdepth
          have HV := Lib.hid hvars
          have HS := Lib.hid hsize
          have HDE := Lib.hid hdepth
          have HSX := Lib.hid hsx
          have HROW := Lib.hid hrow
          have HSL := Lib.hid hslim
          clear hvars hsize hdepth hdp hsx hrow hslim
          go_wp2_with (first
            | (go_at_call 33; refine (HDP.out _ Tr).mono ?_; rintro e w2 ⟨rfl, T2⟩; obtain ⟨d0, d1, d2, d3⟩ := HC.out _ (Tr.trans T2))
            | (go_at_call 34; refine (HV.out _ (Tr.trans T2)).mono ?_; rintro e w3 ⟨v7, rfl, r7, n7, T3⟩))
          obtain ⟨a7, c7, rfl⟩ := r7.shape
          have hvl := varsB_le x
          have hr7 := r7.max
          have hr71 := hr7.1
          have hr72 := hr7.2
          have hvs := tvVars_le (l.take j)
          have hvs2 : (tvVars (l.take j)).length ≤ 16000 := by rw [List.length_take] at hvs; omega
          have hT3 : Turned (fun _ => False) w w3 := Tr.trans (T2.trans T3)
          have HR7 := Lib.hid r7
          clear r7 hr7 hvs
          go_loopg [3, 8] (varsB x).length (fun g v3 k wr => TVM w (varsB x) (tvVars (l.take j)) (.slice a7 (varsB x).length c7) g v3 k wr)
          case atStart =>
            refine ⟨0, Nat.zero_add _, Nat.zero_le _, rfl, HROW.out.turned0 (T2.trans T3), fun k hk => ⟨hown k hk, fun e => ?_⟩, HR7.out, hT3⟩
            have := n7 k e
            have h1 := HROW.out.lt k hk
            have h2 := T2.size
            omega
          case round =>
            obtain ⟨k, HK, hk, rfl, r3, o3, r7, Tm⟩ := hrel
            obtain ⟨wm, rfl⟩ : ∃ wm : World, wm = wr := ⟨_, rfl⟩
            obtain ⟨gm, rfl⟩ : ∃ gm : Nat, gm = gk := ⟨_, rfl⟩
            obtain ⟨v4, rfl⟩ : ∃ v4 : Value, v4 = u3 := ⟨_, rfl⟩
            obtain ⟨us, hus⟩ : ∃ us, us = ((varsB x).take k).foldl addNew (tvVars (l.take j)) := ⟨_, rfl⟩
            rw [← hus] at r3
            have HU := Lib.hid hus
            have hul : us.length ≤ 18000 := by
              have h1 := foldNew_le ((varsB x).take k) (tvVars (l.take j))
              rw [← hus, List.length_take] at h1
              omega
            obtain ⟨a4, c4, rfl⟩ := r3.shape
            have hr3 := r3.max
            have hr31 := hr3.1
            have hr32 := hr3.2
            have R3 := Lib.hid r3
            have R7 := Lib.hid r7
            clear hus r3 r7 hr3
            by_cases hkl : k < (varsB x).length
            · have hy : (varsB x)[k]? = some (varsB x)[k] := List.getElem?_eq_getElem hkl
              obtain ⟨y, hye⟩ : ∃ y, y = (varsB x)[k] := ⟨_, rfl⟩
              rw [← hye] at hy
              obtain ⟨g7, rfl⟩ := R7.out.addr_pos (by omega)
              have hyc := fun W (hW : Turned (fun _ => False) wm W) => (R7.out.turned0 hW).int_at hy
              have HYC := Lib.hid hyc
              have HY := Lib.hid hy
              clear hye hy hyc
              have z1 : (0 : Int) ≤ (k : Int) := by omega
              have z2 : (k : Int) < ((varsB x).length : Int) := by omega
              go_wp2_with fail
              go_loopg [9, 10] us.length (fun g t q wr => TVQ wm us y g t q wr)
              case atStart => exact ⟨0, false, Nat.zero_add _, Nat.zero_le _, rfl, rfl, show _ = _ by simp, Turned.refl _ _⟩
              case round =>
                obtain ⟨q, t, HQ, hq, rfl, rfl, HTT, Tq⟩ := hrel
                by_cases hql : q < us.length
                · have hu : us[q]? = some us[q] := List.getElem?_eq_getElem hql
                  obtain ⟨u, hue⟩ : ∃ u, u = us[q] := ⟨_, rfl⟩
                  rw [← hue] at hu
                  obtain ⟨g4, rfl⟩ := R3.out.addr_pos (by omega)
                  have k1 := (R3.out.turned0 Tq).int_at hu
                  have k2 := HYC.out _ Tq
                  have HUU := Lib.hid hu
                  clear hue hu
                  have z3 : (0 : Int) ≤ (q : Int) := by omega
                  have z4 : (q : Int) < (us.length : Int) := by omega
                  cases t with
                  | true =>
                    go_wp2_with fail
                    go_quiet (fail)
                    go_wp2_with fail
                    go_roundg (gk - 1)
                    case measure => have := HQ.out; omega
                    case rel =>
                      refine ⟨q + 1, true, show _ = _ by have := HQ.out; omega, by omega, by go_num, rfl, ?_, Tq.trans ((Turned.refl _ _).drewN _)⟩
                      show _ = _
                      have hm := of_decide_eq_true HTT.out.symm
                      rw [take_snoc' _ _ _ HUU.out]
                      symm
                      rw [decide_eq_true_eq]
                      exact List.mem_append_left _ hm
                  | false =>
                    go_wp2_with fail
                    go_quiet (fail)
                    go_wp2_with fail
                    go_roundg (gk - 1)
                    case measure => have := HQ.out; omega
                    case rel =>
                      refine ⟨q + 1, u == y, show _ = _ by have := HQ.out; omega, by omega, by go_num, rfl, ?_, Tq.trans ((Turned.refl _ _).drewN _)⟩
                      show _ = _
                      have hm := of_decide_eq_false HTT.out.symm
                      rw [take_snoc' _ _ _ HUU.out, Bool.eq_iff_iff, beq_iff_eq, decide_eq_true_eq, List.mem_append, List.mem_singleton]
                      exact ⟨fun e => .inr e.symm, fun e => by rcases e with e | e; exact absurd e hm; exact e.symm⟩
                · have hqe : q = us.length := by omega
                  have htt := HTT.out
                  rw [hqe, List.take_length] at htt
                  have k2 := HYC.out _ Tq
                  have HT2 := Lib.hid htt
                  clear hqe htt HTT
                  cases t with
                  | true =>
                    go_wp2_with fail
                    go_roundg (gm - 1)
                    case measure => have := HK.out; omega
                    case rel =>
                      have hm := of_decide_eq_true HT2.out.symm
                      have hn : ((varsB x).take (k + 1)).foldl addNew (tvVars (l.take j)) = us := by
                        rw [take_snoc' _ _ _ HY.out, List.foldl_append, ← HU.out]
                        exact addNew_yes hm
                      refine ⟨k + 1, show _ = _ by have := HK.out; omega, by omega, by go_num, ?_, o3, R7.out.turned0 Tq, Tm.trans Tq⟩
                      rw [hn]
                      exact R3.out.turned0 Tq
                  | false =>
                    obtain ⟨i0, hi0, hz0, hz1, hz2⟩ := info_parts infoI
                    have hrow := (R3.out.turned0 Tq)
                    go_wp2_with (at_builtin; refine append_some _ rfl _ _ 24 rfl 2 i0 (.int .i64 0) 1 8 Try.underlying24 hi0 hz0 hz1 hz2 rfl (by decide) _ _ _ rfl (hrow.alloc _) ⟨wr.heap.size, 0, none⟩ 1 1 [.int .i64 y] rfl rfl (cell_one_new _ _ _) (by simp [Value.oneCell']) (by omega) (by unfold maxLen; omega) (by omega) ?_; intro g5 cap5 w5 hown5 T5 hloc5)
                    go_roundg (gm - 1)
                    case measure => have := HK.out; omega
                    case rel =>
                      have hm := of_decide_eq_false HT2.out.symm
                      have hn : ((varsB x).take (k + 1)).foldl addNew (tvVars (l.take j)) = us ++ [y] := by
                        rw [take_snoc' _ _ _ HY.out, List.foldl_append, ← HU.out]
                        exact addNew_no hm
                      have hsz := Tq.size
                      have hsz0 := Tm.size
                      refine ⟨k + 1, show _ = _ by have := HK.out; omega, by omega, by go_num, ?_, fun k' hk' => ?_, ?_, ?_⟩
                      · rw [hn, List.length_append, List.length_singleton, List.map_append]
                        exact hown5
                      · rcases hloc5 with e | e
                        · exact o3 k' (e.symm.trans hk')
                        · simp [Value.ownBlock] at hk'
                          simp at e
                          refine ⟨by omega, fun e7 => ?_⟩
                          have := R7.out.lt k' e7
                          omega
                      · refine ((R7.out.turned0 Tq).alloc _).turned T5 (fun k' h7 h3 => (o3 k' h3).2 h7)
                      · refine (Tm.trans (Tq.trans ((Turned.refl _ wr).alloc _))).step T5 (fun i hi h3 => ?_)
                        have := (o3 i h3).1
                        omega
            · have hke : k = (varsB x).length := by omega
              have hus := HU.out
              rw [hke, List.take_length, ← tvVars_snoc, ← take_snoc' _ _ _ HX.out] at hus
              have HU2 := Lib.hid hus
              obtain ⟨d0, d1, d2, d3⟩ := HC.out _ Tm
              clear hke hus HU
              by_cases hDx : D < min x.depth 65
              · have hDt : decide ((D : Int) < ((min x.depth 65 : Nat) : Int)) = true := by simp; omega
                go_wp2_with (first
                  | (go_at_call 35; refine (HS.out _ Tm).mono ?_; rintro e w5 ⟨rfl, T5⟩; obtain ⟨e0, e1, e2, e3⟩ := HC.out _ (Tm.trans T5))
                  | (go_at_call 36; refine (HDE.out _ (Tm.trans T5)).mono ?_; rintro e w6 ⟨rfl, T6⟩; obtain ⟨f0, f1, f2, f3⟩ := HC.out _ (Tm.trans (T5.trans T6)))
                  | (go_at_call 36; refine (HDE.out _ (Tm.trans (T5.trans T6))).mono ?_; rintro e w7 ⟨rfl, T7⟩))
                go_roundg (go - 1)
                case measure => have := HG.out; omega
                case rel =>
                  have TT := T5.trans (T6.trans T7)
                  have hN2 := HN.out
                  have hD2 := HD.out
                  refine ⟨j + 1, N + min x.size 2001, min x.depth 65, show _ = _ by have := HG.out; omega, by omega, by go_num, by go_num, ?_, by omega, rfl, ?_, by omega, ?_, fun k hk => (o3 k hk).1, Tm.trans TT, ?_⟩
                  · show _ = _; rw [take_snoc' _ _ _ HX.out, tvSize_snoc]; omega
                  · show _ = _; rw [take_snoc' _ _ _ HX.out, tvDepth_snoc]; omega
                  · rw [← HU2.out]; exact R3.out.turned0 TT
                  · rw [take_snoc' _ _ _ HX.out]
                    intro z hz
                    rcases List.mem_append.1 hz with hz | hz
                    · exact HSL.out z hz
                    · rw [List.mem_singleton.1 hz]; exact HSX.out
              · have hDt : decide ((D : Int) < ((min x.depth 65 : Nat) : Int)) = false := by simp; omega
                go_wp2_with (first
                  | (go_at_call 35; refine (HS.out _ Tm).mono ?_; rintro e w5 ⟨rfl, T5⟩; obtain ⟨e0, e1, e2, e3⟩ := HC.out _ (Tm.trans T5))
                  | (go_at_call 36; refine (HDE.out _ (Tm.trans T5)).mono ?_; rintro e w6 ⟨rfl, T6⟩))
                go_roundg (go - 1)
                case measure => have := HG.out; omega
                case rel =>
                  have TT := T5.trans T6
                  have hN2 := HN.out
                  have hD2 := HD.out
                  refine ⟨j + 1, N + min x.size 2001, D, show _ = _ by have := HG.out; omega, by omega, by go_num, by go_num, ?_, by omega, rfl, ?_, by omega, ?_, fun k hk => (o3 k hk).1, Tm.trans TT, ?_⟩
                  · show _ = _; rw [take_snoc' _ _ _ HX.out, tvSize_snoc]; omega
                  · show _ = _; rw [take_snoc' _ _ _ HX.out, tvDepth_snoc]; omega
                  · rw [← HU2.out]; exact R3.out.turned0 TT
                  · rw [take_snoc' _ _ _ HX.out]
                    intro z hz
                    rcases List.mem_append.1 hz with hz | hz
                    · exact HSL.out z hz
                    · rw [List.mem_singleton.1 hz]; exact HSX.out
      · have hje : j = l.length := by omega
        subst hje
        rw [List.take_length] at HN HD hrow hslim
        have HROW := Lib.hid hrow
        have hsl : ∀ a' c', slim (Tm.mk 2 0 ⟨#[102]⟩ (a', c') l) := fun a' c' => slim_mk (by omega) hslim
        have hSlf := H.out.turned0 Tr
        have HSL := Lib.hid hsl
        have HSF := Lib.hid hSlf
        clear hrow hsl hslim hSlf
        go_wp2_with (first
          | (go_at_call 37; refine (compP ⟨#[102]⟩ (by unfold maxLen; decide) (by omega) HSF.out).mono ?_; rintro e w3 ⟨a3, c3, rfl, i3, T3⟩)
          | (go_at_call 38; have T4 := (Turned.refl (fun _ => False) w3).alloc (.cells #[.int .i64 2, .int .i64 0, .string ⟨#[102]⟩, .slice a3 l.length c3] 27); refine (good38 (t := .mk 2 0 ⟨#[102]⟩ (a3, c3) l) (i3.turned0 T4) (HSL.out _ _)).mono ?_; rintro e w5 ⟨rfl, T5⟩; obtain ⟨b0, b1, b2, b3, bl⟩ := boxAt T5)
          | (go_at_call 34; have hg : goodB (Tm.mk 2 0 ⟨#[102]⟩ (a3, c3) l) = true := (by assumption); obtain ⟨q1, q2, q3⟩ := tv_good hg; have hs2 := good_size hg; have hd2 := good_depth hg; refine (vars34 (t := .mk 2 0 ⟨#[102]⟩ (a3, c3) l) (i3.turned0 (T4.trans T5)) (HSL.out _ _)).mono ?_; rintro e w6 ⟨v6, rfl, r6, n6, T6⟩; rw [q1] at r6; have HR6 := Lib.hid r6; have hN2 := HN.out; have hD2 := HD.out; have hsz : (((min (Tm.mk 2 0 ⟨#[102]⟩ (a3, c3) l).size 2001 : Nat) : Int) == (N : Int)) = true := (by rw [beq_iff_eq]; omega); have hdz : (((min (Tm.mk 2 0 ⟨#[102]⟩ (a3, c3) l).depth 65 : Nat) : Int) == (D : Int) + 1) = true := (by rw [beq_iff_eq]; omega); clear r6 q1 q2 q3 hN2 hD2 hs2 hd2 hg; obtain ⟨b4, b5, b6, b7, bl1⟩ := boxAt (T5.trans T6))
          | (go_at_call 39; refine (nums39 HR6.out (HROW.out.turned0 (T3.trans (T4.trans (T5.trans T6))))).mono ?_; rintro e w7 ⟨rfl, T7⟩; obtain ⟨g0, g1, g2, g3, gl⟩ := boxAt (T5.trans (T6.trans T7)))
          | (go_at_call 35; refine (size35 (t := .mk 2 0 ⟨#[102]⟩ (a3, c3) l) (i3.turned0 (T4.trans (T5.trans (T6.trans T7)))) (HSL.out _ _)).mono ?_; rintro e w8 ⟨rfl, T8⟩; obtain ⟨k0, k1, k2, k3, kl⟩ := boxAt (T5.trans (T6.trans (T7.trans T8))))
          | (go_at_call 36; refine (depth36 (t := .mk 2 0 ⟨#[102]⟩ (a3, c3) l) (i3.turned0 (T4.trans (T5.trans (T6.trans (T7.trans T8)))))).mono ?_; rintro e w9 ⟨rfl, T9⟩))
        · go_ret
          exact ⟨rfl, Tr.trans (T3.trans (T4.trans (T5.trans (T6.trans (T7.trans (T8.trans T9))))))⟩
        · go_ret
          exact ⟨rfl, Tr.trans (T3.trans (T4.trans T5))⟩
  · clear h
    by_cases h1 : l.length < 1
    · have hd : decide ((l.length : Int) < 1) = true := by simp; omega
      go_enter Try.func3, Try.ntmps3
      go_wp2_with (go_at_call 32; refine (awake32 _).mono ?_; rintro e w1 ⟨rfl, T1⟩)
      go_ret
      exact ⟨rfl, T1⟩
    · have h9 : 8 < l.length := by omega
      have hd : decide ((l.length : Int) < 1) = false := by simp; omega
      have hd2 : decide (8 < (l.length : Int)) = true := by simp; omega
      clear h1 h8
      go_enter Try.func3, Try.ntmps3
      go_wp2_with (go_at_call 32; refine (awake32 _).mono ?_; rintro e w1 ⟨rfl, T1⟩)
      go_ret
      exact ⟨rfl, T1⟩
end Go.Proofs.Ytoihjobdfjajfaa

/- Keys of heads: Of, May. -/
namespace Go.Proofs.Ytoihjobdfjajfaa
set_option linter.unusedVariables false
set_option linter.unusedSimpArgs false
open Go.RowKit

structure Key where
  kind : Int
  n : Int
  name : ByteArray
  arity : Int
  deriving DecidableEq
def Key.val (k : Key) : Value := .agg #[.int .i64 k.kind, .int .i64 k.n, .string k.name, .int .i64 k.arity]
def Key.zero : Key := ⟨0, 0, ByteArray.empty, 0⟩
/-- The key of a term's first arg. -/
def keyOf1 {α : Type} (x : Tm α) : Key := if x.kind = 0 then Key.zero else if x.kind = 1 then ⟨1, x.n, ByteArray.empty, 0⟩ else ⟨x.kind, 0, x.name, x.args.length⟩
def keyOf {α : Type} (t : Tm α) : Key := match t.args with
  | [] => Key.zero
  | x :: _ => if goodB t then keyOf1 x else Key.zero

theorem keyOf_nil {α : Type} {t : Tm α} (h : t.args = []) : keyOf t = Key.zero := by unfold keyOf; rw [h]
theorem keyOf_cons {α : Type} {t x : Tm α} {r : List (Tm α)} (h : t.args = x :: r) (g : goodB t = true) : keyOf t = keyOf1 x := by unfold keyOf; rw [h]; exact if_pos g
theorem keyOf_bad {α : Type} {t : Tm α} (g : goodB t = false) : keyOf t = Key.zero := by
  unfold keyOf
  generalize t.args = l
  cases l with
  | nil => rfl
  | cons x r => exact if_neg (by rw [g]; decide)
theorem keyOf1_0 {α : Type} {x : Tm α} (h : x.kind = 0) : keyOf1 x = Key.zero := if_pos h
theorem keyOf1_1 {α : Type} {x : Tm α} (h : x.kind = 1) : keyOf1 x = ⟨1, x.n, ByteArray.empty, 0⟩ := by unfold keyOf1; rw [if_neg (by omega), if_pos h]
theorem keyOf1_2 {α : Type} {x : Tm α} (h0 : ¬ x.kind = 0) (h1 : ¬ x.kind = 1) : keyOf1 x = ⟨x.kind, 0, x.name, x.args.length⟩ := by unfold keyOf1; rw [if_neg h0, if_neg h1]
theorem set4v {w : World} {g : Nat} {a b c d a' b' c' d' : Value} {T : TypeId} (h : w.heap[g]? = some (.cells #[a, b, c, d] T (0, 0))) :
    ((((w.setCell ⟨g, 0, none⟩ a').setCell ⟨g, 1, none⟩ b').setCell ⟨g, 2, none⟩ c').setCell ⟨g, 3, none⟩ d').heap[g]? = some (.cells #[a', b', c', d'] T (0, 0)) := set4 h

theorem set4_alloc {w : World} {g : Nat} {a b c d a' b' c' d' : Value} {T : TypeId} {o : Obj} (h : w.heap[g]? = some (.cells #[a, b, c, d] T (0, 0))) :
    (((((w.setCell ⟨g, 0, none⟩ a').setCell ⟨g, 1, none⟩ b').setCell ⟨g, 2, none⟩ c').setCell ⟨g, 3, none⟩ d').alloc o).heap[g]? = some (.cells #[a', b', c', d'] T (0, 0)) := by
  have hl := (Array.getElem?_eq_some_iff.1 h).1
  exact (Below.heap_alloc _ _ _ (by simpa [World.setCell] using hl)).trans (set4 h)

set_option maxRecDepth 100000 in
set_option maxHeartbeats 1600000 in
theorem of42 {p : Nat → Prop} {t : LT} {w : World} (ht : t.In p w) (hs : slim t) :
    Calls Try.prog 42 #[t.val] w fun e w' => e = .returned (keyOf t).val ∧ Turned (fun _ => False) w w' := by
  have hlm := hs t (by rw [Tm.flat_eq]; exact List.mem_cons_self ..)
  obtain ⟨ad, had⟩ : ∃ a, a = t.at_.1 := ⟨_, rfl⟩
  have hlies := fun W (h : t.In p W) => h.lies
  rw [← had] at hlies
  obtain ⟨m, hm⟩ : ∃ m, m = t.args.length := ⟨_, rfl⟩
  obtain ⟨b1, hb1⟩ : ∃ bx : Obj, bx = .cells #[.int .i64 t.kind, .int .i64 t.n, .string t.name, .slice ad m t.at_.2] 27 := ⟨_, rfl⟩
  obtain ⟨b2, hb2⟩ : ∃ bx : Obj, bx = .cells #[.int .i64 0, .int .i64 0, .string ⟨#[]⟩, .int .i64 0] 35 := ⟨_, rfl⟩
  have T1 := ((Turned.refl (fun _ => False) w).alloc b1).alloc b2
  have hg := good38 (ht.turned0 T1) hs
  have hc : ∀ W, Turned (fun _ => False) ((w.alloc b1).alloc b2) W → W.heap[w.heap.size]? = some b1 ∧ W.heap[w.heap.size + 1]? = some b2 ∧ w.heap.size + 1 < W.heap.size := by
    intro W h
    have hs := h.size
    simp at hs
    exact ⟨(h.block _ (by simp; omega) (fun f => f)).trans (heap_alloc2_old w b1 b2), (h.block _ (by simp) (fun f => f)).trans (heap_alloc2_new w b1 b2), by omega⟩
  rw [LT.val_eq, ← had, ← hm] at hg ⊢
  subst hb1 hb2
  have HLI := Lib.hid hlies
  have hcap := ht.len
  have hca : m ≤ t.at_.2 := by rw [hm]; exact hcap.1
  have hcm : m ≤ 12 := by rw [hm]; exact hlm
  clear had hlies hcap hlm
  have HG := Lib.hid hg
  have HC := Lib.hid hc
  have HT := Lib.hid T1
  have HI := Lib.hid ht
  clear hg hc T1 ht hs
  by_cases g : goodB t = true
  · cases hargs : t.args with
    | nil =>
      have HK := Lib.hid (keyOf_nil hargs)
      have hm0 : m = 0 := by rw [hm, hargs]; rfl
      clear hargs hm
      subst hm0
      go_enter Try.func42, Try.ntmps42
      go_wp2_with (go_at_call 38; refine HG.out.mono ?_; rintro e w2 ⟨rfl, T2⟩; obtain ⟨h1, h2, hl⟩ := HC.out _ T2; obtain ⟨c0, c1, c2, c3, _⟩ := cells4 h1; obtain ⟨d0, d1, d2, d3, f0, f1, f2, f3⟩ := cells4 h2; have H1 := Lib.hid h1; have H2 := Lib.hid h2; clear h1 h2)
      refine bodyPost_ret (v := Key.zero.val) (results_cell_row Try.results42 _ _ (w.heap.size + 1) 35 _ (0, 0) _ rfl (set4 H2.out) Try.underlying35 rfl (by kernel_rfl)) rfl ⟨by rw [HK.out], turned4 (HT.out.trans T2) (by omega)⟩
    | cons x r =>
      have hal2 : 0 < m := by rw [hm, hargs]; simp
      have hal : ((m : Int) == 0) = false := by simp; omega
      have hx0 : t.args[0]? = some x := by rw [hargs]; rfl
      obtain ⟨b, o, rfl, _⟩ := HLI.out w HI.out (by rw [hargs]; simp)
      have hxc := fun W (h : Turned (fun _ => False) w W) => (HLI.out W (HI.out.turned0 h)).at hx0
      simp only [Nat.zero_mul, Nat.add_zero] at hxc
      have HX := Lib.hid hxc
      have HK := Lib.hid (keyOf_cons hargs g)
      clear hxc hargs hx0 hm
      by_cases h0 : x.kind = 0
      · have k0 : (x.kind == 0) = true := by simp [h0]
        have HK1 := Lib.hid (keyOf1_0 h0)
        clear h0
        go_enter Try.func42, Try.ntmps42
        go_wp2_with (go_at_call 38; refine HG.out.mono ?_; rintro e w2 ⟨rfl, T2⟩; obtain ⟨h1, h2, hl⟩ := HC.out _ T2; obtain ⟨c0, c1, c2, c3, _⟩ := cells4 h1; obtain ⟨d0, d1, d2, d3, f0, f1, f2, f3⟩ := cells4 h2; have H1 := Lib.hid h1; have H2 := Lib.hid h2; clear h1 h2; obtain ⟨x0, x1, x2, x3⟩ := HX.out _ (HT.out.trans T2))
        refine bodyPost_ret (v := Key.zero.val) (results_cell_row Try.results42 _ _ (w.heap.size + 1) 35 _ (0, 0) _ rfl (set4_alloc H2.out) Try.underlying35 rfl (by kernel_rfl)) rfl ⟨by rw [HK.out, HK1.out], (turned4 (HT.out.trans T2) (by omega)).alloc _⟩
      · have k0 : (x.kind == 0) = false := by simp [h0]
        by_cases h1 : x.kind = 1
        · have k1 : (x.kind == 1) = true := by simp [h1]
          have HK1 := Lib.hid (keyOf1_1 h1)
          have HE := Lib.hid h1
          clear h0 h1
          go_enter Try.func42, Try.ntmps42
          go_wp2_with (go_at_call 38; refine HG.out.mono ?_; rintro e w2 ⟨rfl, T2⟩; obtain ⟨h1, h2, hl⟩ := HC.out _ T2; obtain ⟨c0, c1, c2, c3, _⟩ := cells4 h1; obtain ⟨d0, d1, d2, d3, f0, f1, f2, f3⟩ := cells4 h2; have H1 := Lib.hid h1; have H2 := Lib.hid h2; clear h1 h2; obtain ⟨x0, x1, x2, x3⟩ := HX.out _ (HT.out.trans T2))
          refine bodyPost_ret (v := .agg #[.int .i64 x.kind, .int .i64 x.n, .string ⟨#[]⟩, .int .i64 0]) (results_cell_row Try.results42 _ _ (w.heap.size + 1) 35 _ (0, 0) _ rfl (set4_alloc H2.out) Try.underlying35 rfl (by kernel_rfl)) rfl ⟨by rw [HK.out, HK1.out]; unfold Key.val; rw [HE.out]; rfl, (turned4 (HT.out.trans T2) (by omega)).alloc _⟩
        · have k1 : (x.kind == 1) = false := by simp [h1]
          have HK1 := Lib.hid (keyOf1_2 h0 h1)
          clear h0 h1
          go_enter Try.func42, Try.ntmps42
          go_wp2_with (go_at_call 38; refine HG.out.mono ?_; rintro e w2 ⟨rfl, T2⟩; obtain ⟨h1, h2, hl⟩ := HC.out _ T2; obtain ⟨c0, c1, c2, c3, _⟩ := cells4 h1; obtain ⟨d0, d1, d2, d3, f0, f1, f2, f3⟩ := cells4 h2; have H1 := Lib.hid h1; have H2 := Lib.hid h2; clear h1 h2; obtain ⟨x0, x1, x2, x3⟩ := HX.out _ (HT.out.trans T2))
          refine bodyPost_ret (v := .agg #[.int .i64 x.kind, .int .i64 0, .string x.name, .int .i64 x.args.length]) (results_cell_row Try.results42 _ _ (w.heap.size + 1) 35 _ (0, 0) _ rfl (set4_alloc H2.out) Try.underlying35 rfl (by kernel_rfl)) rfl ⟨by rw [HK.out, HK1.out]; rfl, (turned4 (HT.out.trans T2) (by omega)).alloc _⟩
  · have g' : goodB t = false := by simpa using g
    have HK := Lib.hid (keyOf_bad g')
    clear g hm
    go_enter Try.func42, Try.ntmps42
    go_wp2_with (go_at_call 38; refine HG.out.mono ?_; rintro e w2 ⟨rfl, T2⟩; obtain ⟨h1, h2, hl⟩ := HC.out _ T2; obtain ⟨c0, c1, c2, c3, _⟩ := cells4 h1; obtain ⟨d0, d1, d2, d3, f0, f1, f2, f3⟩ := cells4 h2; have H1 := Lib.hid h1; have H2 := Lib.hid h2; clear h1 h2)
    refine bodyPost_ret (v := Key.zero.val) (results_cell_row Try.results42 _ _ (w.heap.size + 1) 35 _ (0, 0) _ rfl (set4 H2.out) Try.underlying35 rfl (by kernel_rfl)) rfl ⟨by rw [HK.out], turned4 (HT.out.trans T2) (by omega)⟩
theorem fields35 : Try.prog.underlying 35 = some (.struct (Try.prog.fieldsOf 35)) := by unfold Program.fieldsOf; rw [Try.underlying35]
theorem stood35 : Try.prog.stoodInHeld 35 = false := by kernel_rfl
theorem bytes_eq (s t : ByteArray) : s.toList = t.toList ↔ s = t := by
  rw [ByteArray.toList_eq, ByteArray.toList_eq]
  constructor
  · intro h
    cases s; cases t
    congr 1
    exact Array.toList_inj.1 h
  · rintro rfl; rfl
theorem key_ext {a b : Key} : a = b ↔ a.kind = b.kind ∧ a.n = b.n ∧ a.name = b.name ∧ a.arity = b.arity := by
  cases a; cases b; simp
theorem key_eql (a b : Key) (W : World) : (binOp .eql 35 (.agg #[.int .i64 a.kind, .int .i64 a.n, .string a.name, .int .i64 a.arity]) (.agg #[.int .i64 b.kind, .int .i64 b.n, .string b.name, .int .i64 b.arity])).run Try.prog W = .ok (.bool (decide (a = b))) W := by
  rw [run_eql_struct, show (10000 : Nat) = 9999 + 1 from rfl, run_equalIn_agg _ _ _ _ _ fields35 stood35]
  unfold Program.fieldsOf
  rw [Try.underlying35]
  have hb := bytes_eq a.name b.name
  simp [go_sem, Try.underlying3, Try.underlying2, Try.underlying9, key_ext, hb]
  by_cases h1 : a.kind = b.kind <;> by_cases h2 : a.n = b.n <;> by_cases h3 : a.name = b.name <;> by_cases h4 : a.arity = b.arity <;> simp [h1, h2, h3, h4]

/-- Whether two keys may fit. -/
def mayB (a b : Key) : Bool := decide (a.kind = 0) || (decide (b.kind = 0) || decide (a = b))
set_option maxRecDepth 100000 in
set_option maxHeartbeats 800000 in
theorem may43 (a b : Key) (w : World) : Calls Try.prog 43 #[a.val, b.val] w fun e w' => e = .returned (.bool (mayB a b)) ∧ Turned (fun _ => False) w w' := by
  have hq := key_eql a b
  have HQ := Lib.hid hq
  have T := ((Turned.refl (fun _ => False) w).alloc (.cells #[.int .i64 a.kind, .int .i64 a.n, .string a.name, .int .i64 a.arity] 35)).alloc (.cells #[.int .i64 b.kind, .int .i64 b.n, .string b.name, .int .i64 b.arity] 35)
  have HT := Lib.hid T
  clear hq T
  unfold Key.val
  by_cases h0 : a.kind = 0
  · have k0 : (a.kind == 0) = true := by simp [h0]
    have HR : Hid (mayB a b = true) := by show _ = _; unfold mayB; simp [h0]
    clear h0
    go_enter Try.func43, Try.ntmps43
    go_wp2_with fail
    go_ret
    exact ⟨ret_bool HR.out.symm, HT.out⟩
  · have k0 : (a.kind == 0) = false := by simp [h0]
    by_cases h1 : b.kind = 0
    · have k1 : (b.kind == 0) = true := by simp [h1]
      have HR : Hid (mayB a b = true) := by show _ = _; unfold mayB; simp [h1]
      clear h0 h1
      go_enter Try.func43, Try.ntmps43
      go_wp2_with fail
      go_ret
      exact ⟨ret_bool HR.out.symm, HT.out⟩
    · have k1 : (b.kind == 0) = false := by simp [h1]
      have HR : Hid (mayB a b = decide (a = b)) := by show _ = _; unfold mayB; simp [h0, h1]
      clear h0 h1
      have hq := HQ.out
      go_enter Try.func43, Try.ntmps43
      go_wp2_with fail
      go_ret
      exact ⟨ret_bool HR.out.symm, HT.out⟩
end Go.Proofs.Ytoihjobdfjajfaa

/- The document's key: alike, copied. -/
namespace Go.Proofs.Ytoihjobdfjajfaa
set_option linter.unusedVariables false
set_option linter.unusedSimpArgs false
open Go.RowKit Go.Maps

theorem fields63 : Try.prog.underlying 63 = some (.struct (Try.prog.fieldsOf 63)) := by unfold Program.fieldsOf; rw [Try.underlying63]
theorem stood63 : Try.prog.stoodInHeld 63 = false := by kernel_rfl
theorem key_eql63 (a b : Key) (W : World) : (binOp .eql 63 (.agg #[.int .i64 a.kind, .int .i64 a.n, .string a.name, .int .i64 a.arity]) (.agg #[.int .i64 b.kind, .int .i64 b.n, .string b.name, .int .i64 b.arity])).run Try.prog W = .ok (.bool (decide (a = b))) W := by
  rw [run_eql_struct, show (10000 : Nat) = 9999 + 1 from rfl, run_equalIn_agg _ _ _ _ _ fields63 stood63]
  unfold Program.fieldsOf
  rw [Try.underlying63]
  have hb := bytes_eq a.name b.name
  simp [go_sem, Try.underlying3, Try.underlying2, Try.underlying9, key_ext, hb]
  by_cases h1 : a.kind = b.kind <;> by_cases h2 : a.n = b.n <;> by_cases h3 : a.name = b.name <;> by_cases h4 : a.arity = b.arity <;> simp [h1, h2, h3, h4]

set_option maxRecDepth 100000 in
set_option maxHeartbeats 800000 in
theorem key57 (k : Key) (w : World) : Calls Try.prog 57 #[k.val] w fun e w' => e = .returned k.val ∧ Turned (fun _ => False) w w' := by
  have h2 := heap_alloc2_new w (.cells #[.int .i64 k.kind, .int .i64 k.n, .string k.name, .int .i64 k.arity] 35) (.cells #[.int .i64 k.kind, .int .i64 k.n, .string k.name, .int .i64 k.arity] 63)
  have H2 := Lib.hid h2
  clear h2
  unfold Key.val
  go_enter Try.func57, Try.ntmps57
  go_wp2_with fail
  refine bodyPost_ret (v := .agg #[.int .i64 k.kind, .int .i64 k.n, .string k.name, .int .i64 k.arity]) (results_cell_row Try.results57 _ _ (w.heap.size + 1) 63 _ (0, 0) _ rfl H2.out Try.underlying63 rfl (by kernel_rfl)) rfl ⟨rfl, ((Turned.refl _ w).alloc _).alloc _⟩

end Go.Proofs.Ytoihjobdfjajfaa

/- One ahead of another, plainly: the order of terms. No program in sight. -/
namespace Go.Proofs.Ytoihjobdfjajfaa
set_option linter.unusedVariables false
set_option linter.unusedSimpArgs false

/-- -1, 0, 1. -/
def cmpI (x y : Int) : Int := if x < y then -1 else if y < x then 1 else 0
/-- Texts, byte by byte. -/
def cmpL : List UInt8 → List UInt8 → Int
  | [], [] => 0
  | [], _ :: _ => -1
  | _ :: _, [] => 1
  | x :: l, y :: m => if x < y then -1 else if y < x then 1 else cmpL l m
def cmpS (x y : ByteArray) : Int := cmpL x.data.toList y.data.toList
/-- The first that is not 0. -/
def orI (a b : Int) : Int := if a ≠ 0 then a else b

/-- A three-way order on whatever is asked. -/
structure Three {α : Type} (P : α → Prop) (f : α → α → Int) : Prop where
  range : ∀ a b, f a b = -1 ∨ f a b = 0 ∨ f a b = 1
  anti : ∀ a b, P a → P b → f b a = - f a b
  refl : ∀ a, f a a = 0
  le : ∀ a b c, P a → P b → P c → f a b ≤ 0 → f b c ≤ 0 → f a c ≤ 0 ∧ (f a b < 0 ∨ f b c < 0 → f a c < 0)
theorem cmpI_three : Three (fun _ : Int => True) cmpI := by
  refine ⟨fun a b => ?_, fun a b _ _ => ?_, fun a => ?_, fun a b c _ _ _ => ?_⟩ <;> unfold cmpI
  · by_cases h : a < b
    · simp [h]
    · by_cases h' : b < a <;> simp [h, h']
  · by_cases h : a < b
    · have : ¬ b < a := by omega
      simp [h, this]
    · by_cases h' : b < a <;> simp [h, h']
  · simp
  · by_cases h1 : a < b <;> by_cases h2 : b < a <;> by_cases h3 : b < c <;> by_cases h4 : c < b <;> by_cases h5 : a < c <;> by_cases h6 : c < a <;> simp [h1, h2, h3, h4, h5, h6] <;> omega
theorem cmpI_zero {x y : Int} : cmpI x y = 0 ↔ x = y := by
  unfold cmpI
  by_cases h : x < y
  · simp [h]; omega
  · by_cases h' : y < x
    · simp [h, h']; omega
    · simp [h, h']; omega
theorem cmpL_range (x y : List UInt8) : cmpL x y = -1 ∨ cmpL x y = 0 ∨ cmpL x y = 1 := by
  induction x generalizing y with
  | nil => cases y <;> simp [cmpL]
  | cons a l ih =>
    cases y with
    | nil => simp [cmpL]
    | cons b m =>
      simp only [cmpL]
      by_cases h : a < b
      · simp [h]
      · by_cases h' : b < a
        · simp [h, h']
        · simp [h, h']; exact ih m
theorem cmpL_anti (x y : List UInt8) : cmpL y x = - cmpL x y := by
  induction x generalizing y with
  | nil => cases y <;> simp [cmpL]
  | cons a l ih =>
    cases y with
    | nil => simp [cmpL]
    | cons b m =>
      simp only [cmpL]
      by_cases h : a < b
      · have : ¬ b < a := by rw [UInt8.lt_iff_toNat_lt] at *; omega
        simp [h, this]
      · by_cases h' : b < a
        · simp [h, h']
        · simp [h, h']; exact ih m
theorem cmpL_zero {x y : List UInt8} : cmpL x y = 0 ↔ x = y := by
  induction x generalizing y with
  | nil => cases y <;> simp [cmpL]
  | cons a l ih =>
    cases y with
    | nil => simp [cmpL]
    | cons b m =>
      simp only [cmpL, List.cons.injEq]
      by_cases h : a < b
      · simp [h]; intro e; subst e; rw [UInt8.lt_iff_toNat_lt] at h; omega
      · by_cases h' : b < a
        · simp [h, h']; intro e; subst e; exact absurd h' h
        · have : a = b := by rw [UInt8.lt_iff_toNat_lt] at *; exact UInt8.toNat_inj.1 (by omega)
          simp [h, h', ih, this]
theorem cmpL_le (x y z : List UInt8) : cmpL x y ≤ 0 → cmpL y z ≤ 0 → cmpL x z ≤ 0 ∧ (cmpL x y < 0 ∨ cmpL y z < 0 → cmpL x z < 0) := by
  induction x generalizing y z with
  | nil => cases y <;> cases z <;> simp [cmpL]
  | cons a l ih =>
    cases y with
    | nil => simp [cmpL]
    | cons b m =>
      cases z with
      | nil => simp [cmpL]
      | cons c n =>
        simp only [cmpL, UInt8.lt_iff_toNat_lt]
        have := ih m n
        by_cases h1 : a.toNat < b.toNat <;> by_cases h2 : b.toNat < a.toNat <;> by_cases h3 : b.toNat < c.toNat <;> by_cases h4 : c.toNat < b.toNat <;> by_cases h5 : a.toNat < c.toNat <;> by_cases h6 : c.toNat < a.toNat <;> simp [h1, h2, h3, h4, h5, h6] <;> first | omega | exact this
theorem cmpS_three : Three (fun _ : ByteArray => True) cmpS :=
  ⟨fun a b => cmpL_range _ _, fun a b _ _ => cmpL_anti _ _, fun a => cmpL_zero.2 rfl, fun a b c _ _ _ => cmpL_le _ _ _⟩
theorem cmpS_zero {x y : ByteArray} : cmpS x y = 0 ↔ x = y := by
  unfold cmpS
  rw [cmpL_zero]
  constructor
  · intro h
    cases x; cases y
    congr 1
    exact Array.toList_inj.1 h
  · rintro rfl; rfl
theorem Three.pull {α β : Type} {P : β → Prop} {f : β → β → Int} (h : Three P f) (g : α → β) : Three (fun a => P (g a)) (fun a b => f (g a) (g b)) :=
  ⟨fun _ _ => h.range _ _, fun _ _ p q => h.anti _ _ p q, fun _ => h.refl _, fun _ _ _ p q r => h.le _ _ _ p q r⟩
theorem Three.or {α : Type} {P : α → Prop} {f g : α → α → Int} (h : Three P f) (k : Three P g) : Three P (fun a b => orI (f a b) (g a b)) := by
  refine ⟨fun a b => ?_, fun a b p q => ?_, fun a => ?_, fun a b c p q r => ?_⟩ <;> simp only [orI]
  · have := h.range a b; have := k.range a b
    split <;> omega
  · rw [h.anti a b p q, k.anti a b p q]
    by_cases e : f a b = 0 <;> simp [e]
  · rw [h.refl]; simp; exact k.refl a
  · have h1 := h.le a b c p q r; have h2 := k.le a b c p q r
    have h3 := h.le c b a r q p; have h4 := h.anti a b p q; have h5 := h.anti b c q r; have h6 := h.anti a c p r
    by_cases e1 : f a b = 0 <;> by_cases e2 : f b c = 0 <;> by_cases e3 : f a c = 0 <;> simp only [e1, e2, e3, ne_eq, not_true_eq_false, not_false_eq_true, if_true, if_false] <;> omega

namespace Tm
variable {α : Type}
def place (t : Tm α) : Int := if (t.kind = 2 ∧ t.args.length = 0) ∨ t.kind < 2 then t.kind else 3
/-- What tells two apart but for their args. -/
def cmpHead {β : Type} (a : Tm α) (b : Tm β) : Int := orI (cmpI (place a) (place b)) (orI (cmpI a.n b.n) (orI (cmpI a.args.length b.args.length) (cmpS a.name b.name)))
mutual
def cmp {β : Type} : Tm α → Tm β → Int
  | .mk k n s e asq, .mk k' n' s' e' bs => orI (cmpHead (.mk k n s e asq) (.mk k' n' s' e' bs)) (cmps asq bs)
/-- As slices.CompareFunc. -/
def cmps {β : Type} : List (Tm α) → List (Tm β) → Int
  | [], [] => 0
  | [], _ :: _ => -1
  | _ :: _, [] => 1
  | x :: l, y :: m => orI (cmp x y) (cmps l m)
end
theorem cmp_eq {β : Type} (a : Tm α) (b : Tm β) : cmp a b = orI (cmpHead a b) (cmps a.args b.args) := by cases a; cases b; rfl
theorem cmpHead_three : Three (fun _ : Tm α => True) (cmpHead (α := α) (β := α)) :=
  (cmpI_three.pull place).or ((cmpI_three.pull n).or ((cmpI_three.pull (fun t : Tm α => (t.args.length : Int))).or (cmpS_three.pull name)))
mutual
theorem cmp_range : ∀ a b : Tm α, cmp a b = -1 ∨ cmp a b = 0 ∨ cmp a b = 1
  | .mk k n s e asq, .mk k' n' s' e' bs => by
    have h := cmps_range asq bs
    have h2 := cmpHead_three.range (Tm.mk k n s e asq) (Tm.mk k' n' s' e' bs)
    simp only [cmp, orI]
    split <;> assumption
theorem cmps_range : ∀ a b : List (Tm α), cmps a b = -1 ∨ cmps a b = 0 ∨ cmps a b = 1
  | [], [] => by simp [cmps]
  | [], _ :: _ => by simp [cmps]
  | _ :: _, [] => by simp [cmps]
  | x :: l, y :: m => by
    have h := cmp_range x y
    have h2 := cmps_range l m
    simp only [cmps, orI]
    split <;> assumption
end
mutual
theorem cmp_refl : ∀ a : Tm α, cmp a a = 0
  | .mk k n s e asq => by
    have h := cmps_refl asq
    have h2 := cmpHead_three.refl (Tm.mk k n s e asq)
    simp only [cmp, orI, h2, h]; simp
theorem cmps_refl : ∀ a : List (Tm α), cmps a a = 0
  | [] => by simp [cmps]
  | x :: l => by simp only [cmps, orI, cmp_refl x, cmps_refl l]; simp
end
mutual
theorem cmp_anti : ∀ a b : Tm α, cmp b a = - cmp a b
  | .mk k n s e asq, .mk k' n' s' e' bs => by
    have h := cmps_anti asq bs
    have h2 := cmpHead_three.anti (Tm.mk k n s e asq) (Tm.mk k' n' s' e' bs) trivial trivial
    simp only [cmp, orI, h2, h]
    split <;> split <;> omega
theorem cmps_anti : ∀ a b : List (Tm α), cmps b a = - cmps a b
  | [], [] => by simp [cmps]
  | [], _ :: _ => by simp [cmps]
  | _ :: _, [] => by simp [cmps]
  | x :: l, y :: m => by
    have h := cmp_anti x y
    have h2 := cmps_anti l m
    simp only [cmps, orI, h, h2]
    split <;> split <;> omega
end
mutual
theorem cmp_le : ∀ a b c : Tm α, cmp a b ≤ 0 → cmp b c ≤ 0 → cmp a c ≤ 0 ∧ (cmp a b < 0 ∨ cmp b c < 0 → cmp a c < 0)
  | .mk k n s e asq, .mk k' n' s' e' bs, .mk k'' n'' s'' e'' cs => by
    have i := cmps_le asq bs cs
    have h1 := cmpHead_three.le (Tm.mk k n s e asq) (Tm.mk k' n' s' e' bs) (Tm.mk k'' n'' s'' e'' cs) trivial trivial trivial
    have h3 := cmpHead_three.le (Tm.mk k'' n'' s'' e'' cs) (Tm.mk k' n' s' e' bs) (Tm.mk k n s e asq) trivial trivial trivial
    have h4 := cmpHead_three.anti (Tm.mk k n s e asq) (Tm.mk k' n' s' e' bs) trivial trivial
    have h5 := cmpHead_three.anti (Tm.mk k' n' s' e' bs) (Tm.mk k'' n'' s'' e'' cs) trivial trivial
    have h6 := cmpHead_three.anti (Tm.mk k n s e asq) (Tm.mk k'' n'' s'' e'' cs) trivial trivial
    simp only [cmp, orI]
    generalize cmpHead (Tm.mk k n s e asq) (Tm.mk k' n' s' e' bs) = u at *
    generalize cmpHead (Tm.mk k' n' s' e' bs) (Tm.mk k'' n'' s'' e'' cs) = v at *
    generalize cmpHead (Tm.mk k n s e asq) (Tm.mk k'' n'' s'' e'' cs) = x at *
    by_cases e1 : u = 0 <;> by_cases e2 : v = 0 <;> by_cases e3 : x = 0 <;> simp only [e1, e2, e3, ne_eq, not_true_eq_false, not_false_eq_true, if_true, if_false] <;> omega
theorem cmps_le : ∀ a b c : List (Tm α), cmps a b ≤ 0 → cmps b c ≤ 0 → cmps a c ≤ 0 ∧ (cmps a b < 0 ∨ cmps b c < 0 → cmps a c < 0)
  | [], [], [] => by simp [cmps]
  | [], [], _ :: _ => by simp [cmps]
  | [], _ :: _, [] => by simp [cmps]
  | [], _ :: _, _ :: _ => by simp [cmps]
  | _ :: _, [], _ => by simp [cmps]
  | _ :: _, _ :: _, [] => by simp [cmps]
  | x :: l, y :: m, z :: o => by
    have i := cmps_le l m o
    have h1 := cmp_le x y z
    have h3 := cmp_le z y x
    have h4 := cmp_anti x y
    have h5 := cmp_anti y z
    have h6 := cmp_anti x z
    simp only [cmps, orI]
    generalize cmp x y = u at *
    generalize cmp y z = v at *
    generalize cmp x z = q at *
    by_cases e1 : u = 0 <;> by_cases e2 : v = 0 <;> by_cases e3 : q = 0 <;> simp only [e1, e2, e3, ne_eq, not_true_eq_false, not_false_eq_true, if_true, if_false] <;> omega
end
end Tm
end Go.Proofs.Ytoihjobdfjajfaa

/- What does not hang on the notes; the items of a list; the document's 'formed'. No program in sight. -/
namespace Go.Proofs.Ytoihjobdfjajfaa
set_option linter.unusedVariables false
set_option linter.unusedSimpArgs false

namespace Tm
variable {α β : Type}
theorem bare_kind (t : Tm α) : t.bare.kind = t.kind := by cases t; rfl
theorem bare_n (t : Tm α) : t.bare.n = t.n := by cases t; rfl
theorem bare_name (t : Tm α) : t.bare.name = t.name := by cases t; rfl
theorem bare_args (t : Tm α) : t.bare.args = bares t.args := by cases t; rfl
theorem bares_length (l : List (Tm α)) : (bares l).length = l.length := by rw [bares_eq, List.length_map]
theorem bare_arity (t : Tm α) : t.bare.args.length = t.args.length := by rw [bare_args, bares_length]
mutual
theorem flat_bare : ∀ t : Tm α, t.bare.flat = t.flat.map bare
  | .mk k n s e aa => by simp only [bare, flat, List.map_cons, flats_bare aa]
theorem flats_bare : ∀ l : List (Tm α), flats (bares l) = (flats l).map bare
  | [] => rfl
  | x :: l => by simp only [bares, flats, List.map_append, flat_bare x, flats_bare l]
end
theorem size_bare (t : Tm α) : t.bare.size = t.size := by rw [← flat_length, flat_bare, List.length_map, flat_length]
mutual
theorem depth_bare : ∀ t : Tm α, t.bare.depth = t.depth
  | .mk k n s e aa => by simp only [bare, depth, depths_bare aa]
theorem depths_bare : ∀ l : List (Tm α), depths (bares l) = depths l
  | [] => rfl
  | x :: l => by simp only [bares, depths, depth_bare x, depths_bare l]
end
theorem addVar_bare (l : List Int) (x : Tm α) : addVar l x.bare = addVar l x := by unfold addVar; rw [bare_kind, bare_n]
theorem vars_bare (t : Tm α) : t.bare.vars = t.vars := by
  unfold vars
  rw [flat_bare, List.foldl_map]
  congr 1
  funext l x
  exact addVar_bare l x
mutual
theorem cmp_bare : ∀ (a : Tm α) (b : Tm β), cmp a.bare b.bare = cmp a b
  | .mk k n s e aa, .mk k' n' s' e' bs => by
    simp only [bare, cmp, cmps_bare aa bs]
    congr 1
    have e1 : place (Tm.mk k n s () (bares aa)) = place (Tm.mk k n s e aa) := by unfold place; simp only [kind, args, bares_length]; congr
    have e2 : place (Tm.mk k' n' s' () (bares bs)) = place (Tm.mk k' n' s' e' bs) := by unfold place; simp only [kind, args, bares_length]; congr
    unfold cmpHead
    rw [e1, e2]
    simp only [Tm.n, name, args, bares_length]
theorem cmps_bare : ∀ (l : List (Tm α)) (m : List (Tm β)), cmps (bares l) (bares m) = cmps l m
  | [], [] => rfl
  | [], _ :: _ => rfl
  | _ :: _, [] => rfl
  | x :: l, y :: m => by simp only [bares, cmps, cmp_bare x y, cmps_bare l m]
end
/-- A list's pair. -/
def dot : ByteArray := ⟨#[46]⟩
def isDot (t : Tm α) : Bool := decide (t.kind = 2) && (decide (t.name = dot) && decide (t.args.length = 2))
/-- A list's items, and what ends it. -/
def items (t : Tm α) : List (Tm α) × Tm α :=
  match t with
  | .mk k n s e [a, b] => if k = 2 ∧ s = dot then (a :: (items b).1, (items b).2) else ([], .mk k n s e [a, b])
  | t => ([], t)
termination_by t.size
decreasing_by all_goals (simp only [size, sizes]; omega)
theorem items_dot {t : Tm α} (h : isDot t = true) : ∃ a b, t.args = [a, b] ∧ items t = (a :: (items b).1, (items b).2) ∧ b.size < t.size := by
  cases t with | mk k n s e aa =>
  simp only [isDot, kind, name, args, Bool.and_eq_true, decide_eq_true_eq] at h
  obtain ⟨h1, h2, h3⟩ := h
  match aa, h3 with
  | [a, b], _ =>
    refine ⟨a, b, rfl, ?_, by simp only [size, sizes]; omega⟩
    rw [items, if_pos ⟨of_decide_eq_true h1, of_decide_eq_true h2⟩]
theorem items_end {t : Tm α} (h : isDot t = false) : items t = ([], t) := by
  cases t with | mk k n s e aa =>
  match aa with
  | [a, b] =>
    rw [items, if_neg]
    intro ⟨h1, h2⟩
    simp [isDot, kind, name, args, h1, h2] at h
  | [] => rw [items]; intro _ _ _ _ _ _ e; cases e
  | [a] => rw [items]; intro _ _ _ _ _ _ e; cases e
  | a :: b :: c :: l => rw [items]; intro _ _ _ _ _ _ e; cases e
theorem isDot_bare (t : Tm α) : t.bare.isDot = t.isDot := by unfold isDot; rw [bare_kind, bare_name, bare_arity]
theorem items_bare (n : Nat) : ∀ t : Tm α, t.size ≤ n → items t.bare = ((items t).1.map bare, (items t).2.bare) := by
  induction n with
  | zero => intro t h; have := size_pos t; omega
  | succ n ih =>
    intro t h
    cases hd : isDot t with
    | true =>
      obtain ⟨a, b, h1, h2, h3⟩ := items_dot hd
      obtain ⟨a', b', g1, g2, g3⟩ := items_dot (t := t.bare) (by rw [isDot_bare]; exact hd)
      rw [bare_args, h1] at g1
      simp only [bares, List.cons.injEq, and_true] at g1
      obtain ⟨rfl, rfl⟩ := g1
      rw [g2, h2, ih b (by omega)]
      rfl
    | false =>
      rw [items_end hd, items_end (t := t.bare) (by rw [isDot_bare]; exact hd)]
      rfl
theorem items_eq {t : Tm α} {u : Tm β} (h : t.bare = u.bare) : (items t).1.map bare = (items u).1.map bare ∧ (items t).2.bare = (items u).2.bare := by
  have h1 := items_bare _ t (Nat.le_refl _)
  have h2 := items_bare _ u (Nat.le_refl _)
  rw [h, h2] at h1
  injection h1 with h3 h4
  exact ⟨h3.symm, h4.symm⟩
theorem items_mem (n : Nat) : ∀ t : Tm α, t.size ≤ n → (∀ x ∈ (items t).1, x ∈ t.flat) ∧ (items t).2 ∈ t.flat := by
  induction n with
  | zero => intro t h; have := size_pos t; omega
  | succ n ih =>
    intro t h
    cases hd : isDot t with
    | true =>
      obtain ⟨a, b, h1, h2, h3⟩ := items_dot hd
      obtain ⟨i1, i2⟩ := ih b (by omega)
      have hf : ∀ x, x ∈ a.flat ∨ x ∈ b.flat → x ∈ t.flat := by
        intro x hx
        rw [flat_eq, h1]
        simp only [flats, List.mem_cons, List.mem_append, List.append_nil]
        rcases hx with hx | hx
        · exact .inr (.inl hx)
        · exact .inr (.inr hx)
      rw [h2]
      refine ⟨fun x hx => ?_, hf _ (.inr i2)⟩
      rcases List.mem_cons.1 hx with rfl | hx
      · exact hf _ (.inl (by rw [flat_eq]; exact List.mem_cons_self ..))
      · exact hf _ (.inr (i1 x hx))
    | false =>
      rw [items_end hd]
      refine ⟨fun x hx => ?_, ?_⟩
      · exact absurd hx (List.not_mem_nil)
      · rw [flat_eq]; exact List.mem_cons_self ..
theorem items_len (n : Nat) : ∀ t : Tm α, t.size ≤ n → (items t).1.length ≤ t.size := by
  induction n with
  | zero => intro t h; have := size_pos t; omega
  | succ n ih =>
    intro t h
    cases hd : isDot t with
    | true =>
      obtain ⟨a, b, h1, h2, h3⟩ := items_dot hd
      have := ih b (by omega)
      rw [h2]
      simp only [List.length_cons]
      omega
    | false => rw [items_end hd]; simp
end Tm
theorem goodOneB_bare {α : Type} (t : Tm α) : goodOneB t.bare = goodOneB t := by
  unfold goodOneB
  rw [Tm.bare_kind, Tm.bare_n, Tm.bare_name, Tm.bare_arity]
theorem goodB_bare {α : Type} (t : Tm α) : goodB t.bare = goodB t := by
  unfold goodB
  rw [Tm.size_bare, Tm.depth_bare, Tm.flat_bare, List.all_map]
  congr 2
  apply congrArg (fun f => t.flat.all f)
  funext x
  exact goodOneB_bare x
theorem varsB_bare {α : Type} (t : Tm α) : varsB t.bare = varsB t := by unfold varsB; rw [goodB_bare, Tm.vars_bare]
section
variable {α β : Type} {t : Tm α} {u : Tm β} (h : t.bare = u.bare)
include h
theorem goodB_eq : goodB t = goodB u := by rw [← goodB_bare t, h, goodB_bare]
theorem varsB_eq : varsB t = varsB u := by rw [← varsB_bare t, h, varsB_bare]
theorem size_eq' : t.size = u.size := by rw [← Tm.size_bare t, h, Tm.size_bare]
theorem depth_eq' : t.depth = u.depth := by rw [← Tm.depth_bare t, h, Tm.depth_bare]
theorem kind_eq' : t.kind = u.kind := by rw [← Tm.bare_kind t, h, Tm.bare_kind]
theorem n_eq' : t.n = u.n := by rw [← Tm.bare_n t, h, Tm.bare_n]
theorem name_eq' : t.name = u.name := by rw [← Tm.bare_name t, h, Tm.bare_name]
theorem arity_eq' : t.args.length = u.args.length := by rw [← Tm.bare_arity t, h, Tm.bare_arity]
theorem bares_eq' : Tm.bares t.args = Tm.bares u.args := by rw [← Tm.bare_args t, h, Tm.bare_args]
theorem slim_eq' (hs : slim t) : slim u := by
  intro x hx
  have : x.bare ∈ u.bare.flat := by rw [Tm.flat_bare]; exact List.mem_map_of_mem hx
  rw [← h, Tm.flat_bare] at this
  obtain ⟨y, hy, he⟩ := List.mem_map.1 this
  have h1 := hs y hy
  have h2 := congrArg (fun t : Tm Unit => t.args.length) he
  simp only [Tm.bare_arity] at h2
  omega
end
/-- Alike: same, on terms that may be. -/
def sameB {α β : Type} (a : Tm α) (b : Tm β) : Bool := goodB a && (goodB b && Tm.same a b)

/-- The document's 'formed'. -/
def formedB {α : Type} (t : Tm α) : Bool := t.flat.all goodOneB
theorem formed_leaf {α : Type} {t : Tm α} (h : t.args.length = 0) : formedB t = goodOneB t := by
  have : t.args = [] := List.eq_nil_of_length_eq_zero h
  unfold formedB
  rw [Tm.flat_eq, this]
  simp [Tm.flats]
theorem flats_all {α : Type} (f : Tm α → Bool) (l : List (Tm α)) : (Tm.flats l).all f = l.all fun x => x.flat.all f := by
  induction l with
  | nil => rfl
  | cons x l ih => simp only [Tm.flats, List.all_append, List.all_cons, ih]
theorem formed_eq {α : Type} (t : Tm α) : formedB t = (goodOneB t && t.args.all formedB) := by
  unfold formedB
  rw [Tm.flat_eq, List.all_cons, flats_all]
end Go.Proofs.Ytoihjobdfjajfaa

/- same, Same: whether two terms are alike. -/
namespace Go.Proofs.Ytoihjobdfjajfaa
set_option linter.unusedVariables false
set_option linter.unusedSimpArgs false
open Go.RowKit

theorem bares_snoc {α : Type} (l : List (Tm α)) (j : Nat) (x : Tm α) (h : l[j]? = some x) : Tm.bares (l.take (j + 1)) = Tm.bares (l.take j) ++ [x.bare] := by
  rw [take_snoc' _ _ _ h, Tm.bares_eq, List.map_append, Tm.bares_eq]; rfl
theorem sames_no {α β : Type} {l : List (Tm α)} {m : List (Tm β)} {j : Nat} {x : Tm α} {y : Tm β} (hx : l[j]? = some x) (hy : m[j]? = some y) (h : Tm.same x y = false) : Tm.sames l m = false := by
  rw [← Bool.not_eq_true]
  intro e
  rw [Tm.sames_iff, Tm.bares_eq, Tm.bares_eq] at e
  have e1 : (l.map Tm.bare)[j]? = some x.bare := by rw [List.getElem?_map, hx]; rfl
  have e2 : (m.map Tm.bare)[j]? = some y.bare := by rw [List.getElem?_map, hy]; rfl
  rw [e, e2] at e1
  injection e1 with e1
  rw [← Bool.not_eq_true] at h
  exact h ((Tm.same_iff x y).2 e1.symm)
theorem sames_len {α β : Type} {l : List (Tm α)} {m : List (Tm β)} (h : l.length ≠ m.length) : Tm.sames l m = false := by
  rw [← Bool.not_eq_true]
  intro e
  rw [Tm.sames_iff] at e
  have := congrArg List.length e
  rw [Tm.bares_length, Tm.bares_length] at this
  exact h this
theorem same_eq {α β : Type} (a : Tm α) (b : Tm β) : Tm.same a b = (a.kind == b.kind && a.n == b.n && decide (a.name = b.name) && Tm.sames a.args b.args) := by cases a; cases b; rfl
theorem enter132 (args : Array Value) (w : World) : (callFunc 132 args).run Try.prog w = .ok (.enter 132 args) w := by kernel_rfl
theorem str_same (x : ByteArray) : (x.toList == x.toList) = true := by simp

set_option maxHeartbeats 1600000 in
theorem equalFunc162 {p : Nat → Prop} {l m : List LT} {a1 a2 : Option Addr} {c1 c2 : Nat} {w : World} (h1 : LT.Sl p w a1 c1 l) (h2 : LT.Sl p w a2 c2 m)
    (hcall : ∀ x ∈ l, ∀ (y : LT) (W : World), x.In p W → y.In p W → Calls Try.prog 132 #[x.val, y.val] W fun e w' => e = .returned (.bool (Tm.same x y)) ∧ Turned (fun _ => False) W w') :
    Calls Try.prog 162 #[.slice a1 l.length c1, .slice a2 m.length c2, .func (.func 132) #[] #[]] w fun e w' => e = .returned (.bool (Tm.sames l m)) ∧ Turned (fun _ => False) w w' := by
  have hc1 := h1.cap
  have hc2 := h2.cap
  have hm1 := h1.max
  have hm2 := h2.max
  unfold maxLen at hm1 hm2
  have henter := enter132
  by_cases hl : l.length = m.length
  · have HLN := Lib.hid hl
    have hne : ((l.length : Int) != (m.length : Int)) = false := by simp; omega
    have hl1 : l.length ≤ m.length := by omega
    have hl2 : m.length ≤ l.length := by omega
    clear hl
    have H1 := Lib.hid h1
    have H2 := Lib.hid h2
    have HC := Lib.hid hcall
    clear h1 h2 hcall
    go_enter Try.func162, Try.ntmps162
    go_wp2_with fail
    go_loopg [17] l.length (fun g i wr => ∃ j : Nat, Hid (j + g = l.length) ∧ j ≤ l.length ∧ i = .int .i64 j ∧ Hid (Tm.bares (l.take j) = Tm.bares (m.take j)) ∧ Turned (fun _ => False) w wr)
    case atStart => exact ⟨0, Nat.zero_add _, Nat.zero_le _, rfl, rfl, Turned.refl _ _⟩
    case round =>
      obtain ⟨j, HG, hj, rfl, HE, Tr⟩ := hrel
      by_cases hjl : j < l.length
      · have hx : l[j]? = some l[j] := List.getElem?_eq_getElem hjl
        have hy : m[j]? = some (m[j]'(by omega)) := List.getElem?_eq_getElem (by omega)
        obtain ⟨x, hxe⟩ : ∃ x : LT, x = l[j] := ⟨_, rfl⟩
        obtain ⟨y, hye⟩ : ∃ y : LT, y = m[j]'(by omega) := ⟨_, rfl⟩
        rw [← hxe] at hx
        rw [← hye] at hy
        clear hxe hye
        have xin := (LT.ins_iff _).1 (H1.out.turned0 Tr).ins x (List.mem_of_getElem? hx)
        have yin := (LT.ins_iff _).1 (H2.out.turned0 Tr).ins y (List.mem_of_getElem? hy)
        obtain ⟨b1, o1, rfl, _, k0, k1, k2, k3⟩ := (H1.out.turned0 Tr).lies.cell hx
        obtain ⟨b2, o2, rfl, _, q0, q1, q2, q3⟩ := (H2.out.turned0 Tr).lies.cell hy
        have q0 := cell_old (o := .cells #[.int .i64 x.kind, .int .i64 x.n, .string x.name, .slice x.at_.1 x.args.length x.at_.2] 27) q0
        have q1 := cell_old (o := .cells #[.int .i64 x.kind, .int .i64 x.n, .string x.name, .slice x.at_.1 x.args.length x.at_.2] 27) q1
        have q2 := cell_old (o := .cells #[.int .i64 x.kind, .int .i64 x.n, .string x.name, .slice x.at_.1 x.args.length x.at_.2] 27) q2
        have q3 := cell_old (o := .cells #[.int .i64 x.kind, .int .i64 x.n, .string x.name, .slice x.at_.1 x.args.length x.at_.2] 27) q3
        have hcx := fun u v => HC.out x (List.mem_of_getElem? hx) y ((wr.alloc u).alloc v) (xin.turned0 (((Turned.refl _ wr).alloc u).alloc v)) (yin.turned0 (((Turned.refl _ wr).alloc u).alloc v))
        rw [LT.val_eq x, LT.val_eq y] at hcx
        have HX := Lib.hid hx
        have HY := Lib.hid hy
        have HCX := Lib.hid hcx
        clear hx hy hcx xin yin
        have z2 : (j : Int) < (m.length : Int) := by omega
        cases hs : Tm.same x y with
        | true =>
          rw [hs] at HCX
          have HS := Lib.hid hs
          clear hs
          go_wp2_with (go_at_call 132; refine (HCX.out _ _).mono ?_; rintro e w2 ⟨rfl, T2⟩)
          go_roundg (gk - 1)
          case measure => have := HG.out; omega
          case rel =>
            refine ⟨j + 1, show _ = _ by have := HG.out; omega, by omega, by go_num, ?_, Tr.trans ((((Turned.refl _ wr).alloc _).alloc _).trans T2)⟩
            show _ = _
            rw [bares_snoc _ _ _ HX.out, bares_snoc _ _ _ HY.out, HE.out, (Tm.same_iff x y).1 HS.out]
        | false =>
          rw [hs] at HCX
          have HS := Lib.hid hs
          clear hs
          go_wp2_with (go_at_call 132; refine (HCX.out _ _).mono ?_; rintro e w2 ⟨rfl, T2⟩)
          go_ret
          exact ⟨ret_bool (sames_no HX.out HY.out HS.out).symm, Tr.trans ((((Turned.refl _ wr).alloc _).alloc _).trans T2)⟩
      · go_wp2_with fail
        go_ret
        refine ⟨ret_bool ?_, Tr⟩
        symm
        rw [Tm.sames_iff]
        have h := HE.out
        rwa [List.take_of_length_le (by omega), List.take_of_length_le (by omega)] at h
  · have hne : ((l.length : Int) != (m.length : Int)) = true := by simp; omega
    have HL := Lib.hid hl
    clear hl h1 h2 hcall
    go_enter Try.func162, Try.ntmps162
    go_wp2_with fail
    go_ret
    exact ⟨ret_bool (sames_len HL.out).symm, Turned.refl _ _⟩

set_option maxHeartbeats 1600000 in
theorem same132 {p : Nat → Prop} (n : Nat) : ∀ (a b : LT) (w : World), a.depth ≤ n → a.In p w → b.In p w →
    Calls Try.prog 132 #[a.val, b.val] w fun e w' => e = .returned (.bool (Tm.same a b)) ∧ Turned (fun _ => False) w w' := by
  induction n with
  | zero => intro a b w h; have := Tm.depth_pos a; omega
  | succ n ih =>
    intro a b w hd ha hb
    have T0 : ∀ u v, Turned (fun _ => False) w ((w.alloc u).alloc v) := fun u v => ((Turned.refl _ w).alloc u).alloc v
    have heq := fun u v => equalFunc162 (ha.turned0 (T0 u v)).sl (hb.turned0 (T0 u v)).sl (fun x hx y W h1 h2 => ih x y W (by
      have h3 : x.depth ≤ Tm.depths a.args := by
        obtain ⟨j, hj⟩ := List.getElem?_of_mem hx
        have h4 := Tm.depths_snoc _ j x hj
        have h5 := Tm.depths_take_le a.args (j + 1)
        omega
      rw [Tm.depth_eq] at hd
      omega) h1 h2)
    rw [LT.val_eq a, LT.val_eq b]
    have HEQ := Lib.hid heq
    have HV := Lib.hid (same_eq a b)
    clear heq ih ha hb hd
    by_cases hk : a.kind = b.kind
    · have kb : (a.kind == b.kind) = true := by simp [hk]
      have HK := Lib.hid hk
      clear hk
      by_cases hn : a.n = b.n
      · have nb : (a.n == b.n) = true := by simp [hn]
        have HN := Lib.hid hn
        clear hn
        by_cases hs : a.name = b.name
        · have sb : (a.name.toList == b.name.toList) = true := by rw [hs]; exact str_same _
          have HS := Lib.hid hs
          clear hs
          have HR : Hid (Tm.same a b = Tm.sames a.args b.args) := by show _ = _; rw [HV.out, HK.out, HN.out, HS.out]; simp
          go_enter Try.func132, Try.ntmps132
          go_wp2_with (go_at_call 162; refine (HEQ.out _ _).mono ?_; rintro e w2 ⟨rfl, T2⟩)
          go_ret
          exact ⟨ret_bool HR.out.symm, (((Turned.refl _ w).alloc _).alloc _).trans T2⟩
        · have sb : (a.name.toList == b.name.toList) = false := str_neq hs
          have HR : Hid (Tm.same a b = false) := by show _ = _; rw [HV.out]; simp [hs]
          clear hs
          go_enter Try.func132, Try.ntmps132
          go_wp2_with fail
          go_ret
          exact ⟨ret_bool HR.out.symm, ((Turned.refl _ w).alloc _).alloc _⟩
      · have nb : (a.n == b.n) = false := by simp [hn]
        have HR : Hid (Tm.same a b = false) := by show _ = _; rw [HV.out]; simp [hn]
        clear hn
        go_enter Try.func132, Try.ntmps132
        go_wp2_with fail
        go_ret
        exact ⟨ret_bool HR.out.symm, ((Turned.refl _ w).alloc _).alloc _⟩
    · have kb : (a.kind == b.kind) = false := by simp [hk]
      have HR : Hid (Tm.same a b = false) := by show _ = _; rw [HV.out]; simp [hk]
      clear hk
      go_enter Try.func132, Try.ntmps132
      go_wp2_with fail
      go_ret
      exact ⟨ret_bool HR.out.symm, ((Turned.refl _ w).alloc _).alloc _⟩

set_option maxHeartbeats 1600000 in
theorem same52 {p : Nat → Prop} {a b : LT} {w : World} (ha : a.In p w) (hb : b.In p w) (sa : slim a) (sb : slim b) :
    Calls Try.prog 52 #[a.val, b.val] w fun e w' => e = .returned (.bool (sameB a b)) ∧ Turned (fun _ => False) w w' := by
  obtain ⟨b1, hb1⟩ : ∃ bx : Obj, bx = .cells #[.int .i64 a.kind, .int .i64 a.n, .string a.name, .slice a.at_.1 a.args.length a.at_.2] 27 := ⟨_, rfl⟩
  obtain ⟨b2, hb2⟩ : ∃ bx : Obj, bx = .cells #[.int .i64 b.kind, .int .i64 b.n, .string b.name, .slice b.at_.1 b.args.length b.at_.2] 27 := ⟨_, rfl⟩
  have T1 := ((Turned.refl (fun _ => False) w).alloc b1).alloc b2
  have hc : ∀ W, Turned (fun _ => False) ((w.alloc b1).alloc b2) W → W.heap[w.heap.size]? = some b1 ∧ W.heap[w.heap.size + 1]? = some b2 := by
    intro W h
    exact ⟨(h.block _ (by simp; omega) (fun f => f)).trans (heap_alloc2_old w b1 b2), (h.block _ (by simp) (fun f => f)).trans (heap_alloc2_new w b1 b2)⟩
  have g1 := fun W (h : Turned (fun _ => False) ((w.alloc b1).alloc b2) W) => good38 (ha.turned0 (T1.trans h)) sa
  have g2 := fun W (h : Turned (fun _ => False) ((w.alloc b1).alloc b2) W) => good38 (hb.turned0 (T1.trans h)) sb
  have g3 := fun W (h : Turned (fun _ => False) ((w.alloc b1).alloc b2) W) => same132 (p := p) a.depth a b W (Nat.le_refl _) (ha.turned0 (T1.trans h)) (hb.turned0 (T1.trans h))
  rw [LT.val_eq a] at g1 g3 ⊢
  rw [LT.val_eq b] at g2 g3 ⊢
  subst hb1 hb2
  have G1 := Lib.hid g1
  have G2 := Lib.hid g2
  have G3 := Lib.hid g3
  have HC := Lib.hid hc
  have HT := Lib.hid T1
  clear g1 g2 g3 hc T1 ha hb sa sb
  cases ga : goodB a with
  | false =>
    rw [ga] at G1
    have HR : Hid (sameB a b = false) := by show _ = _; unfold sameB; rw [ga]; rfl
    clear ga
    go_enter Try.func52, Try.ntmps52
    go_wp2_with (go_at_call 38; refine (G1.out _ (Turned.refl _ _)).mono ?_; rintro e w2 ⟨rfl, T2⟩)
    go_ret
    exact ⟨ret_bool HR.out.symm, HT.out.trans T2⟩
  | true =>
    rw [ga] at G1
    have HGA := Lib.hid ga
    clear ga
    cases gb : goodB b with
    | false =>
      rw [gb] at G2
      have HR : Hid (sameB a b = false) := by show _ = _; unfold sameB; rw [gb, HGA.out]; rfl
      clear gb
      go_enter Try.func52, Try.ntmps52
      go_wp2_with (first
        | (go_at_call 38; (with_reducible refine (G1.out _ (Turned.refl _ _)).mono ?_); rintro e w2 ⟨rfl, T2⟩; obtain ⟨h1, h2⟩ := HC.out _ T2; obtain ⟨d0, d1, d2, d3, _⟩ := cells4 h2; clear h1 h2)
        | (go_at_call 38; (with_reducible refine (G2.out _ T2).mono ?_); rintro e w3 ⟨rfl, T3⟩))
      go_ret
      exact ⟨ret_bool HR.out.symm, HT.out.trans (T2.trans T3)⟩
    | true =>
      rw [gb] at G2
      have HR : Hid (sameB a b = Tm.same a b) := by show _ = _; unfold sameB; rw [gb, HGA.out]; rfl
      clear gb
      go_enter Try.func52, Try.ntmps52
      go_wp2_with (first
        | (go_at_call 38; (with_reducible refine (G1.out _ (Turned.refl _ _)).mono ?_); rintro e w2 ⟨rfl, T2⟩; obtain ⟨h1, h2⟩ := HC.out _ T2; obtain ⟨d0, d1, d2, d3, _⟩ := cells4 h2; clear h1 h2)
        | (go_at_call 38; (with_reducible refine (G2.out _ T2).mono ?_); rintro e w3 ⟨rfl, T3⟩; obtain ⟨h1, h2⟩ := HC.out _ (T2.trans T3); obtain ⟨d0, d1, d2, d3, _⟩ := cells4 h2; obtain ⟨f0, f1, f2, f3, _⟩ := cells4 h1; clear h1 h2)
        | (go_at_call 132; refine (G3.out _ (T2.trans T3)).mono ?_; rintro e w4 ⟨rfl, T4⟩))
      go_ret
      exact ⟨ret_bool HR.out.symm, HT.out.trans (T2.trans (T3.trans T4))⟩
end Go.Proofs.Ytoihjobdfjajfaa

/-
  NARROWER THAN 'FOR EVERY INPUT', by the rows' own cells (each row's printed sentence says how): TermVars: loops · IndexKeys: loops · TermSays: loops · TermLists: loops · OrderKeys: loops · AliasFrom: loops · OrderTotal: loops · OrderSays: loops · AliasSays: loops · AliasMore: loops · BindWhole: loops · CodeBack: loops · BindPlays: loops · UnifyMakes: loops · IndexSafe: loops · UnifyPlays: loops · AliasLess: loops · AliasSelf: loops · CodeMatch: loops · CodeSelf: loops.
  DERIVED. THE GIVEN ROWS OF THIS SEAT. 29 by the template 'for every input the law returns true; each argument reads behind the call as it read before'; 0 by the template 'total and deterministic' (their statements: YtoihjobdfjajfaaTotals.lean).
  GIVEN WITH THE SEED: the statements are not yours to turn. If you find one false, say at which input.
  Laid BY PROGRAM, IN A SANDBOX (cutbox-rows.mjs): the forced cells as the released guide's own fill.sh prints them over the translation 25b1514f8acb27b5… (all of the seat's roots in one cut). By AI agents, Wed Nov 11 2026. No macro, syntax, notation, axiom, sorry.
-/
import Derived.Test.YtoihjobdfjajfaaChecked
import GoSem.Claim
import GoSem.ClaimJoined
import GoSem.ClaimMapViews
import Derived.JoinedTies
import Derived.KernelRfl
namespace Go.Proofs.Ytoihjobdfjajfaa
/- THE CELL 'sum', in the pinned program and in every row, IS THE sha256 OF THE DUMP (.gsa) THAT YtoihjobdfjajfaaProg.lean LOADS. Nothing in Lean hashes anything: it is a label: what it is worth is what the hold of that sum in a sandbox is worth. -/
noncomputable def Try.pinned : Pinned := { name := "ytoihjobdfjajfaa", sum := "25b1514f8acb27b532296b0e6e213b4b89bd6d848f2ac57104e02a92d7eab706", checked := Try.checked }
namespace Rows
def none {H : Type} : Left H := { results := [], args := [] }

/-- 'sizarlaw7.TermVars': WHATEVER THE INPUT: true; the input reads as it did. -/
def termVarsSpec : ChangeSpec := { name := "termVars", fn := fun _ => fun
  | [d] => { results := [.lit (.bool true)], args := [d] }
  | _ => none }
def termVarsRow : OpenClaim := { program := "ytoihjobdfjajfaa", sum := "25b1514f8acb27b532296b0e6e213b4b89bd6d848f2ac57104e02a92d7eab706", func := "sizar/sizarlaw7.TermVars", spec := "termVars", unfollowed := true, recurses := true, loops := true, apart := false }
def TermVarsSaid : Prop := termVarsRow.holds Try.pinned (OpenSpec.ofChange termVarsSpec)

/-- ITS FALSE NEIGHBOUR: 'it returns false'. Refute it at one input. -/
def termVarsWrong : ChangeSpec := { name := "termVars", fn := fun _ => fun
  | [d] => { results := [.lit (.bool false)], args := [d] }
  | _ => none }
def TermVarsWrongFalsely : Prop := termVarsRow.holds Try.pinned (OpenSpec.ofChange termVarsWrong)

/-- 'sizarlaw16.IndexKeys': WHATEVER THE INPUT: true; the input reads as it did. -/
def indexKeysSpec : ChangeSpec := { name := "indexKeys", fn := fun _ => fun
  | [d1, d2, d3] => { results := [.lit (.bool true)], args := [d1, d2, d3] }
  | _ => none }
def indexKeysRow : OpenClaim := { program := "ytoihjobdfjajfaa", sum := "25b1514f8acb27b532296b0e6e213b4b89bd6d848f2ac57104e02a92d7eab706", func := "sizar/sizarlaw16.IndexKeys", spec := "indexKeys", unfollowed := true, recurses := true, loops := true, apart := false }
def IndexKeysSaid : Prop := indexKeysRow.holds Try.pinned (OpenSpec.ofChange indexKeysSpec)

/-- ITS FALSE NEIGHBOUR: 'it returns false'. Refute it at one input. -/
def indexKeysWrong : ChangeSpec := { name := "indexKeys", fn := fun _ => fun
  | [d1, d2, d3] => { results := [.lit (.bool false)], args := [d1, d2, d3] }
  | _ => none }
def IndexKeysWrongFalsely : Prop := indexKeysRow.holds Try.pinned (OpenSpec.ofChange indexKeysWrong)

/-- 'sizarlaw7.TermSays': WHATEVER THE INPUT: true; the input reads as it did. -/
def termSaysSpec : ChangeSpec := { name := "termSays", fn := fun _ => fun
  | [d1, d2] => { results := [.lit (.bool true)], args := [d1, d2] }
  | _ => none }
def termSaysRow : OpenClaim := { program := "ytoihjobdfjajfaa", sum := "25b1514f8acb27b532296b0e6e213b4b89bd6d848f2ac57104e02a92d7eab706", func := "sizar/sizarlaw7.TermSays", spec := "termSays", unfollowed := true, recurses := true, loops := true, apart := false }
def TermSaysSaid : Prop := termSaysRow.holds Try.pinned (OpenSpec.ofChange termSaysSpec)

/-- ITS FALSE NEIGHBOUR: 'it returns false'. Refute it at one input. -/
def termSaysWrong : ChangeSpec := { name := "termSays", fn := fun _ => fun
  | [d1, d2] => { results := [.lit (.bool false)], args := [d1, d2] }
  | _ => none }
def TermSaysWrongFalsely : Prop := termSaysRow.holds Try.pinned (OpenSpec.ofChange termSaysWrong)

/-- 'sizarlaw16.IndexPlays': WHATEVER THE INPUT: true; the input reads as it did. -/
def indexPlaysSpec : ChangeSpec := { name := "indexPlays", fn := fun _ => fun
  | [d] => { results := [.lit (.bool true)], args := [d] }
  | _ => none }
def indexPlaysRow : OpenClaim := { program := "ytoihjobdfjajfaa", sum := "25b1514f8acb27b532296b0e6e213b4b89bd6d848f2ac57104e02a92d7eab706", func := "sizar/sizarlaw16.IndexPlays", spec := "indexPlays", unfollowed := true, recurses := true, apart := false }
def IndexPlaysSaid : Prop := indexPlaysRow.holds Try.pinned (OpenSpec.ofChange indexPlaysSpec)

/-- ITS FALSE NEIGHBOUR: 'it returns false'. Refute it at one input. -/
def indexPlaysWrong : ChangeSpec := { name := "indexPlays", fn := fun _ => fun
  | [d] => { results := [.lit (.bool false)], args := [d] }
  | _ => none }
def IndexPlaysWrongFalsely : Prop := indexPlaysRow.holds Try.pinned (OpenSpec.ofChange indexPlaysWrong)

/-- 'sizarlaw16.IndexAll': WHATEVER THE INPUT: true; the input reads as it did. -/
def indexAllSpec : ChangeSpec := { name := "indexAll", fn := fun _ => fun
  | [d1, d2] => { results := [.lit (.bool true)], args := [d1, d2] }
  | _ => none }
def indexAllRow : OpenClaim := { program := "ytoihjobdfjajfaa", sum := "25b1514f8acb27b532296b0e6e213b4b89bd6d848f2ac57104e02a92d7eab706", func := "sizar/sizarlaw16.IndexAll", spec := "indexAll", unfollowed := true, recurses := true, apart := false }
def IndexAllSaid : Prop := indexAllRow.holds Try.pinned (OpenSpec.ofChange indexAllSpec)

/-- ITS FALSE NEIGHBOUR: 'it returns false'. Refute it at one input. -/
def indexAllWrong : ChangeSpec := { name := "indexAll", fn := fun _ => fun
  | [d1, d2] => { results := [.lit (.bool false)], args := [d1, d2] }
  | _ => none }
def IndexAllWrongFalsely : Prop := indexAllRow.holds Try.pinned (OpenSpec.ofChange indexAllWrong)

/-- 'sizarlaw16.IndexKnown': WHATEVER THE INPUT: true; the input reads as it did. -/
def indexKnownSpec : ChangeSpec := { name := "indexKnown", fn := fun _ => fun
  | [] => { results := [.lit (.bool true)], args := [] }
  | _ => none }
def indexKnownRow : OpenClaim := { program := "ytoihjobdfjajfaa", sum := "25b1514f8acb27b532296b0e6e213b4b89bd6d848f2ac57104e02a92d7eab706", func := "sizar/sizarlaw16.IndexKnown", spec := "indexKnown", unfollowed := true, recurses := true, apart := false }
def IndexKnownSaid : Prop := indexKnownRow.holds Try.pinned (OpenSpec.ofChange indexKnownSpec)

/-- ITS FALSE NEIGHBOUR: 'it returns false'. Refute it at one input. -/
def indexKnownWrong : ChangeSpec := { name := "indexKnown", fn := fun _ => fun
  | [] => { results := [.lit (.bool false)], args := [] }
  | _ => none }
def IndexKnownWrongFalsely : Prop := indexKnownRow.holds Try.pinned (OpenSpec.ofChange indexKnownWrong)

/-- 'sizarlaw7.TermLists': WHATEVER THE INPUT: true; the input reads as it did. -/
def termListsSpec : ChangeSpec := { name := "termLists", fn := fun _ => fun
  | [d1, d2] => { results := [.lit (.bool true)], args := [d1, d2] }
  | _ => none }
def termListsRow : OpenClaim := { program := "ytoihjobdfjajfaa", sum := "25b1514f8acb27b532296b0e6e213b4b89bd6d848f2ac57104e02a92d7eab706", func := "sizar/sizarlaw7.TermLists", spec := "termLists", unfollowed := true, recurses := true, loops := true, apart := false }
def TermListsSaid : Prop := termListsRow.holds Try.pinned (OpenSpec.ofChange termListsSpec)

/-- ITS FALSE NEIGHBOUR: 'it returns false'. Refute it at one input. -/
def termListsWrong : ChangeSpec := { name := "termLists", fn := fun _ => fun
  | [d1, d2] => { results := [.lit (.bool false)], args := [d1, d2] }
  | _ => none }
def TermListsWrongFalsely : Prop := termListsRow.holds Try.pinned (OpenSpec.ofChange termListsWrong)

/-- 'sizarlaw7.TermKnown': WHATEVER THE INPUT: true; the input reads as it did. -/
def termKnownSpec : ChangeSpec := { name := "termKnown", fn := fun _ => fun
  | [] => { results := [.lit (.bool true)], args := [] }
  | _ => none }
def termKnownRow : OpenClaim := { program := "ytoihjobdfjajfaa", sum := "25b1514f8acb27b532296b0e6e213b4b89bd6d848f2ac57104e02a92d7eab706", func := "sizar/sizarlaw7.TermKnown", spec := "termKnown", unfollowed := true, recurses := true, apart := false }
def TermKnownSaid : Prop := termKnownRow.holds Try.pinned (OpenSpec.ofChange termKnownSpec)

/-- ITS FALSE NEIGHBOUR: 'it returns false'. Refute it at one input. -/
def termKnownWrong : ChangeSpec := { name := "termKnown", fn := fun _ => fun
  | [] => { results := [.lit (.bool false)], args := [] }
  | _ => none }
def TermKnownWrongFalsely : Prop := termKnownRow.holds Try.pinned (OpenSpec.ofChange termKnownWrong)

/-- 'sizarlaw10.OrderKeys': WHATEVER THE INPUT: true; the input reads as it did. -/
def orderKeysSpec : ChangeSpec := { name := "orderKeys", fn := fun _ => fun
  | [d1, d2] => { results := [.lit (.bool true)], args := [d1, d2] }
  | _ => none }
def orderKeysRow : OpenClaim := { program := "ytoihjobdfjajfaa", sum := "25b1514f8acb27b532296b0e6e213b4b89bd6d848f2ac57104e02a92d7eab706", func := "sizar/sizarlaw10.OrderKeys", spec := "orderKeys", unfollowed := true, recurses := true, loops := true, apart := false }
def OrderKeysSaid : Prop := orderKeysRow.holds Try.pinned (OpenSpec.ofChange orderKeysSpec)

/-- ITS FALSE NEIGHBOUR: 'it returns false'. Refute it at one input. -/
def orderKeysWrong : ChangeSpec := { name := "orderKeys", fn := fun _ => fun
  | [d1, d2] => { results := [.lit (.bool false)], args := [d1, d2] }
  | _ => none }
def OrderKeysWrongFalsely : Prop := orderKeysRow.holds Try.pinned (OpenSpec.ofChange orderKeysWrong)

/-- 'sizarlaw13.AliasFrom': WHATEVER THE INPUT: true; the input reads as it did. -/
def aliasFromSpec : ChangeSpec := { name := "aliasFrom", fn := fun _ => fun
  | [d1, d2] => { results := [.lit (.bool true)], args := [d1, d2] }
  | _ => none }
def aliasFromRow : OpenClaim := { program := "ytoihjobdfjajfaa", sum := "25b1514f8acb27b532296b0e6e213b4b89bd6d848f2ac57104e02a92d7eab706", func := "sizar/sizarlaw13.AliasFrom", spec := "aliasFrom", unfollowed := true, recurses := true, loops := true, apart := false }
def AliasFromSaid : Prop := aliasFromRow.holds Try.pinned (OpenSpec.ofChange aliasFromSpec)

/-- ITS FALSE NEIGHBOUR: 'it returns false'. Refute it at one input. -/
def aliasFromWrong : ChangeSpec := { name := "aliasFrom", fn := fun _ => fun
  | [d1, d2] => { results := [.lit (.bool false)], args := [d1, d2] }
  | _ => none }
def AliasFromWrongFalsely : Prop := aliasFromRow.holds Try.pinned (OpenSpec.ofChange aliasFromWrong)

/-- 'sizarlaw10.OrderTotal': WHATEVER THE INPUT: true; the input reads as it did. -/
def orderTotalSpec : ChangeSpec := { name := "orderTotal", fn := fun _ => fun
  | [d1, d2, d3] => { results := [.lit (.bool true)], args := [d1, d2, d3] }
  | _ => none }
def orderTotalRow : OpenClaim := { program := "ytoihjobdfjajfaa", sum := "25b1514f8acb27b532296b0e6e213b4b89bd6d848f2ac57104e02a92d7eab706", func := "sizar/sizarlaw10.OrderTotal", spec := "orderTotal", unfollowed := true, recurses := true, loops := true, apart := false }
def OrderTotalSaid : Prop := orderTotalRow.holds Try.pinned (OpenSpec.ofChange orderTotalSpec)

/-- ITS FALSE NEIGHBOUR: 'it returns false'. Refute it at one input. -/
def orderTotalWrong : ChangeSpec := { name := "orderTotal", fn := fun _ => fun
  | [d1, d2, d3] => { results := [.lit (.bool false)], args := [d1, d2, d3] }
  | _ => none }
def OrderTotalWrongFalsely : Prop := orderTotalRow.holds Try.pinned (OpenSpec.ofChange orderTotalWrong)

/-- 'sizarlaw10.OrderSays': WHATEVER THE INPUT: true; the input reads as it did. -/
def orderSaysSpec : ChangeSpec := { name := "orderSays", fn := fun _ => fun
  | [d1, d2, d3] => { results := [.lit (.bool true)], args := [d1, d2, d3] }
  | _ => none }
def orderSaysRow : OpenClaim := { program := "ytoihjobdfjajfaa", sum := "25b1514f8acb27b532296b0e6e213b4b89bd6d848f2ac57104e02a92d7eab706", func := "sizar/sizarlaw10.OrderSays", spec := "orderSays", unfollowed := true, recurses := true, loops := true, apart := false }
def OrderSaysSaid : Prop := orderSaysRow.holds Try.pinned (OpenSpec.ofChange orderSaysSpec)

/-- ITS FALSE NEIGHBOUR: 'it returns false'. Refute it at one input. -/
def orderSaysWrong : ChangeSpec := { name := "orderSays", fn := fun _ => fun
  | [d1, d2, d3] => { results := [.lit (.bool false)], args := [d1, d2, d3] }
  | _ => none }
def OrderSaysWrongFalsely : Prop := orderSaysRow.holds Try.pinned (OpenSpec.ofChange orderSaysWrong)

/-- 'sizarlaw10.OrderKnown': WHATEVER THE INPUT: true; the input reads as it did. -/
def orderKnownSpec : ChangeSpec := { name := "orderKnown", fn := fun _ => fun
  | [] => { results := [.lit (.bool true)], args := [] }
  | _ => none }
def orderKnownRow : OpenClaim := { program := "ytoihjobdfjajfaa", sum := "25b1514f8acb27b532296b0e6e213b4b89bd6d848f2ac57104e02a92d7eab706", func := "sizar/sizarlaw10.OrderKnown", spec := "orderKnown", unfollowed := true, recurses := true, apart := false }
def OrderKnownSaid : Prop := orderKnownRow.holds Try.pinned (OpenSpec.ofChange orderKnownSpec)

/-- ITS FALSE NEIGHBOUR: 'it returns false'. Refute it at one input. -/
def orderKnownWrong : ChangeSpec := { name := "orderKnown", fn := fun _ => fun
  | [] => { results := [.lit (.bool false)], args := [] }
  | _ => none }
def OrderKnownWrongFalsely : Prop := orderKnownRow.holds Try.pinned (OpenSpec.ofChange orderKnownWrong)

/-- 'sizarlaw13.AliasKnown': WHATEVER THE INPUT: true; the input reads as it did. -/
def aliasKnownSpec : ChangeSpec := { name := "aliasKnown", fn := fun _ => fun
  | [] => { results := [.lit (.bool true)], args := [] }
  | _ => none }
def aliasKnownRow : OpenClaim := { program := "ytoihjobdfjajfaa", sum := "25b1514f8acb27b532296b0e6e213b4b89bd6d848f2ac57104e02a92d7eab706", func := "sizar/sizarlaw13.AliasKnown", spec := "aliasKnown", unfollowed := true, recurses := true, apart := false }
def AliasKnownSaid : Prop := aliasKnownRow.holds Try.pinned (OpenSpec.ofChange aliasKnownSpec)

/-- ITS FALSE NEIGHBOUR: 'it returns false'. Refute it at one input. -/
def aliasKnownWrong : ChangeSpec := { name := "aliasKnown", fn := fun _ => fun
  | [] => { results := [.lit (.bool false)], args := [] }
  | _ => none }
def AliasKnownWrongFalsely : Prop := aliasKnownRow.holds Try.pinned (OpenSpec.ofChange aliasKnownWrong)

/-- 'sizarlaw13.AliasSays': WHATEVER THE INPUT: true; the input reads as it did. -/
def aliasSaysSpec : ChangeSpec := { name := "aliasSays", fn := fun _ => fun
  | [d1, d2, d3] => { results := [.lit (.bool true)], args := [d1, d2, d3] }
  | _ => none }
def aliasSaysRow : OpenClaim := { program := "ytoihjobdfjajfaa", sum := "25b1514f8acb27b532296b0e6e213b4b89bd6d848f2ac57104e02a92d7eab706", func := "sizar/sizarlaw13.AliasSays", spec := "aliasSays", unfollowed := true, recurses := true, loops := true, apart := false }
def AliasSaysSaid : Prop := aliasSaysRow.holds Try.pinned (OpenSpec.ofChange aliasSaysSpec)

/-- ITS FALSE NEIGHBOUR: 'it returns false'. Refute it at one input. -/
def aliasSaysWrong : ChangeSpec := { name := "aliasSays", fn := fun _ => fun
  | [d1, d2, d3] => { results := [.lit (.bool false)], args := [d1, d2, d3] }
  | _ => none }
def AliasSaysWrongFalsely : Prop := aliasSaysRow.holds Try.pinned (OpenSpec.ofChange aliasSaysWrong)

/-- 'sizarlaw13.AliasMore': WHATEVER THE INPUT: true; the input reads as it did. -/
def aliasMoreSpec : ChangeSpec := { name := "aliasMore", fn := fun _ => fun
  | [d1, d2, d3] => { results := [.lit (.bool true)], args := [d1, d2, d3] }
  | _ => none }
def aliasMoreRow : OpenClaim := { program := "ytoihjobdfjajfaa", sum := "25b1514f8acb27b532296b0e6e213b4b89bd6d848f2ac57104e02a92d7eab706", func := "sizar/sizarlaw13.AliasMore", spec := "aliasMore", unfollowed := true, recurses := true, loops := true, apart := false }
def AliasMoreSaid : Prop := aliasMoreRow.holds Try.pinned (OpenSpec.ofChange aliasMoreSpec)

/-- ITS FALSE NEIGHBOUR: 'it returns false'. Refute it at one input. -/
def aliasMoreWrong : ChangeSpec := { name := "aliasMore", fn := fun _ => fun
  | [d1, d2, d3] => { results := [.lit (.bool false)], args := [d1, d2, d3] }
  | _ => none }
def AliasMoreWrongFalsely : Prop := aliasMoreRow.holds Try.pinned (OpenSpec.ofChange aliasMoreWrong)

/-- 'sizarlaw11.BindWhole': WHATEVER THE INPUT: true; the input reads as it did. -/
def bindWholeSpec : ChangeSpec := { name := "bindWhole", fn := fun _ => fun
  | [d1, d2] => { results := [.lit (.bool true)], args := [d1, d2] }
  | _ => none }
def bindWholeRow : OpenClaim := { program := "ytoihjobdfjajfaa", sum := "25b1514f8acb27b532296b0e6e213b4b89bd6d848f2ac57104e02a92d7eab706", func := "sizar/sizarlaw11.BindWhole", spec := "bindWhole", unfollowed := true, recurses := true, loops := true, apart := false }
def BindWholeSaid : Prop := bindWholeRow.holds Try.pinned (OpenSpec.ofChange bindWholeSpec)

/-- ITS FALSE NEIGHBOUR: 'it returns false'. Refute it at one input. -/
def bindWholeWrong : ChangeSpec := { name := "bindWhole", fn := fun _ => fun
  | [d1, d2] => { results := [.lit (.bool false)], args := [d1, d2] }
  | _ => none }
def BindWholeWrongFalsely : Prop := bindWholeRow.holds Try.pinned (OpenSpec.ofChange bindWholeWrong)

/-- 'sizarlaw15.CodeBack': WHATEVER THE INPUT: true; the input reads as it did. -/
def codeBackSpec : ChangeSpec := { name := "codeBack", fn := fun _ => fun
  | [d] => { results := [.lit (.bool true)], args := [d] }
  | _ => none }
def codeBackRow : OpenClaim := { program := "ytoihjobdfjajfaa", sum := "25b1514f8acb27b532296b0e6e213b4b89bd6d848f2ac57104e02a92d7eab706", func := "sizar/sizarlaw15.CodeBack", spec := "codeBack", unfollowed := true, recurses := true, loops := true, apart := false }
def CodeBackSaid : Prop := codeBackRow.holds Try.pinned (OpenSpec.ofChange codeBackSpec)

/-- ITS FALSE NEIGHBOUR: 'it returns false'. Refute it at one input. -/
def codeBackWrong : ChangeSpec := { name := "codeBack", fn := fun _ => fun
  | [d] => { results := [.lit (.bool false)], args := [d] }
  | _ => none }
def CodeBackWrongFalsely : Prop := codeBackRow.holds Try.pinned (OpenSpec.ofChange codeBackWrong)

/-- 'sizarlaw11.BindPlays': WHATEVER THE INPUT: true; the input reads as it did. -/
def bindPlaysSpec : ChangeSpec := { name := "bindPlays", fn := fun _ => fun
  | [d1, d2, d3, d4] => { results := [.lit (.bool true)], args := [d1, d2, d3, d4] }
  | _ => none }
def bindPlaysRow : OpenClaim := { program := "ytoihjobdfjajfaa", sum := "25b1514f8acb27b532296b0e6e213b4b89bd6d848f2ac57104e02a92d7eab706", func := "sizar/sizarlaw11.BindPlays", spec := "bindPlays", unfollowed := true, recurses := true, loops := true, apart := false }
def BindPlaysSaid : Prop := bindPlaysRow.holds Try.pinned (OpenSpec.ofChange bindPlaysSpec)

/-- ITS FALSE NEIGHBOUR: 'it returns false'. Refute it at one input. -/
def bindPlaysWrong : ChangeSpec := { name := "bindPlays", fn := fun _ => fun
  | [d1, d2, d3, d4] => { results := [.lit (.bool false)], args := [d1, d2, d3, d4] }
  | _ => none }
def BindPlaysWrongFalsely : Prop := bindPlaysRow.holds Try.pinned (OpenSpec.ofChange bindPlaysWrong)

/-- 'sizarlaw11.BindKnown': WHATEVER THE INPUT: true; the input reads as it did. -/
def bindKnownSpec : ChangeSpec := { name := "bindKnown", fn := fun _ => fun
  | [] => { results := [.lit (.bool true)], args := [] }
  | _ => none }
def bindKnownRow : OpenClaim := { program := "ytoihjobdfjajfaa", sum := "25b1514f8acb27b532296b0e6e213b4b89bd6d848f2ac57104e02a92d7eab706", func := "sizar/sizarlaw11.BindKnown", spec := "bindKnown", unfollowed := true, recurses := true, apart := false }
def BindKnownSaid : Prop := bindKnownRow.holds Try.pinned (OpenSpec.ofChange bindKnownSpec)

/-- ITS FALSE NEIGHBOUR: 'it returns false'. Refute it at one input. -/
def bindKnownWrong : ChangeSpec := { name := "bindKnown", fn := fun _ => fun
  | [] => { results := [.lit (.bool false)], args := [] }
  | _ => none }
def BindKnownWrongFalsely : Prop := bindKnownRow.holds Try.pinned (OpenSpec.ofChange bindKnownWrong)

/-- 'sizarlaw12.UnifyKnown': WHATEVER THE INPUT: true; the input reads as it did. -/
def unifyKnownSpec : ChangeSpec := { name := "unifyKnown", fn := fun _ => fun
  | [] => { results := [.lit (.bool true)], args := [] }
  | _ => none }
def unifyKnownRow : OpenClaim := { program := "ytoihjobdfjajfaa", sum := "25b1514f8acb27b532296b0e6e213b4b89bd6d848f2ac57104e02a92d7eab706", func := "sizar/sizarlaw12.UnifyKnown", spec := "unifyKnown", unfollowed := true, recurses := true, apart := false }
def UnifyKnownSaid : Prop := unifyKnownRow.holds Try.pinned (OpenSpec.ofChange unifyKnownSpec)

/-- ITS FALSE NEIGHBOUR: 'it returns false'. Refute it at one input. -/
def unifyKnownWrong : ChangeSpec := { name := "unifyKnown", fn := fun _ => fun
  | [] => { results := [.lit (.bool false)], args := [] }
  | _ => none }
def UnifyKnownWrongFalsely : Prop := unifyKnownRow.holds Try.pinned (OpenSpec.ofChange unifyKnownWrong)

/-- 'sizarlaw12.UnifyMakes': WHATEVER THE INPUT: true; the input reads as it did. -/
def unifyMakesSpec : ChangeSpec := { name := "unifyMakes", fn := fun _ => fun
  | [d1, d2] => { results := [.lit (.bool true)], args := [d1, d2] }
  | _ => none }
def unifyMakesRow : OpenClaim := { program := "ytoihjobdfjajfaa", sum := "25b1514f8acb27b532296b0e6e213b4b89bd6d848f2ac57104e02a92d7eab706", func := "sizar/sizarlaw12.UnifyMakes", spec := "unifyMakes", unfollowed := true, recurses := true, loops := true, apart := false }
def UnifyMakesSaid : Prop := unifyMakesRow.holds Try.pinned (OpenSpec.ofChange unifyMakesSpec)

/-- ITS FALSE NEIGHBOUR: 'it returns false'. Refute it at one input. -/
def unifyMakesWrong : ChangeSpec := { name := "unifyMakes", fn := fun _ => fun
  | [d1, d2] => { results := [.lit (.bool false)], args := [d1, d2] }
  | _ => none }
def UnifyMakesWrongFalsely : Prop := unifyMakesRow.holds Try.pinned (OpenSpec.ofChange unifyMakesWrong)

/-- 'sizarlaw16.IndexSafe': WHATEVER THE INPUT: true; the input reads as it did. -/
def indexSafeSpec : ChangeSpec := { name := "indexSafe", fn := fun _ => fun
  | [d1, d2] => { results := [.lit (.bool true)], args := [d1, d2] }
  | _ => none }
def indexSafeRow : OpenClaim := { program := "ytoihjobdfjajfaa", sum := "25b1514f8acb27b532296b0e6e213b4b89bd6d848f2ac57104e02a92d7eab706", func := "sizar/sizarlaw16.IndexSafe", spec := "indexSafe", unfollowed := true, recurses := true, loops := true, apart := false }
def IndexSafeSaid : Prop := indexSafeRow.holds Try.pinned (OpenSpec.ofChange indexSafeSpec)

/-- ITS FALSE NEIGHBOUR: 'it returns false'. Refute it at one input. -/
def indexSafeWrong : ChangeSpec := { name := "indexSafe", fn := fun _ => fun
  | [d1, d2] => { results := [.lit (.bool false)], args := [d1, d2] }
  | _ => none }
def IndexSafeWrongFalsely : Prop := indexSafeRow.holds Try.pinned (OpenSpec.ofChange indexSafeWrong)

/-- 'sizarlaw12.UnifyPlays': WHATEVER THE INPUT: true; the input reads as it did. -/
def unifyPlaysSpec : ChangeSpec := { name := "unifyPlays", fn := fun _ => fun
  | [d] => { results := [.lit (.bool true)], args := [d] }
  | _ => none }
def unifyPlaysRow : OpenClaim := { program := "ytoihjobdfjajfaa", sum := "25b1514f8acb27b532296b0e6e213b4b89bd6d848f2ac57104e02a92d7eab706", func := "sizar/sizarlaw12.UnifyPlays", spec := "unifyPlays", unfollowed := true, recurses := true, loops := true, apart := false }
def UnifyPlaysSaid : Prop := unifyPlaysRow.holds Try.pinned (OpenSpec.ofChange unifyPlaysSpec)

/-- ITS FALSE NEIGHBOUR: 'it returns false'. Refute it at one input. -/
def unifyPlaysWrong : ChangeSpec := { name := "unifyPlays", fn := fun _ => fun
  | [d] => { results := [.lit (.bool false)], args := [d] }
  | _ => none }
def UnifyPlaysWrongFalsely : Prop := unifyPlaysRow.holds Try.pinned (OpenSpec.ofChange unifyPlaysWrong)

/-- 'sizarlaw13.AliasLess': WHATEVER THE INPUT: true; the input reads as it did. -/
def aliasLessSpec : ChangeSpec := { name := "aliasLess", fn := fun _ => fun
  | [d1, d2] => { results := [.lit (.bool true)], args := [d1, d2] }
  | _ => none }
def aliasLessRow : OpenClaim := { program := "ytoihjobdfjajfaa", sum := "25b1514f8acb27b532296b0e6e213b4b89bd6d848f2ac57104e02a92d7eab706", func := "sizar/sizarlaw13.AliasLess", spec := "aliasLess", unfollowed := true, recurses := true, loops := true, apart := false }
def AliasLessSaid : Prop := aliasLessRow.holds Try.pinned (OpenSpec.ofChange aliasLessSpec)

/-- ITS FALSE NEIGHBOUR: 'it returns false'. Refute it at one input. -/
def aliasLessWrong : ChangeSpec := { name := "aliasLess", fn := fun _ => fun
  | [d1, d2] => { results := [.lit (.bool false)], args := [d1, d2] }
  | _ => none }
def AliasLessWrongFalsely : Prop := aliasLessRow.holds Try.pinned (OpenSpec.ofChange aliasLessWrong)

/-- 'sizarlaw13.AliasSelf': WHATEVER THE INPUT: true; the input reads as it did. -/
def aliasSelfSpec : ChangeSpec := { name := "aliasSelf", fn := fun _ => fun
  | [d] => { results := [.lit (.bool true)], args := [d] }
  | _ => none }
def aliasSelfRow : OpenClaim := { program := "ytoihjobdfjajfaa", sum := "25b1514f8acb27b532296b0e6e213b4b89bd6d848f2ac57104e02a92d7eab706", func := "sizar/sizarlaw13.AliasSelf", spec := "aliasSelf", unfollowed := true, recurses := true, loops := true, apart := false }
def AliasSelfSaid : Prop := aliasSelfRow.holds Try.pinned (OpenSpec.ofChange aliasSelfSpec)

/-- ITS FALSE NEIGHBOUR: 'it returns false'. Refute it at one input. -/
def aliasSelfWrong : ChangeSpec := { name := "aliasSelf", fn := fun _ => fun
  | [d] => { results := [.lit (.bool false)], args := [d] }
  | _ => none }
def AliasSelfWrongFalsely : Prop := aliasSelfRow.holds Try.pinned (OpenSpec.ofChange aliasSelfWrong)

/-- 'sizarlaw15.CodeMatch': WHATEVER THE INPUT: true; the input reads as it did. -/
def codeMatchSpec : ChangeSpec := { name := "codeMatch", fn := fun _ => fun
  | [d1, d2] => { results := [.lit (.bool true)], args := [d1, d2] }
  | _ => none }
def codeMatchRow : OpenClaim := { program := "ytoihjobdfjajfaa", sum := "25b1514f8acb27b532296b0e6e213b4b89bd6d848f2ac57104e02a92d7eab706", func := "sizar/sizarlaw15.CodeMatch", spec := "codeMatch", unfollowed := true, recurses := true, loops := true, apart := false }
def CodeMatchSaid : Prop := codeMatchRow.holds Try.pinned (OpenSpec.ofChange codeMatchSpec)

/-- ITS FALSE NEIGHBOUR: 'it returns false'. Refute it at one input. -/
def codeMatchWrong : ChangeSpec := { name := "codeMatch", fn := fun _ => fun
  | [d1, d2] => { results := [.lit (.bool false)], args := [d1, d2] }
  | _ => none }
def CodeMatchWrongFalsely : Prop := codeMatchRow.holds Try.pinned (OpenSpec.ofChange codeMatchWrong)

/-- 'sizarlaw15.CodeSelf': WHATEVER THE INPUT: true; the input reads as it did. -/
def codeSelfSpec : ChangeSpec := { name := "codeSelf", fn := fun _ => fun
  | [d] => { results := [.lit (.bool true)], args := [d] }
  | _ => none }
def codeSelfRow : OpenClaim := { program := "ytoihjobdfjajfaa", sum := "25b1514f8acb27b532296b0e6e213b4b89bd6d848f2ac57104e02a92d7eab706", func := "sizar/sizarlaw15.CodeSelf", spec := "codeSelf", unfollowed := true, recurses := true, loops := true, apart := false }
def CodeSelfSaid : Prop := codeSelfRow.holds Try.pinned (OpenSpec.ofChange codeSelfSpec)

/-- ITS FALSE NEIGHBOUR: 'it returns false'. Refute it at one input. -/
def codeSelfWrong : ChangeSpec := { name := "codeSelf", fn := fun _ => fun
  | [d] => { results := [.lit (.bool false)], args := [d] }
  | _ => none }
def CodeSelfWrongFalsely : Prop := codeSelfRow.holds Try.pinned (OpenSpec.ofChange codeSelfWrong)

/-- 'sizarlaw15.CodeKnown': WHATEVER THE INPUT: true; the input reads as it did. -/
def codeKnownSpec : ChangeSpec := { name := "codeKnown", fn := fun _ => fun
  | [] => { results := [.lit (.bool true)], args := [] }
  | _ => none }
def codeKnownRow : OpenClaim := { program := "ytoihjobdfjajfaa", sum := "25b1514f8acb27b532296b0e6e213b4b89bd6d848f2ac57104e02a92d7eab706", func := "sizar/sizarlaw15.CodeKnown", spec := "codeKnown", unfollowed := true, recurses := true, apart := false }
def CodeKnownSaid : Prop := codeKnownRow.holds Try.pinned (OpenSpec.ofChange codeKnownSpec)

/-- ITS FALSE NEIGHBOUR: 'it returns false'. Refute it at one input. -/
def codeKnownWrong : ChangeSpec := { name := "codeKnown", fn := fun _ => fun
  | [] => { results := [.lit (.bool false)], args := [] }
  | _ => none }
def CodeKnownWrongFalsely : Prop := codeKnownRow.holds Try.pinned (OpenSpec.ofChange codeKnownWrong)

/- THE SECOND FORM. 'bulk': how many values and letters a reading holds, each counted each time it is reached (what is shared counts as often as it is met; a slice's spare places count too). A statement '..UptoSaid' is the law's where the arguments, and the package variables that the reading takes, are together of bulk at most 1048576: NARROWER than '..Said'. Prove '..Said' where nothing that the law and all that it calls make is longer than what came in: it says more and counts as full. Else prove '..UptoSaid'. A law counts once. -/
mutual
def uptoBulk {H : Type} : DataW H → Nat
  | .lit (.string bytes) => bytes.length + 1
  | .lit _ => 1
  | .nil => 1
  | .ptr d => uptoBulk d + 1
  | .slice elems spare => uptoBulkAll elems + uptoBulkAll spare + 1
  | .agg parts => uptoBulkAll parts + 1
  | .iface _ d => uptoBulk d + 1
  | .map entries => uptoBulkEntries entries + 1
  | .held _ => 1
def uptoBulkAll {H : Type} : List (DataW H) → Nat
  | [] => 0
  | d :: r => uptoBulk d + uptoBulkAll r
def uptoBulkEntries {H : Type} : List (Lit × DataW H) → Nat
  | [] => 0
  | x :: r => uptoBulkEntry x + uptoBulkEntries r
def uptoBulkEntry {H : Type} : Lit × DataW H → Nat
  | (.string bytes, d) => bytes.length + uptoBulk d + 1
  | (_, d) => uptoBulk d + 1
 end
def uptoSmall : (H : Type) → List (DataW H) → Bool := fun _ ds => decide (uptoBulkAll ds ≤ 1048576)
def OpenSpec.upto (s : _root_.Go.ChangeSpec) : _root_.Go.OpenSpec := { _root_.Go.OpenSpec.ofChange s with cond := some uptoSmall }

/-- 'sizarlaw7.TermVars', WHERE WHAT IT READS IS OF BULK AT MOST 1048576: true; the input reads as it did. -/
def termVarsUptoRow : OpenClaim := { program := "ytoihjobdfjajfaa", sum := "25b1514f8acb27b532296b0e6e213b4b89bd6d848f2ac57104e02a92d7eab706", func := "sizar/sizarlaw7.TermVars", spec := "termVars", unfollowed := true, recurses := true, loops := true, apart := false, narrowed := true }
def TermVarsUptoSaid : Prop := termVarsUptoRow.holds Try.pinned (OpenSpec.upto termVarsSpec)

/-- 'sizarlaw16.IndexKeys', WHERE WHAT IT READS IS OF BULK AT MOST 1048576: true; the input reads as it did. -/
def indexKeysUptoRow : OpenClaim := { program := "ytoihjobdfjajfaa", sum := "25b1514f8acb27b532296b0e6e213b4b89bd6d848f2ac57104e02a92d7eab706", func := "sizar/sizarlaw16.IndexKeys", spec := "indexKeys", unfollowed := true, recurses := true, loops := true, apart := false, narrowed := true }
def IndexKeysUptoSaid : Prop := indexKeysUptoRow.holds Try.pinned (OpenSpec.upto indexKeysSpec)

/-- 'sizarlaw7.TermSays', WHERE WHAT IT READS IS OF BULK AT MOST 1048576: true; the input reads as it did. -/
def termSaysUptoRow : OpenClaim := { program := "ytoihjobdfjajfaa", sum := "25b1514f8acb27b532296b0e6e213b4b89bd6d848f2ac57104e02a92d7eab706", func := "sizar/sizarlaw7.TermSays", spec := "termSays", unfollowed := true, recurses := true, loops := true, apart := false, narrowed := true }
def TermSaysUptoSaid : Prop := termSaysUptoRow.holds Try.pinned (OpenSpec.upto termSaysSpec)

/-- 'sizarlaw16.IndexPlays', WHERE WHAT IT READS IS OF BULK AT MOST 1048576: true; the input reads as it did. -/
def indexPlaysUptoRow : OpenClaim := { program := "ytoihjobdfjajfaa", sum := "25b1514f8acb27b532296b0e6e213b4b89bd6d848f2ac57104e02a92d7eab706", func := "sizar/sizarlaw16.IndexPlays", spec := "indexPlays", unfollowed := true, recurses := true, apart := false, narrowed := true }
def IndexPlaysUptoSaid : Prop := indexPlaysUptoRow.holds Try.pinned (OpenSpec.upto indexPlaysSpec)

/-- 'sizarlaw16.IndexAll', WHERE WHAT IT READS IS OF BULK AT MOST 1048576: true; the input reads as it did. -/
def indexAllUptoRow : OpenClaim := { program := "ytoihjobdfjajfaa", sum := "25b1514f8acb27b532296b0e6e213b4b89bd6d848f2ac57104e02a92d7eab706", func := "sizar/sizarlaw16.IndexAll", spec := "indexAll", unfollowed := true, recurses := true, apart := false, narrowed := true }
def IndexAllUptoSaid : Prop := indexAllUptoRow.holds Try.pinned (OpenSpec.upto indexAllSpec)

/-- 'sizarlaw16.IndexKnown', WHERE WHAT IT READS IS OF BULK AT MOST 1048576: true; the input reads as it did. -/
def indexKnownUptoRow : OpenClaim := { program := "ytoihjobdfjajfaa", sum := "25b1514f8acb27b532296b0e6e213b4b89bd6d848f2ac57104e02a92d7eab706", func := "sizar/sizarlaw16.IndexKnown", spec := "indexKnown", unfollowed := true, recurses := true, apart := false, narrowed := true }
def IndexKnownUptoSaid : Prop := indexKnownUptoRow.holds Try.pinned (OpenSpec.upto indexKnownSpec)

/-- 'sizarlaw7.TermLists', WHERE WHAT IT READS IS OF BULK AT MOST 1048576: true; the input reads as it did. -/
def termListsUptoRow : OpenClaim := { program := "ytoihjobdfjajfaa", sum := "25b1514f8acb27b532296b0e6e213b4b89bd6d848f2ac57104e02a92d7eab706", func := "sizar/sizarlaw7.TermLists", spec := "termLists", unfollowed := true, recurses := true, loops := true, apart := false, narrowed := true }
def TermListsUptoSaid : Prop := termListsUptoRow.holds Try.pinned (OpenSpec.upto termListsSpec)

/-- 'sizarlaw7.TermKnown', WHERE WHAT IT READS IS OF BULK AT MOST 1048576: true; the input reads as it did. -/
def termKnownUptoRow : OpenClaim := { program := "ytoihjobdfjajfaa", sum := "25b1514f8acb27b532296b0e6e213b4b89bd6d848f2ac57104e02a92d7eab706", func := "sizar/sizarlaw7.TermKnown", spec := "termKnown", unfollowed := true, recurses := true, apart := false, narrowed := true }
def TermKnownUptoSaid : Prop := termKnownUptoRow.holds Try.pinned (OpenSpec.upto termKnownSpec)

/-- 'sizarlaw10.OrderKeys', WHERE WHAT IT READS IS OF BULK AT MOST 1048576: true; the input reads as it did. -/
def orderKeysUptoRow : OpenClaim := { program := "ytoihjobdfjajfaa", sum := "25b1514f8acb27b532296b0e6e213b4b89bd6d848f2ac57104e02a92d7eab706", func := "sizar/sizarlaw10.OrderKeys", spec := "orderKeys", unfollowed := true, recurses := true, loops := true, apart := false, narrowed := true }
def OrderKeysUptoSaid : Prop := orderKeysUptoRow.holds Try.pinned (OpenSpec.upto orderKeysSpec)

/-- 'sizarlaw13.AliasFrom', WHERE WHAT IT READS IS OF BULK AT MOST 1048576: true; the input reads as it did. -/
def aliasFromUptoRow : OpenClaim := { program := "ytoihjobdfjajfaa", sum := "25b1514f8acb27b532296b0e6e213b4b89bd6d848f2ac57104e02a92d7eab706", func := "sizar/sizarlaw13.AliasFrom", spec := "aliasFrom", unfollowed := true, recurses := true, loops := true, apart := false, narrowed := true }
def AliasFromUptoSaid : Prop := aliasFromUptoRow.holds Try.pinned (OpenSpec.upto aliasFromSpec)

/-- 'sizarlaw10.OrderTotal', WHERE WHAT IT READS IS OF BULK AT MOST 1048576: true; the input reads as it did. -/
def orderTotalUptoRow : OpenClaim := { program := "ytoihjobdfjajfaa", sum := "25b1514f8acb27b532296b0e6e213b4b89bd6d848f2ac57104e02a92d7eab706", func := "sizar/sizarlaw10.OrderTotal", spec := "orderTotal", unfollowed := true, recurses := true, loops := true, apart := false, narrowed := true }
def OrderTotalUptoSaid : Prop := orderTotalUptoRow.holds Try.pinned (OpenSpec.upto orderTotalSpec)

/-- 'sizarlaw10.OrderSays', WHERE WHAT IT READS IS OF BULK AT MOST 1048576: true; the input reads as it did. -/
def orderSaysUptoRow : OpenClaim := { program := "ytoihjobdfjajfaa", sum := "25b1514f8acb27b532296b0e6e213b4b89bd6d848f2ac57104e02a92d7eab706", func := "sizar/sizarlaw10.OrderSays", spec := "orderSays", unfollowed := true, recurses := true, loops := true, apart := false, narrowed := true }
def OrderSaysUptoSaid : Prop := orderSaysUptoRow.holds Try.pinned (OpenSpec.upto orderSaysSpec)

/-- 'sizarlaw10.OrderKnown', WHERE WHAT IT READS IS OF BULK AT MOST 1048576: true; the input reads as it did. -/
def orderKnownUptoRow : OpenClaim := { program := "ytoihjobdfjajfaa", sum := "25b1514f8acb27b532296b0e6e213b4b89bd6d848f2ac57104e02a92d7eab706", func := "sizar/sizarlaw10.OrderKnown", spec := "orderKnown", unfollowed := true, recurses := true, apart := false, narrowed := true }
def OrderKnownUptoSaid : Prop := orderKnownUptoRow.holds Try.pinned (OpenSpec.upto orderKnownSpec)

/-- 'sizarlaw13.AliasKnown', WHERE WHAT IT READS IS OF BULK AT MOST 1048576: true; the input reads as it did. -/
def aliasKnownUptoRow : OpenClaim := { program := "ytoihjobdfjajfaa", sum := "25b1514f8acb27b532296b0e6e213b4b89bd6d848f2ac57104e02a92d7eab706", func := "sizar/sizarlaw13.AliasKnown", spec := "aliasKnown", unfollowed := true, recurses := true, apart := false, narrowed := true }
def AliasKnownUptoSaid : Prop := aliasKnownUptoRow.holds Try.pinned (OpenSpec.upto aliasKnownSpec)

/-- 'sizarlaw13.AliasSays', WHERE WHAT IT READS IS OF BULK AT MOST 1048576: true; the input reads as it did. -/
def aliasSaysUptoRow : OpenClaim := { program := "ytoihjobdfjajfaa", sum := "25b1514f8acb27b532296b0e6e213b4b89bd6d848f2ac57104e02a92d7eab706", func := "sizar/sizarlaw13.AliasSays", spec := "aliasSays", unfollowed := true, recurses := true, loops := true, apart := false, narrowed := true }
def AliasSaysUptoSaid : Prop := aliasSaysUptoRow.holds Try.pinned (OpenSpec.upto aliasSaysSpec)

/-- 'sizarlaw13.AliasMore', WHERE WHAT IT READS IS OF BULK AT MOST 1048576: true; the input reads as it did. -/
def aliasMoreUptoRow : OpenClaim := { program := "ytoihjobdfjajfaa", sum := "25b1514f8acb27b532296b0e6e213b4b89bd6d848f2ac57104e02a92d7eab706", func := "sizar/sizarlaw13.AliasMore", spec := "aliasMore", unfollowed := true, recurses := true, loops := true, apart := false, narrowed := true }
def AliasMoreUptoSaid : Prop := aliasMoreUptoRow.holds Try.pinned (OpenSpec.upto aliasMoreSpec)

/-- 'sizarlaw11.BindWhole', WHERE WHAT IT READS IS OF BULK AT MOST 1048576: true; the input reads as it did. -/
def bindWholeUptoRow : OpenClaim := { program := "ytoihjobdfjajfaa", sum := "25b1514f8acb27b532296b0e6e213b4b89bd6d848f2ac57104e02a92d7eab706", func := "sizar/sizarlaw11.BindWhole", spec := "bindWhole", unfollowed := true, recurses := true, loops := true, apart := false, narrowed := true }
def BindWholeUptoSaid : Prop := bindWholeUptoRow.holds Try.pinned (OpenSpec.upto bindWholeSpec)

/-- 'sizarlaw15.CodeBack', WHERE WHAT IT READS IS OF BULK AT MOST 1048576: true; the input reads as it did. -/
def codeBackUptoRow : OpenClaim := { program := "ytoihjobdfjajfaa", sum := "25b1514f8acb27b532296b0e6e213b4b89bd6d848f2ac57104e02a92d7eab706", func := "sizar/sizarlaw15.CodeBack", spec := "codeBack", unfollowed := true, recurses := true, loops := true, apart := false, narrowed := true }
def CodeBackUptoSaid : Prop := codeBackUptoRow.holds Try.pinned (OpenSpec.upto codeBackSpec)

/-- 'sizarlaw11.BindPlays', WHERE WHAT IT READS IS OF BULK AT MOST 1048576: true; the input reads as it did. -/
def bindPlaysUptoRow : OpenClaim := { program := "ytoihjobdfjajfaa", sum := "25b1514f8acb27b532296b0e6e213b4b89bd6d848f2ac57104e02a92d7eab706", func := "sizar/sizarlaw11.BindPlays", spec := "bindPlays", unfollowed := true, recurses := true, loops := true, apart := false, narrowed := true }
def BindPlaysUptoSaid : Prop := bindPlaysUptoRow.holds Try.pinned (OpenSpec.upto bindPlaysSpec)

/-- 'sizarlaw11.BindKnown', WHERE WHAT IT READS IS OF BULK AT MOST 1048576: true; the input reads as it did. -/
def bindKnownUptoRow : OpenClaim := { program := "ytoihjobdfjajfaa", sum := "25b1514f8acb27b532296b0e6e213b4b89bd6d848f2ac57104e02a92d7eab706", func := "sizar/sizarlaw11.BindKnown", spec := "bindKnown", unfollowed := true, recurses := true, apart := false, narrowed := true }
def BindKnownUptoSaid : Prop := bindKnownUptoRow.holds Try.pinned (OpenSpec.upto bindKnownSpec)

/-- 'sizarlaw12.UnifyKnown', WHERE WHAT IT READS IS OF BULK AT MOST 1048576: true; the input reads as it did. -/
def unifyKnownUptoRow : OpenClaim := { program := "ytoihjobdfjajfaa", sum := "25b1514f8acb27b532296b0e6e213b4b89bd6d848f2ac57104e02a92d7eab706", func := "sizar/sizarlaw12.UnifyKnown", spec := "unifyKnown", unfollowed := true, recurses := true, apart := false, narrowed := true }
def UnifyKnownUptoSaid : Prop := unifyKnownUptoRow.holds Try.pinned (OpenSpec.upto unifyKnownSpec)

/-- 'sizarlaw12.UnifyMakes', WHERE WHAT IT READS IS OF BULK AT MOST 1048576: true; the input reads as it did. -/
def unifyMakesUptoRow : OpenClaim := { program := "ytoihjobdfjajfaa", sum := "25b1514f8acb27b532296b0e6e213b4b89bd6d848f2ac57104e02a92d7eab706", func := "sizar/sizarlaw12.UnifyMakes", spec := "unifyMakes", unfollowed := true, recurses := true, loops := true, apart := false, narrowed := true }
def UnifyMakesUptoSaid : Prop := unifyMakesUptoRow.holds Try.pinned (OpenSpec.upto unifyMakesSpec)

/-- 'sizarlaw16.IndexSafe', WHERE WHAT IT READS IS OF BULK AT MOST 1048576: true; the input reads as it did. -/
def indexSafeUptoRow : OpenClaim := { program := "ytoihjobdfjajfaa", sum := "25b1514f8acb27b532296b0e6e213b4b89bd6d848f2ac57104e02a92d7eab706", func := "sizar/sizarlaw16.IndexSafe", spec := "indexSafe", unfollowed := true, recurses := true, loops := true, apart := false, narrowed := true }
def IndexSafeUptoSaid : Prop := indexSafeUptoRow.holds Try.pinned (OpenSpec.upto indexSafeSpec)

/-- 'sizarlaw12.UnifyPlays', WHERE WHAT IT READS IS OF BULK AT MOST 1048576: true; the input reads as it did. -/
def unifyPlaysUptoRow : OpenClaim := { program := "ytoihjobdfjajfaa", sum := "25b1514f8acb27b532296b0e6e213b4b89bd6d848f2ac57104e02a92d7eab706", func := "sizar/sizarlaw12.UnifyPlays", spec := "unifyPlays", unfollowed := true, recurses := true, loops := true, apart := false, narrowed := true }
def UnifyPlaysUptoSaid : Prop := unifyPlaysUptoRow.holds Try.pinned (OpenSpec.upto unifyPlaysSpec)

/-- 'sizarlaw13.AliasLess', WHERE WHAT IT READS IS OF BULK AT MOST 1048576: true; the input reads as it did. -/
def aliasLessUptoRow : OpenClaim := { program := "ytoihjobdfjajfaa", sum := "25b1514f8acb27b532296b0e6e213b4b89bd6d848f2ac57104e02a92d7eab706", func := "sizar/sizarlaw13.AliasLess", spec := "aliasLess", unfollowed := true, recurses := true, loops := true, apart := false, narrowed := true }
def AliasLessUptoSaid : Prop := aliasLessUptoRow.holds Try.pinned (OpenSpec.upto aliasLessSpec)

/-- 'sizarlaw13.AliasSelf', WHERE WHAT IT READS IS OF BULK AT MOST 1048576: true; the input reads as it did. -/
def aliasSelfUptoRow : OpenClaim := { program := "ytoihjobdfjajfaa", sum := "25b1514f8acb27b532296b0e6e213b4b89bd6d848f2ac57104e02a92d7eab706", func := "sizar/sizarlaw13.AliasSelf", spec := "aliasSelf", unfollowed := true, recurses := true, loops := true, apart := false, narrowed := true }
def AliasSelfUptoSaid : Prop := aliasSelfUptoRow.holds Try.pinned (OpenSpec.upto aliasSelfSpec)

/-- 'sizarlaw15.CodeMatch', WHERE WHAT IT READS IS OF BULK AT MOST 1048576: true; the input reads as it did. -/
def codeMatchUptoRow : OpenClaim := { program := "ytoihjobdfjajfaa", sum := "25b1514f8acb27b532296b0e6e213b4b89bd6d848f2ac57104e02a92d7eab706", func := "sizar/sizarlaw15.CodeMatch", spec := "codeMatch", unfollowed := true, recurses := true, loops := true, apart := false, narrowed := true }
def CodeMatchUptoSaid : Prop := codeMatchUptoRow.holds Try.pinned (OpenSpec.upto codeMatchSpec)

/-- 'sizarlaw15.CodeSelf', WHERE WHAT IT READS IS OF BULK AT MOST 1048576: true; the input reads as it did. -/
def codeSelfUptoRow : OpenClaim := { program := "ytoihjobdfjajfaa", sum := "25b1514f8acb27b532296b0e6e213b4b89bd6d848f2ac57104e02a92d7eab706", func := "sizar/sizarlaw15.CodeSelf", spec := "codeSelf", unfollowed := true, recurses := true, loops := true, apart := false, narrowed := true }
def CodeSelfUptoSaid : Prop := codeSelfUptoRow.holds Try.pinned (OpenSpec.upto codeSelfSpec)

/-- 'sizarlaw15.CodeKnown', WHERE WHAT IT READS IS OF BULK AT MOST 1048576: true; the input reads as it did. -/
def codeKnownUptoRow : OpenClaim := { program := "ytoihjobdfjajfaa", sum := "25b1514f8acb27b532296b0e6e213b4b89bd6d848f2ac57104e02a92d7eab706", func := "sizar/sizarlaw15.CodeKnown", spec := "codeKnown", unfollowed := true, recurses := true, apart := false, narrowed := true }
def CodeKnownUptoSaid : Prop := codeKnownUptoRow.holds Try.pinned (OpenSpec.upto codeKnownSpec)

end Rows
end Go.Proofs.Ytoihjobdfjajfaa

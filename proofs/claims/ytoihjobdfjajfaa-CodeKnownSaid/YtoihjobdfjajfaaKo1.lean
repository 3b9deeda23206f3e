/- Merged texts: Closed, Base, Tm, Lt, Deep, Made, One, Each, Size, Depth, Good, IMap, Vars, Bare, Nums, Aw7, Same, Ref1, Any, Any2, Any3, Any4, OwnP, Items0, Any5, Twin, SayP, TL1, AL1, RepP, Any6, TK1, AL3, AL4, BS. -/
import Derived.Test.YtoihjobdfjajfaaRows
import Derived.ProofKit
import Derived.Maps.OwnSet
import Derived.Maps.AppendAt
import Derived.WalkKit
import Derived.WalkSpells
import Derived.WalkLawsBesides
import Derived.Lib.Hide
import Derived.Deep.QuietTactic
import Derived.BigQuiet
import Derived.StillTailTactics
import Derived.Deep.RegionHeld3
import Derived.Deep.AppendLies
import Derived.Test.YtoihjobdfjajfaaProg
import Derived.Outline
import Derived.Lib.ConvBytes
import Derived.Deep.LoopGhost
set_option linter.unusedVariables false
set_option linter.unusedSimpArgs false
open List renaming getElem?_eq_getElem → Qa, mem_cons_of_mem → Qb, mem_append_left → Qc, mem_cons_self → Qe, mem_of_getElem? → Qf, getElem?_eq_some_iff → Qg, eq_nil_of_length_eq_zero → Qh, length_append → Qi, mem_append_right → Qj, setIfInBounds_toArray → Qk, not_mem_nil → Ql, mem_append → Qn, getElem?_map → Qp, foldl_cons → Qq, set_cons_succ → Qr, set_cons_zero → Qs, all_eq_true → Qt, length_map → Qu, mem_cons → Qw, map_cons → Qx, length_cons → QB
open Bool renaming and_eq_true → Qd
open Nat renaming le_refl → Qm, lt_of_lt_of_le → Qo, lt_irrefl → Qy, lt_of_le_of_lt → Qz, le_trans → QA
open Array renaming getElem?_toList → Qv, getElem?_eq_some_iff → QC
set_option maxHeartbeats 12800000
namespace Go.Proofs.Ytoihjobdfjajfaa
def orderCodes:List Nat:=[104,97,114,110,101,115,115,32,53,56,48,55,48,49,98,55,53,102,101,52,49,97,53,57,101,52,99,48,50,100,51,52,101,55,56,49,102,101,52,100,102,53,100,56,49,51,53,52,102,101,99,102,97,57,55,101,57,52,55,102,102,49,100,56,56,97,49,99,97,51,49,100,32,99,117,116,32,97,116,32,115,105,122,97,114,47,115,105,122,97,114,108,97,119,55,46,84,101,114,109,86,97,114,115,32,115,105,122,97,114,47,115,105,122,97,114,108,97,119,49,54,46,73,110,100,101,120,75,101,121,115,32,115,105,122,97,114,47,115,105,122,97,114,108,97,119,55,46,84,101,114,109,83,97,121,115,32,115,105,122,97,114,47,115,105,122,97,114,108,97,119,49,54,46,73,110,100,101,120,80,108,97,121,115,32,115,105,122,97,114,47,115,105,122,97,114,108,97,119,49,54,46,73,110,100,101,120,65,108,108,32,115,105,122,97,114,47,115,105,122,97,114,108,97,119,49,54,46,73,110,100,101,120,75,110,111,119,110,32,115,105,122,97,114,47,115,105,122,97,114,108,97,119,55,46,84,101,114,109,76,105,115,116,115,32,115,105,122,97,114,47,115,105,122,97,114,108,97,119,55,46,84,101,114,109,75,110,111,119,110,32,115,105,122,97,114,47,115,105,122,97,114,108,97,119,49,48,46,79,114,100,101,114,75,101,121,115,32,115,105,122,97,114,47,115,105,122,97,114,108,97,119,49,51,46,65,108,105,97,115,70,114,111,109,32,115,105,122,97,114,47,115,105,122,97,114,108,97,119,49,48,46,79,114,100,101,114,84,111,116,97,108,32,115,105,122,97,114,47,115,105,122,97,114,108,97,119,49,48,46,79,114,100,101,114,83,97,121,115,32,115,105,122,97,114,47,115,105,122,97,114,108,97,119,49,48,46,79,114,100,101,114,75,110,111,119,110,32,115,105,122,97,114,47,115,105,122,97,114,108,97,119,49,51,46,65,108,105,97,115,75,110,111,119,110,32,115,105,122,97,114,47,115,105,122,97,114,108,97,119,49,51,46,65,108,105,97,115,83,97,121,115,32,115,105,122,97,114,47,115,105,122,97,114,108,97,119,49,51,46,65,108,105,97,115,77,111,114,101,32,115,105,122,97,114,47,115,105,122,97,114,108,97,119,49,49,46,66,105,110,100,87,104,111,108,101,32,115,105,122,97,114,47,115,105,122,97,114,108,97,119,49,53,46,67,111,100,101,66,97,99,107,32,115,105,122,97,114,47,115,105,122,97,114,108,97,119,49,49,46,66,105,110,100,80,108,97,121,115,32,115,105,122,97,114,47,115,105,122,97,114,108,97,119,49,49,46,66,105,110,100,75,110,111,119,110,32,115,105,122,97,114,47,115,105,122,97,114,108,97,119,49,50,46,85,110,105,102,121,75,110,111,119,110,32,115,105,122,97,114,47,115,105,122,97,114,108,97,119,49,50,46,85,110,105,102,121,77,97,107,101,115,32,115,105,122,97,114,47,115,105,122,97,114,108,97,119,49,54,46,73,110,100,101,120,83,97,102,101,32,115,105,122,97,114,47,115,105,122,97,114,108,97,119,49,50,46,85,110,105,102,121,80,108,97,121,115,32,115,105,122,97,114,47,115,105,122,97,114,108,97,119,49,51,46,65,108,105,97,115,76,101,115,115,32,115,105,122,97,114,47,115,105,122,97,114,108,97,119,49,51,46,65,108,105,97,115,83,101,108,102,32,115,105,122,97,114,47,115,105,122,97,114,108,97,119,49,53,46,67,111,100,101,77,97,116,99,104,32,115,105,122,97,114,47,115,105,122,97,114,108,97,119,49,53,46,67,111,100,101,83,101,108,102,32,115,105,122,97,114,47,115,105,122,97,114,108,97,119,49,53,46,67,111,100,101,75,110,111,119,110]
theorem order_eq:Try.prog.initOrder=String.ofList (orderCodes.map Char.ofNat):=by kernel_rfl
theorem order_list:Try.prog.initOrder.toList=orderCodes.map Char.ofNat:=by rw [order_eq,String.toList_ofList]
def wordFirst:List Char:=List.map Char.ofNat [99,117,116]
def wordRest:List (List Char):=List.map (fun l=>List.map Char.ofNat l) [[97,116],[115,105,122,97,114,47,115,105,122,97,114,108,97,119,55,46,84,101,114,109,86,97,114,115],[115,105,122,97,114,47,115,105,122,97,114,108,97,119,49,54,46,73,110,100,101,120,75,101,121,115],[115,105,122,97,114,47,115,105,122,97,114,108,97,119,55,46,84,101,114,109,83,97,121,115],[115,105,122,97,114,47,115,105,122,97,114,108,97,119,49,54,46,73,110,100,101,120,80,108,97,121,115],[115,105,122,97,114,47,115,105,122,97,114,108,97,119,49,54,46,73,110,100,101,120,65,108,108],[115,105,122,97,114,47,115,105,122,97,114,108,97,119,49,54,46,73,110,100,101,120,75,110,111,119,110],[115,105,122,97,114,47,115,105,122,97,114,108,97,119,55,46,84,101,114,109,76,105,115,116,115],[115,105,122,97,114,47,115,105,122,97,114,108,97,119,55,46,84,101,114,109,75,110,111,119,110],[115,105,122,97,114,47,115,105,122,97,114,108,97,119,49,48,46,79,114,100,101,114,75,101,121,115],[115,105,122,97,114,47,115,105,122,97,114,108,97,119,49,51,46,65,108,105,97,115,70,114,111,109],[115,105,122,97,114,47,115,105,122,97,114,108,97,119,49,48,46,79,114,100,101,114,84,111,116,97,108],[115,105,122,97,114,47,115,105,122,97,114,108,97,119,49,48,46,79,114,100,101,114,83,97,121,115],[115,105,122,97,114,47,115,105,122,97,114,108,97,119,49,48,46,79,114,100,101,114,75,110,111,119,110],[115,105,122,97,114,47,115,105,122,97,114,108,97,119,49,51,46,65,108,105,97,115,75,110,111,119,110],[115,105,122,97,114,47,115,105,122,97,114,108,97,119,49,51,46,65,108,105,97,115,83,97,121,115],[115,105,122,97,114,47,115,105,122,97,114,108,97,119,49,51,46,65,108,105,97,115,77,111,114,101],[115,105,122,97,114,47,115,105,122,97,114,108,97,119,49,49,46,66,105,110,100,87,104,111,108,101],[115,105,122,97,114,47,115,105,122,97,114,108,97,119,49,53,46,67,111,100,101,66,97,99,107],[115,105,122,97,114,47,115,105,122,97,114,108,97,119,49,49,46,66,105,110,100,80,108,97,121,115],[115,105,122,97,114,47,115,105,122,97,114,108,97,119,49,49,46,66,105,110,100,75,110,111,119,110],[115,105,122,97,114,47,115,105,122,97,114,108,97,119,49,50,46,85,110,105,102,121,75,110,111,119,110],[115,105,122,97,114,47,115,105,122,97,114,108,97,119,49,50,46,85,110,105,102,121,77,97,107,101,115],[115,105,122,97,114,47,115,105,122,97,114,108,97,119,49,54,46,73,110,100,101,120,83,97,102,101],[115,105,122,97,114,47,115,105,122,97,114,108,97,119,49,50,46,85,110,105,102,121,80,108,97,121,115],[115,105,122,97,114,47,115,105,122,97,114,108,97,119,49,51,46,65,108,105,97,115,76,101,115,115],[115,105,122,97,114,47,115,105,122,97,114,108,97,119,49,51,46,65,108,105,97,115,83,101,108,102],[115,105,122,97,114,47,115,105,122,97,114,108,97,119,49,53,46,67,111,100,101,77,97,116,99,104],[115,105,122,97,114,47,115,105,122,97,114,108,97,119,49,53,46,67,111,100,101,83,101,108,102],[115,105,122,97,114,47,115,105,122,97,114,108,97,119,49,53,46,67,111,100,101,75,110,111,119,110]]
theorem order_words0:behindMainWord (wordsSigns (orderCodes.map Char.ofNat))=wordFirst :: wordRest:=by kernel_rfl
theorem order_words:behindMainWord (wordsSigns Try.prog.initOrder.toList)=wordFirst :: wordRest:=by rw [order_list];exact order_words0
theorem word_first : wordFirst = "cut".toList := by kernel_rfl
theorem closed_strip:stripLifts liftWords (wordFirst :: wordRest)=([],wordFirst :: wordRest):=by kernel_rfl
theorem liftsFinal_of {P : Program} {c : List Char} {rest : List (List Char)} (h : behindMainWord (wordsSigns P.initOrder.toList) = c :: rest) (hs : stripLifts liftWords (c :: rest) = ([], c :: rest)) (hc : (c == "carried".toList) = false) : P.liftsFinal = false := by
 unfold Program.liftsFinal Program.headLifts;rw [h,hs];simp at hc ⊢
 exact fun e=>absurd e hc
theorem mayEnter_of {P : Program} {c : List Char} {rest : List (List Char)} (h : behindMainWord (wordsSigns P.initOrder.toList) = c :: rest) (hs : stripLifts liftWords (c :: rest) = ([], c :: rest)) (hc : c = "cut".toList)
 (h1:P.laysLater=false) (h2:P.bearsReflect=false) (h3:P.doorRows=[]):P.mayEnter=true:=by
 unfold Program.mayEnter Program.doorFits;rw [h]
 dsimp only
 rw [hs,h1,h2,h3];subst hc;simp
theorem closed_liftsFinal:Try.prog.liftsFinal=false:=liftsFinal_of order_words closed_strip (by kernel_rfl)
theorem closed_laysLater:Try.prog.laysLater=false:=by kernel_rfl
theorem closed_bearsReflect:Try.prog.bearsReflect=false:=by kernel_rfl
theorem closed_doorRows:Try.prog.doorRows=[]:=by kernel_rfl
theorem closed_mayEnter:Try.prog.mayEnter=true:=mayEnter_of order_words closed_strip word_first closed_laysLater closed_bearsReflect closed_doorRows
theorem closed_laidOut:laidOutB Try.prog=true:=by kernel_rfl
theorem closed_mapsRowed:mapsRowed Try.prog=true:=by kernel_rfl
theorem closed_stops:(Try.prog.stops == [])=true:=by kernel_rfl
theorem closed_stopKnobs:(Try.prog.stopKnobs == [])=true:=by kernel_rfl
theorem closed_plainKeys:Try.prog.plainKeys=true:=by kernel_rfl
theorem closed_stopsHeard:Try.prog.stopsHeard=true:=by kernel_rfl
theorem make_of {P : Program} {c : List Char} {rest : List (List Char)} (h : behindMainWord (wordsSigns P.initOrder.toList) = c :: rest) (hc : c = "cut".toList) : P.make = some .cut := by
 unfold Program.make;rw [h];subst hc;simp
theorem closed_make:Try.prog.make=some .cut:=make_of order_words word_first
theorem joinedFacts_of {P:Program} {f:FuncId} {fn:Func} {s:ChangeSpec} {c:OpenClaim} (g1:laidOutB P=true) (g2:mapsRowed P=true) (g3:(P.stops == [])=true) (g4:(P.stopKnobs == [])=true) (g5:P.plainKeys=true) (g6:P.stopsHeard=true) (g7:P.mayEnter=true) (g8:P.liftsFinal=false) (g9:P.make=some .cut)
 (k1:c.wf (OpenSpec.ofChange s)=true) (k2:fn.params.all (P.readableRec ·)=true) (k3:namedTie P c.named s.vars=true) (k4:(c.stops == [])=true) (k5:(c.knobs == [])=true)
 (k6:(c.inPlace == P.inPlace f)=true) (k7:(c.unfollowed == P.unfollowed f)=true) (k8:(c.recurses == P.recurses f)=true) (k9:(c.named == P.varsNamed f)=true)
 (k10:((c.maps == (fn.params.toList++s.plain.varTypes P).any (P.mapsRec ·)) && (c.ifaces == (fn.params.toList++s.plain.varTypes P).any (P.ifacesRec ·)) && (c.mapsOut == P.mapsAmong fn.resultTypes.toList))=true)
 (k11:((c.loops == (fn.params.toList++s.plain.varTypes P).any (P.loopsFrom ·)) && (c.wideKeys == (fn.params.toList++s.plain.varTypes P++fn.resultTypes.toList).any (P.wideKeysFrom ·)))=true)
 (k12:s.vars.all (P.varReadable ·)=true) (k13:fn.resultTypes.all (fun t=>P.readableRec t && decide (t < P.types.size))=true) (k14:((c.ifacesOut == fn.resultTypes.toList.any (P.ifacesRec ·)) && (c.loopsOut == fn.resultTypes.toList.any (P.loopsFrom ·)))=true)
 (k15:c.plainKeys=true) (k16:c.shortTexts.isNone=true) (k17:c.lifted=false) (k18:c.make = .cut) (k19:c.domain.isEmpty=true) (k19b:(c.kinds == [])=true) (k20:(c.pinned == c.pinnedBy)=true)
 (k21:(c.veiled == (fn.params.toList++s.plain.varTypes P++fn.resultTypes.toList).any (P.veiledRec ·))=true) (k22:c.veiledFits P fn.params.toList (fn.params.toList++s.plain.varTypes P++fn.resultTypes.toList)=true):joinedFacts P f fn s c=true:=by
 simp only [Qd] at k10 k11 k14;unfold joinedFacts;rw [g1,g2,g3,g4,g6,g7,k1,k2,k3,k4,k5,k6,k7,k8,k9,k10.1.1,k10.1.2,k10.2,k11.1,k11.2,k12,k13,k14.1,k14.2,k16,if_pos k19,k19b,k20,k21,k22,g5,g8,g9,k15,k17,k18];simp
theorem zL {α : Type _} {a : Array α} {i : Nat} {v : α} (h : a[i]? = some v) : i < a.size := (Array.getElem?_eq_some_iff.1 h).1
abbrev zN : Nat → Prop := fun _ => False
open Go.RowKit
structure Turned (S:Nat→Prop) (w w':World):Prop where
 os:w'.os=w.os
 tape:w'.tape=w.tape
 output:w'.output=w.output
 size:w.heap.size≤w'.heap.size
 block:∀ k,k < w.heap.size→¬ S k→w'.heap[k]? = w.heap[k]?
theorem Turned.refl (S:Nat→Prop) (w:World):Turned S w w:=⟨rfl,rfl,rfl,Qm _,fun _ _ _=>rfl⟩
theorem Turned.trans {S:Nat→Prop} {a b c:World} (h:Turned S a b) (k:Turned S b c):Turned S a c:=
 ⟨k.os.trans h.os,k.tape.trans h.tape,k.output.trans h.output,QA h.size k.size,fun i hi hn=>(k.block i (Qo hi h.size) hn).trans (h.block i hi hn)⟩
theorem Turned.step {S T:Nat→Prop} {a b c:World} (h:Turned S a b) (k:Turned T b c) (hT:∀ i,i < a.heap.size→T i→S i):Turned S a c:=
 ⟨k.os.trans h.os,k.tape.trans h.tape,k.output.trans h.output,QA h.size k.size,fun i hi hn=>(k.block i (Qo hi h.size) (fun t=>hn (hT i hi t))).trans (h.block i hi hn)⟩
theorem Turned.mono {S T:Nat→Prop} {a b:World} (h:Turned S a b) (hT:∀ i,i < a.heap.size→S i→T i):Turned T a b:=
 ⟨h.os,h.tape,h.output,h.size,fun i hi hn=>h.block i hi (fun s=>hn (hT i hi s))⟩
theorem Turned.alloc {S:Nat→Prop} {a w:World} (h:Turned S a w) (o:Obj):Turned S a (w.alloc o):=
 h.trans ⟨rfl,rfl,rfl,by simp,fun k hk _=>Below.heap_alloc _ _ _ hk⟩
theorem Turned.drew {S:Nat→Prop} {a w:World} (h:Turned S a w):Turned S a w.drew:=⟨h.os,h.tape,h.output,h.size,h.block⟩
theorem Turned.drewN {S:Nat→Prop} {a w:World} (h:Turned S a w) (n:Nat):Turned S a (w.drewN n):=⟨h.os,h.tape,h.output,h.size,h.block⟩
theorem Turned.setCell {S:Nat→Prop} {a w:World} (h:Turned S a w) {p:Addr} (hp:a.heap.size≤p.block∨S p.block) (u:Value):Turned S a (w.setCell p u):=by
 refine ⟨h.os,h.tape,h.output,by simpa [World.setCell] using h.size,fun k hk hn=>?_⟩;rw [Below.heap_setCell _ _ _ _ (fun e=>by subst e;rcases hp with hp | hp;omega;exact hn hp)];exact h.block k hk hn
theorem Turned.grown {S:Nat→Prop} {a w w':World} {row:Option Nat} (h:Turned S a w) (hg:w.grownBy w' row) (hr:∀ k,row=some k→a.heap.size≤k∨S k):Turned S a w':=by
 refine ⟨hg.os.trans h.os,hg.tape.trans h.tape,hg.output.trans h.output,QA h.size hg.size,fun k hk hn=>?_⟩;exact (hg.block k (Qo hk h.size) (fun e=>by rcases hr k e.symm with hp | hp;omega;exact hn hp)).trans (h.block k hk hn)
def Row (w:World) (e:TypeId) (size:Nat) (v:Value) (n:Nat) (xs:List Value):Prop:=
 xs.length=n * size∧((v = .slice none 0 0∧n=0)∨∃ g cap cur,v = .slice (some ⟨g,0,none⟩) n cap∧w.heap[g]? = some (.cells cur e (0,0))∧n≤cap∧cap≤maxLen∧cap * size≤cur.size∧cur.toList.take (n * size)=xs)
theorem Row.nil (w:World) (e:TypeId) (size:Nat):Row w e size (.slice none 0 0) 0 []:=⟨by simp,.inl ⟨rfl,rfl⟩⟩
theorem Row.shape {w:World} {e:TypeId} {size:Nat} {v:Value} {n:Nat} {xs:List Value} (h:Row w e size v n xs):∃ a cap,v = .slice a n cap:=by
 rcases h.2 with ⟨rfl,rfl⟩ | ⟨g,cap,cur,rfl,_⟩
 · exact ⟨_,_,rfl⟩
 · exact ⟨_,_,rfl⟩
theorem Row.shape_pos {w:World} {e:TypeId} {size:Nat} {v:Value} {n:Nat} {xs:List Value} (h:Row w e size v n xs) (hn:0 < n):∃ g cap,v = .slice (some ⟨g,0,none⟩) n cap:=by
 rcases h.2 with ⟨rfl,rfl⟩ | ⟨g,cap,cur,rfl,_⟩
 · omega
 · exact ⟨_,_,rfl⟩
theorem Row.cells {w:World} {e:TypeId} {size:Nat} {v:Value} {n g cap:Nat} {xs:List Value} (h:Row w e size v n xs) (hv:v = .slice (some ⟨g,0,none⟩) n cap):∀ (j:Nat) (u:Value),xs[j]? = some u→w.cell? ⟨g,j,none⟩=some u:=by
 intro j u hu
 rcases h.2 with ⟨rfl,_⟩ | ⟨g',cap',cur,rfl,hgg,_,_,_,htake⟩
 · cases hv
 · injection hv with hv _ _;injection hv with hv;injection hv with hv;subst hv
   rw [cell_of_row w g' j cur e (0,0) hgg];rw [←htake,List.getElem?_take] at hu
   split at hu
   · simpa using hu
   · cases hu
theorem Row.free {w:World} {e:TypeId} {size:Nat} {v:Value} {n g cap:Nat} {xs:List Value} (h:Row w e size v n xs) (hv:v = .slice (some ⟨g,0,none⟩) n cap) (j:Nat):w.frozen? ⟨g,j,none⟩=false:=by
 rcases h.2 with ⟨rfl,_⟩ | ⟨g',cap',cur,rfl,hgg,_⟩
 · cases hv
 · injection hv with hv _ _;injection hv with hv;injection hv with hv;subst hv
   exact frozen_of_row w g' j cur e hgg
theorem Row.lt {w:World} {e:TypeId} {size:Nat} {v:Value} {n:Nat} {xs:List Value} (h:Row w e size v n xs):∀ k,v.ownBlock=some k→k < w.heap.size:=by
 intro k hk
 rcases h.2 with ⟨rfl,_⟩ | ⟨g,cap,cur,rfl,hg,_⟩
 · simp [Value.ownBlock] at hk
 · simp [Value.ownBlock] at hk;subst hk;exact (zL hg)
theorem Row.turned {S:Nat→Prop} {w w':World} {e:TypeId} {size:Nat} {v:Value} {n:Nat} {xs:List Value} (h:Row w e size v n xs) (ht:Turned S w w') (hS:∀ k,v.ownBlock=some k→¬ S k):Row w' e size v n xs:=by
 refine ⟨h.1,?_⟩
 rcases h.2 with hn | ⟨g,cap,cur,rfl,hg,rest⟩
 · exact .inl hn
 · exact .inr ⟨g,cap,cur,rfl,(ht.block g (zL hg) (hS g rfl)).trans hg,rest⟩
theorem Row.turned0 {w w':World} {e:TypeId} {size:Nat} {v:Value} {n:Nat} {xs:List Value} (h:Row w e size v n xs) (ht:Turned zN w w'):Row w' e size v n xs:=h.turned ht (fun _ _ f=>f)
theorem Row.alloc {w:World} {e:TypeId} {size:Nat} {v:Value} {n:Nat} {xs:List Value} (h:Row w e size v n xs) (o:Obj):Row (w.alloc o) e size v n xs:=h.turned0 ((Turned.refl _ _).alloc o)
theorem Row.setCell {w:World} {e:TypeId} {size:Nat} {v:Value} {n:Nat} {xs:List Value} (h:Row w e size v n xs) {p:Addr} (hp:v.ownBlock≠some p.block) (u:Value):Row (w.setCell p u) e size v n xs:=
 h.turned ((Turned.refl (fun k=>k=p.block) w).setCell (.inr rfl) u) (fun k hk e=>hp (by rw [hk,e]))
theorem Row.made (w:World) (e:TypeId) (size:Nat) (cs:Array Value) (n:Nat) (h:cs.size=n * size) (hn:n≤maxLen):Row (w.alloc (.cells cs e)) e size (.slice (some ⟨w.heap.size,0,none⟩) n n) n cs.toList:=
 ⟨by rw [Array.length_toList];exact h,.inr ⟨w.heap.size,n,cs,rfl,heap_alloc_new w _,Qm _,hn,Nat.le_of_eq h.symm,by rw [←h,←Array.length_toList,List.take_length]⟩⟩
theorem Row.take {w:World} {e:TypeId} {size:Nat} {n g cap:Nat} {xs:List Value} (h:Row w e size (.slice (some ⟨g,0,none⟩) n cap) n xs) {m c:Nat} (hm:m≤n) (hc:m≤c) (hcc:c≤cap):Row w e size (.slice (some ⟨g,0,none⟩) m c) m (xs.take (m * size)):=by
 have hmn:m * size≤n * size:=Nat.mul_le_mul_right _ hm;refine ⟨by rw [List.length_take,h.1];omega,.inr ?_⟩
 rcases h.2 with ⟨e,_⟩ | ⟨g',cap',cur,e,hgg,h1,h2,h3,htake⟩
 · cases e
 · injection e with e1 _ e2;injection e1 with e1;injection e1 with e1;subst e1;subst e2
   refine ⟨g,c,cur,rfl,hgg,hc,by omega,QA (Nat.mul_le_mul_right _ hcc) h3,?_⟩;rw [←htake,List.take_take,Nat.min_eq_left hmn]
section
variable {P:Program} (w:World)
theorem run_append_row (t ty e:TypeId) (i:TypeInfo) (z:Value) (size bytes:Nat) (ht:P.underlying t=some (.slice e)) (hi:P.info? e=some i) (hz:i.zero=some z)
 (hsize:i.size=size) (hby:i.bytes=bytes) (hzs:z.cells.size=size) (hsz:0 < size)
 (v:Value) (n:Nat) (xs:List Value) (hown:Row w e size v n xs)
 (a:Addr) (m c:Nat) (news:List Value) (hl:news.length=m * size) (hnews:∀ j u,news[j]? = some u→w.cell? (a.add j)=some u) (h1:∀ u∈news,u.oneCell'=true)
 (h63:n+m≤maxLen) (hbytes:(n+m) * bytes≤140737488355328) :
 ∃ v' w',(Builtin.append_ #[t,t] ty #[v,.slice (some a) m c]).run P w = .ok v' w'∧Row w' e size v' (n+m) (xs++news)∧Turned (fun k=>v.ownBlock=some k) w w'∧
  (v'.ownBlock=v.ownBlock∨v'.ownBlock=some w.heap.size)∧(v' = .slice none 0 0→v = .slice none 0 0∧m=0):=by
 subst hsize;subst hby
 have hsmall:n+m≤9223372036854775807:=by simp only [maxLen] at h63;omega
 have hlen:(xs++news).length=(n+m) * i.size:=by rw [Qi,hown.1,hl,Nat.add_mul]
 have grown:∀ (old:Nat),old < n+m→
  Row (w.drew.alloc (.cells (xs.toArray++news.toArray++Builtin.zeroCells z.cells (grownCap w (n+m) old e - (n+m))) e)) e i.size
   (.slice (some ⟨w.heap.size,0,none⟩) (n+m) (grownCap w (n+m) old e)) (n+m) (xs++news):=by
  intro old ho;have hge:=grownCap_ge w (n+m) old e;have hcm:grownCap w (n+m) old e≤maxLen:=grownCap_le_maxLen w (n+m) old e h63;refine ⟨hlen,.inr ⟨w.heap.size,_,_,rfl,heap_alloc_new w.drew _,hge,hcm,?_,?_⟩⟩
  · simp only [Array.size_append,List.size_toArray,size_zeroCells,hzs,hown.1,hl,←Nat.add_mul]
    apply Nat.le_of_eq;congr 1;omega
  · simp only [Array.toList_append,List.append_assoc]
    rw [←List.append_assoc,←hlen];exact List.take_left
 rcases hown.2 with ⟨rfl,rfl⟩ | ⟨g,cap,cur,rfl,hg,hnc,hcm,hcs,htake⟩
 · have hx:xs=[]:=Qh (by simpa using hown.1)
   subst hx
   by_cases hm:m=0
   · subst hm
     have hn:news=[]:=Qh (by simpa using hl);subst hn;refine ⟨.slice none 0 0,w,?_,Row.nil w e i.size,Turned.refl _ _,Or.inl rfl,by simp⟩;simp [Builtin.append_,run_underlying ht,sizeOf,typeInfo,hi,Builtin.lenOf,Builtin.firstCells,loadCells,loadCellsFrom]
   · have hr:=run_append_nil (P:=P) w t ty e i z ht hi hz a m c news hl hnews (by omega) (by omega) (by have hb:=hbytes;simp only [Nat.zero_add] at hb;omega)
     have hgr:=grown 0 (by omega);simp only [Nat.zero_add,List.nil_append,Array.empty_append] at hgr ⊢;exact ⟨_,_,hr,hgr,((Turned.refl _ w).drew).alloc _,Or.inr rfl,by simp⟩
 · by_cases hroom:n+m≤cap
   · have hfit:n * i.size+news.length≤cur.size:=by rw [hl,←Nat.add_mul];exact QA (Nat.mul_le_mul_right _ hroom) hcs
     have hr:=run_append_room (P:=P) w t ty e i ht hi g n cap cur hg a m c news hl hnews h1 hroom hfit;refine ⟨_,_,hr,⟨hlen,.inr ⟨g,cap,_,rfl,setRow_heap w g cur _ e _ hg,hroom,hcm,?_,?_⟩⟩,⟨rfl,rfl,rfl,by simp,fun k _ hk=>setRow_other w g k _ (fun e=>hk (by simp [Value.ownBlock,e]))⟩,Or.inl rfl,by simp⟩
     · simp only [List.size_toArray,Qi,List.length_take,List.length_drop,Array.length_toList]
       omega
     · rw [htake,←hlen]
       exact List.take_left
   · have holds:∀ j u,xs[j]? = some u→w.cell? ((⟨g,0,none⟩:Addr).add j)=some u:=by
      intro j u hu;rw [Addr.add_lit,Nat.zero_add];exact hown.cells rfl j u hu
     have hr:=run_append_grow (P:=P) w t ty e i z ht hi hz ⟨g,0,none⟩ n cap xs hown.1 holds a m c news hl hnews (by omega) (by omega) (growslice_fits (by omega) hbytes);exact ⟨_,_,hr,grown cap (by omega),((Turned.refl _ w).drew).alloc _,Or.inr rfl,by simp⟩
theorem run_append_any (t ty e:TypeId) (i:TypeInfo) (z:Value) (size bytes:Nat) (ht:P.underlying t=some (.slice e)) (hi:P.info? e=some i) (hz:i.zero=some z)
 (hsize:i.size=size) (hby:i.bytes=bytes) (hzs:z.cells.size=size) (hsz:0 < size)
 (v:Value) (n:Nat) (xs:List Value) (hown:Row w e size v n xs)
 (ao:Option Addr) (m c:Nat) (news:List Value) (hnone:ao=none→m=0∧c=0) (hl:news.length=m * size) (hnews:∀ ad,ao=some ad→∀ j u,news[j]? = some u→w.cell? (ad.add j)=some u) (h1:∀ u∈news,u.oneCell'=true)
 (h63:n+m≤maxLen) (hbytes:(n+m) * bytes≤140737488355328) :
 ∃ v' w',(Builtin.append_ #[t,t] ty #[v,.slice ao m c]).run P w = .ok v' w'∧Row w' e size v' (n+m) (xs++news)∧Turned (fun k=>v.ownBlock=some k) w w'∧
  (v'.ownBlock=v.ownBlock∨v'.ownBlock=some w.heap.size):=by
 cases ao with
 | some ad=>
  obtain ⟨v',w',a1,a2,a3,a4,_⟩:=run_append_row (P:=P) w t ty e i z size bytes ht hi hz hsize hby hzs hsz v n xs hown ad m c news hl (hnews ad rfl) h1 h63 hbytes;exact ⟨v',w',a1,a2,a3,a4⟩
 | none=>
  obtain ⟨rfl,rfl⟩:=hnone rfl;have hn:news=[]:=Qh (by simpa using hl);subst hn;refine ⟨v,w,?_,by simpa using hown,Turned.refl _ _,.inl rfl⟩
  rcases hown.2 with ⟨rfl,rfl⟩ | ⟨g,cap,cur,rfl,_,hnc,_⟩
  · simp [Builtin.append_,run_underlying ht,sizeOf,typeInfo,hi,Builtin.lenOf,Builtin.firstCells]
  · simp [Builtin.append_,run_underlying ht,sizeOf,typeInfo,hi,Builtin.lenOf,Builtin.firstCells,hnc,storeCells]
theorem append_any {ops:Array Oper} {rest:List Oper} {o:Oper} {a:Act} {Q:Exit→Act→World→Prop} (hgd:o.guard=none) (s x:Operand) (t:TypeId)
 (ho:o.op = .call { callee:=.builtin .append,args:=#[s,x],argTypes:=#[t,t] })
 (e:TypeId) (i:TypeInfo) (z:Value) (size bytes:Nat) (ht:P.underlying t=some (.slice e)) (hi:P.info? e=some i) (hz:i.zero=some z)
 (hsize:i.size=size) (hby:i.bytes=bytes) (hzs:z.cells.size=size) (hsz:0 < size)
 (v:Value) (n:Nat) (xs:List Value) (hs:a.eval s=v) (hown:Row w e size v n xs)
 (ao:Option Addr) (m c:Nat) (news:List Value) (hx:a.eval x = .slice ao m c) (hnone:ao=none→m=0∧c=0) (hl:news.length=m * size) (hnews:∀ ad,ao=some ad→∀ j u,news[j]? = some u→w.cell? (ad.add j)=some u) (h1:∀ u∈news,u.oneCell'=true)
 (h63:n+m≤maxLen) (hbytes:(n+m) * bytes≤140737488355328)
 (h:∀ v' w',Row w' e size v' (n+m) (xs++news)→Turned (fun k=>v.ownBlock=some k) w w'→(v'.ownBlock=v.ownBlock∨v'.ownBlock=some w.heap.size)→wpList P ops Q rest (a.put o.dst v') w'):wpList P ops Q (o :: rest) a w:=by
 refine wpList_plain hgd fun K hK=>?_
 obtain ⟨v',w',hr,h2,h3,h4⟩:=run_append_any (P:=P) w t o.type e i z size bytes ht hi hz hsize hby hzs hsz v n xs hown ao m c news hnone hl hnews h1 h63 hbytes;unfold Oper.wp execOp;simp only [ho,resolve,invoke,builtin,Sem.run_bind,Sem.run_pure,Result.andThen_ok,List.map_toArray,Qx,List.map_nil,hs,hx,hr];exact hK _ _ (h v' w' h2 h3 h4)
theorem append_row {ops:Array Oper} {rest:List Oper} {o:Oper} {a:Act} {Q:Exit→Act→World→Prop} (hgd:o.guard=none) (s x:Operand) (t:TypeId)
 (ho:o.op = .call { callee:=.builtin .append,args:=#[s,x],argTypes:=#[t,t] })
 (e:TypeId) (i:TypeInfo) (z:Value) (size bytes:Nat) (ht:P.underlying t=some (.slice e)) (hi:P.info? e=some i) (hz:i.zero=some z)
 (hsize:i.size=size) (hby:i.bytes=bytes) (hzs:z.cells.size=size) (hsz:0 < size)
 (v:Value) (n:Nat) (xs:List Value) (hs:a.eval s=v) (hown:Row w e size v n xs)
 (ad:Addr) (m c:Nat) (news:List Value) (hx:a.eval x = .slice (some ad) m c) (hl:news.length=m * size) (hnews:∀ j u,news[j]? = some u→w.cell? (ad.add j)=some u) (h1:∀ u∈news,u.oneCell'=true)
 (h63:n+m≤maxLen) (hbytes:(n+m) * bytes≤140737488355328)
 (h:∀ v' w',Row w' e size v' (n+m) (xs++news)→Turned (fun k=>v.ownBlock=some k) w w'→(v'.ownBlock=v.ownBlock∨v'.ownBlock=some w.heap.size)→(v' = .slice none 0 0→v = .slice none 0 0∧m=0)→wpList P ops Q rest (a.put o.dst v') w'):wpList P ops Q (o :: rest) a w:=by
 refine wpList_plain hgd fun K hK=>?_
 obtain ⟨v',w',hr,h2,h3,h4,h5⟩:=run_append_row (P:=P) w t o.type e i z size bytes ht hi hz hsize hby hzs hsz v n xs hown ad m c news hl hnews h1 h63 hbytes;unfold Oper.wp execOp;simp only [ho,resolve,invoke,builtin,Sem.run_bind,Sem.run_pure,Result.andThen_ok,List.map_toArray,Qx,List.map_nil,hs,hx,hr];exact hK _ _ (h v' w' h2 h3 h4 h5)
theorem append_some {ops:Array Oper} {rest:List Oper} {o:Oper} {a:Act} {Q:Exit→Act→World→Prop} (hgd:o.guard=none) (s x:Operand) (t:TypeId)
 (ho:o.op = .call { callee:=.builtin .append,args:=#[s,x],argTypes:=#[t,t] })
 (e:TypeId) (i:TypeInfo) (z:Value) (size bytes:Nat) (ht:P.underlying t=some (.slice e)) (hi:P.info? e=some i) (hz:i.zero=some z)
 (hsize:i.size=size) (hby:i.bytes=bytes) (hzs:z.cells.size=size) (hsz:0 < size)
 (v:Value) (n:Nat) (xs:List Value) (hs:a.eval s=v) (hown:Row w e size v n xs)
 (ad:Addr) (m c:Nat) (news:List Value) (hx:a.eval x = .slice (some ad) m c) (hl:news.length=m * size) (hnews:∀ j u,news[j]? = some u→w.cell? (ad.add j)=some u) (h1:∀ u∈news,u.oneCell'=true)
 (hm:0 < m) (h63:n+m≤maxLen) (hbytes:(n+m) * bytes≤140737488355328)
 (h:∀ g cap w',Row w' e size (.slice (some ⟨g,0,none⟩) (n+m) cap) (n+m) (xs++news)→Turned (fun k=>v.ownBlock=some k) w w'→(some g=v.ownBlock∨g=w.heap.size)→wpList P ops Q rest (a.put o.dst (.slice (some ⟨g,0,none⟩) (n+m) cap)) w'):wpList P ops Q (o :: rest) a w:=by
 refine append_row w hgd s x t ho e i z size bytes ht hi hz hsize hby hzs hsz v n xs hs hown ad m c news hx hl hnews h1 h63 hbytes ?_;intro v' w' h1 h2 h3 _;obtain ⟨g,cap,rfl⟩:=h1.shape_pos (by omega);refine h g cap w' h1 h2 ?_
 rcases h3 with h3 | h3
 · exact .inl h3
 · exact .inr (by simpa [Value.ownBlock] using h3)
end
theorem cell_old {w:World} {o:Obj} {a:Addr} {v:Value} (h:w.cell? a=some v):(w.alloc o).cell? a=some v:=
 (World.cell?_of_block (w:=w) (Below.heap_alloc _ _ _ (World.block_lt_of_cell? w a h))).trans h
theorem Turned.cell {S:Nat→Prop} {w w':World} (h:Turned S w w') {p:Addr} {v:Value} (hc:w.cell? p=some v) (hp:¬ S p.block):w'.cell? p=some v:=
 (World.cell?_of_block (w:=w) (h.block p.block (World.block_lt_of_cell? w p hc) hp)).trans hc
theorem Turned.cell0 {w w':World} (h:Turned zN w w') {p:Addr} {v:Value} (hc:w.cell? p=some v):w'.cell? p=some v:=h.cell hc (fun f=>f)
theorem Turned.frozen {S:Nat→Prop} {w w':World} (h:Turned S w w') {p:Addr} {b:Bool} (hb:p.block < w.heap.size) (hc:w.frozen? p=b) (hp:¬ S p.block):w'.frozen? p=b:=
 (World.frozen?_of_block (w:=w) (h.block p.block hb hp)).trans hc
theorem Turned.toBelow {w w':World} (h:Turned zN w w'):Below w.heap.size w w':=⟨h.os,h.tape,h.output,h.size,fun k hk=>h.block k hk (fun f=>f)⟩
theorem str_neq {x y:ByteArray} (h:x≠y):(x.toList == y.toList)=false:=by
 rw [ByteArray.toList_eq,ByteArray.toList_eq,beq_eq_false_iff_ne];intro e;apply h
 cases x;cases y
 congr 1;exact Array.toList_inj.1 e
theorem region_tail {P:Program} {id:Nat} {Q:Exit→Act→World→Prop} {a:Act} {w:World} {l:List Oper} (n:Nat) (hm:P.follows .mixedOrders=true) (hB:Region.lexTailB .any l.toArray n=true)
 (h:wpStill P l.toArray w.drew (fun a'=>wpList P l.toArray Q (l.drop n) a' w.drew) (l.take n) a):(Code.region id l.toArray true).wp P Q a w:=wp_region_still_tail n hm hB h
theorem tq {α:Sort _} {w:World} {a:α}:Turned zN w w∧a=a:=⟨Turned.refl _ _,rfl⟩
theorem Turned.bt {w w' : World} (T : Turned (fun _ => False) w w') {B : Nat} {v : Obj} (h : w.heap[B]? = some v) : w'.heap[B]? = some v := (T.block B (zL h) (fun f => f)).trans h
inductive Tm (α:Type) where
 | mk (kind n:Int) (name:ByteArray) (note:α) (args:List (Tm α))
namespace Tm
variable {α:Type}
def kind:Tm α→Int | .mk k _ _ _ _=>k
def n:Tm α→Int | .mk _ n _ _ _=>n
def name:Tm α→ByteArray | .mk _ _ s _ _=>s
def args:Tm α→List (Tm α) | .mk _ _ _ _ asq=>asq
mutual
def size:Tm α→Nat
 | .mk _ _ _ _ asq=>1+sizes asq
def sizes:List (Tm α)→Nat
 | []=>0
 | x :: l=>size x+sizes l
end
mutual
def depth:Tm α→Nat
 | .mk _ _ _ _ asq=>1+depths asq
def depths:List (Tm α)→Nat
 | []=>0
 | x :: l=>max (depth x) (depths l)
end
mutual
def flat:Tm α→List (Tm α)
 | .mk k n s e asq=>.mk k n s e asq :: flats asq
def flats:List (Tm α)→List (Tm α)
 | []=>[]
 | x :: l=>flat x++flats l
end
mutual
theorem flat_length:∀ t:Tm α,t.flat.length=t.size
 | .mk _ _ _ _ asq=>by simp only [flat,size,QB,flats_length asq];omega
theorem flats_length:∀ l:List (Tm α),(flats l).length=sizes l
 | []=>rfl
 | x :: l=>by simp only [flats,sizes,Qi,flat_length x,flats_length l]
end
theorem flats_append (a b:List (Tm α)):flats (a++b)=flats a++flats b:=by
 induction a with
 | nil=>rfl
 | cons x a ih=>simp only [List.cons_append,flats,ih,List.append_assoc]
theorem sizes_append (a b:List (Tm α)):sizes (a++b)=sizes a+sizes b:=by
 induction a with
 | nil=>simp [sizes]
 | cons x a ih=>simp only [List.cons_append,sizes,ih];omega
theorem size_pos (t:Tm α):0 < t.size:=by cases t;simp only [size];omega
theorem depth_pos (t:Tm α):0 < t.depth:=by cases t;simp only [depth];omega
theorem flat_eq (t:Tm α):t.flat=t :: flats t.args:=by cases t;rfl
theorem size_eq (t:Tm α):t.size=1+sizes t.args:=by cases t;rfl
theorem depth_eq (t:Tm α):t.depth=1+depths t.args:=by cases t;rfl
def addVar (l:List Int) (x:Tm α):List Int:=if x.kind=0∧x.n∉l then l++[x.n] else l
def vars (t:Tm α):List Int:=t.flat.foldl addVar []
theorem flats_todo (todo:List (Tm α)) (x:Tm α):flats (todo++[x]).reverse=x :: flats (todo++x.args.reverse).reverse:=by
 rw [List.reverse_append,List.reverse_append,List.reverse_reverse];simp only [List.reverse_singleton,flats,flat_eq,flats_append,List.cons_append,List.nil_append]
mutual
theorem mem_flat_size:∀ (t x:Tm α),x∈t.flat→x.size≤t.size
 | .mk k n s e asq,x,h=>by
  simp only [flat,Qw] at h
  rcases h with rfl | h
  · exact Qm _
  · have:=mem_flats_size asq x h
    simp only [size];omega
theorem mem_flats_size:∀ (l:List (Tm α)) (x:Tm α),x∈flats l→x.size≤sizes l
 | [],x,h=>by simp [flats] at h
 | y :: l,x,h=>by
  simp only [flats,Qn] at h;simp only [sizes]
  rcases h with h | h
  · have:=mem_flat_size y x h;omega
  · have:=mem_flats_size l x h;omega
end
mutual
def bare:Tm α→Tm Unit
 | .mk k n s _ asq=>.mk k n s () (bares asq)
def bares:List (Tm α)→List (Tm Unit)
 | []=>[]
 | x :: l=>bare x :: bares l
end
mutual
def same {β:Type}:Tm α→Tm β→Bool
 | .mk k n s _ asq,.mk k' n' s' _ bs=>k == k' && n == n' && decide (s=s') && sames asq bs
def sames {β:Type}:List (Tm α)→List (Tm β)→Bool
 | [],[]=>true
 | x :: l,y :: m=>same x y && sames l m
 | _,_=>false
end
mutual
theorem same_iff {β:Type}:∀ (a:Tm α) (b:Tm β),same a b=true↔bare a=bare b
 | .mk k n s e asq,.mk k' n' s' e' bs=>by
  simp only [same,bare,Qd,beq_iff_eq,decide_eq_true_eq,sames_iff asq bs,Tm.mk.injEq,and_assoc,true_and]
theorem sames_iff {β:Type}:∀ (l:List (Tm α)) (m:List (Tm β)),sames l m=true↔bares l=bares m
 | [],[]=>by simp [sames,bares]
 | x :: l,y :: m=>by simp only [sames,bares,Qd,same_iff x y,sames_iff l m,List.cons.injEq]
 | [],y :: m=>by simp [sames,bares]
 | x :: l,[]=>by simp [sames,bares]
end
theorem bares_eq (l:List (Tm α)):bares l=l.map bare:=by
 induction l with
 | nil=>rfl
 | cons x l ih=>simp only [bares,Qx,ih]
def goodName (s:ByteArray):Prop:=s.size≤64∧∀ b∈s.data.toList,b=9∨b=10∨(32≤b∧b≤126)
def goodOne (t:Tm α):Prop:=
 (t.kind=0∧0≤t.n∧t.n≤2147483647∧t.name.size=0∧t.args=[])∨(t.kind=1∧t.name.size=0∧t.args=[])∨
 (t.kind=2∧t.n=0∧goodName t.name∧t.args.length≤8)
def good (t:Tm α):Prop:=t.size≤2000∧t.depth≤64∧∀ x∈t.flat,goodOne x
end Tm
end Go.Proofs.Ytoihjobdfjajfaa
namespace Go.Proofs.Ytoihjobdfjajfaa
open Go.RowKit
def I64 (n:Int):Prop:=-9223372036854775808≤n∧n≤9223372036854775807
theorem I64.wf {n:Int} (h:I64 n):(Lit.int .i64 n).wf=true:=WalkArith.wf_i64 h
abbrev LT:=Tm (Option Addr × Nat)
namespace LT
def sl (t:LT):Value:=match t with | .mk _ _ _ e asq=>.slice e.1 asq.length e.2
def cells (t:LT):List Value:=match t with | .mk k n s e asq=>[.int .i64 k,.int .i64 n,.string s,.slice e.1 asq.length e.2]
def val (t:LT):Value:=match t with | .mk k n s e asq=>.agg #[.int .i64 k,.int .i64 n,.string s,.slice e.1 asq.length e.2]
theorem cells_length (t:LT):(cells t).length=4:=by cases t;rfl
theorem cells_one (t:LT):∀ u∈cells t,u.oneCell'=true:=by
 cases t with | mk k n s e asq=>
 intro u hu;simp only [cells,Qw,Ql,or_false] at hu
 rcases hu with rfl | rfl | rfl | rfl <;> rfl
theorem flat_length (l:List LT):(l.flatMap cells).length=l.length * 4:=by
 induction l with
 | nil=>rfl
 | cons x l ih=>rw [List.flatMap_cons,Qi,cells_length,ih,QB];omega
theorem flat_one (l:List LT):∀ u∈l.flatMap cells,u.oneCell'=true:=by
 intro u hu;obtain ⟨x,_,hx⟩:=List.mem_flatMap.1 hu;exact cells_one x u hx
theorem flat_at {l:List LT} {i:Nat} {x:LT} (h:l[i]? = some x) (j:Nat) (hj:j < 4):(l.flatMap cells)[i * 4+j]? = (cells x)[j]?:=by
 induction l generalizing i with
 | nil=>simp at h
 | cons y l ih=>
  rw [List.flatMap_cons]
  cases i with
  | zero=>
   simp at h;subst h;rw [List.getElem?_append_left (by rw [cells_length];omega),Nat.zero_mul,Nat.zero_add]
  | succ i=>
   simp at h;rw [List.getElem?_append_right (by rw [cells_length];omega),cells_length]
   have:(i+1) * 4+j - 4=i * 4+j:=by omega
   rw [this];exact ih h
mutual
def In (p:Nat→Prop) (w:World):LT→Prop
 | .mk k n s e asq=>I64 k∧I64 n∧s.size≤maxLen∧asq.length≤e.2∧e.2≤maxLen∧(e.1=none→asq.length=0∧e.2=0)∧
  (0 < asq.length→∃ b o,e.1=some ⟨b,o,none⟩∧p b∧∀ j u,(asq.flatMap cells)[j]? = some u→w.cell? ⟨b,o+j,none⟩=some u)∧Ins p w asq
def Ins (p:Nat→Prop) (w:World):List LT→Prop
 | []=>True
 | x :: l=>In p w x∧Ins p w l
end
theorem ins_iff {p:Nat→Prop} {w:World} (l:List LT):Ins p w l↔∀ x∈l,In p w x:=by
 induction l with
 | nil=>simp [Ins]
 | cons x l ih=>simp [Ins,ih]
theorem ins_append {p:Nat→Prop} {w:World} (a b:List LT):Ins p w (a++b)↔Ins p w a∧Ins p w b:=by
 rw [ins_iff,ins_iff,ins_iff];simp [or_imp,forall_and]
mutual
theorem In.turned {p q:Nat→Prop} {S:Nat→Prop} {w w':World} (ht:Turned S w w') (hS:∀ k,k < w.heap.size→p k→¬ S k) (hq:∀ k,k < w.heap.size→p k→q k):∀ t:LT,In p w t→In q w' t
 | .mk k n s e asq,h=>by
  obtain ⟨h1,h2,h3,h4,h5,h6,h7,h8⟩:=h;refine ⟨h1,h2,h3,h4,h5,h6,fun hp=>?_,Ins.turned ht hS hq asq h8⟩;obtain ⟨b,o,he,hb,hc⟩:=h7 hp
  have hlt:b < w.heap.size:=by
   have h0:(asq.flatMap cells)[0]? = some ((asq.flatMap cells)[0]'(by rw [flat_length];omega)):=Qa _;exact World.block_lt_of_cell? w _ (hc 0 _ h0)
  exact ⟨b,o,he,hq b hlt hb,fun j u hu=>ht.cell (hc j u hu) (hS b hlt hb)⟩
theorem Ins.turned {p q:Nat→Prop} {S:Nat→Prop} {w w':World} (ht:Turned S w w') (hS:∀ k,k < w.heap.size→p k→¬ S k) (hq:∀ k,k < w.heap.size→p k→q k):∀ l:List LT,Ins p w l→Ins q w' l
 | [],_=>trivial
 | x :: l,h=>⟨In.turned ht hS hq x h.1,Ins.turned ht hS hq l h.2⟩
end
theorem In.turned0 {p:Nat→Prop} {w w':World} {t:LT} (h:In p w t) (ht:Turned zN w w'):In p w' t:=In.turned ht (fun _ _ _ f=>f) (fun _ _ h=>h) t h
theorem Ins.turned0 {p:Nat→Prop} {w w':World} {l:List LT} (h:Ins p w l) (ht:Turned zN w w'):Ins p w' l:=Ins.turned ht (fun _ _ _ f=>f) (fun _ _ h=>h) l h
theorem In.mono {p q:Nat→Prop} {w:World} {t:LT} (h:In p w t) (hq:∀ k,k < w.heap.size→p k→q k):In q w t:=In.turned (Turned.refl (fun _=>False) w) (fun _ _ _ f=>f) hq t h
theorem Ins.mono {p q:Nat→Prop} {w:World} {l:List LT} (h:Ins p w l) (hq:∀ k,k < w.heap.size→p k→q k):Ins q w l:=Ins.turned (Turned.refl (fun _=>False) w) (fun _ _ _ f=>f) hq l h
mutual
theorem In.flat {p:Nat→Prop} {w:World}:∀ t:LT,In p w t→∀ x∈t.flat,In p w x
 | .mk k n s e asq,h,x,hx=>by
  simp only [Tm.flat,Qw] at hx
  rcases hx with rfl | hx
  · exact h
  · exact Ins.flat asq h.2.2.2.2.2.2.2 x hx
theorem Ins.flat {p:Nat→Prop} {w:World}:∀ l:List LT,Ins p w l→∀ x∈Tm.flats l,In p w x
 | [],_,x,hx=>by simp [Tm.flats] at hx
 | y :: l,h,x,hx=>by
  simp only [Tm.flats,Qn] at hx
  rcases hx with hx | hx
  · exact In.flat y h.1 x hx
  · exact Ins.flat l h.2 x hx
end
theorem In.args {p:Nat→Prop} {w:World} {t:LT} (h:In p w t):Ins p w t.args:=by cases t;exact h.2.2.2.2.2.2.2
theorem In.kind {p:Nat→Prop} {w:World} {t:LT} (h:In p w t):I64 t.kind:=by cases t;exact h.1
theorem In.n {p:Nat→Prop} {w:World} {t:LT} (h:In p w t):I64 t.n:=by cases t;exact h.2.1
theorem In.name {p:Nat→Prop} {w:World} {t:LT} (h:In p w t):t.name.size≤maxLen:=by cases t;exact h.2.2.1
def at_ (t:LT):Option Addr × Nat:=match t with | .mk _ _ _ e _=>e
theorem In.len {p:Nat→Prop} {w:World} {t:LT} (h:In p w t):t.args.length≤t.at_.2∧t.at_.2≤maxLen∧(t.at_.1=none→t.args.length=0∧t.at_.2=0):=by cases t;exact ⟨h.2.2.2.1,h.2.2.2.2.1,h.2.2.2.2.2.1⟩
theorem val_eq (t:LT):t.val = .agg #[.int .i64 t.kind,.int .i64 t.n,.string t.name,.slice t.at_.1 t.args.length t.at_.2]:=by cases t;rfl
theorem cells_eq (t:LT):t.cells=[.int .i64 t.kind,.int .i64 t.n,.string t.name,.slice t.at_.1 t.args.length t.at_.2]:=by cases t;rfl
def Lies (p:Nat→Prop) (w:World) (a:Option Addr) (l:List LT):Prop:=
 0 < l.length→∃ b o,a=some ⟨b,o,none⟩∧p b∧∀ j u,(l.flatMap cells)[j]? = some u→w.cell? ⟨b,o+j,none⟩=some u
theorem In.lies {p:Nat→Prop} {w:World} {t:LT} (h:In p w t):Lies p w t.at_.1 t.args:=by cases t;exact h.2.2.2.2.2.2.1
theorem Lies.cell {p:Nat→Prop} {w:World} {a:Option Addr} {l:List LT} (h:Lies p w a l) {i:Nat} {x:LT} (hi:l[i]? = some x) :
 ∃ b o,a=some ⟨b,o,none⟩∧p b∧w.cell? ⟨b,o+i * 4,none⟩=some (.int .i64 x.kind)∧w.cell? ⟨b,o+i * 4+1,none⟩=some (.int .i64 x.n)∧w.cell? ⟨b,o+i * 4+2,none⟩=some (.string x.name)∧w.cell? ⟨b,o+i * 4+3,none⟩=some (.slice x.at_.1 x.args.length x.at_.2):=by
 obtain ⟨b,o,rfl,hp,hc⟩:=h (by have:=(Qg.1 hi).1;omega);refine ⟨b,o,rfl,hp,hc _ _ ?_,?_,?_,?_⟩
 rotate_left
 all_goals try (rw [Nat.add_assoc];refine hc _ _ ?_)
 rotate_right
 · have:=flat_at hi 0 (by omega);rw [Nat.add_zero] at this;rw [this,cells_eq];rfl
 · rw [flat_at hi 1 (by omega),cells_eq];rfl
 · rw [flat_at hi 2 (by omega),cells_eq];rfl
 · rw [flat_at hi 3 (by omega),cells_eq];rfl
theorem In.mk {p:Nat→Prop} {w:World} {k n:Int} {s:ByteArray} {a:Option Addr} {c:Nat} {asq:List LT} (h1:I64 k) (h2:I64 n) (h3:s.size≤maxLen) (h4:asq.length≤c) (h5:c≤maxLen) (h6:a=none→asq.length=0∧c=0)
 (h7:Lies p w a asq) (h8:Ins p w asq):In p w (.mk k n s (a,c) asq):=⟨h1,h2,h3,h4,h5,h6,h7,h8⟩
theorem lies_of_row {p:Nat→Prop} {w:World} {e:TypeId} {v:Value} {l:List LT} {a:Option Addr} {n c:Nat} (h:Row w e 4 (.slice a n c) n (l.flatMap cells)) (hp:∀ k,(Value.slice a n c).ownBlock=some k→p k) :
 n=l.length∧n≤c∧c≤maxLen∧(a=none→n=0∧c=0)∧Lies p w a l:=by
 have hn:n=l.length:=by have:=h.1;rw [flat_length] at this;omega
 refine ⟨hn,?_⟩
 rcases h.2 with ⟨e,h0⟩ | ⟨g,cap,cur,e,hg,h1,h2,h3,h4⟩
 · injection e with e1 _ e2;subst e1;subst e2;subst h0
   exact ⟨Qm _,by unfold maxLen;omega,fun _=>⟨rfl,rfl⟩,fun hl=>by omega⟩
 · injection e with e1 _ e2;subst e1;subst e2
   refine ⟨h1,h2,(fun e=>by cases e),fun _=>⟨g,0,rfl,hp g rfl,fun j u hu=>?_⟩⟩;rw [Nat.zero_add];exact h.cells rfl j u hu
end LT
theorem ret_bool {a b:Bool} (h:a=b):Ending.returned (.bool a) = .returned (.bool b):=by rw [h]
theorem boxed (w:World) (cs:Array Value) (T:TypeId) (j:Nat):(w.alloc (.cells cs T)).cell? ⟨w.heap.size,j,none⟩=cs[j]?:=by
 rw [cell_of_row _ w.heap.size j cs T (0,0) (heap_alloc_new w _)]
end Go.Proofs.Ytoihjobdfjajfaa
namespace Go.Proofs.Ytoihjobdfjajfaa
open Lib (hid)
open Go.RowKit
def zeroT:Value:=.agg #[.int .i64 0,.int .i64 0,.string ByteArray.empty,.slice none 0 0]
theorem infoT:(Try.prog.info? 27).map (fun i=>(i.zero,i.size,i.bytes))=some (some zeroT,4,56):=by kernel_rfl
structure LT.Sl (p:Nat→Prop) (w:World) (a:Option Addr) (c:Nat) (l:List LT):Prop where
 none_:a=none→l.length=0∧c=0
 lies:LT.Lies p w a l
 ins:LT.Ins p w l
 cap:l.length≤c
 max:c≤maxLen
theorem LT.Sl.turned {p q S:Nat→Prop} {w w':World} {a:Option Addr} {c:Nat} {l:List LT} (h:LT.Sl p w a c l) (ht:Turned S w w') (hS:∀ k,k < w.heap.size→p k→¬ S k) (hq:∀ k,k < w.heap.size→p k→q k):LT.Sl q w' a c l:=by
 refine ⟨h.none_,fun hp=>?_,LT.Ins.turned ht hS hq l h.ins,h.cap,h.max⟩;obtain ⟨b,o,he,hb,hc⟩:=h.lies hp
 have hlt:b < w.heap.size:=by
  have h0:(l.flatMap LT.cells)[0]? = some ((l.flatMap LT.cells)[0]'(by rw [LT.flat_length];omega)):=Qa _;exact World.block_lt_of_cell? w _ (hc 0 _ h0)
 exact ⟨b,o,he,hq b hlt hb,fun j u hu=>ht.cell (hc j u hu) (hS b hlt hb)⟩
theorem LT.Sl.turned0 {p:Nat→Prop} {w w':World} {a:Option Addr} {c:Nat} {l:List LT} (h:LT.Sl p w a c l) (ht:Turned zN w w'):LT.Sl p w' a c l:=h.turned ht (fun _ _ _ f=>f) (fun _ _ h=>h)
theorem LT.In.sl {p:Nat→Prop} {w:World} {t:LT} (h:t.In p w):LT.Sl p w t.at_.1 t.at_.2 t.args:=⟨h.len.2.2,h.lies,h.args,h.len.1,h.len.2.1⟩
theorem LT.Sl.in_ {p:Nat→Prop} {w:World} {a:Option Addr} {c:Nat} {l:List LT} (h:LT.Sl p w a c l) {k n:Int} {s:ByteArray} (h1:I64 k) (h2:I64 n) (h3:s.size≤maxLen):LT.In p w (.mk k n s (a,c) l):=
 LT.In.mk h1 h2 h3 h.cap h.max h.none_ h.lies h.ins
theorem LT.Sl.of_row {p:Nat→Prop} {w:World} {e:TypeId} {a:Option Addr} {n c:Nat} {l:List LT} (h:Row w e 4 (.slice a n c) n (l.flatMap LT.cells)) (hp:∀ k,(Value.slice a n c).ownBlock=some k→p k) (hi:LT.Ins p w l):n=l.length∧LT.Sl p w a c l:=by
 obtain ⟨h1,h2,h3,h4,h5⟩:=LT.lies_of_row (v:=.slice a n c) h hp;exact ⟨h1,⟨fun e=>by rw [←h1];exact h4 e,h5,hi,by omega,h3⟩⟩
theorem clone128 {p:Nat→Prop} {w:World} {a:Option Addr} {c:Nat} {l:List LT} (h:LT.Sl p w a c l) (hn:l.length≤65536) :
 Calls Try.prog 128 #[.slice a l.length c] w fun e w'=>∃ a' c',e = .returned (.slice a' l.length c')∧Row w' 27 4 (.slice a' l.length c') l.length (l.flatMap LT.cells)∧(∀ k,(Value.slice a' l.length c').ownBlock=some k→w.heap.size≤k)∧Turned zN w w':=by
 obtain ⟨i0,hi0,hz0,hz1,hz2⟩:=info_parts infoT
 have hnil:=fun (w:World) (a:Option Addr) (n c:Nat)=>Lib.run_eql_slice_nil (P:=Try.prog) w 22 27 a n c 0 0 Try.underlying22
 cases a with
 | none=>
  obtain ⟨h0,rfl⟩:=h.none_ rfl;have:l=[]:=Qh h0;subst this;clear h;show Calls Try.prog 128 #[.slice none 0 0] w _;go_enter Try.func128,Try.ntmps128
  go_wp2
  go_ret;exact ⟨none,0,rfl,Row.nil _ _ _,by simp [Value.ownBlock],Turned.refl _ _⟩
 | some ad=>
  have hc:∀ o:Obj,∀ j u,(l.flatMap LT.cells)[j]? = some u→(w.alloc o).cell? (ad.add j)=some u:=by
   intro o j u hu
   have hl:0 < l.length:=by
    have:=(Qg.1 hu).1;rw [LT.flat_length] at this;omega
   obtain ⟨b,o',e,_,hcc⟩:=h.lies hl;have e2:=Option.some.inj e;subst e2;rw [Addr.add_lit];exact cell_old (hcc j u hu)
  have HC:=hid hc;clear hc h;go_enter Try.func128,Try.ntmps128
  go_wp2_with (first
   | (at_builtin;refine append_row _ rfl _ _ 22 rfl 27 i0 zeroT 4 56 Try.underlying22 hi0 hz0 hz1 hz2 rfl (by decide) _ _ _ rfl (Row.made _ 27 4 #[] 0 rfl (by simp)) ad l.length c (l.flatMap LT.cells) rfl (LT.flat_length l) (HC.out _) (LT.flat_one l) (by unfold maxLen;omega) (by omega) ?_;intro v2 w2 hown2 hg2 hl2 _))
  go_ret
  have hown3:Row w2 27 4 v2 l.length (l.flatMap LT.cells):=by simpa using hown2
  obtain ⟨a',c',rfl⟩:=hown3.shape;refine ⟨a',c',rfl,hown3,?_,((Turned.refl (fun _=>False) w).alloc (.cells #[] 27)).step hg2 ?_⟩
  · intro k hk
    rcases hl2 with e | e
    · rw [hk] at e;simp [Value.ownBlock,Act.eval] at e;omega
    · rw [hk] at e;simp at e;omega
  · intro k hk1 hk
    simp [Value.ownBlock,Act.eval] at hk;omega
theorem i64_lit (n:Int) (h : -1000000≤n∧n≤1000000):I64 n:=by unfold I64;omega
theorem box4 {w w2:World} {a b c d:Value} {T:TypeId} (ht:Turned zN (w.alloc (.cells #[a,b,c,d] T)) w2) :
 w2.heap[w.heap.size]? = some (.cells #[a,b,c,d] T (0,0))∧w.heap.size < w2.heap.size:=by
 have hs:=ht.size;simp at hs;exact ⟨(ht.block w.heap.size (by simp) (fun f=>f)).trans (heap_alloc_new w _),by omega⟩
theorem cells4 {w:World} {g:Nat} {a b c d:Value} {T:TypeId} (h:w.heap[g]? = some (.cells #[a,b,c,d] T (0,0))) :
 w.cell? ⟨g,0,none⟩=some a∧w.cell? ⟨g,1,none⟩=some b∧w.cell? ⟨g,2,none⟩=some c∧w.cell? ⟨g,3,none⟩=some d∧w.frozen? ⟨g,0,none⟩=false∧w.frozen? ⟨g,1,none⟩=false∧w.frozen? ⟨g,2,none⟩=false∧w.frozen? ⟨g,3,none⟩=false:=
 ⟨cell_of_row w g 0 _ T (0,0) h,cell_of_row w g 1 _ T (0,0) h,cell_of_row w g 2 _ T (0,0) h,cell_of_row w g 3 _ T (0,0) h,frozen_of_row w g 0 _ T h,frozen_of_row w g 1 _ T h,frozen_of_row w g 2 _ T h,frozen_of_row w g 3 _ T h⟩
theorem set4 {w:World} {g:Nat} {a b c d a' b' c' d':Value} {T:TypeId} (h:w.heap[g]? = some (.cells #[a,b,c,d] T (0,0))) :
 ((((w.setCell ⟨g,0,none⟩ a').setCell ⟨g,1,none⟩ b').setCell ⟨g,2,none⟩ c').setCell ⟨g,3,none⟩ d').heap[g]? = some (.cells #[a',b',c',d'] T (0,0)):=by
 have h1:=heap_setCell_same w g 0 _ T a' h;have h2:=heap_setCell_same _ g 1 _ T b' h1;have h3:=heap_setCell_same _ g 2 _ T c' h2;have h4:=heap_setCell_same _ g 3 _ T d' h3;simpa using h4
theorem turned4 {w w2:World} {g:Nat} {a b c d:Value} (h:Turned zN w w2) (hg:w.heap.size≤g) :
 Turned zN w ((((w2.setCell ⟨g,0,none⟩ a).setCell ⟨g,1,none⟩ b).setCell ⟨g,2,none⟩ c).setCell ⟨g,3,none⟩ d):=
 (((h.setCell (.inl hg) _).setCell (.inl hg) _).setCell (.inl hg) _).setCell (.inl hg) _
theorem comp37 {p:Nat→Prop} {w:World} {a:Option Addr} {c:Nat} {l:List LT} (s:ByteArray) (hs:s.size≤maxLen) (h:LT.Sl p w a c l) (hn:l.length≤65536) :
 Calls Try.prog 37 #[.string s,.slice a l.length c] w fun e w'=>∃ d,e = .returned (LT.val (.mk 2 0 s d l))∧LT.In (fun k=>p k∨w.heap.size≤k) w' (.mk 2 0 s d l)∧Turned zN w w':=by
 have hcl:∀ o,Calls Try.prog 128 #[.slice a l.length c] (w.alloc o) _:=fun o=>clone128 (h.turned0 ((Turned.refl _ w).alloc o)) hn
 have HCL:=hid hcl;clear hcl;go_enter Try.func37,Try.ntmps37
 go_wp2_with (go_at_call 128;refine (HCL.out _).mono ?_;rintro e w2 ⟨a',c',rfl,hv,hl,ht⟩;obtain ⟨hbox,hlt⟩:=box4 ht;obtain ⟨c0,c1,c2,c3,f0,f1,f2,f3⟩:=cells4 hbox;have HB:=hid hbox;clear hbox)
 have T0:=((Turned.refl (fun _=>False) w).alloc (.cells #[.int .i64 0,.int .i64 0,.string ⟨#[]⟩,.slice none 0 0] 27)).trans ht
 have hsz:w.heap.size≤(w.alloc (.cells #[.int .i64 0,.int .i64 0,.string ⟨#[]⟩,.slice none 0 0] 27)).heap.size:=by simp
 have hset:=set4 (a':=.int .i64 2) (b':=.int .i64 0) (c':=.string s) (d':=.slice a' l.length c') HB.out;have T4:=turned4 (a:=.int .i64 2) (b:=.int .i64 0) (c:=.string s) (d:=.slice a' l.length c') T0 (Qm _)
 have hrow:Row ((((w2.setCell ⟨w.heap.size,0,none⟩ (.int .i64 2)).setCell ⟨w.heap.size,1,none⟩ (.int .i64 0)).setCell ⟨w.heap.size,2,none⟩ (.string s)).setCell ⟨w.heap.size,3,none⟩ (.slice a' l.length c')) 27 4 (.slice a' l.length c') l.length (l.flatMap LT.cells):=by
  have hne:∀ j,(Value.slice a' l.length c').ownBlock≠some (Addr.block ⟨w.heap.size,j,none⟩):=fun j e=>by
   have:=hl _ e;simp at this;omega
  exact (((hv.setCell (hne 0) _).setCell (hne 1) _).setCell (hne 2) _).setCell (hne 3) _
 refine bodyPost_ret (v:=.agg #[.int .i64 2,.int .i64 0,.string s,.slice a' l.length c']) (results_cell_row Try.results37 _ _ w.heap.size 27 _ (0,0) _ rfl hset Try.underlying27 rfl (by kernel_rfl)) rfl ⟨(a',c'),rfl,?_,T4⟩;obtain ⟨_,hsl⟩:=LT.Sl.of_row (p:=fun k=>p k∨w.heap.size≤k) hrow (fun k hk=>.inr (QA hsz (hl k hk))) (LT.Ins.mono (h.ins.turned0 T4) (fun _ _ hk=>.inl hk));exact hsl.in_ (i64_lit 2 (by omega)) (i64_lit 0 (by omega)) hs
theorem int61 (n:Int) (hn:I64 n) (w:World) :
 Calls Try.prog 61 #[.int .i64 n] w fun e w'=>e = .returned (LT.val (.mk 1 n ByteArray.empty (none,0) []))∧(∀ p,LT.In p w' (.mk 1 n ByteArray.empty (none,0) []))∧Turned zN w w':=by
 go_enter Try.func61,Try.ntmps61
 go_wp2_with fail
 refine bodyPost_ret (v:=.agg #[.int .i64 1,.int .i64 n,.string ByteArray.empty,.slice none 0 0]) (results_cell_row Try.results61 _ _ w.heap.size 27 _ (0,0) _ rfl (heap_alloc_new w _) Try.underlying27 rfl (by kernel_rfl)) rfl ⟨rfl,fun p=>?_,(Turned.refl _ _).alloc _⟩;exact LT.In.mk (i64_lit 1 (by omega)) hn (by unfold maxLen;decide) (Qm _) (by unfold maxLen;omega) (fun _=>⟨rfl,rfl⟩) (fun h=>absurd h (by decide)) trivial
theorem var62 (n:Int) (hn:I64 n) (w:World) :
 Calls Try.prog 62 #[.int .i64 n] w fun e w'=>e = .returned (LT.val (.mk 0 n ByteArray.empty (none,0) []))∧(∀ p,LT.In p w' (.mk 0 n ByteArray.empty (none,0) []))∧Turned zN w w':=by
 go_enter Try.func62,Try.ntmps62
 go_wp2_with fail
 refine bodyPost_ret (v:=.agg #[.int .i64 0,.int .i64 n,.string ByteArray.empty,.slice none 0 0]) (results_cell_row Try.results62 _ _ w.heap.size 27 _ (0,0) _ rfl (heap_alloc_new w _) Try.underlying27 rfl (by kernel_rfl)) rfl ⟨rfl,fun p=>?_,(Turned.refl _ _).alloc _⟩;exact LT.In.mk (i64_lit 0 (by omega)) hn (by unfold maxLen;decide) (Qm _) (by unfold maxLen;omega) (fun _=>⟨rfl,rfl⟩) (fun h=>absurd h (by decide)) trivial
theorem atom63 (s:ByteArray) (hs:s.size≤maxLen) (w:World) :
 Calls Try.prog 63 #[.string s] w fun e w'=>e = .returned (LT.val (.mk 2 0 s (none,0) []))∧(∀ p,LT.In p w' (.mk 2 0 s (none,0) []))∧Turned zN w w':=by
 go_enter Try.func63,Try.ntmps63
 go_wp2_with fail
 refine bodyPost_ret (v:=.agg #[.int .i64 2,.int .i64 0,.string s,.slice none 0 0]) (results_cell_row Try.results63 _ _ w.heap.size 27 _ (0,0) _ rfl (heap_alloc_new w _) Try.underlying27 rfl (by kernel_rfl)) rfl ⟨rfl,fun p=>?_,(Turned.refl _ _).alloc _⟩;exact LT.In.mk (i64_lit 2 (by omega)) (i64_lit 0 (by omega)) hs (Qm _) (by unfold maxLen;omega) (fun _=>⟨rfl,rfl⟩) (fun h=>absurd h (by decide)) trivial
def okByte (b:UInt8):Bool:=decide (b.toNat=9∨b.toNat=10∨(32≤b.toNat∧b.toNat≤126))
def goodNameB (s:ByteArray):Bool:=s.data.toList.all okByte && decide (s.size≤64)
theorem all_snoc {α:Type} (f:α→Bool) (l:List α) (j:Nat) (x:α) (h:l[j]? = some x):(l.take (j+1)).all f=((l.take j).all f && f x):=by
 have hj:=(Qg.1 h);rw [List.take_succ_eq_append_getElem hj.1,hj.2,List.all_append];simp
theorem all_no {α:Type} (f:α→Bool) (l:List α) (j:Nat) (x:α) (h:l[j]? = some x) (hx:f x=false):l.all f=false:=by
 rw [List.all_eq_false];exact ⟨x,Qf h,by simp [hx]⟩
theorem bytesTurned (w:World) (e:TypeId) (s:ByteArray):Turned zN w (Lib.bytesWorld w e s):=
 ⟨rfl,rfl,rfl,by rw [Lib.bytesWorld_size];omega,fun k hk _=>Lib.bytesWorld_at_old w e s k hk⟩
set_option maxRecDepth 100000 in
theorem goodName161 (s:ByteArray) (w:World) (hs:s.size≤maxLen) :
 Calls Try.prog 161 #[.string s] w fun e w'=>e = .returned (.bool (goodNameB s))∧Turned zN w w':=by
 have hconv:=Lib.run_convert_string_bytes (P:=Try.prog) w 9 219 5 s Try.underlying9 Try.underlying219 Try.underlying5;have hcell:=Lib.bytesWorld_cell w 5 s;have hT:=bytesTurned w 5 s;revert hconv hcell hT;generalize Lib.bytesWorld w 5 s=w1;generalize grownCap w s.size 0 5=c1;intro hconv hcell hT;have HCell:=hid hcell;clear hcell
 have hm:s.size≤9223372036854775807:=by unfold maxLen at hs;omega
 clear hs;go_enter Try.func161,Try.ntmps161
 go_wp2_with fail
 go_loop [8] (fun i=>∃ j:Nat,j≤s.size∧i = .int .i64 j∧Hid ((s.data.toList.take j).all okByte=true)) (fun i=>s.size - (intOf i).toNat)
 case atStart=>exact ⟨0,Nat.zero_le _,rfl,rfl⟩
 case round=>
  obtain ⟨j,hj,rfl,HA⟩:=hrel
  by_cases hjl:j < s.size
  · have hx:s.data.toList[j]? = some (s.data.toList[j]'(by simpa using hjl)):=Qa _
    obtain ⟨x,hxe⟩:∃ x,x=s.data.toList[j]'(by simpa using hjl):=⟨_,rfl⟩;rw [←hxe] at hx;have hc:=HCell.out j hjl
    have hgd:s.data.toList.getD j 0=x:=by rw [List.getD,hx];rfl
    rw [hgd] at hc;clear hgd hxe;have HX:=hid hx;clear hx;obtain ⟨n,hn⟩:∃ n,n=x.toNat:=⟨_,rfl⟩;rw [←hn] at hc
    by_cases hok:okByte x=true
    · have h9:n=9∨n=10∨(32≤n∧n≤126):=by unfold okByte at hok;rw [←hn] at hok;simpa using hok
      have HO:=hid hok;clear hok;have HN:=hid hn;clear hn
      rcases h9 with h9 | h9 | ⟨h8,h9⟩
      · have u1:n≤9:=by omega
        have u2:9≤n:=by omega
        have t1:((n:Int) != 9)=false:=by simp;omega
        clear h9
        go_wp2_with fail
        go_round
        case rel=>exact ⟨j+1,by omega,by go_num,show _=true by rw [all_snoc _ _ _ _ HX.out,HA.out,HO.out];rfl⟩
        case measure=>simp [intOf];omega
      · have u1:n≤10:=by omega
        have u2:10≤n:=by omega
        have t1:((n:Int) != 9)=true:=by simp;omega
        have t2:((n:Int) != 10)=false:=by simp;omega
        clear h9
        go_wp2_with fail
        go_round
        case rel=>exact ⟨j+1,by omega,by go_num,show _=true by rw [all_snoc _ _ _ _ HX.out,HA.out,HO.out];rfl⟩
        case measure=>simp [intOf];omega
      · go_wp2_with fail
        go_round
        case rel=>exact ⟨j+1,by omega,by go_num,show _=true by rw [all_snoc _ _ _ _ HX.out,HA.out,HO.out];rfl⟩
        case measure=>simp [intOf];omega
    · have ho:okByte x=false:=by simpa using hok
      have h9:¬ (n=9∨n=10∨(32≤n∧n≤126)):=by unfold okByte at ho;rw [←hn] at ho;simpa using ho
      have h10:n≤31∨127≤n:=by omega
      have t1:((n:Int) != 9)=true:=by simp;omega
      have t2:((n:Int) != 10)=true:=by simp;omega
      have HO:=hid ho;clear ho hok h9;have HN:=hid hn;clear hn
      rcases h10 with h10 | h10
      all_goals
       go_wp2_with fail
       go_ret;refine ⟨ret_bool ?_,hT⟩;unfold goodNameB;rw [all_no _ _ _ _ HX.out HO.out];rfl
  · have hje:j=s.size:=by omega
    go_wp2_with fail
    go_ret;refine ⟨ret_bool ?_,hT⟩;unfold goodNameB;have h:=HA.out;rw [hje,List.take_of_length_le (by simp)] at h;rw [h,Bool.true_and,decide_eq_decide];omega
theorem bytes_nil (s:ByteArray):s.toList=[]↔s=ByteArray.empty:=by
 rw [ByteArray.toList_eq]
 cases s with | mk d=>cases d with | mk l=>
 constructor
 · intro h;simp at h;subst h;rfl
 · intro h;injection h with h;injection h
def goodOneB {α:Type} (t:Tm α):Bool:=
 if t.kind=0 then decide (0≤t.n) && (decide (t.n≤2147483647) && (decide (t.name.toList=[]) && decide (t.args.length=0)))
 else if t.kind=1 then decide (t.name.toList=[]) && decide (t.args.length=0)
 else if t.kind=2 then decide (t.n=0) && (goodNameB t.name && decide (t.args.length≤8))
 else false
theorem goodOneB_0 {α:Type} (t:Tm α) (h:t.kind=0):goodOneB t=(decide (0≤t.n) && (decide (t.n≤2147483647) && (decide (t.name.toList=[]) && decide (t.args.length=0)))):=by unfold goodOneB;rw [if_pos h]
theorem goodOneB_1 {α:Type} (t:Tm α) (h:t.kind=1):goodOneB t=(decide (t.name.toList=[]) && decide (t.args.length=0)):=by unfold goodOneB;rw [if_neg (by omega),if_pos h]
theorem goodOneB_2 {α:Type} (t:Tm α) (h:t.kind=2):goodOneB t=(decide (t.n=0) && (goodNameB t.name && decide (t.args.length≤8))):=by unfold goodOneB;rw [if_neg (by omega),if_neg (by omega),if_pos h]
theorem goodOneB_3 {α:Type} (t:Tm α) (h0:¬ t.kind=0) (h1:¬ t.kind=1) (h2:¬ t.kind=2):goodOneB t=false:=by unfold goodOneB;rw [if_neg h0,if_neg h1,if_neg h2]
theorem goodOne129 {p:Nat→Prop} (t:LT) (w:World) (ht:t.In p w) :
 Calls Try.prog 129 #[t.val] w fun e w'=>e = .returned (.bool (goodOneB t))∧Turned zN w w':=by
 rw [LT.val_eq];have hname:=ht.name;have hl:=ht.len;have hm:=hl.2.1;have hm1:=hl.1
 have hm2:t.args.length≤9223372036854775807:=by unfold maxLen at hm;omega
 obtain ⟨a,ha⟩:∃ a,a=t.at_.1:=⟨_,rfl⟩;obtain ⟨c,hc⟩:∃ c,c=t.at_.2:=⟨_,rfl⟩;rw [←ha,←hc];clear ha hc hl hm hm1
 have T:=fun o=>(Turned.refl (fun _=>False) w).alloc o
 have hg:=fun W=>goodName161 t.name W hname
 have HG:=hid hg;clear hg
 have HLN:Hid (((t.args.length:Int) == 0)=decide (t.args=[])):=by
  show _=_;rw [Bool.eq_iff_iff];simp
 by_cases h0:t.kind=0
 · have k0:(t.kind == 0)=true:=by simp [h0]
   have HR:=hid (goodOneB_0 t h0);clear h0;go_enter Try.func129,Try.ntmps129
   go_wp2_with fail
   all_goals
    go_ret;refine ⟨ret_bool ?_,?_⟩
    · have hln:=HLN.out
      rw [HR.out]
      simp [*] <;> first | omega | (intros;omega)
    · exact T _
 by_cases h1:t.kind=1
 · have k0:(t.kind == 0)=false:=by simp [h0]
   have k1:(t.kind == 1)=true:=by simp [h1]
   have HR:=hid (goodOneB_1 t h1);clear h0 h1;go_enter Try.func129,Try.ntmps129
   go_wp2_with fail
   all_goals
    go_ret;refine ⟨ret_bool ?_,?_⟩
    · have hln:=HLN.out
      rw [HR.out]
      simp [*] <;> first | omega | (intros;omega)
    · exact T _
 by_cases h2:t.kind=2
 · have k0:(t.kind == 0)=false:=by simp [h0]
   have k1:(t.kind == 1)=false:=by simp [h1]
   have k2:(t.kind == 2)=true:=by simp [h2]
   have HR:=hid (goodOneB_2 t h2);clear h0 h1 h2
   by_cases hn:t.n=0
   · have kn:(t.n == 0)=true:=by simp [hn]
     have HN:=hid hn;clear hn;go_enter Try.func129,Try.ntmps129
     go_wp2_with (go_at_call 161;refine (HG.out _).mono ?_;rintro e w2 ⟨rfl,T2⟩;have hb3:=(boxed w #[.int .i64 t.kind,.int .i64 t.n,.string t.name,.slice a t.args.length c] 27 3);have hb4:=T2.cell0 hb3;clear hb3;have T3:=(T _).trans T2)
     all_goals
      go_ret;refine ⟨ret_bool ?_,T3⟩;have hn:=HN.out;rw [HR.out]
      simp [*] <;> first | omega | (intros;omega)
   · have kn:(t.n == 0)=false:=by simp [hn]
     have HN:=hid hn;clear hn;go_enter Try.func129,Try.ntmps129
     go_wp2_with fail
     go_ret;refine ⟨ret_bool ?_,T _⟩;have hn:=HN.out;rw [HR.out];simp [hn]
 · have k0:(t.kind == 0)=false:=by simp [h0]
   have k1:(t.kind == 1)=false:=by simp [h1]
   have k2:(t.kind == 2)=false:=by simp [h2]
   have HR:=hid (goodOneB_3 t h0 h1 h2);clear h0 h1 h2;go_enter Try.func129,Try.ntmps129
   go_wp2_with fail
   go_ret;exact ⟨ret_bool HR.out.symm,T _⟩
def tell {α:Type} (ans:List α→α→Bool):List α→List α→Bool × List α
 | told,[]=>(true,told)
 | told,x :: r=>if ans told x then tell ans (told++[x]) r else (false,told++[x])
structure Told (p:Nat→Prop) (K:FuncId) (capt:Array Value) (t:LT) (M0:Nat→Prop) (Inv:(Nat→Prop)→List LT→World→Prop) (ans:List LT→LT→Bool):Prop where
 enter:∀ (args:Array Value) (w:World),(callFunc K args).run Try.prog w = .ok (.enter K args) w
 lt:∀ M l w k,Inv M l w→M k→k < w.heap.size
 frame:∀ M T l w w',Inv M l w→Turned T w w'→(∀ k,k < w.heap.size→T k→¬ M k)→Inv M l w'
 call:∀ M l x r w,Inv M l w→l.length≤2002→t.flat=l++x :: r→x.In p w→Calls Try.prog K (#[x.val]++capt) w fun e w'=>e = .returned (.bool (ans l x))∧∃ M',Inv M' (l++[x]) w'∧Turned M w w'∧(∀ k,M' k→M k∨w.heap.size≤k)
structure EachI (M0:Nat→Prop) (Inv:(Nat→Prop)→List LT→World→Prop) (w0:World) (stack told:List LT) (v:Value) (M:Nat→Prop) (w:World):Prop where
 row:Row w 27 4 v stack.length (stack.flatMap LT.cells)
 own:∀ g,v.ownBlock=some g→w0.heap.size≤g∧¬ M g
 inv:Inv M told w
 sub:∀ k,M k→M0 k∨w0.heap.size≤k
 turned:Turned M0 w0 w
 base:w0.heap.size≤w.heap.size
section
variable {p:Nat→Prop} {K:FuncId} {capt:Array Value} {t:LT} {M0:Nat→Prop} {Inv:(Nat→Prop)→List LT→World→Prop} {ans:List LT→LT→Bool} {w0 w:World} {stack told ys:List LT} {v:Value} {M:Nat→Prop} {x y:LT}
theorem EachI.alloc (c:Told p K capt t M0 Inv ans) (h:EachI M0 Inv w0 stack told v M w) (o:Obj):EachI M0 Inv w0 stack told v M (w.alloc o):=
 ⟨h.row.alloc o,h.own,c.frame _ _ _ _ _ h.inv ((Turned.refl (fun _=>False) w).alloc o) (fun _ _ f=>False.elim f),h.sub,h.turned.alloc o,by simp;have:=h.base;omega⟩
theorem EachI.pop {g n cap:Nat} (h:EachI M0 Inv w0 (ys++[x]) told (.slice (some ⟨g,0,none⟩) n cap) M w):n=ys.length+1∧EachI M0 Inv w0 ys told (.slice (some ⟨g,0,none⟩) ys.length cap) M w:=by
 have hr:=h.row
 have hn:n=ys.length+1:=by
  rcases hr.2 with ⟨e,_⟩ | ⟨g',c',cur,e,_⟩
  · cases e
  · injection e with _ e _;simp at e;exact e
 subst hn
 have hcap:ys.length≤cap:=by
  rcases hr.2 with ⟨e,_⟩ | ⟨g',c',cur,e,_,h1,_⟩
  · cases e
  · injection e with _ _ e;subst e;simp at h1;omega
 refine ⟨rfl,?_,h.own,h.inv,h.sub,h.turned,h.base⟩
 have hr':Row w 27 4 (.slice (some ⟨g,0,none⟩) (ys.length+1) cap) (ys.length+1) ((ys++[x]).flatMap LT.cells):=by simpa using hr
 have ht:=hr'.take (m:=ys.length) (c:=cap) (by omega) hcap (Qm _);rw [List.flatMap_append,List.take_left' (by rw [LT.flat_length])] at ht;exact ht
theorem EachI.push {w':World} {v':Value} (c:Told p K capt t M0 Inv ans) (h:EachI M0 Inv w0 stack told v M w) (hr:Row w' 27 4 v' (stack.length+1) (stack.flatMap LT.cells++y.cells)) (ht:Turned (fun k=>v.ownBlock=some k) w w')
 (ho:v'.ownBlock=v.ownBlock∨v'.ownBlock=some w.heap.size):EachI M0 Inv w0 (stack++[y]) told v' M w':=by
 refine ⟨?_,fun g hg=>?_,c.frame _ _ _ _ _ h.inv ht (fun k _ hk=>(h.own k hk).2),h.sub,?_,QA h.base ht.size⟩
 · rw [List.flatMap_append,Qi]
   simpa using hr
 · rcases ho with ho | ho
   · rw [ho] at hg;exact h.own g hg
   · rw [ho] at hg
     injection hg with hg;subst hg
     exact ⟨h.base,fun hm=>Qy _ (c.lt _ _ _ _ h.inv hm)⟩
 · exact h.turned.step ht (fun i hi hk=>by have:=(h.own i hk).1;omega)
theorem EachI.called {w':World} {M':Nat→Prop} (h:EachI M0 Inv w0 stack told v M w) (hi:Inv M' (told++[x]) w') (ht:Turned M w w') (hM:∀ k,M' k→M k∨w.heap.size≤k):EachI M0 Inv w0 stack (told++[x]) v M' w':=by
 refine ⟨h.row.turned ht (fun k hk=>(h.own k hk).2),fun g hg=>⟨(h.own g hg).1,fun hm=>?_⟩,hi,fun k hk=>?_,?_,QA h.base ht.size⟩
 · rcases hM g hm with hm | hm
   · exact (h.own g hg).2 hm
   · have:=h.row.lt g hg;omega
 · rcases hM k hk with hk | hk
   · exact h.sub k hk
   · have:=h.base;exact .inr (by omega)
 · refine h.turned.step ht (fun i hi hk=>?_)
   rcases h.sub i hk with hk | hk
   · exact hk
   · omega
end
theorem EachI.top {M0:Nat→Prop} {Inv:(Nat→Prop)→List LT→World→Prop} {w0 w:World} {told ys:List LT} {M:Nat→Prop} {x:LT} {g n cap:Nat} (h:EachI M0 Inv w0 (ys++[x]) told (.slice (some ⟨g,0,none⟩) n cap) M w) :
 w.cell? ⟨g,ys.length * 4,none⟩=some (.int .i64 x.kind)∧w.cell? ⟨g,ys.length * 4+1,none⟩=some (.int .i64 x.n)∧w.cell? ⟨g,ys.length * 4+2,none⟩=some (.string x.name)∧w.cell? ⟨g,ys.length * 4+3,none⟩=some (.slice x.at_.1 x.args.length x.at_.2):=by
 have hn:=h.pop.1;subst hn
 have hr:Row w 27 4 (.slice (some ⟨g,0,none⟩) (ys.length+1) cap) (ys.length+1) ((ys++[x]).flatMap LT.cells):=by simpa using h.row
 have hi:(ys++[x])[ys.length]? = some x:=by simp
 refine ⟨hr.cells rfl _ _ ?_,hr.cells rfl _ _ ?_,hr.cells rfl _ _ ?_,hr.cells rfl _ _ ?_⟩
 · have:=LT.flat_at hi 0 (by omega);rw [Nat.add_zero] at this;rw [this,LT.cells_eq];rfl
 · rw [LT.flat_at hi 1 (by omega),LT.cells_eq];rfl
 · rw [LT.flat_at hi 2 (by omega),LT.cells_eq];rfl
 · rw [LT.flat_at hi 3 (by omega),LT.cells_eq];rfl
theorem Tm.sizes_reverse {α:Type} (l:List (Tm α)):Tm.sizes l.reverse=Tm.sizes l:=by
 induction l with
 | nil=>rfl
 | cons x l ih=>rw [List.reverse_cons,Tm.sizes_append,ih];simp only [Tm.sizes];omega
theorem tell_cons {α:Type} (ans:List α→α→Bool) (told:List α) (x:α) (r:List α):tell ans told (x :: r)=if ans told x then tell ans (told++[x]) r else (false,told++[x]):=rfl
set_option maxRecDepth 100000 in
theorem each124 {p:Nat→Prop} {K:FuncId} {capt:Array Value} {t:LT} {M0:Nat→Prop} {Inv:(Nat→Prop)→List LT→World→Prop} {ans:List LT→LT→Bool} {w:World} {M:Nat→Prop}
 (c:Told p K capt t M0 Inv ans) (ht:t.In p w) (hp:∀ k,p k→¬ M0 k) (hi:Inv M [] w) (hM:∀ k,M k→M0 k)
 (hA:∀ x∈t.flat,x.args.length≤12) (hN:∀ l x r,t.flat=l++x :: r→ans l x=true→l.length≤2001) :
 Calls Try.prog 124 #[t.val,.func (.func K) #[] capt] w fun e w'=>e = .returned (.bool (tell ans [] t.flat).1)∧∃ M',Inv M' (tell ans [] t.flat).2 w'∧(∀ k,M' k→M0 k∨w.heap.size≤k)∧Turned M0 w w':=by
 obtain ⟨i0,hi0,hz0,hz1,hz2⟩:=info_parts infoT;rw [LT.val_eq];go_enter Try.func124,Try.ntmps124
 go_wp2_with fail
 have hst:EachI M0 Inv w [t] [] (.slice (some ⟨w.heap.size+1,0,none⟩) 1 1) M ((w.alloc (.cells #[.int .i64 t.kind,.int .i64 t.n,.string t.name,.slice t.at_.1 t.args.length t.at_.2] 27)).alloc (.cells #[.int .i64 t.kind,.int .i64 t.n,.string t.name,.slice t.at_.1 t.args.length t.at_.2] 27)):=by
  refine ⟨?_,fun g hg=>?_,?_,fun k hk=>.inl (hM k hk),((Turned.refl _ _).alloc _).alloc _,by simp;omega⟩
  · have:=Row.made (w.alloc (.cells #[.int .i64 t.kind,.int .i64 t.n,.string t.name,.slice t.at_.1 t.args.length t.at_.2] 27)) 27 4 #[.int .i64 t.kind,.int .i64 t.n,.string t.name,.slice t.at_.1 t.args.length t.at_.2] 1 rfl (by unfold maxLen;omega)
    simpa [LT.cells_eq] using this
  · simp [Value.ownBlock] at hg
    subst hg;exact ⟨by omega,fun hm=>by have:=c.lt _ _ _ _ hi hm;omega⟩
  · exact c.frame _ _ _ _ _ hi (((Turned.refl (fun _=>False) w).alloc _).alloc _) (fun _ _ f=>False.elim f)
 revert hst;generalize ((w.alloc (.cells #[.int .i64 t.kind,.int .i64 t.n,.string t.name,.slice t.at_.1 t.args.length t.at_.2] 27)).alloc (.cells #[.int .i64 t.kind,.int .i64 t.n,.string t.name,.slice t.at_.1 t.args.length t.at_.2] 27))=w1;intro hst
 go_loopg [5] (Tm.sizes [t]) (fun k v wr=>∃ (stack told:List LT) (M':Nat→Prop),Hid (Tm.sizes stack=k)∧EachI M0 Inv w stack told v M' wr∧Hid (t.flat=told++Tm.flats stack.reverse)∧Hid (tell ans [] t.flat=tell ans told (Tm.flats stack.reverse))∧Hid (stack.length≤1+12 * told.length∧told.length≤2002))
 case atStart=>
  refine ⟨[t],[],M,rfl,hst,?_,?_,?_⟩
  · show _=_;simp [Tm.flats]
  · show _=_;simp [Tm.flats]
  · show _∧_;simp
 case round=>
  obtain ⟨stack,told,M',HK,hE,HF,HT,HL⟩:=hrel;obtain ⟨wo,rfl⟩:∃ wo:World,wo=wr:=⟨_,rfl⟩;obtain ⟨go,rfl⟩:∃ go:Nat,go=gk:=⟨_,rfl⟩
  rcases List.eq_nil_or_concat stack with rfl | ⟨ys,x,rfl⟩
  · obtain ⟨a,cap,rfl⟩:=hE.row.shape
    go_wp2_with fail
    have hF:=HF.out;have hT:=HT.out;simp only [List.reverse_nil,Tm.flats,List.append_nil] at hF hT;go_ret;rw [hT];exact ⟨rfl,M',by rw [tell];exact hE.inv,hE.sub,hE.turned⟩
  · rw [List.concat_eq_append] at HK HF HT HL hE
    rw [Tm.flats_todo] at HF HT;obtain ⟨g,cap,rfl⟩:=hE.row.shape_pos (by simp)
    have hxt:x∈t.flat:=by rw [HF.out];simp
    have hA1:=hA x hxt;obtain ⟨hn,hE1⟩:=hE.pop;obtain ⟨c0,c1,c2,c3⟩:=hE.top;have hxin:x.In (fun k=>p k∧k < w.heap.size) wo:=LT.In.turned hE.turned (fun k _ hk hm=>hp k hk hm) (fun k hk h=>⟨h,hk⟩) x (LT.In.flat t ht x hxt)
    have hcap:ys.length≤cap∧cap≤9223372036854775807:=by
     rcases hE1.row.2 with ⟨e,_⟩ | ⟨g',c',cur,e,_,h1,h2,_⟩
     · cases e
     · injection e with _ _ e;subst e;unfold maxLen at h2;omega
    obtain ⟨hc1,hc2⟩:=hcap;have hE2:=hE1.alloc c (.cells #[.int .i64 x.kind,.int .i64 x.n,.string x.name,.slice x.at_.1 x.args.length x.at_.2] 27);have hbox:=boxed wo #[.int .i64 x.kind,.int .i64 x.n,.string x.name,.slice x.at_.1 x.args.length x.at_.2] 27
    have hys:ys.length≤24100:=by have:=HL.out;simp at this;omega
    rw [Qi,List.length_singleton];have HE1:=hid hE1;have HE:=hid hE;have HE2:=hid hE2;have HXI:=hid hxin;have HBX:=hid hbox;clear hE hE1 hE2 hxin hbox hn;have henter:=c.enter;have hcall:=c.call M' told x _ _ HE2.out.inv HL.out.2 HF.out (HXI.out.turned0 ((Turned.refl _ wo).alloc (.cells #[.int .i64 x.kind,.int .i64 x.n,.string x.name,.slice x.at_.1 x.args.length x.at_.2] 27)) |>.mono (fun k _ h=>h.1));rw [LT.val_eq] at hcall;have HCALL:=hid hcall;clear hcall
    have hbx:∀ W,Turned M' (wo.alloc (.cells #[.int .i64 x.kind,.int .i64 x.n,.string x.name,.slice x.at_.1 x.args.length x.at_.2] 27)) W→W.cell? ⟨wo.heap.size,3,none⟩=some (.slice x.at_.1 x.args.length x.at_.2):=fun W hW=>
     hW.cell (HBX.out 3) (fun hm=>Qy _ (c.lt _ _ _ _ HE.out.inv hm))
    have HBW:=hid hbx;clear hbx;have hlm:=(LT.In.flat t ht x hxt).len
    have hal:x.args.length≤9223372036854775807:=by omega
    go_wp2_with (with_reducible refine (HCALL.out).mono ?_;rintro e w2 ⟨rfl,M2,hI2,hT2,hM2⟩;have hb3:=HBW.out _ hT2)
    rotate_right
    · have hans:ans told x=true:=by simpa using (by assumption:(!ans told x)=false)
      rename_i hq;clear hq;have HANS:=hid hans;clear hans;have hE3:=HE2.out.called hI2 hT2 hM2
      have hbw:wo.heap.size < w2.heap.size:=by have:=hT2.size;simp at this;omega
      go_loopg [5,7] x.args.length (fun j v i wr2=>Hid (j≤x.args.length)∧i = .int .i64 ((j:Int) - 1)∧EachI M0 Inv w (ys++(x.args.drop j).reverse) (told++[x]) v M2 wr2∧wr2.cell? ⟨wo.heap.size,3,none⟩=some (.slice x.at_.1 x.args.length x.at_.2)∧(∀ g,v.ownBlock=some g→g≠wo.heap.size)∧wo.heap.size < wr2.heap.size)
      case atStart=>
       refine ⟨Qm _,rfl,by simpa using hE3,hb3,fun g' hg' e=>?_,hbw⟩;subst e;exact Qy _ (HE1.out.row.lt _ hg')
      case round=>
       obtain ⟨HJ,hi,hE4,hb4,hown4,hsz4⟩:=hrel;have hxin:x.In (fun k=>p k∧k < w.heap.size) wr:=LT.In.turned hE4.turned (fun k _ hk hm=>hp k hk hm) (fun k hk h=>⟨h,hk⟩) x (LT.In.flat t ht x hxt);obtain ⟨a4,cap4,rfl⟩:=hE4.row.shape
       rcases gk with _ | m
       · rw [show (((0:Nat):Int) - 1) = -1 from rfl] at hi
         subst hi
         go_wp2_with fail
         go_roundg (Tm.sizes (ys++x.args.reverse))
         case measure=>
          have hk:=HK.out;rw [Tm.sizes_append] at hk ⊢;rw [Tm.sizes_reverse,←hk];have:=Tm.size_eq x;simp only [Tm.sizes];omega
         case rel=>
          have hL:=HL.out;have hF:=HF.out;have hT:=HT.out;rw [tell_cons,HANS.out,if_pos rfl] at hT;have h01:=hN told x _ hF HANS.out;refine ⟨ys++x.args.reverse,told++[x],M2,rfl,by simpa using hE4,?_,hT,?_⟩
          · show _=_;rw [hF];simp
          · show _∧_;simp at hL ⊢;omega
       · rw [show (((m+1:Nat):Int) - 1)=(m:Int) from by omega] at hi
         subst hi
         have hm:m < x.args.length:=by have:=HJ.out;omega
         have hy:x.args[m]? = some x.args[m]:=Qa hm;obtain ⟨y,hye⟩:∃ y:LT,y=x.args[m]:=⟨_,rfl⟩;rw [←hye] at hy;clear hye;obtain ⟨b,o,ha,_,d0,d1,d2,d3⟩:=hxin.lies.cell hy;rw [ha] at hb4;have HY:=hid hy;have HAd:=hid ha;have HE4:=hid hE4;have hrow:=(hE4.alloc c (.cells #[.int .i64 y.kind,.int .i64 y.n,.string y.name,.slice y.at_.1 y.args.length y.at_.2] 27)).row
         have hnews:∀ j u,y.cells[j]? = some u→(wr.alloc (.cells #[.int .i64 y.kind,.int .i64 y.n,.string y.name,.slice y.at_.1 y.args.length y.at_.2] 27)).cell? ((⟨wr.heap.size,0,none⟩:Addr).add j)=some u:=by
          intro j u hu;rw [Addr.add_lit,Nat.zero_add,boxed];rw [LT.cells_eq] at hu;simpa using hu
         have HN:=hid hnews;have HR:=hid hrow
         have hlen:(ys++(x.args.drop (m+1)).reverse).length≤24200:=by simp;omega
         clear hy ha hE4 hnews hrow hxin
         go_wp2_with (at_builtin;refine append_some _ rfl _ _ 22 rfl 27 i0 zeroT 4 56 Try.underlying22 hi0 hz0 hz1 hz2 rfl (by decide) _ _ _ rfl HR.out ⟨wr.heap.size,0,none⟩ 1 1 y.cells rfl (LT.cells_length y) HN.out (LT.cells_one y) (by omega) (by unfold maxLen;omega) (by omega) ?_;intro g5 cap5 w5 hown5 hg5 hloc5)
         go_roundg m
         case measure=>omega
         case rel=>
          have hE5:=(HE4.out.alloc c (.cells #[.int .i64 y.kind,.int .i64 y.n,.string y.name,.slice y.at_.1 y.args.length y.at_.2] 27)).push c hown5 hg5 (by
           rcases hloc5 with e | e
           · exact .inl e
           · exact .inr (by rw [e];rfl))
          have hst:ys++(x.args.drop (m+1)).reverse++[y]=ys++(x.args.drop m).reverse:=by
           rw [List.append_assoc,List.drop_eq_getElem_cons hm,List.reverse_cons];have hy:=HY.out;rw [Qa hm] at hy
           injection hy with hy
           rw [hy]
          rw [hst] at hE5
          have hl5:(ys++(x.args.drop (m+1)).reverse).length=ys.length+(x.args.length - (m+1)):=by simp
          rw [hl5] at hE5;refine ⟨by have:=HJ.out;show _≤_;omega,rfl,hE5,?_,?_,?_⟩
          · rw [HAd.out]
            exact hg5.cell (cell_old hb4) (fun e=>hown4 _ e rfl)
          · intro g' hg'
            rcases hloc5 with e | e
            · exact hown4 g' (e.symm.trans hg')
            · simp [Value.ownBlock] at hg';simp at e;omega
          · have:=hg5.size;simp at this;omega
    · have hans:ans told x=false:=by simpa using (by assumption:(!ans told x)=true)
      have hF:=HF.out;have hT:=HT.out;rw [tell_cons,hans,if_neg (by simp)] at hT;have hE3:=HE2.out.called hI2 hT2 hM2;go_ret;rw [hT];exact ⟨rfl,M2,hE3.inv,hE3.sub,hE3.turned⟩
theorem cell1_set {w:World} {b:Nat} {u v:Value} {T:TypeId} (h:w.heap[b]? = some (.cells #[u] T (0,0))):(w.setCell ⟨b,0,none⟩ v).heap[b]? = some (.cells #[v] T (0,0)):=by
 have:=heap_setCell_same w b 0 _ T v h;simpa using this
theorem cell1 {w:World} {b:Nat} {u:Value} {T:TypeId} (h:w.heap[b]? = some (.cells #[u] T (0,0))):w.cell? ⟨b,0,none⟩=some u∧w.frozen? ⟨b,0,none⟩=false:=
 ⟨cell_of_row w b 0 _ T (0,0) h,frozen_of_row w b 0 _ T h⟩
theorem sizeOne126 (t:LT) (b l:Nat) (w:World) (hb:w.heap[b]? = some (.cells #[.int .i64 (l:Int)] 3 (0,0))) (hl:l≤100000) :
 Calls Try.prog 126 #[t.val,.pointer (some ⟨b,0,none⟩)] w fun e w'=>e = .returned (.bool (decide (l+1≤2000)))∧w'.heap[b]? = some (.cells #[.int .i64 ((l+1:Nat):Int)] 3 (0,0))∧Turned (· = b) w w':=by
 rw [LT.val_eq];have hlt:=(zL hb);obtain ⟨c0,f0⟩:=cell1 hb;have HB:=hid hb;clear hb;go_enter Try.func126,Try.ntmps126
 go_wp2_with fail
 go_ret;refine ⟨ret_bool (by rw [decide_eq_decide];omega),?_,((Turned.refl (· = b) w).setCell (.inr rfl) _).alloc _⟩;exact (Below.heap_alloc _ _ _ (by simpa [World.setCell] using hlt)).trans (cell1_set HB.out)
def ansSize {α:Type} (l:List α) (_:α):Bool:=decide (l.length+1≤2000)
theorem tell_size {α:Type} (told l:List α) (h:told.length≤2000):(tell ansSize told l).2.length=min (told.length+l.length) 2001:=by
 induction l generalizing told with
 | nil=>simp only [tell,List.length_nil];omega
 | cons x l ih=>
  rw [tell_cons]
  by_cases hx:told.length+1≤2000
  · rw [if_pos (by simp [ansSize,hx]),ih _ (by simp;omega)]
    simp;omega
  · rw [if_neg (by simp [ansSize,hx])]
    simp;omega
def InvSize (b:Nat) (M:Nat→Prop) (l:List LT) (w:World):Prop:=(∀ k,M k↔k=b)∧w.heap[b]? = some (.cells #[.int .i64 (l.length:Int)] 3 (0,0))
theorem enter126 (args:Array Value) (w:World):(callFunc 126 args).run Try.prog w = .ok (.enter 126 args) w:=by kernel_rfl
theorem told_size (p:Nat→Prop) (t:LT) (b:Nat) (M0:Nat→Prop):Told p 126 #[.pointer (some ⟨b,0,none⟩)] t M0 (InvSize b) (fun l x=>ansSize l x):=by
 refine ⟨enter126,fun M l w k h hk=>?_,fun M T l w w' h ht hT=>?_,fun M l x r w h hl hF hx=>?_⟩
 · have:=(h.1 k).1 hk;subst this;exact (zL h.2)
 · have hlt:=(zL h.2)
   exact ⟨h.1,(ht.block b hlt (fun k=>hT b hlt k ((h.1 b).2 rfl))).trans h.2⟩
 · refine (sizeOne126 x b l.length w h.2 (by omega)).mono ?_
   rintro e w' ⟨rfl,hb,ht⟩
   exact ⟨rfl,M,⟨h.1,by rw [Qi];exact hb⟩,ht.mono (fun i _ e=>(h.1 i).2 e),fun k hk=>.inl hk⟩
def slim {α:Type} (t:Tm α):Prop:=∀ x∈t.flat,x.args.length≤12
theorem size35 {p:Nat→Prop} {t:LT} {w:World} (ht:t.In p w) (hs:slim t) :
 Calls Try.prog 35 #[t.val] w fun e w'=>e = .returned (.int .i64 ((min t.size 2001:Nat):Int))∧Turned zN w w':=by
 have hmf:∀ (fn:Fn) (first cap:Array Value) (w:World),(Instr.makeFunc fn first cap).run Try.prog w = .ok (.func fn first cap) w:=fun _ _ _ _=>rfl
 have T1:=((Turned.refl (fun _=>False) w).alloc (.cells #[.int .i64 t.kind,.int .i64 t.n,.string t.name,.slice t.at_.1 t.args.length t.at_.2] 27)).alloc (.cells #[.int .i64 0] 3);have hbk:((w.alloc (.cells #[.int .i64 t.kind,.int .i64 t.n,.string t.name,.slice t.at_.1 t.args.length t.at_.2] 27)).alloc (.cells #[.int .i64 0] 3)).heap[w.heap.size+1]? = some (.cells #[.int .i64 0] 3 (0,0)):=heap_alloc2_new _ _ _
 have hin:t.In (fun k=>p k∧k < w.heap.size) ((w.alloc (.cells #[.int .i64 t.kind,.int .i64 t.n,.string t.name,.slice t.at_.1 t.args.length t.at_.2] 27)).alloc (.cells #[.int .i64 0] 3)):=
  LT.In.turned T1 (fun _ _ _ f=>f) (fun k hk h=>⟨h,hk⟩) t ht
 have hc:=each124 (told_size (fun k=>p k∧k < w.heap.size) t (w.heap.size+1) (· = w.heap.size+1)) hin (fun k hk e=>by omega) (M:=(· = w.heap.size+1)) ⟨fun k=>Iff.rfl,hbk⟩ (fun k h=>h) hs (fun l x r _ h=>by simp [ansSize] at h;omega);have htl:=tell_size [] t.flat (by simp);rw [Tm.flat_length] at htl;rw [LT.val_eq] at hc ⊢;have HC:=hid hc;have HTL:=hid htl;have HB:=hid T1;clear hc htl hbk T1 hin;go_enter Try.func35,Try.ntmps35
 go_wp2_with (go_at_call 124;refine HC.out.mono ?_;rintro e w2 ⟨rfl,M2,⟨hM,hb⟩,hsub,hT⟩;obtain ⟨c0,f0⟩:=cell1 hb;have HB2:=hid hb;clear hb)
 go_ret;refine ⟨?_,HB.out.step hT (fun i hi e=>by omega)⟩;rw [HTL.out];simp
theorem Tm.depths_append {α:Type} (a b:List (Tm α)):Tm.depths (a++b)=max (Tm.depths a) (Tm.depths b):=by
 induction a with
 | nil=>simp [Tm.depths]
 | cons x a ih=>simp only [List.cons_append,Tm.depths,ih];omega
theorem Tm.depths_take_le {α:Type} (l:List (Tm α)) (j:Nat):Tm.depths (l.take j)≤Tm.depths l:=by
 have:=Tm.depths_append (l.take j) (l.drop j);rw [List.take_append_drop] at this;omega
theorem Tm.depths_snoc {α:Type} (l:List (Tm α)) (j:Nat) (x:Tm α) (h:l[j]? = some x):Tm.depths (l.take (j+1))=max (Tm.depths (l.take j)) x.depth:=by
 have hj:=(Qg.1 h);rw [List.take_succ_eq_append_getElem hj.1,hj.2,Tm.depths_append];simp [Tm.depths]
theorem ret_int' {a b:Int} (h:a=b):Ending.returned (.int .i64 a) = .returned (.int .i64 b):=by rw [h]
def DepR (l:List LT) (k:Nat) (w1:World) (g:Nat) (d i:Value) (wr:World):Prop:=∃ j dd:Nat,Hid (j+g=l.length)∧j≤l.length∧i = .int .i64 j∧d = .int .i64 dd∧dd≤k∧Hid (dd=min (Tm.depths (l.take j)) k)∧Turned zN w1 wr
theorem depth127 (p:Nat→Prop) (m:Nat):∀ (t:LT) (w:World),m≤1000→t.In p w→
 Calls Try.prog 127 #[t.val,.int .i64 ((m:Int)+1)] w fun e w'=>e = .returned (.int .i64 ((min t.depth (m+1):Nat):Int))∧Turned zN w w':=by
 induction m with
 | zero=>
  intro t w hk ht;rw [LT.val_eq];have hlm:=ht.len
  have hal:t.args.length≤9223372036854775807:=by have:=hlm.1;have:=hlm.2.1;unfold maxLen at this;omega
  have T1:=(Turned.refl (fun _=>False) w).alloc (.cells #[.int .i64 t.kind,.int .i64 t.n,.string t.name,.slice t.at_.1 t.args.length t.at_.2] 27);have HT1:=hid T1;obtain ⟨a,ha⟩:∃ a,a=t.at_.1:=⟨_,rfl⟩
  have hlies:=fun W h=>(LT.In.lies (p:=p) (w:=W) (t:=t) h)
  rw [←ha] at HT1 hlies ⊢;have HLI:=hid hlies;clear T1 hlm ha hlies;show Calls Try.prog 127 #[_,.int .i64 1] w _;go_enter Try.func127,Try.ntmps127
  go_wp2_with fail
  revert HT1;generalize w.alloc (.cells #[.int .i64 t.kind,.int .i64 t.n,.string t.name,.slice a t.args.length t.at_.2] 27)=w1;intro HT1
  go_loopg [5,11] t.args.length (fun g d i wr=>DepR t.args 0 w1 g d i wr)
  case atStart=>exact ⟨0,0,Nat.zero_add _,Nat.zero_le _,rfl,rfl,Nat.zero_le _,show _=_ by simp [Tm.depths],Turned.refl _ _⟩
  case round=>
   obtain ⟨j,dd,HG,hj,rfl,rfl,hdd,HD,Tr⟩:=hrel
   by_cases hjl:j < t.args.length
   · have hx:t.args[j]? = some t.args[j]:=Qa hjl
     obtain ⟨x,hxe⟩:∃ x:LT,x=t.args[j]:=⟨_,rfl⟩;rw [←hxe] at hx;clear hxe;have hin:=ht.turned0 (HT1.out.trans Tr);obtain ⟨b,o,rfl,_,c0,c1,c2,c3⟩:=(HLI.out _ hin).cell hx;clear hx hin
     have hz:0≤(dd:Int):=by omega
     go_wp2_with fail
     go_ret;refine ⟨ret_int' ?_,HT1.out.trans (Tr.trans ((Turned.refl _ wr).alloc _))⟩;have:=Tm.depth_pos t;omega
   · go_wp2_with fail
     go_ret;refine ⟨ret_int' ?_,HT1.out.trans Tr⟩;have:=Tm.depth_pos t;omega
 | succ k ih=>
  intro t w hk ht
  have ek:(((k+1:Nat):Int)+1)=(k:Int)+1+1:=by omega
  rw [LT.val_eq,ek];clear ek;have hlm:=ht.len
  have hal:t.args.length≤9223372036854775807:=by have:=hlm.1;have:=hlm.2.1;unfold maxLen at this;omega
  have T1:=(Turned.refl (fun _=>False) w).alloc (.cells #[.int .i64 t.kind,.int .i64 t.n,.string t.name,.slice t.at_.1 t.args.length t.at_.2] 27);have HT1:=hid T1;obtain ⟨a,ha⟩:∃ a,a=t.at_.1:=⟨_,rfl⟩
  have hlies:=fun W h=>(LT.In.lies (p:=p) (w:=W) (t:=t) h)
  rw [←ha] at HT1 hlies ⊢;have HLI:=hid hlies;clear T1 hlm ha hlies;go_enter Try.func127,Try.ntmps127
  go_wp2_with fail
  revert HT1;generalize w.alloc (.cells #[.int .i64 t.kind,.int .i64 t.n,.string t.name,.slice a t.args.length t.at_.2] 27)=w1;intro HT1
  go_loopg [5,11] t.args.length (fun g d i wr=>DepR t.args (k+1) w1 g d i wr)
  case atStart=>exact ⟨0,0,Nat.zero_add _,Nat.zero_le _,rfl,rfl,Nat.zero_le _,show _=_ by simp [Tm.depths],Turned.refl _ _⟩
  case round=>
   obtain ⟨j,dd,HG,hj,rfl,rfl,hdd,HD,Tr⟩:=hrel
   by_cases hjl:j < t.args.length
   · have hx:t.args[j]? = some t.args[j]:=Qa hjl
     obtain ⟨x,hxe⟩:∃ x:LT,x=t.args[j]:=⟨_,rfl⟩;rw [←hxe] at hx;clear hxe;have hin:=ht.turned0 (HT1.out.trans Tr);have hxin:=(LT.ins_iff _).1 hin.args x (Qf hx);obtain ⟨b,o,rfl,_,c0,c1,c2,c3⟩:=(HLI.out _ hin).cell hx;have HX:=hid hx
     have hih:=fun W h=>ih x W (by omega) h
     rw [LT.val_eq] at hih;have HI:=hid hih;have HIN:=hid hxin
     have hxw:∀ o:Obj,x.In p (wr.alloc o):=fun o=>hxin.turned0 ((Turned.refl _ wr).alloc o)
     have HXW:=hid hxw;clear hx hih ih hxin hin hxw
     by_cases hb:dd < k+1
     · go_wp2_with (go_at_call 127;refine (HI.out _ (HXW.out _)).mono ?_;rintro e w2 ⟨rfl,T2⟩)
       all_goals
        go_roundg (gk - 1)
        case rel=>
         have hD:=HD.out;have hS:=Tm.depths_snoc t.args j x HX.out;refine ⟨j+1,_,show _=_ by have:=HG.out;omega,by omega,by go_num,rfl,by omega,?_,Tr.trans (((Turned.refl _ wr).alloc _).trans T2)⟩;show _=_;rw [hS];omega
        case measure=>have:=HG.out;omega
     · go_wp2_with fail
       go_ret;have hD:=HD.out;have hL:=Tm.depths_take_le t.args j;refine ⟨ret_int' ?_,HT1.out.trans (Tr.trans ((Turned.refl _ wr).alloc _))⟩;rw [Tm.depth_eq];omega
   · go_wp2_with fail
     go_ret;have hD:=HD.out
     have:j=t.args.length:=by omega
     rw [this,List.take_length] at hD;refine ⟨ret_int' ?_,HT1.out.trans Tr⟩;rw [Tm.depth_eq];omega
theorem depth36 {p:Nat→Prop} {t:LT} {w:World} (ht:t.In p w) :
 Calls Try.prog 36 #[t.val] w fun e w'=>e = .returned (.int .i64 ((min t.depth 65:Nat):Int))∧Turned zN w w':=by
 have hd:=fun o=>depth127 p 64 t (w.alloc o) (by omega) (ht.turned0 ((Turned.refl _ w).alloc o))
 rw [LT.val_eq] at hd ⊢;have HD:=hid hd;clear hd;go_enter Try.func36,Try.ntmps36
 go_wp2_with (go_at_call 127;refine (HD.out _).mono ?_;rintro e w2 ⟨rfl,T2⟩)
 go_ret;exact ⟨rfl,((Turned.refl _ w).alloc _).trans T2⟩
theorem tell_all {α:Type} (f:α→Bool) (told l:List α):(tell (fun _ x=>f x) told l).1=l.all f:=by
 induction l generalizing told with
 | nil=>rfl
 | cons x l ih=>
  rw [tell_cons]
  by_cases h:f x=true
  · rw [if_pos h,ih,List.all_cons,h,Bool.true_and]
  · rw [if_neg h,List.all_cons]
    simp [h]
def goodB {α:Type} (t:Tm α):Bool:=decide (t.size≤2000) && (decide (t.depth≤64) && t.flat.all goodOneB)
theorem enter129 (args:Array Value) (w:World):(callFunc 129 args).run Try.prog w = .ok (.enter 129 args) w:=by kernel_rfl
theorem told_good (p:Nat→Prop) (t:LT):Told p 129 #[] t (fun _=>False) (fun M _ _=>∀ k,¬ M k) (fun _ x=>goodOneB x):=
 ⟨enter129,fun M l w k h hk=>absurd hk (h k),fun M T l w w' h _ _=>h,fun M l x r w h _ hF hx=>by
  rw [show #[x.val]++(#[]:Array Value) = #[x.val] from rfl];refine (goodOne129 x w hx).mono ?_
  rintro e w' ⟨rfl,ht⟩
  exact ⟨rfl,fun _=>False,fun _ f=>f,ht.mono (fun _ _ f=>False.elim f),fun _ f=>False.elim f⟩⟩
theorem prefix_size {t:LT} {l r:List LT} {x:LT} (h:t.flat=l++x :: r):l.length+1≤t.size:=by
 have:=congrArg List.length h;rw [Tm.flat_length] at this;simp at this;omega
theorem eachGood {p:Nat→Prop} {t:LT} {w:World} (ht:t.In p w) (hs:slim t) (h2:t.size≤2000) :
 Calls Try.prog 124 #[t.val,.func (.func 129) #[] #[]] w fun e w'=>e = .returned (.bool (t.flat.all goodOneB))∧Turned zN w w':=by
 refine (each124 (told_good p t) ht (fun _ _ f=>f) (M:=fun _=>False) (fun _ f=>f) (fun _ f=>f) hs (fun l x r h _=>by have:=prefix_size h;omega)).mono ?_
 rintro e w' ⟨rfl,M',_,_,hT⟩
 exact ⟨by rw [tell_all],hT⟩
theorem good38 {p:Nat→Prop} {t:LT} {w:World} (ht:t.In p w) (hs:slim t) :
 Calls Try.prog 38 #[t.val] w fun e w'=>e = .returned (.bool (goodB t))∧Turned zN w w':=by
 obtain ⟨bx,hbx⟩:∃ bx:Obj,bx = .cells #[.int .i64 t.kind,.int .i64 t.n,.string t.name,.slice t.at_.1 t.args.length t.at_.2] 27:=⟨_,rfl⟩;have T1:=(Turned.refl (fun _=>False) w).alloc bx
 have hin:∀ W,Turned zN (w.alloc bx) W→t.In p W:=fun W h=>ht.turned0 (T1.trans h)
 have hc:∀ W,Turned zN (w.alloc bx) W→W.cell? ⟨w.heap.size,0,none⟩=some (.int .i64 t.kind)∧W.cell? ⟨w.heap.size,1,none⟩=some (.int .i64 t.n)∧W.cell? ⟨w.heap.size,2,none⟩=some (.string t.name)∧W.cell? ⟨w.heap.size,3,none⟩=some (.slice t.at_.1 t.args.length t.at_.2):=by
  intro W h;subst hbx;obtain ⟨hb,_⟩:=box4 h;obtain ⟨c0,c1,c2,c3,_⟩:=cells4 hb;exact ⟨c0,c1,c2,c3⟩
 have h1:=fun W h=>size35 (hin W h) hs
 have h2:=fun W h=>depth36 (hin W h)
 have h3:=fun h2 W h=>eachGood (hin W h) hs h2
 rw [LT.val_eq] at h1 h2 h3 ⊢;have H1:=hid h1;have H2:=hid h2;have H3:=hid h3;have HC:=hid hc;have HT:=hid T1;subst hbx;clear h1 h2 h3 hc T1 hin
 by_cases s1:t.size≤2000
 · by_cases s2:t.depth≤64
   · have s1':decide (((min t.size 2001:Nat):Int)≤2000)=true:=by simp;omega
     have s2':decide (((min t.depth 65:Nat):Int)≤64)=true:=by simp;omega
     have HR:Hid (goodB t=t.flat.all goodOneB):=by show _=_;unfold goodB;simp [s1,s2]
     go_enter Try.func38,Try.ntmps38
     go_wp2_with (first
      | (go_at_call 35;refine (H1.out _ (Turned.refl _ _)).mono ?_;rintro e w2 ⟨rfl,T2⟩;obtain ⟨c0,c1,c2,c3⟩:=HC.out _ T2)
      | (go_at_call 36;refine (H2.out _ T2).mono ?_;rintro e w3 ⟨rfl,T3⟩;obtain ⟨d0,d1,d2,d3⟩:=HC.out _ (T2.trans T3))
      | (go_at_call 124;refine (H3.out s1 _ (T2.trans T3)).mono ?_;rintro e w4 ⟨rfl,T4⟩))
     go_ret;exact ⟨ret_bool HR.out.symm,HT.out.trans (T2.trans (T3.trans T4))⟩
   · have s1':decide (((min t.size 2001:Nat):Int)≤2000)=true:=by simp;omega
     have s2':decide (((min t.depth 65:Nat):Int)≤64)=false:=by simp;omega
     have HR:Hid (goodB t=false):=by show _=_;unfold goodB;simp [s2]
     go_enter Try.func38,Try.ntmps38
     go_wp2_with (first
      | (go_at_call 35;refine (H1.out _ (Turned.refl _ _)).mono ?_;rintro e w2 ⟨rfl,T2⟩;obtain ⟨c0,c1,c2,c3⟩:=HC.out _ T2)
      | (go_at_call 36;refine (H2.out _ T2).mono ?_;rintro e w3 ⟨rfl,T3⟩;obtain ⟨d0,d1,d2,d3⟩:=HC.out _ (T2.trans T3)))
     go_ret;exact ⟨ret_bool HR.out.symm,HT.out.trans (T2.trans T3)⟩
 · have s1':decide (((min t.size 2001:Nat):Int)≤2000)=false:=by simp;omega
   have HR:Hid (goodB t=false):=by show _=_;unfold goodB;simp [s1]
   go_enter Try.func38,Try.ntmps38
   go_wp2_with (go_at_call 35;refine (H1.out _ (Turned.refl _ _)).mono ?_;rintro e w2 ⟨rfl,T2⟩;obtain ⟨c0,c1,c2,c3⟩:=HC.out _ T2)
   go_ret;exact ⟨ret_bool HR.out.symm,HT.out.trans T2⟩
end Go.Proofs.Ytoihjobdfjajfaa
namespace Go.Proofs.Ytoihjobdfjajfaa
open Go.RowKit Go.Maps
def rawR (v:Value):Option (DataW Value × List MemPlace):=some (.held v,[])
def kI (n:Int):Lit:=.int .i64 n
theorem kI_inj {a b:Int} (h:kI a=kI b):a=b:=by unfold kI at h;injection h
def upd (f:Int→Option Value) (i:Int) (v:Value):Int→Option Value:=fun j=>if j=i then some v else f j
def IMap (P:Program) (kt:TypeId) (w:World) (b n:Nat) (f:Int→Option Value):Prop:=
 ∃ D:DataW Value,w.ownsMap P kt rawR b n D∧Maps.Tidy D∧Maps.size D=n∧∀ i,Maps.has D (kI i)=(f i).isSome∧∀ v,f i=some v→∀ z,D.atKey (kI i) z = .held v
section
variable {P:Program} {kt:TypeId} {w w':World} {b n:Nat} {f:Int→Option Value}
theorem IMap.made (w:World) (P:Program) (kt:TypeId):IMap P kt (w.alloc (.map #[] 0)) w.heap.size 0 (fun _=>none):=
 ⟨_,World.ownsMap_made _ _ _ _,⟨[],rfl,List.Pairwise.nil⟩,rfl,fun i=>⟨rfl,fun v h=>by cases h⟩⟩
theorem IMap.lt (h:IMap P kt w b n f):b < w.heap.size:=by obtain ⟨D,h,_⟩:=h;exact h.lt
theorem IMap.turned {S:Nat→Prop} (h:IMap P kt w b n f) (ht:Turned S w w') (hS:¬ S b):IMap P kt w' b n f:=by
 obtain ⟨D,⟨es,clock,hb,F,hs,hD⟩,h2,h3,h4⟩:=h;exact ⟨D,⟨es,clock,(ht.block b (zL hb) hS).trans hb,F,hs,hD⟩,h2,h3,h4⟩
theorem IMap.alloc (h:IMap P kt w b n f) (o:Obj):IMap P kt (w.alloc o) b n f:=h.turned ((Turned.refl (fun _=>False) w).alloc o) (fun f=>f)
theorem rawR_inj {v:Value} {d:DataW Value} {ps:List MemPlace} (h:rawR v=some (d,ps)):d = .held v:=by unfold rawR at h;injection h with h;injection h with h _;exact h.symm
theorem IMap.look {t e:TypeId} (h:IMap P kt w b n f) (K:Keyed P kt) (ht:P.underlying t=some (.map kt e)) {z:Value} (hz:(zeroValue e).run P w = .ok z w) {i:Int} (hkey:keyOf P kt (.int .i64 i)=some (kI i)) :
 (Instr.lookup t (.map (some b)) (.int .i64 i) false).run P w = .ok ((f i).getD z) w:=by
 obtain ⟨D,h1,h2,h3,h4⟩:=h;obtain ⟨v,ps,hr,hv⟩:=h1.lookup K ht hz (zd:=.held z) (zp:=[]) rfl hkey;rw [hr];have hd:=rawR_inj hv;obtain ⟨hh,hs⟩:=h4 i
 cases hf:f i with
 | none=>
  rw [hf] at hh;rw [Maps.atKey_of_not_has hh] at hd
  injection hd with hd;subst hd;rfl
 | some u=>
  rw [hs u hf] at hd
  injection hd with hd;subst hd;rfl
theorem IMap.put {t e:TypeId} (h:IMap P kt w b n f) (K:Keyed P kt) (ht:P.underlying t=some (.map kt e)) (hn:n < maxLen) {i:Int} {v:Value} (hkey:keyOf P kt (.int .i64 i)=some (kI i)) (hk:WideAt.IsKeyLit (kI i)) :
 ∃ w',(Instr.mapUpdate t (.map (some b)) (.int .i64 i) v).run P w = .ok () w'∧IMap P kt w' b (if (f i).isSome then n else n+1) (upd f i v)∧Turned (· = b) w w':=by
 obtain ⟨D,h1,h2,h3,h4⟩:=h;obtain ⟨w',hr,ho,hg⟩:=h1.update K ht hn (val:=v) (d:=.held v) (ps:=[]) hkey rfl
 have hsz:Maps.size (D.put (kI i) (.held v))=if (f i).isSome then n else n+1:=by
  rw [Maps.size_put h2,(h4 i).1,h3]
 refine ⟨w',hr,⟨_,?_,h2.put hk _,hsz,fun j=>?_⟩,(Turned.refl _ w).grown hg (fun k e=>by cases e;exact .inr rfl)⟩
 · have:w'.ownsMap P kt rawR b (Maps.size (D.put (kI i) (.held v))) (D.put (kI i) (.held v)):=by
    obtain ⟨es,clock,hb,F,hs,hD⟩:=ho;exact ⟨es,clock,hb,F,by rw [hD];simp [Maps.size,length_sorted],hD⟩
   rw [hsz] at this;exact this
 · unfold upd
   by_cases e:j=i
   · subst e
     rw [if_pos rfl];exact ⟨Maps.has_put_same h2.isMap hk _,fun u hu z=>by injection hu with hu;subst hu;exact Maps.atKey_put_same h2.isMap hk _ _⟩
   · rw [if_neg e]
     have hne:kI j≠kI i:=fun e'=>e (kI_inj e')
     rw [Maps.has_put_other hne];exact ⟨(h4 j).1,fun u hu z=>by rw [Maps.atKey_put_other hne];exact (h4 j).2 u hu z⟩
theorem IMap.len {t e:TypeId} (h:IMap P kt w b n f) (ht:P.underlying t=some (.map kt e)) (ty:TypeId):(Builtin.len_ #[t] ty #[.map (some b)]).run P w = .ok (.int .i64 n) w:=by
 obtain ⟨D,h1,h2,h3,h4⟩:=h;rw [h1.len ht ty,h3]
theorem wpList_put {ops:Array Oper} {rest:List Oper} {o:Oper} {a:Act} {Q:Exit→Act→World→Prop} (hg:o.guard=none) (m x v:Operand) (t:TypeId) (hop:o.op=Op.mapUpdate t m x v)
 {e:TypeId} (K:Keyed P kt) (ht:P.underlying t=some (.map kt e)) (hm:a.eval m = .map (some b)) (hown:IMap P kt w b n f) (hn:n < maxLen) {i:Int} {val:Value} (hx:a.eval x = .int .i64 i) (hv:a.eval v=val)
 (hkey:keyOf P kt (.int .i64 i)=some (kI i)) (hk:WideAt.IsKeyLit (kI i))
 (hK:∀ w',IMap P kt w' b (if (f i).isSome then n else n+1) (upd f i val)→Turned (· = b) w w'→wpList P ops Q rest (a.put o.dst undef) w') :
 wpList P ops Q (o :: rest) a w:=by
 refine wpList_plain hg fun K' hK'=>?_
 obtain ⟨w',hrun,r1,r2⟩:=hown.put K ht hn (v:=val) hkey hk;unfold Oper.wp;simp [execOp,hop,hm,hx,hv,hrun,Result.andThen];exact hK' _ _ (hK w' r1 r2)
end
end Go.Proofs.Ytoihjobdfjajfaa
namespace Go.Proofs.Ytoihjobdfjajfaa
open Lib (hid)
open Go.RowKit Go.Maps
theorem law2:Keyed Try.prog 2:=int_keyed Try.underlying2
theorem zero4 (w:World):(zeroValue 4).run Try.prog w = .ok (.bool false) w:=by kernel_rfl
theorem infoI:(Try.prog.info? 2).map (fun i=>(i.zero,i.size,i.bytes))=some (some (.int .i64 0),1,8):=by kernel_rfl
theorem key2 {n:Int} (h:I64 n):keyOf Try.prog 2 (.int .i64 n)=some (kI n):=keyOf_int_mk Try.underlying2 h.wf
def inSet (l:List Int):Int→Option Value:=fun i=>if i∈l then some (.bool true) else none
theorem inSet_snoc (l:List Int) (i:Int):upd (inSet l) i (.bool true)=inSet (l++[i]):=by
 funext j
 unfold upd inSet
 by_cases e:j=i
 · subst e;simp
 · simp [e]
theorem inSet_get (l:List Int) (i:Int):(inSet l i).getD (.bool false) = .bool (decide (i∈l)):=by
 unfold inSet;split <;> simp_all
structure VarsIn (bh bo:Nat) (mb:Nat) (v:Value) (vs:List Int) (w:World):Prop where
 hh:w.heap[bh]? = some (.cells #[.map (some mb)] 140 (0,0))
 ho:w.heap[bo]? = some (.cells #[v] 24 (0,0))
 map:IMap Try.prog 2 w mb vs.length (inSet vs)
 row:Row w 2 1 v vs.length (vs.map (Value.int .i64))
 ne:bh≠bo
 rowH:v.ownBlock≠some bh
 rowO:v.ownBlock≠some bo
theorem VarsIn.neH {bh bo mb:Nat} {v:Value} {vs:List Int} {w:World} (h:VarsIn bh bo mb v vs w):mb≠bh∧mb≠bo∧v.ownBlock≠some mb:=by
 obtain ⟨D,⟨es,clock,hb,_⟩,_⟩:=h.map;refine ⟨fun e=>?_,fun e=>?_,fun e=>?_⟩
 · subst e;rw [h.hh] at hb;cases hb
 · subst e;rw [h.ho] at hb;cases hb
 · rcases h.row.2 with ⟨rfl,_⟩ | ⟨g,cap,cur,rfl,hg,_⟩
   · simp [Value.ownBlock] at e
   · simp [Value.ownBlock] at e;subst e;rw [hg] at hb;cases hb
def MineV (bh bo mb:Nat) (v:Value) (k:Nat):Prop:=k=bh∨k=bo∨k=mb∨v.ownBlock=some k
theorem VarsIn.lt {bh bo mb:Nat} {v:Value} {vs:List Int} {w:World} (h:VarsIn bh bo mb v vs w):∀ k,MineV bh bo mb v k→k < w.heap.size:=by
 rintro k (rfl | rfl | rfl | hk)
 · exact (zL h.hh)
 · exact (zL h.ho)
 · exact h.map.lt
 · exact h.row.lt k hk
theorem VarsIn.turned {bh bo mb:Nat} {v:Value} {vs:List Int} {w w':World} {S:Nat→Prop} (h:VarsIn bh bo mb v vs w) (ht:Turned S w w') (hS:∀ k,k < w.heap.size→S k→¬ MineV bh bo mb v k):VarsIn bh bo mb v vs w':=
 ⟨(ht.block bh (h.lt bh (.inl rfl)) (fun s=>hS _ (h.lt bh (.inl rfl)) s (.inl rfl))).trans h.hh,(ht.block bo (h.lt bo (.inr (.inl rfl))) (fun s=>hS _ (h.lt bo (.inr (.inl rfl))) s (.inr (.inl rfl)))).trans h.ho,
  h.map.turned ht (fun s=>hS _ (h.lt mb (.inr (.inr (.inl rfl)))) s (.inr (.inr (.inl rfl)))),h.row.turned ht (fun k e s=>hS k (h.lt k (.inr (.inr (.inr e)))) s (.inr (.inr (.inr e)))),h.ne,h.rowH,h.rowO⟩
theorem vars_close {bh bo mb:Nat} {v:Value} {vs:List Int} {n:Int} {w w1 w2:World} {bx o1:Obj} {g2 cap2:Nat} (h:VarsIn bh bo mb v vs w) (h1:VarsIn bh bo mb v vs (w.alloc bx)) (T0:Turned zN w (w.alloc bx)) (hn:I64 n) (hm:Hid (n∉vs))
 (T1:Turned (· = mb) (w.alloc bx) w1) (hmap:IMap Try.prog 2 w1 mb (if (inSet vs n).isSome then vs.length else vs.length+1) (upd (inSet vs) n (.bool true)))
 (hrow:Row w2 2 1 (.slice (some ⟨g2,0,none⟩) (vs.length+1) cap2) (vs.length+1) (vs.map (Value.int .i64)++[.int .i64 n])) (T2:Turned (fun k=>v.ownBlock=some k) (w1.alloc o1) w2)
 (hloc:some g2=v.ownBlock∨g2=(w1.alloc o1).heap.size) (hb2:w2.heap[bo]? = some (.cells #[v] 24 (0,0))) :
 VarsIn bh bo mb (.slice (some ⟨g2,0,none⟩) (vs.length+1) cap2) (vs++[n]) (w2.setCell ⟨bo,0,none⟩ (.slice (some ⟨g2,0,none⟩) (vs.length+1) cap2))∧
  Turned (MineV bh bo mb v) w (w2.setCell ⟨bo,0,none⟩ (.slice (some ⟨g2,0,none⟩) (vs.length+1) cap2))∧
  ((Value.slice (some ⟨g2,0,none⟩) (vs.length+1) cap2).ownBlock=v.ownBlock∨∃ g,(Value.slice (some ⟨g2,0,none⟩) (vs.length+1) cap2).ownBlock=some g∧w.heap.size≤g):=by
 have hm:=hm.out
 have hs0:(w.alloc bx).heap.size=w.heap.size+1:=by simp
 have hs1:=T1.size
 have hs2:(w1.alloc o1).heap.size=w1.heap.size+1:=by simp
 have hs3:=T2.size;have lbh:=h.lt bh (.inl rfl);have lbo:=h.lt bo (.inr (.inl rfl));have lmb:=h.lt mb (.inr (.inr (.inl rfl)))
 have hg:g2≠bh∧g2≠bo:=by
  rcases hloc with e | e
  · exact ⟨fun e'=>h.rowH (by rw [←e,e']),fun e'=>h.rowO (by rw [←e,e'])⟩
  · omega
 have T1a:=T1.trans ((Turned.refl (· = mb) w1).alloc o1);refine ⟨⟨?_,cell1_set hb2,?_,?_,h.ne,?_,?_⟩,?_,?_⟩
 · rw [Below.heap_setCell _ _ _ _ h.ne]
   exact (T2.block bh (by omega) (fun e=>h.rowH e)).trans ((T1a.block bh (by omega) (fun e=>h.neH.1 e.symm)).trans h1.hh)
 · rw [Qi,List.length_singleton]
   have hf:inSet vs n=none:=by unfold inSet;rw [if_neg hm]
   rw [hf,inSet_snoc] at hmap;have h2:=(hmap.alloc o1).turned T2 (fun e=>h.neH.2.2 e);exact h2.turned ((Turned.refl (· = bo) w2).setCell (.inr rfl) _) (fun e=>h.neH.2.1 e)
 · rw [Qi,List.length_singleton,List.map_append]
   exact hrow.setCell (by simp [Value.ownBlock];exact hg.2) _
 · simp [Value.ownBlock];exact hg.1
 · simp [Value.ownBlock];exact hg.2
 · refine Turned.setCell ?_ (.inr (.inr (.inl rfl))) _
   exact ((T0.mono (fun _ _ f=>False.elim f)).step (T1a.mono (fun i _ e=>.inr (.inr (.inl e)))) (fun i _ e=>e)).step T2 (fun i hi e=>.inr (.inr (.inr e)))
 · rcases hloc with e | e
   · exact .inl e
   · exact .inr ⟨g2,rfl,by omega⟩
set_option maxRecDepth 100000 in
theorem varsOne125 (t:LT) (bh bo mb:Nat) (v:Value) (vs:List Int) (w:World) (h:VarsIn bh bo mb v vs w) (ht:I64 t.n) (hl:vs.length≤100000) :
 Calls Try.prog 125 #[t.val,.pointer (some ⟨bh,0,none⟩),.pointer (some ⟨bo,0,none⟩)] w fun e w'=>e = .returned (.bool true)∧∃ v',VarsIn bh bo mb v' (Tm.addVar vs t) w'∧Turned (MineV bh bo mb v) w w'∧(v'.ownBlock=v.ownBlock∨∃ g,v'.ownBlock=some g∧w.heap.size≤g):=by
 obtain ⟨bx,hbx⟩:∃ bx:Obj,bx = .cells #[.int .i64 t.kind,.int .i64 t.n,.string t.name,.slice t.at_.1 t.args.length t.at_.2] 27:=⟨_,rfl⟩;have T1:=(Turned.refl (fun _=>False) w).alloc bx;have h1:=h.turned T1 (fun _ _ f=>False.elim f);have hkey:=key2 ht
 have hlk:(Instr.lookup 140 (.map (some mb)) (.int .i64 t.n) false).run Try.prog (w.alloc bx) = .ok (.bool (decide (t.n∈vs))) (w.alloc bx):=by
  rw [h1.map.look law2 Try.underlying140 (zero4 _) hkey,inSet_get]
 have lh:=h.lt bh (.inl rfl);have lo:=h.lt bo (.inr (.inl rfl));obtain ⟨c0,f0⟩:=cell1 h.hh;obtain ⟨d0,g0⟩:=cell1 h.ho;rw [LT.val_eq];subst hbx
 by_cases hk:t.kind=0
 · have k0:(t.kind == 0)=true:=by simp [hk]
   by_cases hm:t.n∈vs
   · have hb:decide (t.n∈vs)=true:=by simpa using hm
     rw [hb] at hlk
     have HR:Hid (Tm.addVar vs t=vs):=by show _=_;unfold Tm.addVar;simp [hk,hm]
     have H1:=hid h1;have HT:=hid T1;clear hk hm hb h h1 T1;go_enter Try.func125,Try.ntmps125
     go_wp2_with fail
     go_ret;rw [HR.out];exact ⟨rfl,v,H1.out,HT.out.mono (fun _ _ f=>False.elim f),.inl rfl⟩
   · have hb:decide (t.n∈vs)=false:=by simpa using hm
     rw [hb] at hlk
     have HR:Hid (Tm.addVar vs t=vs++[t.n]):=by show _=_;unfold Tm.addVar;simp [hk,hm]
     have H1:=hid h1;have H0:=hid h;have HT:=hid T1;have hm':=hid hm;clear hk hm hb h h1 T1
     have hcell:∀ W,Turned (· = mb) (w.alloc (.cells #[.int .i64 t.kind,.int .i64 t.n,.string t.name,.slice t.at_.1 t.args.length t.at_.2] 27)) W→
      W.cell? ⟨bo,0,none⟩=some v∧W.frozen? ⟨bo,0,none⟩=false∧W.cell? ⟨w.heap.size,1,none⟩=some (.int .i64 t.n)∧Row W 2 1 v vs.length (vs.map (Value.int .i64))∧w.heap.size < W.heap.size:=fun W hW=>by
      have hb:=(hW.block bo (H1.out.lt bo (.inr (.inl rfl))) (fun e=>H1.out.neH.2.1 e.symm)).trans H1.out.ho;have hs:=hW.size;simp at hs;refine ⟨(cell1 hb).1,(cell1 hb).2,hW.cell (boxed w _ 27 1) (fun e=>?_),H1.out.row.turned hW (fun k hk e=>H1.out.neH.2.2 (by rw [hk,e])),by omega⟩;have:=H0.out.map.lt;simp at e;omega
     have HC:=hid hcell;clear hcell
     have hst:∀ W,Turned (· = mb) (w.alloc (.cells #[.int .i64 t.kind,.int .i64 t.n,.string t.name,.slice t.at_.1 t.args.length t.at_.2] 27)) W→∀ o W2,Turned (fun k=>v.ownBlock=some k) (W.alloc o) W2→W2.heap[bo]? = some (.cells #[v] 24 (0,0)):=fun W hW o W2 h2=>by
      have hb:=(hW.block bo (H1.out.lt bo (.inr (.inl rfl))) (fun e=>H1.out.neH.2.1 e.symm)).trans H1.out.ho;have hbl:=(zL hb);exact (h2.block bo (by simp;omega) (fun e=>H1.out.rowO e)).trans ((Below.heap_alloc _ _ _ hbl).trans hb)
     have HS:=hid hst;clear hst;obtain ⟨i0,hi0,hz0,hz1,hz2⟩:=info_parts infoI;go_enter Try.func125,Try.ntmps125
     go_wp2_with (first
      | (at_mapUpdate;refine wpList_put rfl _ _ _ 140 rfl law2 Try.underlying140 rfl H1.out.map (by unfold maxLen;omega) rfl rfl hkey trivial ?_;intro w1 hmap1 T1;obtain ⟨e0,e1,e2,hrow1,hs1⟩:=HC.out w1 T1;have HM:=hid hmap1;clear hmap1)
      | (at_builtin;refine append_some _ rfl _ _ 24 rfl 2 i0 (.int .i64 0) 1 8 Try.underlying24 hi0 hz0 hz1 hz2 rfl (by decide) _ _ _ rfl (hrow1.alloc _) ⟨w1.heap.size,0,none⟩ 1 1 [.int .i64 t.n] rfl rfl (cell_one_new _ _ _) (by simp [Value.oneCell']) (by omega) (by unfold maxLen;omega) (by omega) ?_;intro g2 cap2 w2 hrow2 T2 hloc2;have hb2:=HS.out w1 T1 _ w2 T2;obtain ⟨e3,e4⟩:=cell1 hb2;have HB2:=hid hb2;clear hb2))
     go_ret;rw [HR.out];obtain ⟨r1,r2,r3⟩:=vars_close H0.out H1.out HT.out ht hm' T1 HM.out hrow2 T2 hloc2 HB2.out;exact ⟨rfl,_,r1,r2,r3⟩
 · have k0:(t.kind == 0)=false:=by simp [hk]
   have HR:Hid (Tm.addVar vs t=vs):=by show _=_;unfold Tm.addVar;simp [hk]
   have H1:=hid h1;have HT:=hid T1;clear hk h h1 T1;go_enter Try.func125,Try.ntmps125
   go_wp2_with fail
   go_ret;rw [HR.out];exact ⟨rfl,v,H1.out,HT.out.mono (fun _ _ f=>False.elim f),.inl rfl⟩
theorem tell_true {α:Type} (told l:List α):tell (fun _ _=>true) told l=(true,told++l):=by
 induction l generalizing told with
 | nil=>simp [tell]
 | cons x l ih=>rw [tell_cons,if_pos rfl,ih];simp
theorem addVar_le {α:Type} (l:List (Tm α)) (vs:List Int):(l.foldl Tm.addVar vs).length≤vs.length+l.length:=by
 induction l generalizing vs with
 | nil=>simp
 | cons x l ih=>
  rw [Qq,QB];have:=ih (Tm.addVar vs x)
  have h:(Tm.addVar vs x).length≤vs.length+1:=by unfold Tm.addVar;split <;> simp
  omega
def InvVars (bh bo:Nat) (M:Nat→Prop) (l:List LT) (w:World):Prop:=∃ mb v,(∀ k,M k↔MineV bh bo mb v k)∧VarsIn bh bo mb v (l.foldl Tm.addVar []) w
theorem enter125 (args:Array Value) (w:World):(callFunc 125 args).run Try.prog w = .ok (.enter 125 args) w:=by kernel_rfl
theorem told_vars (p:Nat→Prop) (t:LT) (bh bo:Nat) (M0:Nat→Prop):Told p 125 #[.pointer (some ⟨bh,0,none⟩),.pointer (some ⟨bo,0,none⟩)] t M0 (InvVars bh bo) (fun _ _=>true):=by
 refine ⟨enter125,fun M l w k h hk=>?_,fun M T l w w' h ht hT=>?_,fun M l x r w h hl hF hx=>?_⟩
 · obtain ⟨mb,v,hM,hV⟩:=h
   exact hV.lt k ((hM k).1 hk)
 · obtain ⟨mb,v,hM,hV⟩:=h
   exact ⟨mb,v,hM,hV.turned ht (fun k hk s m=>hT k hk s ((hM k).2 m))⟩
 · obtain ⟨mb,v,hM,hV⟩:=h
   have hle:=addVar_le l [];refine (varsOne125 x bh bo mb v _ w hV hx.n (by simp at hle;omega)).mono ?_
   rintro e w' ⟨rfl,v',hV',hT,hv⟩
   refine ⟨rfl,MineV bh bo mb v',⟨mb,v',fun k=>Iff.rfl,by rw [List.foldl_append];exact hV'⟩,hT.mono (fun i _ m=>(hM i).2 m),fun k hk=>?_⟩
   rcases hk with hk | hk | hk | hk
   · exact .inl ((hM k).2 (.inl hk))
   · exact .inl ((hM k).2 (.inr (.inl hk)))
   · exact .inl ((hM k).2 (.inr (.inr (.inl hk))))
   · rcases hv with e | ⟨g,e,hg⟩
     · exact .inl ((hM k).2 (.inr (.inr (.inr (by rw [←e];exact hk)))))
     · rw [e] at hk;injection hk with hk;subst hk;exact .inr hg
theorem good_size {α:Type} {t:Tm α} (h:goodB t=true):t.size≤2000:=by
 unfold goodB at h;simp at h;exact h.1
theorem eachVars {p:Nat→Prop} {t:LT} {w:World} (ht:t.In p w) (hs:slim t) (h2:t.size≤2000) :
 Calls Try.prog 124 #[t.val,.func (.func 125) #[] #[.pointer (some ⟨w.heap.size+1+1,0,none⟩),.pointer (some ⟨w.heap.size,0,none⟩)]] (((w.alloc (.cells #[.slice none 0 0] 24)).alloc (.map #[] 0)).alloc (.cells #[.map (some (w.heap.size+1))] 140))
  fun e w'=>(∃ b,e = .returned (.bool b))∧∃ v,w'.heap[w.heap.size]? = some (.cells #[v] 24 (0,0))∧Row w' 2 1 v t.vars.length (t.vars.map (Value.int .i64))∧(∀ k,v.ownBlock=some k→w.heap.size≤k)∧Turned zN w w':=by
 have T3:=(((Turned.refl (fun _=>False) w).alloc (.cells #[.slice none 0 0] 24)).alloc (.map #[] 0)).alloc (.cells #[.map (some (w.heap.size+1))] 140);have hin:t.In (fun k=>p k∧k < w.heap.size) (((w.alloc (.cells #[.slice none 0 0] 24)).alloc (.map #[] 0)).alloc (.cells #[.map (some (w.heap.size+1))] 140)):=LT.In.turned T3 (fun _ _ _ f=>f) (fun k hk h=>⟨h,hk⟩) t ht
 have hV:VarsIn (w.heap.size+1+1) w.heap.size (w.heap.size+1) (.slice none 0 0) [] (((w.alloc (.cells #[.slice none 0 0] 24)).alloc (.map #[] 0)).alloc (.cells #[.map (some (w.heap.size+1))] 140)):=by
  refine ⟨?_,?_,?_,Row.nil _ _ _,by omega,by simp [Value.ownBlock],by simp [Value.ownBlock]⟩
  · have:=heap_alloc_new ((w.alloc (.cells #[.slice none 0 0] 24)).alloc (.map #[] 0)) (.cells #[.map (some (w.heap.size+1))] 140)
    simpa using this
  · exact (Below.heap_alloc _ _ _ (by simp;omega)).trans (heap_alloc2_old w _ _)
  · have:=(IMap.made (w.alloc (.cells #[.slice none 0 0] 24)) Try.prog 2).alloc (.cells #[.map (some (w.heap.size+1))] 140)
    have e:inSet []=fun _=>none:=by funext i;simp [inSet]
    rw [e];simpa using this
 have hM:∀ k,MineV (w.heap.size+1+1) w.heap.size (w.heap.size+1) (.slice none 0 0) k→w.heap.size≤k:=by
  rintro k (rfl | rfl | rfl | h)
  · omega
  · omega
  · omega
  · simp [Value.ownBlock] at h
 refine (each124 (told_vars (fun k=>p k∧k < w.heap.size) t (w.heap.size+1+1) w.heap.size (MineV (w.heap.size+1+1) w.heap.size (w.heap.size+1) (.slice none 0 0))) hin (fun k hk m=>by have:=hM k m;omega)
  (M:=MineV (w.heap.size+1+1) w.heap.size (w.heap.size+1) (.slice none 0 0)) ⟨_,_,fun k=>Iff.rfl,hV⟩ (fun k h=>h) hs (fun l x r h _=>by have:=prefix_size h;omega)).mono ?_
 rintro e w' ⟨rfl,M',⟨mb,v,hM',hV'⟩,hsub,hT⟩
 refine ⟨⟨_,rfl⟩,v,hV'.ho,?_,fun k hk=>?_,T3.step hT (fun i hi m=>by have:=hM i m;omega)⟩
 · have:=hV'.row
   rw [tell_true] at this;simpa [Tm.vars] using this
 · rcases hsub k ((hM' k).2 (.inr (.inr (.inr hk)))) with m | m
   · exact hM k m
   · simp at m;omega
def varsB {α:Type} (t:Tm α):List Int:=if goodB t then t.vars else []
set_option maxRecDepth 100000 in
theorem vars34 {p:Nat→Prop} {t:LT} {w:World} (ht:t.In p w) (hs:slim t) :
 Calls Try.prog 34 #[t.val] w fun e w'=>∃ v,e = .returned v∧Row w' 2 1 v (varsB t).length ((varsB t).map (Value.int .i64))∧(∀ k,v.ownBlock=some k→w.heap.size≤k)∧Turned zN w w':=by
 have hmf:∀ (fn:Fn) (first cap:Array Value) (w:World),(Instr.makeFunc fn first cap).run Try.prog w = .ok (.func fn first cap) w:=fun _ _ _ _=>rfl
 have hmm:=@run_makeMap Try.prog;obtain ⟨bx,hbx⟩:∃ bx:Obj,bx = .cells #[.int .i64 t.kind,.int .i64 t.n,.string t.name,.slice t.at_.1 t.args.length t.at_.2] 27:=⟨_,rfl⟩;have T1:=(Turned.refl (fun _=>False) w).alloc bx;have hg:=good38 (ht.turned0 T1) hs
 have hc:∀ W,Turned zN (w.alloc bx) W→W.cell? ⟨w.heap.size,0,none⟩=some (.int .i64 t.kind)∧W.cell? ⟨w.heap.size,1,none⟩=some (.int .i64 t.n)∧W.cell? ⟨w.heap.size,2,none⟩=some (.string t.name)∧W.cell? ⟨w.heap.size,3,none⟩=some (.slice t.at_.1 t.args.length t.at_.2)∧w.heap.size < W.heap.size:=by
  intro W h;subst hbx;obtain ⟨hb,hl⟩:=box4 h;obtain ⟨c0,c1,c2,c3,_⟩:=cells4 hb;exact ⟨c0,c1,c2,c3,hl⟩
 have he:=fun (h2:t.size≤2000) W (h:Turned zN (w.alloc bx) W)=>eachVars (ht.turned0 (T1.trans h)) hs h2
 rw [LT.val_eq] at hg he ⊢;have HE:=hid he;have HG:=hid hg;have HC:=hid hc;have HT:=hid T1;subst hbx;clear hg hc T1 he
 by_cases g:goodB t=true
 · have HV:Hid (varsB t=t.vars):=by show _=_;unfold varsB;rw [if_pos g]
   have g2:=good_size g;have HGG:=hid g;go_enter Try.func34,Try.ntmps34
   go_wp2_with (first
    | (go_at_call 38;refine HG.out.mono ?_;rintro e w2 ⟨rfl,T2⟩;obtain ⟨c0,c1,c2,c3,hl⟩:=HC.out _ T2;have hl1:w.heap.size < w2.heap.size+1:=Nat.lt_succ_of_lt hl;have hl2:w.heap.size < w2.heap.size+1+1:=Nat.lt_succ_of_lt hl1)
    | (go_at_call 124;refine (HE.out g2 _ T2).mono ?_;rintro e w3 ⟨⟨b3,rfl⟩,v3,ho3,hr3,hv3,T3⟩;obtain ⟨c4,f4⟩:=cell1 ho3;have HO3:=hid ho3;clear ho3))
   go_ret;refine ⟨v3,rfl,?_,fun k hk=>?_,HT.out.trans (T2.trans T3)⟩
   · rw [HV.out];exact hr3
   · have h2:=T2.size
     have:=hv3 k hk;simp at h2;omega
 · have HV:Hid (varsB t=[]):=by show _=_;unfold varsB;rw [if_neg g]
   have g':goodB t=false:=by simpa using g
   clear g;go_enter Try.func34,Try.ntmps34
   go_wp2_with (first | (go_at_call 38;refine HG.out.mono ?_;rintro e w2 ⟨rfl,T2⟩))
   go_ret;refine ⟨_,rfl,?_,fun k hk=>by simp [Value.ownBlock] at hk,HT.out.trans T2⟩;rw [HV.out];exact Row.nil _ _ _
end Go.Proofs.Ytoihjobdfjajfaa
namespace Go.Proofs.Ytoihjobdfjajfaa
namespace Tm
variable {α β:Type}
theorem bare_kind (t:Tm α):t.bare.kind=t.kind:=by cases t;rfl
theorem bare_n (t:Tm α):t.bare.n=t.n:=by cases t;rfl
theorem bare_name (t:Tm α):t.bare.name=t.name:=by cases t;rfl
theorem bare_args (t:Tm α):t.bare.args=bares t.args:=by cases t;rfl
theorem bares_length (l:List (Tm α)):(bares l).length=l.length:=by rw [bares_eq,Qu]
theorem bare_arity (t:Tm α):t.bare.args.length=t.args.length:=by rw [bare_args,bares_length]
mutual
theorem flat_bare:∀ t:Tm α,t.bare.flat=t.flat.map bare
 | .mk k n s e aa=>by simp only [bare,flat,Qx,flats_bare aa]
theorem flats_bare:∀ l:List (Tm α),flats (bares l)=(flats l).map bare
 | []=>rfl
 | x :: l=>by simp only [bares,flats,List.map_append,flat_bare x,flats_bare l]
end
theorem size_bare (t:Tm α):t.bare.size=t.size:=by rw [←flat_length,flat_bare,Qu,flat_length]
mutual
theorem depth_bare:∀ t:Tm α,t.bare.depth=t.depth
 | .mk k n s e aa=>by simp only [bare,depth,depths_bare aa]
theorem depths_bare:∀ l:List (Tm α),depths (bares l)=depths l
 | []=>rfl
 | x :: l=>by simp only [bares,depths,depth_bare x,depths_bare l]
end
theorem addVar_bare (l:List Int) (x:Tm α):addVar l x.bare=addVar l x:=by unfold addVar;rw [bare_kind,bare_n]
theorem vars_bare (t:Tm α):t.bare.vars=t.vars:=by
 unfold vars;rw [flat_bare,List.foldl_map];congr 1
 funext l x
 exact addVar_bare l x
end Tm
theorem goodOneB_bare {α:Type} (t:Tm α):goodOneB t.bare=goodOneB t:=by
 unfold goodOneB;rw [Tm.bare_kind,Tm.bare_n,Tm.bare_name,Tm.bare_arity]
theorem goodB_bare {α:Type} (t:Tm α):goodB t.bare=goodB t:=by
 unfold goodB;rw [Tm.size_bare,Tm.depth_bare,Tm.flat_bare,List.all_map];congr 2;apply congrArg (fun f=>t.flat.all f)
 funext x
 exact goodOneB_bare x
def sameB {α β:Type} (a:Tm α) (b:Tm β):Bool:=goodB a && (goodB b && Tm.same a b)
end Go.Proofs.Ytoihjobdfjajfaa
namespace Go.Proofs.Ytoihjobdfjajfaa
open Go.RowKit
theorem take_snoc' {α:Type} (l:List α) (j:Nat) (x:α) (h:l[j]? = some x):l.take (j+1)=l.take j++[x]:=by
 have hj:=(Qg.1 h);rw [List.take_succ_eq_append_getElem hj.1,hj.2]
theorem Row.len {w:World} {e:TypeId} {v:Value} {n:Nat} {xs:List Int} (h:Row w e 1 v n (xs.map (Value.int .i64))):n=xs.length:=by have:=h.1;simp at this;omega
theorem Row.max {w:World} {e:TypeId} {a:Option Addr} {n c size:Nat} {xs:List Value} (h:Row w e size (.slice a n c) n xs):n≤c∧c≤9223372036854775807:=by
 rcases h.2 with ⟨e,rfl⟩ | ⟨g,cap,cur,e,_,h1,h2,_⟩
 · injection e with _ _ e;omega
 · injection e with _ _ e;subst e;unfold maxLen at h2;omega
def leaf (k n:Int) (s:ByteArray):LT:=.mk k n s (none,0) []
theorem varV (n:Int) (hn:I64 n) (w:World):Calls Try.prog 62 #[.int .i64 n] w fun e w'=>e = .returned (.agg #[.int .i64 0,.int .i64 n,.string ByteArray.empty,.slice none 0 0])∧LT.In (fun _=>True) w' (leaf 0 n ByteArray.empty)∧Turned zN w w':=
 (var62 n hn w).mono fun e w' ⟨h1,h2,h3⟩=>⟨h1,h2 _,h3⟩
theorem intV (n:Int) (hn:I64 n) (w:World):Calls Try.prog 61 #[.int .i64 n] w fun e w'=>e = .returned (.agg #[.int .i64 1,.int .i64 n,.string ByteArray.empty,.slice none 0 0])∧LT.In (fun _=>True) w' (leaf 1 n ByteArray.empty)∧Turned zN w w':=
 (int61 n hn w).mono fun e w' ⟨h1,h2,h3⟩=>⟨h1,h2 _,h3⟩
theorem atomV (s:ByteArray) (hs:s.size≤maxLen) (w:World):Calls Try.prog 63 #[.string s] w fun e w'=>e = .returned (.agg #[.int .i64 2,.int .i64 0,.string s,.slice none 0 0])∧LT.In (fun _=>True) w' (leaf 2 0 s)∧Turned zN w w':=
 (atom63 s hs w).mono fun e w' ⟨h1,h2,h3⟩=>⟨h1,h2 _,h3⟩
theorem sl_made {w:World} {l:List LT} (h:LT.Ins (fun _=>True) w l) (n:Nat) (hl:n≤1000) (hn:l.length=n) (cs:Array Value) (hcs:cs=(l.flatMap LT.cells).toArray):LT.Sl (fun _=>True) (w.alloc (.cells cs 27)) (some ⟨w.heap.size,0,none⟩) n l:=by
 subst hn hcs;have hr:=Row.made w 27 4 (l.flatMap LT.cells).toArray l.length (by rw [List.size_toArray,LT.flat_length]) (by unfold maxLen;omega);exact (LT.Sl.of_row (p:=fun _=>True) hr (fun _ _=>trivial) (LT.Ins.turned0 h ((Turned.refl _ w).alloc _))).2
theorem compV {w:World} {a:Option Addr} {c:Nat} {l:List LT} (s:ByteArray) (hs:s.size≤maxLen) (n:Nat) (hl:n≤65536) (hn:l.length=n) (h:LT.Sl (fun _=>True) w a c l) :
 Calls Try.prog 37 #[.string s,.slice a n c] w fun e w'=>∃ a' c',e = .returned (.agg #[.int .i64 2,.int .i64 0,.string s,.slice a' n c'])∧LT.In (fun _=>True) w' (.mk 2 0 s (a',c') l)∧Turned zN w w':=by
 subst hn;refine (comp37 s hs h hl).mono ?_
 rintro e w' ⟨d,rfl,hi,ht⟩
 exact ⟨d.1,d.2,rfl,hi.mono (fun _ _ _=>trivial),ht⟩
end Go.Proofs.Ytoihjobdfjajfaa
namespace Go.Proofs.Ytoihjobdfjajfaa
open Lib (hid)
open Go.RowKit
theorem bares_snoc {α:Type} (l:List (Tm α)) (j:Nat) (x:Tm α) (h:l[j]? = some x):Tm.bares (l.take (j+1))=Tm.bares (l.take j)++[x.bare]:=by
 rw [take_snoc' _ _ _ h,Tm.bares_eq,List.map_append,Tm.bares_eq];rfl
theorem sames_no {α β:Type} {l:List (Tm α)} {m:List (Tm β)} {j:Nat} {x:Tm α} {y:Tm β} (hx:l[j]? = some x) (hy:m[j]? = some y) (h:Tm.same x y=false):Tm.sames l m=false:=by
 rw [←Bool.not_eq_true];intro e;rw [Tm.sames_iff,Tm.bares_eq,Tm.bares_eq] at e
 have e1:(l.map Tm.bare)[j]? = some x.bare:=by rw [Qp,hx];rfl
 have e2:(m.map Tm.bare)[j]? = some y.bare:=by rw [Qp,hy];rfl
 rw [e,e2] at e1
 injection e1 with e1
 rw [←Bool.not_eq_true] at h;exact h ((Tm.same_iff x y).2 e1.symm)
theorem sames_len {α β:Type} {l:List (Tm α)} {m:List (Tm β)} (h:l.length≠m.length):Tm.sames l m=false:=by
 rw [←Bool.not_eq_true];intro e;rw [Tm.sames_iff] at e;have:=congrArg List.length e;rw [Tm.bares_length,Tm.bares_length] at this;exact h this
theorem same_eq {α β:Type} (a:Tm α) (b:Tm β):Tm.same a b=(a.kind == b.kind && a.n == b.n && decide (a.name=b.name) && Tm.sames a.args b.args):=by cases a;cases b;rfl
theorem enter132 (args:Array Value) (w:World):(callFunc 132 args).run Try.prog w = .ok (.enter 132 args) w:=by kernel_rfl
theorem str_same (x:ByteArray):(x.toList == x.toList)=true:=by simp
theorem equalFunc162 {p:Nat→Prop} {l m:List LT} {a1 a2:Option Addr} {c1 c2:Nat} {w:World} (h1:LT.Sl p w a1 c1 l) (h2:LT.Sl p w a2 c2 m)
 (hcall:∀ x∈l,∀ (y:LT) (W:World),x.In p W→y.In p W→Calls Try.prog 132 #[x.val,y.val] W fun e w'=>e = .returned (.bool (Tm.same x y))∧Turned zN W w') :
 Calls Try.prog 162 #[.slice a1 l.length c1,.slice a2 m.length c2,.func (.func 132) #[] #[]] w fun e w'=>e = .returned (.bool (Tm.sames l m))∧Turned zN w w':=by
 have hc1:=h1.cap;have hc2:=h2.cap;have hm1:=h1.max;have hm2:=h2.max;unfold maxLen at hm1 hm2;have henter:=enter132
 by_cases hl:l.length=m.length
 · have HLN:=hid hl
   have hne:((l.length:Int) != (m.length:Int))=false:=by simp;omega
   have hl1:l.length≤m.length:=by omega
   have hl2:m.length≤l.length:=by omega
   clear hl;have H1:=hid h1;have H2:=hid h2;have HC:=hid hcall;clear h1 h2 hcall;go_enter Try.func162,Try.ntmps162
   go_wp2_with fail
   go_loopg [17] l.length (fun g i wr=>∃ j:Nat,Hid (j+g=l.length)∧j≤l.length∧i = .int .i64 j∧Hid (Tm.bares (l.take j)=Tm.bares (m.take j))∧Turned zN w wr)
   case atStart=>exact ⟨0,Nat.zero_add _,Nat.zero_le _,rfl,rfl,Turned.refl _ _⟩
   case round=>
    obtain ⟨j,HG,hj,rfl,HE,Tr⟩:=hrel
    by_cases hjl:j < l.length
    · have hx:l[j]? = some l[j]:=Qa hjl
      have hy:m[j]? = some (m[j]'(by omega)):=Qa (by omega);obtain ⟨x,hxe⟩:∃ x:LT,x=l[j]:=⟨_,rfl⟩;obtain ⟨y,hye⟩:∃ y:LT,y=m[j]'(by omega):=⟨_,rfl⟩;rw [←hxe] at hx;rw [←hye] at hy;clear hxe hye;have xin:=(LT.ins_iff _).1 (H1.out.turned0 Tr).ins x (Qf hx);have yin:=(LT.ins_iff _).1 (H2.out.turned0 Tr).ins y (Qf hy);obtain ⟨b1,o1,rfl,_,k0,k1,k2,k3⟩:=(H1.out.turned0 Tr).lies.cell hx;obtain ⟨b2,o2,rfl,_,q0,q1,q2,q3⟩:=(H2.out.turned0 Tr).lies.cell hy;have q0:=cell_old (o:=.cells #[.int .i64 x.kind,.int .i64 x.n,.string x.name,.slice x.at_.1 x.args.length x.at_.2] 27) q0;have q1:=cell_old (o:=.cells #[.int .i64 x.kind,.int .i64 x.n,.string x.name,.slice x.at_.1 x.args.length x.at_.2] 27) q1;have q2:=cell_old (o:=.cells #[.int .i64 x.kind,.int .i64 x.n,.string x.name,.slice x.at_.1 x.args.length x.at_.2] 27) q2;have q3:=cell_old (o:=.cells #[.int .i64 x.kind,.int .i64 x.n,.string x.name,.slice x.at_.1 x.args.length x.at_.2] 27) q3
      have hcx:=fun u v=>HC.out x (Qf hx) y ((wr.alloc u).alloc v) (xin.turned0 (((Turned.refl _ wr).alloc u).alloc v)) (yin.turned0 (((Turned.refl _ wr).alloc u).alloc v))
      rw [LT.val_eq x,LT.val_eq y] at hcx;have HX:=hid hx;have HY:=hid hy;have HCX:=hid hcx;clear hx hy hcx xin yin
      have z2:(j:Int) < (m.length:Int):=by omega
      cases hs:Tm.same x y with
      | true=>
       rw [hs] at HCX;have HS:=hid hs;clear hs
       go_wp2_with (go_at_call 132;refine (HCX.out _ _).mono ?_;rintro e w2 ⟨rfl,T2⟩)
       go_roundg (gk - 1)
       case measure=>have:=HG.out;omega
       case rel=>
        refine ⟨j+1,show _=_ by have:=HG.out;omega,by omega,by go_num,?_,Tr.trans ((((Turned.refl _ wr).alloc _).alloc _).trans T2)⟩;show _=_;rw [bares_snoc _ _ _ HX.out,bares_snoc _ _ _ HY.out,HE.out,(Tm.same_iff x y).1 HS.out]
      | false=>
       rw [hs] at HCX;have HS:=hid hs;clear hs
       go_wp2_with (go_at_call 132;refine (HCX.out _ _).mono ?_;rintro e w2 ⟨rfl,T2⟩)
       go_ret;exact ⟨ret_bool (sames_no HX.out HY.out HS.out).symm,Tr.trans ((((Turned.refl _ wr).alloc _).alloc _).trans T2)⟩
    · go_wp2_with fail
      go_ret;refine ⟨ret_bool ?_,Tr⟩;symm;rw [Tm.sames_iff];have h:=HE.out
      rwa [List.take_of_length_le (by omega),List.take_of_length_le (by omega)] at h
 · have hne:((l.length:Int) != (m.length:Int))=true:=by simp;omega
   have HL:=hid hl;clear hl h1 h2 hcall;go_enter Try.func162,Try.ntmps162
   go_wp2_with fail
   go_ret;exact ⟨ret_bool (sames_len HL.out).symm,Turned.refl _ _⟩
theorem same132 {p:Nat→Prop} (n:Nat):∀ (a b:LT) (w:World),a.depth≤n→a.In p w→b.In p w→
 Calls Try.prog 132 #[a.val,b.val] w fun e w'=>e = .returned (.bool (Tm.same a b))∧Turned zN w w':=by
 induction n with
 | zero=>intro a b w h;have:=Tm.depth_pos a;omega
 | succ n ih=>
  intro a b w hd ha hb
  have T0:∀ u v,Turned zN w ((w.alloc u).alloc v):=fun u v=>((Turned.refl _ w).alloc u).alloc v
  have heq:=fun u v=>equalFunc162 (ha.turned0 (T0 u v)).sl (hb.turned0 (T0 u v)).sl (fun x hx y W h1 h2=>ih x y W (by
   have h3:x.depth≤Tm.depths a.args:=by
    obtain ⟨j,hj⟩:=List.getElem?_of_mem hx;have h4:=Tm.depths_snoc _ j x hj;have h5:=Tm.depths_take_le a.args (j+1);omega
   rw [Tm.depth_eq] at hd
   omega) h1 h2)
  rw [LT.val_eq a,LT.val_eq b];have HEQ:=hid heq;have HV:=hid (same_eq a b);clear heq ih ha hb hd
  by_cases hk:a.kind=b.kind
  · have kb:(a.kind == b.kind)=true:=by simp [hk]
    have HK:=hid hk;clear hk
    by_cases hn:a.n=b.n
    · have nb:(a.n == b.n)=true:=by simp [hn]
      have HN:=hid hn;clear hn
      by_cases hs:a.name=b.name
      · have sb:(a.name.toList == b.name.toList)=true:=by rw [hs];exact str_same _
        have HS:=hid hs;clear hs
        have HR:Hid (Tm.same a b=Tm.sames a.args b.args):=by show _=_;rw [HV.out,HK.out,HN.out,HS.out];simp
        go_enter Try.func132,Try.ntmps132
        go_wp2_with (go_at_call 162;refine (HEQ.out _ _).mono ?_;rintro e w2 ⟨rfl,T2⟩)
        go_ret;exact ⟨ret_bool HR.out.symm,(((Turned.refl _ w).alloc _).alloc _).trans T2⟩
      · have sb:(a.name.toList == b.name.toList)=false:=str_neq hs
        have HR:Hid (Tm.same a b=false):=by show _=_;rw [HV.out];simp [hs]
        clear hs;go_enter Try.func132,Try.ntmps132
        go_wp2_with fail
        go_ret;exact ⟨ret_bool HR.out.symm,((Turned.refl _ w).alloc _).alloc _⟩
    · have nb:(a.n == b.n)=false:=by simp [hn]
      have HR:Hid (Tm.same a b=false):=by show _=_;rw [HV.out];simp [hn]
      clear hn;go_enter Try.func132,Try.ntmps132
      go_wp2_with fail
      go_ret;exact ⟨ret_bool HR.out.symm,((Turned.refl _ w).alloc _).alloc _⟩
  · have kb:(a.kind == b.kind)=false:=by simp [hk]
    have HR:Hid (Tm.same a b=false):=by show _=_;rw [HV.out];simp [hk]
    clear hk;go_enter Try.func132,Try.ntmps132
    go_wp2_with fail
    go_ret;exact ⟨ret_bool HR.out.symm,((Turned.refl _ w).alloc _).alloc _⟩
theorem same52 {p:Nat→Prop} {a b:LT} {w:World} (ha:a.In p w) (hb:b.In p w) (sa:slim a) (sb:slim b) :
 Calls Try.prog 52 #[a.val,b.val] w fun e w'=>e = .returned (.bool (sameB a b))∧Turned zN w w':=by
 obtain ⟨b1,hb1⟩:∃ bx:Obj,bx = .cells #[.int .i64 a.kind,.int .i64 a.n,.string a.name,.slice a.at_.1 a.args.length a.at_.2] 27:=⟨_,rfl⟩;obtain ⟨b2,hb2⟩:∃ bx:Obj,bx = .cells #[.int .i64 b.kind,.int .i64 b.n,.string b.name,.slice b.at_.1 b.args.length b.at_.2] 27:=⟨_,rfl⟩;have T1:=((Turned.refl (fun _=>False) w).alloc b1).alloc b2
 have hc:∀ W,Turned zN ((w.alloc b1).alloc b2) W→W.heap[w.heap.size]? = some b1∧W.heap[w.heap.size+1]? = some b2:=by
  intro W h;exact ⟨(h.block _ (by simp;omega) (fun f=>f)).trans (heap_alloc2_old w b1 b2),(h.block _ (by simp) (fun f=>f)).trans (heap_alloc2_new w b1 b2)⟩
 have g1:=fun W (h:Turned zN ((w.alloc b1).alloc b2) W)=>good38 (ha.turned0 (T1.trans h)) sa
 have g2:=fun W (h:Turned zN ((w.alloc b1).alloc b2) W)=>good38 (hb.turned0 (T1.trans h)) sb
 have g3:=fun W (h:Turned zN ((w.alloc b1).alloc b2) W)=>same132 (p:=p) a.depth a b W (Qm _) (ha.turned0 (T1.trans h)) (hb.turned0 (T1.trans h))
 rw [LT.val_eq a] at g1 g3 ⊢;rw [LT.val_eq b] at g2 g3 ⊢;subst hb1 hb2;have G1:=hid g1;have G2:=hid g2;have G3:=hid g3;have HC:=hid hc;have HT:=hid T1;clear g1 g2 g3 hc T1 ha hb sa sb
 cases ga:goodB a with
 | false=>
  rw [ga] at G1
  have HR:Hid (sameB a b=false):=by show _=_;unfold sameB;rw [ga];rfl
  clear ga;go_enter Try.func52,Try.ntmps52
  go_wp2_with (go_at_call 38;refine (G1.out _ (Turned.refl _ _)).mono ?_;rintro e w2 ⟨rfl,T2⟩)
  go_ret;exact ⟨ret_bool HR.out.symm,HT.out.trans T2⟩
 | true=>
  rw [ga] at G1;have HGA:=hid ga;clear ga
  cases gb:goodB b with
  | false=>
   rw [gb] at G2
   have HR:Hid (sameB a b=false):=by show _=_;unfold sameB;rw [gb,HGA.out];rfl
   clear gb;go_enter Try.func52,Try.ntmps52
   go_wp2_with (first
    | (go_at_call 38;(with_reducible refine (G1.out _ (Turned.refl _ _)).mono ?_);rintro e w2 ⟨rfl,T2⟩;obtain ⟨h1,h2⟩:=HC.out _ T2;obtain ⟨d0,d1,d2,d3,_⟩:=cells4 h2;clear h1 h2)
    | (go_at_call 38;(with_reducible refine (G2.out _ T2).mono ?_);rintro e w3 ⟨rfl,T3⟩))
   go_ret;exact ⟨ret_bool HR.out.symm,HT.out.trans (T2.trans T3)⟩
  | true=>
   rw [gb] at G2
   have HR:Hid (sameB a b=Tm.same a b):=by show _=_;unfold sameB;rw [gb,HGA.out];rfl
   clear gb;go_enter Try.func52,Try.ntmps52
   go_wp2_with (first
    | (go_at_call 38;(with_reducible refine (G1.out _ (Turned.refl _ _)).mono ?_);rintro e w2 ⟨rfl,T2⟩;obtain ⟨h1,h2⟩:=HC.out _ T2;obtain ⟨d0,d1,d2,d3,_⟩:=cells4 h2;clear h1 h2)
    | (go_at_call 38;(with_reducible refine (G2.out _ T2).mono ?_);rintro e w3 ⟨rfl,T3⟩;obtain ⟨h1,h2⟩:=HC.out _ (T2.trans T3);obtain ⟨d0,d1,d2,d3,_⟩:=cells4 h2;obtain ⟨f0,f1,f2,f3,_⟩:=cells4 h1;clear h1 h2)
    | (go_at_call 132;refine (G3.out _ (T2.trans T3)).mono ?_;rintro e w4 ⟨rfl,T4⟩))
   go_ret;exact ⟨ret_bool HR.out.symm,HT.out.trans (T2.trans (T3.trans T4))⟩
end Go.Proofs.Ytoihjobdfjajfaa
namespace Go.Proofs.Ytoihjobdfjajfaa
open Go.RowKit
theorem sizes_take_le {α:Type} (l:List (Tm α)) (j:Nat):Tm.sizes (l.take j)≤Tm.sizes l:=by
 have:=Tm.sizes_append (l.take j) (l.drop j);rw [List.take_append_drop] at this;omega
end Go.Proofs.Ytoihjobdfjajfaa
namespace Go.Proofs.Ytoihjobdfjajfaa
open Go
def Brings (P:Program) (F:Value→World→Prop):Result Next→Prop
 | .ok (.value v) w'=>F v w'
 | .ok .skip w'=>F undef w'
 | .ok (.enter f args) w'=>Calls P f args w' fun e w''=>∃ v,e = .returned v∧F v w''
 | .ok (.row row args) w'=>Rows P row args w' fun v w''=>F v w''
 | _=>False
theorem Brings.upon {P:Program} {o:Oper} {a:Act} {K:Act→World→Prop} {Q:Exit→Act→World→Prop} {F:Value→World→Prop} {r:Result Next} (h:Brings P F r) (hK:∀ v w,F v w→K (a.put o.dst v) w):o.upon P a K Q r:=by
 cases r with
 | ok n w'=>
  cases n <;> simp only [Brings,Oper.upon] at h ⊢ <;> first
   | exact hK _ _ h
   | exact Calls.mono h (fun e w'' he=>by obtain ⟨v,rfl,hv⟩:=he;exact hK _ _ hv)
   | exact Rows.mono h (fun _ _ hv=>hK _ _ hv)
   | exact h.elim
 | halt x w'=>exact (by cases x <;> exact h.elim)
def GD (G:Tmp→Value→World→Prop):Option Tmp→Value→World→Prop
 | none,_,_=>True
 | some d,v,w=>G d v w
def Looks (G:Tmp→Value→World→Prop) (ops:Array Oper) (a0 a:Act) (w:World) (s:Tmp):Prop:=
 if s∈ops.toList.filterMap (·.dst) then G s (a.tmps.getD s undef) w else a.tmps.getD s undef=a0.tmps.getD s undef
def StepOk (P:Program) (G:Tmp→Value→World→Prop) (ops:Array Oper) (a0:Act) (w0:World) (o:Oper):Prop:=
 ∀ a w,Turned zN w0 w→(∀ s∈o.looksAt ops,Looks G ops a0 a w s)→
  (Region.wanted o (yielded ops a.tmps)=true→Brings P (fun v w'=>Turned zN w w'∧GD G o.dst v w') ((execOp a.eval o).run P w))∧
  (Region.wanted o (yielded ops a.tmps)=false→GD G o.dst undef w)
def StepsOk (P:Program) (G:Tmp→Value→World→Prop) (ops:Array Oper) (a0:Act) (w0:World):List Oper→Prop
 | []=>True
 | o :: l=>StepOk P G ops a0 w0 o∧StepsOk P G ops a0 w0 l
theorem StepsOk.at {P:Program} {G:Tmp→Value→World→Prop} {ops:Array Oper} {a0:Act} {w0:World} {l:List Oper} (h:StepsOk P G ops a0 w0 l) {o:Oper} (ho:o∈l):StepOk P G ops a0 w0 o:=by
 induction l with
 | nil=>cases ho
 | cons x l ih=>
  rcases Qw.1 ho with rfl | ho
  · exact h.1
  · exact ih h.2 ho
def chkPair (ops:Array Oper) (N i j:Nat) (oi oj:Oper):Bool:=
 match oj.dst with
 | some d=>decide (d < N) && ((!(oi.looksAt ops).contains d || oi.after.any fun e=>Region.binds .any e && e.on == j) && (i == j || oi.dst != some d))
 | none=>true
def chkOrd (i:Nat) (oi:Oper):Bool:=oi.after.all fun e=>!Region.binds .any e || decide (e.on < i)
def chkAny (ops:Array Oper) (N:Nat):Bool:=
 (List.range ops.size).all fun i=>((ops[i]?).map fun oi=>chkOrd i oi && (List.range ops.size).all fun j=>((ops[j]?).map fun oj=>chkPair ops N i j oi oj).getD true).getD true
theorem chkAny_at {ops:Array Oper} {N:Nat} (h:chkAny ops N=true) {i:Nat} {oi:Oper} (hi:ops[i]? = some oi) :
 chkOrd i oi=true∧∀ j oj,ops[j]? = some oj→chkPair ops N i j oi oj=true:=by
 have hlt:=(zL hi);have:=Qt.1 h i (List.mem_range.2 hlt);rw [hi] at this;simp only [Option.map_some,Option.getD_some,Qd] at this;refine ⟨this.1,fun j oj hj=>?_⟩;have hlj:=(zL hj);have:=Qt.1 this.2 j (List.mem_range.2 hlj);rw [hj] at this;simpa using this
theorem chkPair_spec {ops:Array Oper} {N i j:Nat} {oi oj:Oper} (h:chkPair ops N i j oi oj=true) {d:Tmp} (hd:oj.dst=some d) :
 d < N∧(d∈oi.looksAt ops→∃ e∈oi.after,Region.binds .any e=true∧e.on=j)∧(i≠j→oi.dst≠some d):=by
 unfold chkPair at h;rw [hd] at h;simp only [Qd,decide_eq_true_eq,Bool.or_eq_true,Bool.not_eq_true',beq_iff_eq,bne_iff_ne] at h;obtain ⟨h1,h2,h3⟩:=h;refine ⟨h1,fun hm=>?_,fun hij=>?_⟩
 · rcases h2 with h2 | h2
   · rw [←Bool.not_eq_true,List.contains_iff_mem] at h2
     exact absurd hm h2
   · obtain ⟨e,he,hb⟩:=(Array.any_eq_true' ).1 h2
     simp only [Qd,beq_iff_eq] at hb;exact ⟨e,he,hb⟩
 · rcases h3 with h3 | h3
   · exact absurd h3 hij
   · exact h3
structure InvA (G:Tmp→Value→World→Prop) (ops:Array Oper) (a0 a:Act) (listed:Array Bool) (w:World):Prop where
 defers:a.defers=a0.defers
 size:a.tmps.size=a0.tmps.size
 lsize:listed.size=ops.size
 done:∀ j oj d,ops[j]? = some oj→oj.dst=some d→listed.getD j false=true→G d (a.tmps.getD d undef) w
 rest:∀ d,(∀ j oj,ops[j]? = some oj→oj.dst=some d→listed.getD j false=false)→a.tmps.getD d undef=a0.tmps.getD d undef
theorem getD_set (t:Array Value) (d s:Nat) (v:Value) (h:d < t.size):(t.setIfInBounds d v).getD s undef=if s=d then v else t.getD s undef:=by
 by_cases e:s=d
 · subst e;simp [h]
 · simp only [Array.getD_eq_getD_getElem?,Array.getElem?_setIfInBounds_ne (Ne.symm e),if_neg e]
theorem count_set {l:List Bool} {i:Nat} (h:l[i]? = some false):(l.set i true).count false+1=l.count false:=by
 induction l generalizing i with
 | nil=>simp at h
 | cons x l ih=>
  cases i with
  | zero=>simp at h;subst h;simp
  | succ i=>
   simp at h;have:=ih h;simp only [Qr,List.count_cons];omega
section
variable {P:Program} {G:Tmp→Value→World→Prop} {ops:Array Oper} {a0:Act} {w0:World} {Q:Exit→Act→World→Prop}
theorem InvA.looks {a:Act} {listed:Array Bool} {w:World} (h:InvA G ops a0 a listed w) (hc:chkAny ops a0.tmps.size=true) {i:Nat} {oi:Oper} (hi:ops[i]? = some oi) (hr:i∈Region.ready .any ops listed):∀ s∈oi.looksAt ops,Looks G ops a0 a w s:=by
 intro s hs;obtain ⟨_,o',ho',hall⟩:=mem_ready.1 hr;rw [hi] at ho'
 injection ho' with ho'
 subst ho';unfold Looks
 split
 · rename_i hm
   obtain ⟨oj,hoj,hd⟩:=List.mem_filterMap.1 hm;obtain ⟨j,hj⟩:=List.getElem?_of_mem hoj;rw [Qv] at hj;obtain ⟨e,he,hb,hon⟩:=(chkPair_spec ((chkAny_at hc hi).2 j oj hj) hd).2.1 hs;exact h.done j oj s hj hd (hon ▸ hall e he hb)
 · rename_i hm
   refine h.rest s fun j oj hj hd=>absurd (List.mem_filterMap.2 ⟨oj,?_,hd⟩) hm
   exact Qf (by rw [Qv];exact hj)
theorem InvA.step {a:Act} {listed:Array Bool} {w w':World} (h:InvA G ops a0 a listed w) (hc:chkAny ops a0.tmps.size=true) (hG:∀ d v w w',Turned zN w w'→G d v w→G d v w') {i:Nat} {oi:Oper} (hi:ops[i]? = some oi) {v:Value} (hT:Turned zN w w') (hv:GD G oi.dst v w'):InvA G ops a0 (a.put oi.dst v) (listed.setIfInBounds i true) w':=by
 have hlt:=(zL hi)
 have hli:(listed.setIfInBounds i true).getD i false=true:=by
  have:i < listed.size:=by rw [h.lsize];exact hlt
  simp [this]
 have hbk:∀ j,j≠i→(listed.setIfInBounds i true).getD j false=listed.getD j false:=fun j hj=>getD_set_ne false (Ne.symm hj)
 cases hd:oi.dst with
 | none=>
  refine ⟨h.defers,h.size,by simpa using h.lsize,fun j oj d hj hdj hl=>?_,fun d hall=>h.rest d fun j oj hj hdj=>?_⟩
  · by_cases e:j=i
    · subst e
      rw [hi] at hj
      injection hj with hj
      subst hj;rw [hd] at hdj
      cases hdj
    · rw [hbk j e] at hl
      exact hG _ _ _ _ hT (h.done j oj d hj hdj hl)
  · have h2:=hall j oj hj hdj
    by_cases e:j=i
    · subst e;rw [hli] at h2;cases h2
    · rw [hbk j e] at h2;exact h2
 | some c=>
  have hcN:=(chkPair_spec ((chkAny_at hc hi).2 i oi hi) hd).1;rw [hd] at hv
  have hsz:c < a.tmps.size:=by rw [h.size];exact hcN
  refine ⟨h.defers,by simpa [Act.put] using h.size,by simpa using h.lsize,fun j oj d hj hdj hl=>?_,fun d hall=>?_⟩
  · show G d ((a.tmps.setIfInBounds c v).getD d undef) w'
    rw [getD_set _ _ _ _ hsz]
    by_cases e:j=i
    · subst e
      rw [hi] at hj
      injection hj with hj
      subst hj;rw [hd] at hdj
      injection hdj with hdj
      subst hdj;rw [if_pos rfl];exact hv
    · have hne:=(chkPair_spec ((chkAny_at hc hi).2 j oj hj) hdj).2.2 (Ne.symm e)
      rw [hd] at hne
      have hne:d≠c:=fun e'=>hne (by rw [e'])
      rw [if_neg hne];rw [hbk j e] at hl;exact hG _ _ _ _ hT (h.done j oj d hj hdj hl)
  · show (a.tmps.setIfInBounds c v).getD d undef=_
    rw [getD_set _ _ _ _ hsz]
    by_cases e:d=c
    · subst e
      have:=hall i oi hi hd;rw [hli] at this
      cases this
    · rw [if_neg e]
      refine h.rest d fun j oj hj hdj=>?_
      have h2:=hall j oj hj hdj
      by_cases e:j=i
      · subst e;rw [hli] at h2;cases h2
      · rw [hbk j e] at h2;exact h2
theorem all_listed (hc:chkAny ops a0.tmps.size=true) {listed:Array Bool} (hl:listed.size=ops.size) (hr:Region.ready .any ops listed=[]):∀ i,i < ops.size→listed.getD i false=true:=by
 intro i
 induction i using Nat.strongRecOn with
 | ind i ih=>
  intro hi
  cases hlb:listed.getD i false with
  | true=>rfl
  | false=>
   exfalso;have ho:ops[i]? = some ops[i]:=Array.getElem?_eq_getElem hi
   have:i∈Region.ready .any ops listed:=by
    refine mem_ready.2 ⟨?_,_,ho,fun e he hb=>?_⟩
    · have hs:i < listed.size:=by rw [hl];exact hi
      simp [hs] at hlb ⊢;exact hlb
    · have:=Array.all_eq_true_iff_forall_mem.1 (chkAny_at hc ho).1 e he
      rw [hb] at this;simp at this;exact ih e.on this (by omega)
   rw [hr] at this
   cases this
theorem any_go (hc:chkAny ops a0.tmps.size=true) (hG:∀ d v w w',Turned zN w w'→G d v w→G d v w') (hs:StepsOk P G ops a0 w0 ops.toList)
 (hQ:∀ a w,Turned zN w0 w→(∀ s,Looks G ops a0 a w s)→a.defers=a0.defers→a.tmps.size=a0.tmps.size→Q .normal a w) :
 ∀ (fuel:Nat) (listed:Array Bool) (a:Act) (w:World),listed.toList.count false≤fuel→Turned zN w0 w→InvA G ops a0 a listed w→wpAny P .any ops Q fuel listed a w:=by
 intro fuel
 have hend:∀ (listed:Array Bool) (a:Act) (w:World),Turned zN w0 w→InvA G ops a0 a listed w→Region.ready .any ops listed=[]→Q .normal a w:=by
  intro listed a w hT hI hr;have hall:=all_listed hc hI.lsize hr;refine hQ a w hT (fun s=>?_) hI.defers hI.size;unfold Looks
  split
  · rename_i hm
    obtain ⟨oj,hoj,hd⟩:=List.mem_filterMap.1 hm;obtain ⟨j,hj⟩:=List.getElem?_of_mem hoj;rw [Qv] at hj;exact hI.done j oj s hj hd (hall j (zL hj))
  · rename_i hm
    refine hI.rest s fun j oj hj hd=>absurd (List.mem_filterMap.2 ⟨oj,?_,hd⟩) hm
    exact Qf (by rw [Qv];exact hj)
 induction fuel with
 | zero=>
  intro listed a w hf hT hI
  have hr:Region.ready .any ops listed=[]:=by
   apply List.eq_nil_iff_forall_not_mem.2;intro i hi;obtain ⟨hfalse,o,ho,_⟩:=mem_ready.1 hi
   have hlt:i < listed.size:=by rw [hI.lsize];exact (zL ho)
   simp [hlt] at hfalse
   have:false∈listed.toList:=by rw [←hfalse];exact Array.getElem_mem_toList hlt
   have:=List.count_pos_iff.2 this;omega
  exact ⟨hr,hend _ _ _ hT hI hr⟩
 | succ fuel ih=>
  intro listed a w hf hT hI;refine ⟨hend _ _ _ hT hI,fun i hi=>?_⟩;obtain ⟨hfalse,o,ho,_⟩:=mem_ready.1 hi
  have hlt:i < listed.size:=by rw [hI.lsize];exact (zL ho)
  have hcnt:(listed.setIfInBounds i true).toList.count false≤fuel:=by
   have h1:listed.toList[i]? = some false:=by
    simp [hlt] at hfalse;rw [Qv,Array.getElem?_eq_getElem hlt,hfalse]
   have:=count_set h1;rw [Array.toList_setIfInBounds];omega
  have hst:=(hs.at (o:=o) (Qf (i:=i) (by rw [Qv];exact ho))) a w hT (hI.looks hc ho hi);unfold wpOp;simp only [ho]
  split
  · rename_i hw
    refine .inl ?_
    exact Brings.upon (hst.1 hw) fun v w' hv=>ih _ _ _ hcnt (hT.trans hv.1) (hI.step hc hG ho hv.1 hv.2)
  · rename_i hw
    exact ih _ _ _ hcnt hT (hI.step hc hG ho (Turned.refl _ w) (hst.2 (by simpa using hw)))
theorem wp_region_ssa {id:Nat} (hm:P.follows .mixedOrders=true) (hc:chkAny ops a0.tmps.size=true) (hG:∀ d v w w',Turned zN w w'→G d v w→G d v w') (hs:StepsOk P G ops a0 w0 ops.toList)
 (hQ:∀ a w,Turned zN w0 w→(∀ s,Looks G ops a0 a w s)→a.defers=a0.defers→a.tmps.size=a0.tmps.size→Q .normal a w):(Code.region id ops true).wp P Q a0 w0:=by
 refine wp_region_any hm (any_go hc hG hs hQ _ _ _ _ ?_ ((Turned.refl _ w0).drew) ?_)
 · rw [Array.toList_replicate,List.count_replicate_self]
   exact Qm _
 · refine ⟨rfl,rfl,by simp,fun j oj d hj hd hl=>?_,fun d _=>rfl⟩
   have hlt:=(zL hj);simp [hlt] at hl
end
def chkIns (ops:Array Oper) (o:Oper) (ins outs:List Tmp):Bool:=
 (ins.all fun s=>(o.looksAt ops).contains s && (ops.toList.filterMap (·.dst)).contains s) && (outs.all fun s=>(o.looksAt ops).contains s && !(ops.toList.filterMap (·.dst)).contains s)
section
variable {P:Program} {G:Tmp→Value→World→Prop} {ops:Array Oper} {a0:Act} {w0:World} {o:Oper}
theorem chkIns_ins {ins outs:List Tmp} (h:chkIns ops o ins outs=true) {a:Act} {w:World} (hl:∀ s∈o.looksAt ops,Looks G ops a0 a w s) :
 (∀ s∈ins,G s (a.tmps.getD s undef) w)∧(∀ s∈outs,a.tmps.getD s undef=a0.tmps.getD s undef):=by
 simp only [chkIns,Qd,Qt,List.contains_iff_mem,Bool.not_eq_true',←Bool.not_eq_true] at h;refine ⟨fun s hs=>?_,fun s hs=>?_⟩
 · have h1:=h.1 s hs
   have:=hl s h1.1;unfold Looks at this
   rwa [if_pos h1.2] at this
 · have h1:=h.2 s hs
   have:=hl s h1.1;unfold Looks at this
   rwa [if_neg h1.2] at this
theorem stepOk_free (ins outs:List Tmp) (hck:chkIns ops o ins outs=true) (hg:o.guard=none)
 (h:∀ (a:Act) (w:World),Turned zN w0 w→(∀ s∈ins,G s (a.tmps.getD s undef) w)→(∀ s∈outs,a.tmps.getD s undef=a0.tmps.getD s undef)→Brings P (fun v w'=>Turned zN w w'∧GD G o.dst v w') ((execOp a.eval o).run P w)):StepOk P G ops a0 w0 o:=by
 intro a w hT hl;obtain ⟨h1,h2⟩:=chkIns_ins hck hl;refine ⟨fun _=>h a w hT h1 h2,fun hw=>?_⟩;unfold Region.wanted at hw;rw [hg] at hw;simp at hw
theorem stepOk_guard (ins outs:List Tmp) (hck:chkIns ops o ins outs=true) (g:Nat) (want:Bool) (s:Tmp) (hg:o.guard=some (g,want)) (hs:((ops[g]?).bind (·.dst))=some s) (hsin:s∈ins) (c b:Bool)
 (hb:∀ v w,G s v w→v=bif c then .bool b else undef)
 (hT:(c && (b == want))=true→∀ (a:Act) (w:World),Turned zN w0 w→(∀ s∈ins,G s (a.tmps.getD s undef) w)→(∀ s∈outs,a.tmps.getD s undef=a0.tmps.getD s undef)→Brings P (fun v w'=>Turned zN w w'∧GD G o.dst v w') ((execOp a.eval o).run P w))
 (hF:(c && (b == want))=false→∀ w,GD G o.dst undef w):StepOk P G ops a0 w0 o:=by
 intro a w hTw hl;obtain ⟨h1,h2⟩:=chkIns_ins hck hl;have hv:=hb _ _ (h1 s hsin)
 have hy:Region.wanted o (yielded ops a.tmps)=(c && (b == want)):=by
  unfold Region.wanted;rw [hg];simp only;unfold yielded;rw [hs];simp only [Option.bind_some];rw [Array.getD_eq_getD_getElem?] at hv
  cases hx:a.tmps[s]? with
  | none=>
   rw [hx] at hv
   cases c with
   | true=>simp [undef] at hv
   | false=>simp
  | some v=>
   rw [hx] at hv;simp only [Option.getD_some] at hv;subst hv
   cases c with
   | true=>cases b <;> cases want <;> rfl
   | false=>cases want <;> rfl
 rw [hy];exact ⟨fun h=>hT h a w hTw h1 h2,fun h=>hF h w⟩
theorem fold_getD (f:Tmp→Value) (l:List Tmp):∀ (t:Array Value) (s:Nat),s < t.size→(l.foldl (fun t d=>t.setIfInBounds d (f d)) t).getD s undef=if s∈l then f s else t.getD s undef:=by
 induction l with
 | nil=>intro t s _;simp
 | cons d l ih=>
  intro t s hs;rw [Qq,ih _ _ (by simpa using hs)]
  by_cases hm:s∈l
  · rw [if_pos hm,if_pos (Qb _ hm)]
  · rw [if_neg hm]
    by_cases e:s=d
    · subst e
      rw [getD_set _ _ _ _ hs,if_pos rfl,if_pos (Qe ..)]
    · rw [if_neg (by rw [Qw];rintro (h | h);exact e h;exact hm h)]
      simp only [Array.getD_eq_getD_getElem?,Array.getElem?_setIfInBounds_ne (Ne.symm e)]
theorem fold_size (f:Tmp→Value) (l:List Tmp):∀ (t:Array Value),(l.foldl (fun t d=>t.setIfInBounds d (f d)) t).size=t.size:=by
 induction l with
 | nil=>intro t;rfl
 | cons d l ih=>intro t;rw [Qq,ih];simp
theorem getD_lt (t:Array Value) (i:Nat) (h:i < t.size):t.getD i undef=t[i]:=by simp [h]
theorem wp_region_ssa' {Q:Exit→Act→World→Prop} {id:Nat} (dl:List Tmp) (hdl:ops.toList.filterMap (·.dst)=dl) (hm:P.follows .mixedOrders=true) (hc:chkAny ops a0.tmps.size=true) (hG:∀ d v w w',Turned zN w w'→G d v w→G d v w') (hs:StepsOk P G ops a0 w0 ops.toList)
 (hQ:∀ (vs:Tmp→Value) w,Turned zN w0 w→(∀ s∈dl,G s (vs s) w)→Q .normal ⟨dl.foldl (fun t d=>t.setIfInBounds d (vs d)) a0.tmps,a0.defers⟩ w):(Code.region id ops true).wp P Q a0 w0:=by
 refine wp_region_ssa hm hc hG hs fun a w hT hL hd hsz=>?_
 have:=hQ (fun d=>a.tmps.getD d undef) w hT (fun s hs=>by
  have:=hL s;unfold Looks at this;rw [hdl,if_pos hs] at this
  exact this)
 have e:a=⟨dl.foldl (fun t d=>t.setIfInBounds d (a.tmps.getD d undef)) a0.tmps,a0.defers⟩:=by
  cases a with | mk tmps defers=>
  simp only at hd hsz this ⊢;subst hd;congr 1;apply Array.ext
  · rw [fold_size];exact hsz
  · intro i h1 h2
    have h3:i < a0.tmps.size:=by rw [←hsz];exact h1
    have hf:=fold_getD (fun d=>tmps.getD d undef) dl a0.tmps i h3;have hl:=hL i;unfold Looks at hl;rw [hdl] at hl;have e1:=getD_lt tmps i h1;have e2:=getD_lt _ i h2;rw [←e1,←e2,hf]
    by_cases hm:i∈dl
    · rw [if_pos hm]
    · rw [if_neg hm] at hl ⊢
      exact hl
 rw [e];exact this
theorem zO (ins outs : List Tmp)
    (h : ∀ (a : Act) (w : World), Turned (fun _ => False) w0 w → (∀ s ∈ ins, G s (a.tmps.getD s undef) w) → (∀ s ∈ outs, a.tmps.getD s undef = a0.tmps.getD s undef) → Brings P (fun v w' => Turned (fun _ => False) w w' ∧ GD G o.dst v w') ((execOp a.eval o).run P w)) (hck : chkIns ops o ins outs = true := by kernel_rfl) (hg : o.guard = none := by exact rfl) : StepOk P G ops a0 w0 o := stepOk_free ins outs hck hg h
end
def posOf:List Nat→Nat→Option Nat
 | [],_=>none
 | s :: l,i=>if s == i then some 0 else (posOf l i).map (· + 1)
theorem posOf_some {l:List Nat} {i k:Nat} (h:posOf l i=some k):l[k]? = some i:=by
 induction l generalizing k with
 | nil=>cases h
 | cons s l ih=>
  unfold posOf at h
  split at h
  · rename_i e
    injection h with h
    subst h;simp at e;simp [e]
  · cases hp:posOf l i with
    | none=>rw [hp] at h;cases h
    | some q=>
     rw [hp] at h
     injection h with h
     subst h;rw [List.getElem?_cons_succ];exact ih hp
theorem posOf_none {l:List Nat} {i k:Nat} (h:posOf l i=none):l[k]?≠some i:=by
 induction l generalizing k with
 | nil=>simp
 | cons s l ih=>
  unfold posOf at h
  split at h
  · cases h
  · rename_i e
    have h2:posOf l i=none:=by
     cases hp:posOf l i with
     | none=>rfl
     | some q=>rw [hp] at h;cases h
    cases k with
    | zero=>simp at e;simpa using e
    | succ k=>rw [List.getElem?_cons_succ];exact ih h2
def StepG (P:Program) (G:Tmp→Value→World→Prop) (ops:Array Oper) (a0:Act) (Pre:World→Prop) (Post:Value→World→World→Prop) (o:Oper):Prop:=
 ∀ a w,Pre w→(∀ s∈o.looksAt ops,Looks G ops a0 a w s)→
  (Region.wanted o (yielded ops a.tmps)=true→Brings P (fun v w'=>Post v w w') ((execOp a.eval o).run P w))∧
  (Region.wanted o (yielded ops a.tmps)=false→Post undef w w)
def Idle (G:List Value→Tmp→Value→World→Prop) (R:List Value→World→Prop) (Step:World→World→Prop) (hs:List Value) (d:Option Tmp) (v:Value) (w w':World):Prop:=R hs w'∧Step w w'∧GD (G hs) d v w'
def Turns (G:List Value→Tmp→Value→World→Prop) (R:List Value→World→Prop) (Step:World→World→Prop) (hs:List Value) (d:Option Tmp) (v:Value) (w w':World):Prop:=R (hs++[v]) w'∧Step w w'∧GD (G (hs++[v])) d v w'
def waits (ops:Array Oper):Nat→Nat→Nat→Bool
 | 0,_,_=>false
 | n+1,j,i=>match ops[j]? with
  | none=>false
  | some o=>o.after.any fun e=>Region.binds .any e && (e.on == i || waits ops n e.on i)
theorem waits_listed {ops:Array Oper} {listed:Array Bool} (h:∀ j o,ops[j]? = some o→listed.getD j false=true→∀ e∈o.after,Region.binds .any e=true→listed.getD e.on false=true) (n:Nat):∀ j i,waits ops n j i=true→listed.getD j false=true→listed.getD i false=true:=by
 induction n with
 | zero=>intro j i hw;cases hw
 | succ n ih=>
  intro j i hw hj;unfold waits at hw
  cases ho:ops[j]? with
  | none=>rw [ho] at hw;cases hw
  | some o=>
   rw [ho] at hw;obtain ⟨e,he,hb⟩:=(Array.any_eq_true').1 hw;simp only [Qd,Bool.or_eq_true,beq_iff_eq] at hb;have h1:=h j o ho hj e he hb.1
   rcases hb.2 with e' | e'
   · rw [←e'];exact h1
   · exact ih _ _ e' h1
def StepAt (P:Program) (G:List Value→Tmp→Value→World→Prop) (ops:Array Oper) (a0:Act) (st:List Nat) (R:List Value→World→Prop) (Step:World→World→Prop) (i:Nat) (o:Oper):Prop:=
 match posOf st i with
 | none=>∀ hs,hs.length≤st.length→(∀ k j n,st[k]? = some j→waits ops n j i=true→hs.length≤k)→StepG P (G hs) ops a0 (R hs) (Idle G R Step hs o.dst) o
 | some k=>∀ hs,hs.length=k→StepG P (G hs) ops a0 (R hs) (Turns G R Step hs o.dst) o
def StepsAt (P:Program) (G:List Value→Tmp→Value→World→Prop) (ops:Array Oper) (a0:Act) (st:List Nat) (R:List Value→World→Prop) (Step:World→World→Prop):Nat→List Oper→Prop
 | _,[]=>True
 | i,o :: l=>StepAt P G ops a0 st R Step i o∧StepsAt P G ops a0 st R Step (i+1) l
theorem StepsAt.at {P:Program} {G:List Value→Tmp→Value→World→Prop} {ops:Array Oper} {a0:Act} {st:List Nat} {R:List Value→World→Prop} {Step:World→World→Prop} {l:List Oper} {b:Nat} (h:StepsAt P G ops a0 st R Step b l) {j:Nat} {o:Oper} (ho:l[j]? = some o):StepAt P G ops a0 st R Step (b+j) o:=by
 induction l generalizing b j with
 | nil=>simp at ho
 | cons x l ih=>
  cases j with
  | zero=>simp at ho;subst ho;exact h.1
  | succ j=>
   simp at ho;have:=ih h.2 ho
   rwa [show b+1+j=b+(j+1) from by omega] at this
def chkSt (ops:Array Oper) (st:List Nat):Bool:=
 st.all (fun i=>decide (i < ops.size)) && (List.range st.length).all fun k=>match st[k]?,st[k+1]? with
  | some i,some j=>decide (i < j) && ((ops[j]?).map fun o=>o.after.any fun e=>Region.binds .any e && e.on == i).getD false
  | _,_=>true
theorem chkSt_lt {ops:Array Oper} {st:List Nat} (h:chkSt ops st=true) {k i:Nat} (hi:st[k]? = some i):i < ops.size:=by
 simp only [chkSt,Qd,Qt] at h;simpa using h.1 i (Qf hi)
theorem chkSt_next {ops:Array Oper} {st:List Nat} (h:chkSt ops st=true) {k i j:Nat} (hi:st[k]? = some i) (hj:st[k+1]? = some j):i < j∧∀ o,ops[j]? = some o→∃ e∈o.after,Region.binds .any e=true∧e.on=i:=by
 simp only [chkSt,Qd,Qt] at h;have:=h.2 k (List.mem_range.2 (Qg.1 hi).1);rw [hi,hj] at this;simp only [Qd,decide_eq_true_eq] at this;refine ⟨this.1,fun o ho=>?_⟩;have h2:=this.2;rw [ho] at h2;simp only [Option.map_some,Option.getD_some] at h2;obtain ⟨e,he,hb⟩:=(Array.any_eq_true').1 h2;simp only [Qd,beq_iff_eq] at hb;exact ⟨e,he,hb⟩
theorem chkSt_mono {ops:Array Oper} {st:List Nat} (h:chkSt ops st=true) (d:Nat):∀ {k i j:Nat},st[k]? = some i→st[k+d+1]? = some j→i < j:=by
 induction d with
 | zero=>intro k i j hi hj;exact (chkSt_next h hi hj).1
 | succ d ih=>
  intro k i j hi hj
  have hlt:k+d+1 < st.length:=by have:=(Qg.1 hj).1;omega
  have hm:st[k+d+1]? = some st[k+d+1]:=Qa hlt;have h1:=ih hi hm;have h2:=(chkSt_next h hm (by rw [show k+d+1+1=k+(d+1)+1 from by omega];exact hj)).1;omega
theorem chkSt_inj {ops:Array Oper} {st:List Nat} (h:chkSt ops st=true) {k k' i:Nat} (hi:st[k]? = some i) (hj:st[k']? = some i):k=k':=by
 rcases Nat.lt_trichotomy k k' with hl | hl | hl
 · have:=chkSt_mono h (k' - k - 1) hi (by rw [show k+(k' - k - 1)+1=k' from by omega];exact hj)
   omega
 · exact hl
 · have:=chkSt_mono h (k - k' - 1) hj (by rw [show k'+(k - k' - 1)+1=k from by omega];exact hi)
   omega
section
variable {P:Program} {G:List Value→Tmp→Value→World→Prop} {ops:Array Oper} {a0:Act} {w0:World} {Q:Exit→Act→World→Prop} {st:List Nat} {R:List Value→World→Prop} {Step:World→World→Prop}
theorem InvA.stepG {G G':Tmp→Value→World→Prop} {a:Act} {listed:Array Bool} {w w':World} (h:InvA G ops a0 a listed w) (hc:chkAny ops a0.tmps.size=true) (hG:∀ d v,G d v w→G' d v w') {i:Nat} {oi:Oper} (hi:ops[i]? = some oi) {v:Value} (hv:GD G' oi.dst v w'):InvA G' ops a0 (a.put oi.dst v) (listed.setIfInBounds i true) w':=by
 have hlt:=(zL hi)
 have hli:(listed.setIfInBounds i true).getD i false=true:=by
  have:i < listed.size:=by rw [h.lsize];exact hlt
  simp [this]
 have hbk:∀ j,j≠i→(listed.setIfInBounds i true).getD j false=listed.getD j false:=fun j hj=>getD_set_ne false (Ne.symm hj)
 cases hd:oi.dst with
 | none=>
  refine ⟨h.defers,h.size,by simpa using h.lsize,fun j oj d hj hdj hl=>?_,fun d hall=>h.rest d fun j oj hj hdj=>?_⟩
  · by_cases e:j=i
    · subst e
      rw [hi] at hj
      injection hj with hj
      subst hj;rw [hd] at hdj
      cases hdj
    · rw [hbk j e] at hl
      exact hG _ _ (h.done j oj d hj hdj hl)
  · have h2:=hall j oj hj hdj
    by_cases e:j=i
    · subst e;rw [hli] at h2;cases h2
    · rw [hbk j e] at h2;exact h2
 | some c=>
  have hcN:=(chkPair_spec ((chkAny_at hc hi).2 i oi hi) hd).1;rw [hd] at hv
  have hsz:c < a.tmps.size:=by rw [h.size];exact hcN
  refine ⟨h.defers,by simpa [Act.put] using h.size,by simpa using h.lsize,fun j oj d hj hdj hl=>?_,fun d hall=>?_⟩
  · show G' d ((a.tmps.setIfInBounds c v).getD d undef) w'
    rw [getD_set _ _ _ _ hsz]
    by_cases e:j=i
    · subst e
      rw [hi] at hj
      injection hj with hj
      subst hj;rw [hd] at hdj
      injection hdj with hdj
      subst hdj;rw [if_pos rfl];exact hv
    · have hne:=(chkPair_spec ((chkAny_at hc hi).2 j oj hj) hdj).2.2 (Ne.symm e)
      rw [hd] at hne
      have hne:d≠c:=fun e'=>hne (by rw [e'])
      rw [if_neg hne];rw [hbk j e] at hl;exact hG _ _ (h.done j oj d hj hdj hl)
  · show (a.tmps.setIfInBounds c v).getD d undef=_
    rw [getD_set _ _ _ _ hsz]
    by_cases e:d=c
    · subst e
      have:=hall i oi hi hd;rw [hli] at this
      cases this
    · rw [if_neg e]
      refine h.rest d fun j oj hj hdj=>?_
      have h2:=hall j oj hj hdj
      by_cases e:j=i
      · subst e;rw [hli] at h2;cases h2
      · rw [hbk j e] at h2;exact h2
structure InvS (ops:Array Oper) (st:List Nat) (R:List Value→World→Prop) (listed:Array Bool) (hs:List Value) (m:Nat) (w:World):Prop where
 le:m≤st.length
 len:hs.length=m
 state:R hs w
 done:∀ k i,st[k]? = some i→listed.getD i false=decide (k < m)
 shut:∀ j o,ops[j]? = some o→listed.getD j false=true→∀ e∈o.after,Region.binds .any e=true→listed.getD e.on false=true
theorem shut_set {listed:Array Bool} {i:Nat} (h:∀ j o,ops[j]? = some o→listed.getD j false=true→∀ e∈o.after,Region.binds .any e=true→listed.getD e.on false=true) (hl:listed.size=ops.size) (hr:i∈Region.ready .any ops listed) :
 ∀ j o,ops[j]? = some o→(listed.setIfInBounds i true).getD j false=true→∀ e∈o.after,Region.binds .any e=true→(listed.setIfInBounds i true).getD e.on false=true:=by
 obtain ⟨hf,oi,hoi,hall⟩:=mem_ready.1 hr
 have hlt:i < listed.size:=by rw [hl];exact (zL hoi)
 have hmono:∀ k,listed.getD k false=true→(listed.setIfInBounds i true).getD k false=true:=by
  intro k hk
  by_cases e:k=i
  · subst e;simp [hlt]
  · rw [getD_set_ne false (Ne.symm e)];exact hk
 intro j o ho hj e he hb
 by_cases e':j=i
 · subst e'
   rw [hoi] at ho
   injection ho with ho
   subst ho;exact hmono _ (hall e he hb)
 · rw [getD_set_ne false (Ne.symm e')] at hj
   exact hmono _ (h j o ho hj e he hb)
theorem InvS.other {listed:Array Bool} {hs:List Value} {m:Nat} {w w':World} (h:InvS ops st R listed hs m w) {i:Nat} (hp:posOf st i=none) (hl:listed.size=ops.size) (hr:i∈Region.ready .any ops listed) (hR:R hs w'):InvS ops st R (listed.setIfInBounds i true) hs m w':=by
 refine ⟨h.le,h.len,hR,fun k j hj=>?_,shut_set h.shut hl hr⟩
 have hne:j≠i:=fun e=>posOf_none hp (e ▸ hj)
 rw [getD_set_ne false (Ne.symm hne)];exact h.done k j hj
theorem InvS.next {listed:Array Bool} {hs:List Value} {m:Nat} {w w':World} (h:InvS ops st R listed hs m w) (hst:chkSt ops st=true) (hl:listed.size=ops.size) {i:Nat} (hr:i∈Region.ready .any ops listed) (hp:posOf st i=some m) {v:Value} (hR:R (hs++[v]) w'):InvS ops st R (listed.setIfInBounds i true) (hs++[v]) (m+1) w':=by
 have hk:=posOf_some hp;have hlt:=(Qg.1 hk).1;refine ⟨hlt,by rw [Qi,h.len];rfl,hR,fun k j hj=>?_,shut_set h.shut hl hr⟩
 by_cases e:j=i
 · subst e
   have:=chkSt_inj hst hj hk;subst this
   have hb:j < listed.size:=by rw [hl];exact chkSt_lt hst hk
   simp [hb]
 · rw [getD_set_ne false (Ne.symm e),h.done k j hj,decide_eq_decide]
   have hne:k≠m:=fun e'=>by subst e';rw [hk] at hj;injection hj with hj;exact e hj.symm
   omega
theorem stepG_free {G:Tmp→Value→World→Prop} {Pre:World→Prop} {Post:Value→World→World→Prop} {o:Oper} (ins outs:List Tmp) (hck:chkIns ops o ins outs=true) (hg:o.guard=none)
 (h:∀ (a:Act) (w:World),Pre w→(∀ s∈ins,G s (a.tmps.getD s undef) w)→(∀ s∈outs,a.tmps.getD s undef=a0.tmps.getD s undef)→Brings P (fun v w'=>Post v w w') ((execOp a.eval o).run P w)):StepG P G ops a0 Pre Post o:=by
 intro a w hT hl;obtain ⟨h1,h2⟩:=chkIns_ins hck hl;refine ⟨fun _=>h a w hT h1 h2,fun hw=>?_⟩;unfold Region.wanted at hw;rw [hg] at hw;simp at hw
theorem zG {G : Tmp → Value → World → Prop} {Pre : World → Prop} {Post : Value → World → World → Prop} {o : Oper} (ins outs : List Tmp)
    (h : ∀ (a : Act) (w : World), Pre w → (∀ s ∈ ins, G s (a.tmps.getD s undef) w) → (∀ s ∈ outs, a.tmps.getD s undef = a0.tmps.getD s undef) → Brings P (fun v w' => Post v w w') ((execOp a.eval o).run P w)) (hck : chkIns ops o ins outs = true := by kernel_rfl) (hg : o.guard = none := by exact rfl) : StepG P G ops a0 Pre Post o := stepG_free ins outs hck hg h
end
def GH (hist:List Tmp) (GL:Tmp→Value→Prop) (hs:List Value) (d:Tmp) (v:Value):Prop:=
 match posOf hist d with
 | some k=>hs[k]? = some v
 | none=>GL d v
def GDL (GL:Tmp→Value→Prop):Option Tmp→Value→Prop
 | none,_=>True
 | some d,v=>GL d v
theorem Brings.mono {P:Program} {F F':Value→World→Prop} {r:Result Next} (h:Brings P F r) (hF:∀ v w,F v w→F' v w):Brings P F' r:=by
 cases r with
 | ok n w'=>
  cases n <;> simp only [Brings] at h ⊢ <;> first
   | exact hF _ _ h
   | exact Calls.mono h (fun e w'' he=>by obtain ⟨v,rfl,hv⟩:=he;exact ⟨v,rfl,hF _ _ hv⟩)
   | exact Rows.mono h (fun _ _ hv=>hF _ _ hv)
   | exact h.elim
 | halt x w'=>exact (by cases x <;> exact h.elim)
def StepH (P:Program) (hist:List Tmp) (GL:Tmp→Value→Prop) (ops:Array Oper) (a0:Act) (st bd:List Nat) (R:List Value→World→Prop) (i:Nat) (o:Oper):Prop:=
 match posOf st i with
 | none=>∀ hs,hs.length≤bd.getD i st.length→StepG P (fun d v _=>GH hist GL hs d v) ops a0 (R hs) (fun v w w'=>Turned zN w w'∧GDL GL o.dst v) o
 | some k=>∀ hs,hs.length=k→StepG P (fun d v _=>GH hist GL hs d v) ops a0 (R hs) (fun v _ w'=>R (hs++[v]) w') o
def StepsH (P:Program) (hist:List Tmp) (GL:Tmp→Value→Prop) (ops:Array Oper) (a0:Act) (st bd:List Nat) (R:List Value→World→Prop):Nat→List Oper→Prop
 | _,[]=>True
 | i,o :: l=>StepH P hist GL ops a0 st bd R i o∧StepsH P hist GL ops a0 st bd R (i+1) l
def chkHist (ops:Array Oper) (st:List Nat) (hist:List Tmp):Bool:=
 decide (hist.length=st.length) && (List.range ops.size).all fun i=>match ops[i]? with
  | none=>true
  | some o=>match o.dst with
   | none=>true
   | some d=>match posOf st i with
    | some k=>posOf hist d == some k
    | none=>posOf hist d == none
theorem chkHist_at {ops:Array Oper} {st:List Nat} {hist:List Tmp} (h:chkHist ops st hist=true) {i:Nat} {o:Oper} (ho:ops[i]? = some o) {d:Tmp} (hd:o.dst=some d):posOf hist d=posOf st i:=by
 simp only [chkHist,Qd,Qt] at h;have:=h.2 i (List.mem_range.2 (zL ho));rw [ho] at this;simp only [hd] at this
 cases hp:posOf st i with
 | none=>rw [hp] at this;simpa using this
 | some k=>rw [hp] at this;simpa using this
def chkBd (ops:Array Oper) (st bd:List Nat):Bool:=
 (List.range ops.size).all fun i=>bd.getD i st.length == st.length || match st[bd.getD i st.length]? with
  | none=>false
  | some j=>waits ops ops.size j i
theorem chkBd_at {ops:Array Oper} {st bd:List Nat} (h:chkBd ops st bd=true) {i:Nat} {o:Oper} (ho:ops[i]? = some o) {hs:List Value} (h1:hs.length≤st.length)
 (h2:∀ k j n,st[k]? = some j→waits ops n j i=true→hs.length≤k):hs.length≤bd.getD i st.length:=by
 have:=Qt.1 h i (List.mem_range.2 (zL ho));rw [Bool.or_eq_true] at this
 rcases this with this | this
 · rw [beq_iff_eq] at this;omega
 · cases hj:st[bd.getD i st.length]? with
   | none=>rw [hj] at this;cases this
   | some j=>
    rw [hj] at this;exact h2 _ j _ hj this
section
variable {P:Program} {hist:List Tmp} {GL:Tmp→Value→Prop} {ops:Array Oper} {a0:Act} {w0:World} {Q:Exit→Act→World→Prop} {st bd:List Nat} {R:List Value→World→Prop}
theorem StepsH.up (hh:chkHist ops st hist=true) (hb0:chkBd ops st bd=true) (hRt:∀ hs w w',R hs w→Turned zN w w'→R hs w'):∀ (l:List Oper) (b:Nat),(∀ j o,l[j]? = some o→ops[b+j]? = some o)→StepsH P hist GL ops a0 st bd R b l→StepsAt P (fun hs d v _=>GH hist GL hs d v) ops a0 st R (fun _ _=>True) b l:=by
 intro l
 induction l with
 | nil=>intro b _ _;trivial
 | cons o l ih=>
  intro b hb hs;refine ⟨?_,ih (b+1) (fun j x hx=>by have:=hb (j+1) x (by simpa using hx);rwa [show b+(j+1)=b+1+j from by omega] at this) hs.2⟩;have ho:ops[b]? = some o:=hb 0 o (by simp);have h1:=hs.1;unfold StepH at h1;unfold StepAt
  cases hp:posOf st b with
  | none=>
   rw [hp] at h1;intro hl hl1 hl2 a w hR hL;obtain ⟨k1,k2⟩:=h1 hl (chkBd_at hb0 ho hl1 hl2) a w hR hL
   have hg:∀ v,GDL GL o.dst v→∀ w',GD (fun d v _=>GH hist GL hl d v) o.dst v w':=by
    intro v hv w'
    cases hd:o.dst with
    | none=>trivial
    | some d=>
     rw [hd] at hv;show GH hist GL hl d v;unfold GH;rw [chkHist_at hh ho hd,hp];exact hv
   refine ⟨fun hw=>(k1 hw).mono fun v w' hv=>⟨hRt _ _ _ hR hv.1,trivial,hg v hv.2 _⟩,fun hw=>⟨hR,trivial,hg _ (k2 hw).2 _⟩⟩
  | some k=>
   rw [hp] at h1;intro hl hk a w hR hL;obtain ⟨k1,k2⟩:=h1 hl hk a w hR hL
   have hg:∀ v w',GD (fun d v _=>GH hist GL (hl++[v]) d v) o.dst v w':=by
    intro v w'
    cases hd:o.dst with
    | none=>trivial
    | some d=>
     show GH hist GL (hl++[v]) d v;unfold GH;rw [chkHist_at hh ho hd,hp];simp only;rw [←hk];simp
   refine ⟨fun hw=>(k1 hw).mono fun v w' hv=>⟨hv,trivial,?_⟩,fun hw=>⟨k2 hw,trivial,?_⟩⟩
   · have:=hg v w'
     cases hd:o.dst with
     | none=>trivial
     | some d=>rw [hd] at this;exact this
   · have:=hg undef w
     cases hd:o.dst with
     | none=>trivial
     | some d=>rw [hd] at this;exact this
end
theorem wrapI {n:Int} (h0 : -9223372036854775808≤n) (h1:n≤9223372036854775807):IntKind.i64.wrap n=n:=by rw [IntKind.wrap_i64];omega
theorem brings_append {P:Program} {w:World} {o:Oper} {a:Act} {F:Value→World→Prop} (s x:Operand) (t:TypeId)
 (ho:o.op = .call { callee:=.builtin .append,args:=#[s,x],argTypes:=#[t,t] })
 (e:TypeId) (i:TypeInfo) (z:Value) (size bytes:Nat) (ht:P.underlying t=some (.slice e)) (hi:P.info? e=some i) (hz:i.zero=some z)
 (hsize:i.size=size) (hby:i.bytes=bytes) (hzs:z.cells.size=size) (hsz:0 < size)
 (v:Value) (n:Nat) (xs:List Value) (hs:a.eval s=v) (hown:Row w e size v n xs)
 (ad:Addr) (m c:Nat) (news:List Value) (hx:a.eval x = .slice (some ad) m c) (hl:news.length=m * size) (hnews:∀ j u,news[j]? = some u→w.cell? (ad.add j)=some u) (h1:∀ u∈news,u.oneCell'=true)
 (hm:0 < m) (h63:n+m≤maxLen) (hbytes:(n+m) * bytes≤140737488355328)
 (h:∀ g cap w',Row w' e size (.slice (some ⟨g,0,none⟩) (n+m) cap) (n+m) (xs++news)→Turned (fun k=>v.ownBlock=some k) w w'→(some g=v.ownBlock∨g=w.heap.size)→F (.slice (some ⟨g,0,none⟩) (n+m) cap) w'):Brings P F ((execOp a.eval o).run P w):=by
 obtain ⟨v',w',hr,h2,h3,h4,h5⟩:=run_append_row (P:=P) w t o.type e i z size bytes ht hi hz hsize hby hzs hsz v n xs hown ad m c news hl hnews h1 h63 hbytes;obtain ⟨g,cap,rfl⟩:=h2.shape_pos (by omega);unfold execOp;simp only [ho,resolve,invoke,builtin,Sem.run_bind,Sem.run_pure,Result.andThen_ok,List.map_toArray,Qx,List.map_nil,hs,hx,hr];refine h g cap w' h2 h3 ?_
 rcases h4 with h4 | h4
 · exact .inl h4
 · exact .inr (by simpa [Value.ownBlock] using h4)
end Go.Proofs.Ytoihjobdfjajfaa
namespace Go.Proofs.Ytoihjobdfjajfaa
open Go.RowKit
def zeroR:Value:=.agg #[.int .i64 0,.int .i64 0,.string ByteArray.empty,.slice none 0 0]
theorem news_block {w:World} {g:Nat} {cs:List Value} {T:TypeId} (h:w.heap[g]? = some (.cells cs.toArray T (0,0))):∀ j u,cs[j]? = some u→w.cell? ((⟨g,0,none⟩:Addr).add j)=some u:=by
 intro j u hu;rw [Addr.add_lit,Nat.zero_add,cell_of_row w g j _ T (0,0) h];simpa using hu
theorem list2' {α:Type} {l:List α} (h:l.length=2):∃ a b,l=[a,b]:=by
 match l,h with
 | [a,b],_=>exact ⟨a,b,rfl⟩
theorem list3' {α:Type} {l:List α} (h:l.length=3):∃ a b c,l=[a,b,c]:=by
 match l,h with
 | [a,b,c],_=>exact ⟨a,b,c,rfl⟩
theorem list4' {α:Type} {l:List α} (h:l.length=4):∃ a b c d,l=[a,b,c,d]:=by
 match l,h with
 | [a,b,c,d],_=>exact ⟨a,b,c,d,rfl⟩
structure OwnI (N B2:Nat) (t:LT) (w1:World) (j:Nat) (us:List LT) (a:Option Addr) (c:Nat) (W:World):Prop where
 bares:Tm.bares us=Tm.bares (t.args.take j)
 blk:W.heap[B2]? = some (.cells #[.int .i64 t.kind,.int .i64 t.n,.string t.name,.slice a j c] 41 (0,0))
 row:Row W 41 4 (.slice a j c) j (us.flatMap LT.cells)
 ins:LT.Ins (fun k=>N≤k∧(Value.slice a j c).ownBlock≠some k) W us
 own:∀ b,(Value.slice a j c).ownBlock=some b→N≤b
 turned:Turned (fun k=>k=B2) w1 W
def OwnS (N B2:Nat) (t x:LT) (w1:World) (j:Nat) (us:List LT) (a:Option Addr) (c:Nat) (wr:World):List Value→World→Prop
 | [],W=>Turned zN wr W
 | [uv],W=>Turned zN wr W∧∃ u:LT,uv=u.val∧u.bare=x.bare∧u.In (fun k=>wr.heap.size≤k) W
 | [_,sv],W=>Turned zN wr W∧∃ (u:LT) (g:Nat),sv = .slice (some ⟨g,0,none⟩) 1 1∧u.bare=x.bare∧u.In (fun k=>wr.heap.size≤k) W∧W.heap[g]? = some (.cells u.cells.toArray 41 (0,0))
 | [_,_,av],W=>∃ (u:LT) (g cap:Nat),av = .slice (some ⟨g,0,none⟩) (j+1) cap∧u.bare=x.bare∧Row W 41 4 av (j+1) (us.flatMap LT.cells++u.cells)∧LT.In (fun k=>wr.heap.size≤k∧k≠g) W u∧Turned (fun k=>(Value.slice a j c).ownBlock=some k) wr W∧(some g=(Value.slice a j c).ownBlock∨wr.heap.size≤g)
 | [_,_,_,_],W=>∃ us' a' c',OwnI N B2 t w1 (j+1) us' a' c' W
 | _,_=>False
theorem OwnS.turned0 {N B2:Nat} {t x:LT} {w1 wr:World} {j:Nat} {us:List LT} {a:Option Addr} {c:Nat}:∀ (hs:List Value) (w w':World),OwnS N B2 t x w1 j us a c wr hs w→Turned zN w w'→OwnS N B2 t x w1 j us a c wr hs w'
 | [],w,w',h,ht=>Turned.trans h ht
 | [uv],w,w',h,ht=>by
  obtain ⟨h1,u,h2,h3,h4⟩:=h;exact ⟨h1.trans ht,u,h2,h3,h4.turned0 ht⟩
 | [_,sv],w,w',h,ht=>by
  obtain ⟨h1,u,g,h2,h3,h4,h5⟩:=h;exact ⟨h1.trans ht,u,g,h2,h3,h4.turned0 ht,(ht.block g (zL h5) (fun f=>f)).trans h5⟩
 | [_,_,av],w,w',h,ht=>by
  obtain ⟨u,g,cap,h1,h2,h3,h4,h5,h6⟩:=h;exact ⟨u,g,cap,h1,h2,h3.turned0 ht,h4.turned0 ht,h5.trans (ht.mono (fun _ _ f=>f.elim)),h6⟩
 | [_,_,_,_],w,w',h,ht=>by
  obtain ⟨us',a',c',h⟩:=h;exact ⟨us',a',c',h.bares,(ht.block B2 (zL h.blk) (fun f=>f)).trans h.blk,h.row.turned0 ht,h.ins.turned0 ht,h.own,h.turned.trans (ht.mono (fun _ _ f=>f.elim))⟩
 | _ :: _ :: _ :: _ :: _ :: _,_,_,h,_=>h.elim
theorem OwnS.blk {N B2:Nat} {t x:LT} {w1 wr:World} {j:Nat} {us:List LT} {a:Option Addr} {c:Nat} (h:OwnI N B2 t w1 j us a c wr) (hs:List Value) (W:World) (hle:hs.length≤2) (hS:OwnS N B2 t x w1 j us a c wr hs W) :
 W.cell? ⟨B2,0,none⟩=some (.int .i64 t.kind)∧W.cell? ⟨B2,1,none⟩=some (.int .i64 t.n)∧W.cell? ⟨B2,2,none⟩=some (.string t.name)∧W.cell? ⟨B2,3,none⟩=some (.slice a j c):=by
 have hT:Turned zN wr W:=by
  match hs,hle,hS with
  | [],_,h=>exact h
  | [_],_,h=>exact h.1
  | [_,_],_,h=>exact h.1
 obtain ⟨q0,q1,q2,q3,_⟩:=cells4 ((hT.block B2 (zL h.blk) (fun f=>f)).trans h.blk);exact ⟨q0,q1,q2,q3⟩
def EndS (B1:Nat) (ty:TypeId) (y:LT) (wr:World):List Value→World→Prop
 | [],W=>Turned zN wr W
 | [_],W=>W.heap[B1]? = some (.cells #[.int .i64 y.kind,.int .i64 y.n,.string y.name,.slice y.at_.1 y.args.length y.at_.2] ty (0,0))∧Turned (fun k=>k=B1) wr W
 | _,_=>False
theorem EndS.turned0 {B1:Nat} {ty:TypeId} {y:LT} {wr:World}:∀ (hs:List Value) (w w':World),EndS B1 ty y wr hs w→Turned zN w w'→EndS B1 ty y wr hs w'
 | [],_,_,h,ht=>Turned.trans h ht
 | [_],_,_,h,ht=>⟨(ht.block B1 (zL h.1) (fun f=>f)).trans h.1,h.2.trans (ht.mono (fun _ _ f=>f.elim))⟩
 | _ :: _ :: _,_,_,h,_=>h.elim
theorem two (w:World) (x y:Obj):Turned zN w ((w.alloc x).alloc y)∧((w.alloc x).alloc y).heap.size=w.heap.size+2∧((w.alloc x).alloc y).heap[w.heap.size]? = some x∧((w.alloc x).alloc y).heap[w.heap.size+1]? = some y:=
 ⟨((Turned.refl _ w).alloc _).alloc _,by simp,heap_alloc2_old w x y,heap_alloc2_new w x y⟩
end Go.Proofs.Ytoihjobdfjajfaa
namespace Go.Proofs.Ytoihjobdfjajfaa
open Go
def slotOp:List (Tmp × Nat)→Tmp→Option Nat
 | [],_=>none
 | (s,i) :: l,d=>if s == d then some i else slotOp l d
def GK (hist:List (Tmp × Nat)) (GL:Tmp→Value→Prop) (hs:List (Nat × Value)) (d:Tmp) (v:Value):Prop:=
 match slotOp hist d with
 | some i=>(i,v)∈hs
 | none=>GL d v
def StepK (P:Program) (hist:List (Tmp × Nat)) (GL:Tmp→Value→Prop) (ops:Array Oper) (a0:Act) (st:List Nat) (R:List (Nat × Value)→World→Prop) (i:Nat) (o:Oper):Prop:=
 match st.contains i with
 | false=>∀ hs,(∀ j n v,waits ops n j i=true→(j,v)∉hs)→StepG P (fun d v _=>GK hist GL hs d v) ops a0 (R hs) (fun v w w'=>Turned zN w w'∧GDL GL o.dst v) o
 | true=>∀ hs,(∀ v,(i,v)∉hs)→(∀ j n v,waits ops n j i=true→(j,v)∉hs)→StepG P (fun d v _=>GK hist GL hs d v) ops a0 (R hs) (fun v _ w'=>R (hs++[(i,v)]) w') o
def StepsK (P:Program) (hist:List (Tmp × Nat)) (GL:Tmp→Value→Prop) (ops:Array Oper) (a0:Act) (st:List Nat) (R:List (Nat × Value)→World→Prop):Nat→List Oper→Prop
 | _,[]=>True
 | i,o :: l=>StepK P hist GL ops a0 st R i o∧StepsK P hist GL ops a0 st R (i+1) l
theorem StepsK.at {P:Program} {hist:List (Tmp × Nat)} {GL:Tmp→Value→Prop} {ops:Array Oper} {a0:Act} {st:List Nat} {R:List (Nat × Value)→World→Prop} {l:List Oper} {b:Nat} (h:StepsK P hist GL ops a0 st R b l) {j:Nat} {o:Oper} (ho:l[j]? = some o):StepK P hist GL ops a0 st R (b+j) o:=by
 induction l generalizing b j with
 | nil=>simp at ho
 | cons x l ih=>
  cases j with
  | zero=>simp at ho;subst ho;exact h.1
  | succ j=>
   simp at ho;have:=ih h.2 ho
   rwa [show b+1+j=b+(j+1) from by omega] at this
def chkK (ops:Array Oper) (st:List Nat) (hist:List (Tmp × Nat)):Bool:=
 st.all (fun i=>decide (i < ops.size)) && (List.range ops.size).all fun i=>match ops[i]? with
  | none=>true
  | some o=>match o.dst with
   | none=>true
   | some d=>match st.contains i with
    | true=>slotOp hist d == some i
    | false=>slotOp hist d == none
structure InvK (ops:Array Oper) (st:List Nat) (R:List (Nat × Value)→World→Prop) (listed:Array Bool) (hs:List (Nat × Value)) (w:World):Prop where
 state:R hs w
 keys:∀ i,i∈st→(listed.getD i false=true↔∃ v,(i,v)∈hs)
 sub:∀ i v,(i,v)∈hs→i∈st
 uniq:∀ i v v',(i,v)∈hs→(i,v')∈hs→v=v'
 shut:∀ j o,ops[j]? = some o→listed.getD j false=true→∀ e∈o.after,Region.binds .any e=true→listed.getD e.on false=true
section
variable {P:Program} {hist:List (Tmp × Nat)} {GL:Tmp→Value→Prop} {ops:Array Oper} {a0:Act} {w0:World} {Q:Exit→Act→World→Prop} {st:List Nat} {R:List (Nat × Value)→World→Prop}
theorem unlisted {listed:Array Bool} {i:Nat} (h:i∈Region.ready .any ops listed):listed.getD i false=false:=by
 obtain ⟨hf,_⟩:=mem_ready.1 h;have hf':=hf;simp only [Array.getD_eq_getD_getElem?] at hf' ⊢
 cases h:listed[i]? with
 | none=>rfl
 | some b=>rw [h] at hf';simpa using hf'
theorem InvK.later {listed:Array Bool} {hs:List (Nat × Value)} {w:World} (h:InvK ops st R listed hs w) {i:Nat} (hr:i∈Region.ready .any ops listed):∀ j n v,waits ops n j i=true→(j,v)∉hs:=by
 intro j n v hw hm;have h1:=(h.keys j (h.sub j v hm)).2 ⟨v,hm⟩;have h2:=waits_listed h.shut n j i hw h1;rw [unlisted hr] at h2
 cases h2
theorem InvK.not {listed:Array Bool} {hs:List (Nat × Value)} {w:World} (h:InvK ops st R listed hs w) {i:Nat} (hr:i∈Region.ready .any ops listed):∀ v,(i,v)∉hs:=by
 intro v hm;have h1:=(h.keys i (h.sub i v hm)).2 ⟨v,hm⟩;rw [unlisted hr] at h1
 cases h1
theorem k_go (hc:chkAny ops a0.tmps.size=true) (hk:chkK ops st hist=true) (hRt:∀ hs w w',R hs w→Turned zN w w'→R hs w') (hs:StepsK P hist GL ops a0 st R 0 ops.toList)
 (hQ:∀ hs a w,(∀ i∈st,∃ v,(i,v)∈hs)→(∀ i v v',(i,v)∈hs→(i,v')∈hs→v=v')→R hs w→(∀ s,Looks (fun d v _=>GK hist GL hs d v) ops a0 a w s)→a.defers=a0.defers→a.tmps.size=a0.tmps.size→Q .normal a w) :
 ∀ (fuel:Nat) (listed:Array Bool) (a:Act) (w:World) (hs:List (Nat × Value)),listed.toList.count false≤fuel→InvK ops st R listed hs w→InvA (fun d v _=>GK hist GL hs d v) ops a0 a listed w→wpAny P .any ops Q fuel listed a w:=by
 have hk1:∀ i∈st,i < ops.size:=by
  simp only [chkK,Qd,Qt] at hk;intro i hi;simpa using hk.1 i hi
 have hk2:∀ i o d,ops[i]? = some o→o.dst=some d→slotOp hist d=(match st.contains i with | true=>some i | false=>none):=by
  intro i o d ho hd;simp only [chkK,Qd,Qt] at hk;have:=hk.2 i (List.mem_range.2 (zL ho));rw [ho] at this;simp only [hd] at this
  cases hp:st.contains i with
  | true=>rw [hp] at this;simpa using this
  | false=>rw [hp] at this;simpa using this
 intro fuel
 have hend:∀ (listed:Array Bool) (a:Act) (w:World) (hs:List (Nat × Value)),InvK ops st R listed hs w→InvA (fun d v _=>GK hist GL hs d v) ops a0 a listed w→Region.ready .any ops listed=[]→Q .normal a w:=by
  intro listed a w hs hT hI hr;have hall:=all_listed hc hI.lsize hr;refine hQ hs a w (fun i hi=>(hT.keys i hi).1 (hall i (hk1 i hi))) hT.uniq hT.state (fun s=>?_) hI.defers hI.size;unfold Looks
  split
  · rename_i hm
    obtain ⟨oj,hoj,hd⟩:=List.mem_filterMap.1 hm;obtain ⟨j,hj⟩:=List.getElem?_of_mem hoj;rw [Qv] at hj;exact hI.done j oj s hj hd (hall j (zL hj))
  · rename_i hm
    refine hI.rest s fun j oj hj hd=>absurd (List.mem_filterMap.2 ⟨oj,?_,hd⟩) hm
    exact Qf (by rw [Qv];exact hj)
 induction fuel with
 | zero=>
  intro listed a w hs' hf hT hI
  have hr:Region.ready .any ops listed=[]:=by
   apply List.eq_nil_iff_forall_not_mem.2;intro i hi;obtain ⟨hfalse,o,ho,_⟩:=mem_ready.1 hi
   have hlt:i < listed.size:=by rw [hI.lsize];exact (zL ho)
   simp [hlt] at hfalse
   have:false∈listed.toList:=by rw [←hfalse];exact Array.getElem_mem_toList hlt
   have:=List.count_pos_iff.2 this;omega
  exact ⟨hr,hend _ _ _ _ hT hI hr⟩
 | succ fuel ih=>
  intro listed a w hs' hf hT hI;refine ⟨hend _ _ _ _ hT hI,fun i hi=>?_⟩;obtain ⟨hfalse,o,ho,_⟩:=mem_ready.1 hi
  have hlt:i < listed.size:=by rw [hI.lsize];exact (zL ho)
  have hcnt:(listed.setIfInBounds i true).toList.count false≤fuel:=by
   have h1:listed.toList[i]? = some false:=by
    simp [hlt] at hfalse;rw [Qv,Array.getElem?_eq_getElem hlt,hfalse]
   have:=count_set h1;rw [Array.toList_setIfInBounds];omega
  have hst1:=hs.at (j:=i) (o:=o) (by rw [Qv];exact ho);rw [Nat.zero_add] at hst1;unfold wpOp;simp only [ho];unfold StepK at hst1
  have hli:(listed.setIfInBounds i true).getD i false=true:=by simp [hlt]
  cases hp:st.contains i with
  | false=>
   rw [hp] at hst1
   have hni:i∉st:=by intro e;rw [←List.contains_iff_mem,hp] at e;cases e
   have hst2:=hst1 hs' (hT.later hi) a w hT.state (hI.looks hc ho hi)
   have hg:∀ v,GDL GL o.dst v→∀ w',GD (fun d v _=>GK hist GL hs' d v) o.dst v w':=by
    intro v hv w'
    cases hd:o.dst with
    | none=>trivial
    | some d=>
     rw [hd] at hv;show GK hist GL hs' d v;unfold GK;rw [hk2 i o d ho hd,hp];exact hv
   have hT':∀ w',R hs' w'→InvK ops st R (listed.setIfInBounds i true) hs' w':=fun w' hR=>by
    refine ⟨hR,fun j hj=>?_,hT.sub,hT.uniq,shut_set hT.shut hI.lsize hi⟩;rw [getD_set_ne false (show i≠j from fun e=>hni (by rw [e];exact hj))];exact hT.keys j hj
   split
   · rename_i hw
     refine .inl ?_
     exact Brings.upon (hst2.1 hw) fun v w' hv=>ih _ _ _ hs' hcnt (hT' _ (hRt _ _ _ hT.state hv.1)) (hI.stepG hc (fun d v h=>h) ho (hg _ hv.2 _))
   · rename_i hw
     have:=hst2.2 (by simpa using hw);exact ih _ _ _ hs' hcnt (hT' _ hT.state) (hI.stepG hc (fun d v h=>h) ho (hg _ this.2 _))
  | true=>
   rw [hp] at hst1
   have hni:i∈st:=by rw [←List.contains_iff_mem];exact hp
   have hst2:=hst1 hs' (hT.not hi) (hT.later hi) a w hT.state (hI.looks hc ho hi)
   have hg2:∀ v w',GD (fun d u _=>GK hist GL (hs'++[(i,v)]) d u) o.dst v w':=by
    intro v w'
    cases hd:o.dst with
    | none=>trivial
    | some d=>
     show GK hist GL (hs'++[(i,v)]) d v;unfold GK;rw [hk2 i o d ho hd,hp];simp
   have hmono:∀ v d u,GK hist GL hs' d u→GK hist GL (hs'++[(i,v)]) d u:=by
    intro v d u h;unfold GK at h ⊢
    split at h
    · exact Qc _ h
    · exact h
   have hT':∀ v w',R (hs'++[(i,v)]) w'→InvK ops st R (listed.setIfInBounds i true) (hs'++[(i,v)]) w':=fun v w' hR=>by
    refine ⟨hR,fun j hj=>?_,fun j u hm=>?_,fun j u u' h1 h2=>?_,shut_set hT.shut hI.lsize hi⟩
    · by_cases e:j=i
      · subst e
        rw [hli];exact ⟨fun _=>⟨v,by simp⟩,fun _=>rfl⟩
      · rw [getD_set_ne false (Ne.symm e),hT.keys j hj]
        constructor
        · rintro ⟨u,hu⟩;exact ⟨u,Qc _ hu⟩
        · rintro ⟨u,hu⟩
          rcases Qn.1 hu with hu | hu
          · exact ⟨u,hu⟩
          · simp at hu;exact absurd hu.1 e
    · rcases Qn.1 hm with hm | hm
      · exact hT.sub j u hm
      · simp at hm;rw [hm.1];exact hni
    · rcases Qn.1 h1 with h1 | h1 <;> rcases Qn.1 h2 with h2 | h2
      · exact hT.uniq j u u' h1 h2
      · simp at h2;rw [h2.1] at h1;exact absurd h1 (hT.not hi _)
      · simp at h1;rw [h1.1] at h2;exact absurd h2 (hT.not hi _)
      · simp at h1 h2;rw [h1.2,h2.2]
   split
   · rename_i hw
     refine .inl ?_
     exact Brings.upon (hst2.1 hw) fun v w' hv=>ih _ _ _ (hs'++[(i,v)]) hcnt (hT' v _ hv) (hI.stepG hc (fun d u h=>hmono v d u h) ho (hg2 v w'))
   · rename_i hw
     have:=hst2.2 (by simpa using hw);exact ih _ _ _ (hs'++[(i,undef)]) hcnt (hT' undef _ this) (hI.stepG hc (fun d u h=>hmono undef d u h) ho (hg2 undef w))
theorem wp_region_k {id:Nat} (dl:List Tmp) (st:List Nat) (hist:List (Tmp × Nat)) (GL:Tmp→Value→Prop) (R:List (Nat × Value)→World→Prop) (hdl:ops.toList.filterMap (·.dst)=dl) (hm:P.follows .mixedOrders=true) (hc:chkAny ops a0.tmps.size=true) (hk:chkK ops st hist=true)
 (hR0:∀ w,Turned zN w0 w→R [] w) (hRt:∀ hs w w',R hs w→Turned zN w w'→R hs w') (hs:StepsK P hist GL ops a0 st R 0 ops.toList)
 (hQ:∀ (hs:List (Nat × Value)) (vs:Tmp→Value) w,(∀ i∈st,∃ v,(i,v)∈hs)→(∀ i v v',(i,v)∈hs→(i,v')∈hs→v=v')→R hs w→(∀ s∈dl,GK hist GL hs s (vs s))→Q .normal ⟨dl.foldl (fun t d=>t.setIfInBounds d (vs d)) a0.tmps,a0.defers⟩ w):(Code.region id ops true).wp P Q a0 w0:=by
 refine wp_region_any hm (k_go hc hk hRt hs ?_ _ _ _ _ [] ?_ ⟨hR0 _ ((Turned.refl _ w0).drew),fun i hi=>?_,fun i v h=>(Ql h).elim,fun i v v' h=>(Ql h).elim,fun j o ho hj=>?_⟩ ?_)
 · intro hs a w hall huniq hR hL hd hsz
   have:=hQ hs (fun d=>a.tmps.getD d undef) w hall huniq hR (fun s hs=>by
    have:=hL s;unfold Looks at this;rw [hdl,if_pos hs] at this
    exact this)
   have e:a=⟨dl.foldl (fun t d=>t.setIfInBounds d (a.tmps.getD d undef)) a0.tmps,a0.defers⟩:=by
    cases a with | mk tmps defers=>
    simp only at hd hsz this ⊢;subst hd;congr 1;apply Array.ext
    · rw [fold_size];exact hsz
    · intro i h1 h2
      have h3:i < a0.tmps.size:=by rw [←hsz];exact h1
      have hf:=fold_getD (fun d=>tmps.getD d undef) dl a0.tmps i h3;have hl:=hL i;unfold Looks at hl;rw [hdl] at hl;have e1:=getD_lt tmps i h1;have e2:=getD_lt _ i h2;rw [←e1,←e2,hf]
      by_cases hm:i∈dl
      · rw [if_pos hm]
      · rw [if_neg hm] at hl ⊢
        exact hl
   rw [e];exact this
 · rw [Array.toList_replicate,List.count_replicate_self]
   exact Qm _
 · constructor
   · intro h
     exfalso;simp only [Array.getD_eq_getD_getElem?] at h
     cases hx:(Array.replicate ops.size false)[i]? with
     | none=>rw [hx] at h;cases h
     | some b=>
      rw [hx] at h;rw [Array.getElem?_replicate] at hx
      split at hx
      · injection hx with hx;subst hx;cases h
      · cases hx
   · rintro ⟨v,h⟩;exact (Ql h).elim
 · have hlt:=(zL ho)
   simp [hlt] at hj
 · refine ⟨rfl,rfl,by simp,fun j oj d hj hd hl=>?_,fun d _=>rfl⟩
   have hlt:=(zL hj);simp [hlt] at hl
end
end Go.Proofs.Ytoihjobdfjajfaa
namespace Go.Proofs.Ytoihjobdfjajfaa
open Go.RowKit
abbrev Hist:=List (Nat × Value)
def ptr (g:Nat):Value:=.pointer (some ⟨g,0,none⟩)
theorem ptr_inj {a b:Nat} (h:ptr a=ptr b):a=b:=by unfold ptr at h;injection h with h;injection h with h;injection h
structure Side (n0 ic ia is:Nat) (t:LT) (hs:Hist) (W:World):Prop where
 call:∀ v,(ic,v)∈hs→∃ u:LT,v=u.val∧u.bare=t.bare∧u.In (fun k=>n0≤k∧(4,ptr k)∉hs∧(5,ptr k)∉hs) W
 box:∀ v,(ia,v)∈hs→∃ g c0 c1 c2 c3,v=ptr g∧n0≤g∧W.heap[g]? = some (.cells #[c0,c1,c2,c3] 41 (0,0))∧∀ q va,(is,q)∈hs→(ic,va)∈hs→va = .agg #[c0,c1,c2,c3]
theorem mem_snoc {hs:Hist} {i j:Nat} {x v:Value} (h:(j,v)∈hs++[(i,x)]):(j,v)∈hs∨(j=i∧v=x):=by
 rcases Qn.1 h with h | h
 · exact .inl h
 · simp at h;exact .inr h
section
variable {n0 ic ia is:Nat} {t:LT} {hs:Hist} {W W':World}
theorem Side.turned0 (h:Side n0 ic ia is t hs W) (T:Turned zN W W'):Side n0 ic ia is t hs W':=by
 refine ⟨fun v hv=>?_,fun v hv=>?_⟩
 · obtain ⟨u,h1,h2,h3⟩:=h.call v hv
   exact ⟨u,h1,h2,h3.turned0 T⟩
 · obtain ⟨g,c0,c1,c2,c3,h1,h2,h3,h4⟩:=h.box v hv
   exact ⟨g,c0,c1,c2,c3,h1,h2,(T.block g (zL h3) (fun f=>f)).trans h3,h4⟩
theorem Side.called {u:LT} (h:Side n0 ic ia is t hs W) (hd:ic≠ia∧ic≠is∧ic≠4∧ic≠5) (hno:∀ v,(ic,v)∉hs) (hst:∀ q,(is,q)∉hs) (T:Turned zN W W') (hn:n0≤W.heap.size) (hb:u.bare=t.bare) (hu:u.In (fun k=>W.heap.size≤k) W')
 (hbox:∀ k,(4,ptr k)∈hs∨(5,ptr k)∈hs→k < W.heap.size):Side n0 ic ia is t (hs++[(ic,u.val)]) W':=by
 refine ⟨fun v hv=>?_,fun v hv=>?_⟩
 · rcases mem_snoc hv with hm | ⟨_,e⟩
   · exact absurd hm (hno v)
   · refine ⟨u,e,hb,hu.mono (fun k _ hk=>⟨by omega,fun hm=>?_,fun hm=>?_⟩)⟩
     · rcases mem_snoc hm with hm | ⟨e,_⟩
       · have:=hbox k (.inl hm);omega
       · exact hd.2.2.1 e.symm
     · rcases mem_snoc hm with hm | ⟨e,_⟩
       · have:=hbox k (.inr hm);omega
       · exact hd.2.2.2 e.symm
 · rcases mem_snoc hv with hm | ⟨e,_⟩
   · obtain ⟨g,c0,c1,c2,c3,h1,h2,h3,h4⟩:=h.box v hm
     refine ⟨g,c0,c1,c2,c3,h1,h2,(T.block g (zL h3) (fun f=>f)).trans h3,fun q va hq hva=>?_⟩
     rcases mem_snoc hq with hq | ⟨e,_⟩
     · exact absurd hq (hst q)
     · exact absurd e.symm hd.2.1
   · exact absurd e.symm hd.1
theorem Side.laid {c0 c1 c2 c3:Value} (h:Side n0 ic ia is t hs W) (hd:ia≠ic∧ia≠is) (hno:∀ v,(ia,v)∉hs) (hst:∀ q,(is,q)∉hs) (hn:n0≤W.heap.size):Side n0 ic ia is t (hs++[(ia,ptr W.heap.size)]) (W.alloc (.cells #[c0,c1,c2,c3] 41)):=by
 have T:Turned zN W (W.alloc (.cells #[c0,c1,c2,c3] 41)):=(Turned.refl _ W).alloc _;refine ⟨fun v hv=>?_,fun v hv=>?_⟩
 · rcases mem_snoc hv with hm | ⟨e,_⟩
   · obtain ⟨u,h1,h2,h3⟩:=h.call v hm
     refine ⟨u,h1,h2,h3.turned T (fun _ _ _ f=>f) (fun k hl hk=>⟨hk.1,fun hm=>?_,fun hm=>?_⟩)⟩
     · rcases mem_snoc hm with hm | ⟨_,e⟩
       · exact hk.2.1 hm
       · have:=ptr_inj e;omega
     · rcases mem_snoc hm with hm | ⟨_,e⟩
       · exact hk.2.2 hm
       · have:=ptr_inj e;omega
   · exact absurd e.symm hd.1
 · rcases mem_snoc hv with hm | ⟨_,e⟩
   · exact absurd hm (hno v)
   · refine ⟨W.heap.size,c0,c1,c2,c3,e,hn,heap_alloc_new W _,fun q va hq hva=>?_⟩
     rcases mem_snoc hq with hq | ⟨e,_⟩
     · exact absurd hq (hst q)
     · exact absurd e.symm hd.2
theorem Side.stored {g:Nat} {c0 c1 c2 c3 x:Value} (h:Side n0 ic ia is t hs W) (hd:is≠ic∧is≠ia∧is≠4∧is≠5) (hia:ia=4∨ia=5) (uq:∀ i v v',(i,v)∈hs→(i,v')∈hs→v=v') (hg:(ia,ptr g)∈hs) (hc:(ic,.agg #[c0,c1,c2,c3])∈hs)
 (hW:Turned (fun k=>k=g) W W') (hb:W'.heap[g]? = some (.cells #[c0,c1,c2,c3] 41 (0,0))):Side n0 ic ia is t (hs++[(is,x)]) W':=by
 have hbk:∀ j v,j≠is→(j,v)∈hs++[(is,x)]→(j,v)∈hs:=fun j v hj hm=>by
  rcases mem_snoc hm with hm | ⟨e,_⟩
  · exact hm
  · exact absurd e hj
 refine ⟨fun v hv=>?_,fun v hv=>?_⟩
 · obtain ⟨u,h1,h2,h3⟩:=h.call v (hbk _ _ (Ne.symm hd.1) hv)
   refine ⟨u,h1,h2,h3.turned hW (fun k _ hk e=>?_) (fun k _ hk=>⟨hk.1,fun hm=>hk.2.1 (hbk _ _ (Ne.symm hd.2.2.1) hm),fun hm=>hk.2.2 (hbk _ _ (Ne.symm hd.2.2.2) hm)⟩)⟩;subst e
   rcases hia with e | e
   · rw [e] at hg;exact hk.2.1 hg
   · rw [e] at hg;exact hk.2.2 hg
 · have hv':=hbk _ _ (Ne.symm hd.2.1) hv
   obtain ⟨g',d0,d1,d2,d3,h1,h2,h3,h4⟩:=h.box v hv';have e:=ptr_inj (h1.symm.trans (uq _ _ _ hv' hg));subst e;exact ⟨g',c0,c1,c2,c3,h1,h2,hb,fun q va hq hva=>uq _ _ _ (hbk _ _ (Ne.symm hd.1) hva) hc⟩
end
structure TwinS (w0:World) (a b:LT) (hs:Hist) (W:World):Prop where
 turned:Turned zN w0 W
 one:Side w0.heap.size 1 4 6 a hs W
 two:Side w0.heap.size 3 5 7 b hs W
 apart:∀ v v',(4,v)∈hs→(5,v')∈hs→v≠v'
 uniq:∀ i v v',(i,v)∈hs→(i,v')∈hs→v=v'
section
variable {w0:World} {a b:LT} {hs:Hist} {W W':World}
theorem TwinS.start (T:Turned zN w0 W):TwinS w0 a b [] W:=
 ⟨T,⟨fun _ h=>(Ql h).elim,fun _ h=>(Ql h).elim⟩,⟨fun _ h=>(Ql h).elim,fun _ h=>(Ql h).elim⟩,fun _ _ h=>(Ql h).elim,fun _ _ _ h=>(Ql h).elim⟩
theorem TwinS.turned0 (h:TwinS w0 a b hs W) (T:Turned zN W W'):TwinS w0 a b hs W':=⟨h.turned.trans T,h.one.turned0 T,h.two.turned0 T,h.apart,h.uniq⟩
theorem TwinS.boxes (h:TwinS w0 a b hs W):∀ k,(4,ptr k)∈hs∨(5,ptr k)∈hs→k < W.heap.size:=by
 intro k hk
 rcases hk with hk | hk
 · obtain ⟨g,_,_,_,_,h1,_,h3,_⟩:=h.one.box _ hk
   rw [ptr_inj h1];exact (zL h3)
 · obtain ⟨g,_,_,_,_,h1,_,h3,_⟩:=h.two.box _ hk
   rw [ptr_inj h1];exact (zL h3)
theorem TwinS.cells4 (h:TwinS w0 a b hs W) {v:Value} (hm:(4,v)∈hs∨(5,v)∈hs):∃ g,v = .pointer (some ⟨g,0,none⟩)∧(∃ c0 c1 c2 c3,W.cell? ⟨g,0,none⟩=some c0∧W.cell? ⟨g,1,none⟩=some c1∧W.cell? ⟨g,2,none⟩=some c2∧W.cell? ⟨g,3,none⟩=some c3)∧W.frozen? ⟨g,0,none⟩=false∧W.frozen? ⟨g,1,none⟩=false∧W.frozen? ⟨g,2,none⟩=false∧W.frozen? ⟨g,3,none⟩=false:=by
 have:∃ g c0 c1 c2 c3,v=ptr g∧W.heap[g]? = some (.cells #[c0,c1,c2,c3] 41 (0,0)):=by
  rcases hm with hm | hm
  · obtain ⟨g,c0,c1,c2,c3,h1,_,h3,_⟩:=h.one.box v hm
    exact ⟨g,c0,c1,c2,c3,h1,h3⟩
  · obtain ⟨g,c0,c1,c2,c3,h1,_,h3,_⟩:=h.two.box v hm
    exact ⟨g,c0,c1,c2,c3,h1,h3⟩
 obtain ⟨g,c0,c1,c2,c3,h1,h3⟩:=this;obtain ⟨q0,q1,q2,q3,f0,f1,f2,f3⟩:=Go.Proofs.Ytoihjobdfjajfaa.cells4 h3;exact ⟨g,h1,⟨c0,c1,c2,c3,q0,q1,q2,q3⟩,f0,f1,f2,f3⟩
theorem TwinS.done (h:TwinS w0 a b hs W) (hall:∀ i∈[1,3,4,5,6,7],∃ v,(i,v)∈hs) {v5 v6:Value} (h5:(4,v5)∈hs) (h6:(5,v6)∈hs) :
 ∃ (x y:LT) (gx gy:Nat),v5 = .pointer (some ⟨gx,0,none⟩)∧v6 = .pointer (some ⟨gy,0,none⟩)∧x.bare=a.bare∧y.bare=b.bare∧w0.heap.size≤gx∧w0.heap.size≤gy∧gx≠gy∧
  W.heap[gx]? = some (.cells #[.int .i64 x.kind,.int .i64 x.n,.string x.name,.slice x.at_.1 x.args.length x.at_.2] 41 (0,0))∧W.heap[gy]? = some (.cells #[.int .i64 y.kind,.int .i64 y.n,.string y.name,.slice y.at_.1 y.args.length y.at_.2] 41 (0,0))∧
  x.In (fun k=>w0.heap.size≤k∧k≠gx∧k≠gy) W∧y.In (fun k=>w0.heap.size≤k∧k≠gx∧k≠gy) W:=by
 obtain ⟨va,ha⟩:=hall 1 (by simp);obtain ⟨vb,hb⟩:=hall 3 (by simp);obtain ⟨q6,hq6⟩:=hall 6 (by simp);obtain ⟨q7,hq7⟩:=hall 7 (by simp);obtain ⟨gx,c0,c1,c2,c3,e1,n1,b1,s1⟩:=h.one.box _ h5;obtain ⟨gy,d0,d1,d2,d3,e2,n2,b2,s2⟩:=h.two.box _ h6;obtain ⟨x,rfl,hx,ix⟩:=h.one.call _ ha;obtain ⟨y,rfl,hy,iy⟩:=h.two.call _ hb;have t1:=s1 q6 _ hq6 ha;have t2:=s2 q7 _ hq7 hb;rw [LT.val_eq] at t1 t2
 injection t1 with t1
 injection t2 with t2
 rw [←t1] at b1;rw [←t2] at b2;subst e1 e2;refine ⟨x,y,gx,gy,rfl,rfl,hx,hy,n1,n2,fun e=>h.apart _ _ h5 h6 (by rw [e]),b1,b2,ix.mono (fun k _ hk=>⟨hk.1,fun e=>hk.2.1 (by rw [e];exact h5),fun e=>hk.2.2 (by rw [e];exact h6)⟩),iy.mono (fun k _ hk=>⟨hk.1,fun e=>hk.2.1 (by rw [e];exact h5),fun e=>hk.2.2 (by rw [e];exact h6)⟩)⟩
end
def OneS (wr:World) (t:LT):List Value→World→Prop
 | [],W=>Turned zN wr W
 | [uv],W=>Turned zN wr W∧∃ u:LT,uv=u.val∧u.bare=t.bare∧u.In (fun _=>True) W
 | _,_=>False
theorem OneS.turned {wr:World} {t:LT}:∀ (hs:List Value) (W:World),OneS wr t hs W→Turned zN wr W
 | [],_,h=>h
 | [_],_,h=>h.1
 | _ :: _ :: _,_,h=>h.elim
theorem OneS.turned0 {wr:World} {t:LT}:∀ (hs:List Value) (w w':World),OneS wr t hs w→Turned zN w w'→OneS wr t hs w'
 | [],_,_,h,ht=>Turned.trans h ht
 | [_],_,_,h,ht=>by obtain ⟨h1,u,h2,h3,h4⟩:=h;exact ⟨h1.trans ht,u,h2,h3,h4.turned0 ht⟩
 | _ :: _ :: _,_,_,h,_=>h.elim
theorem OneS.at {wr W:World} {t:LT} {hs:List Value} (h:OneS wr t hs W) {v:Value} (hv:hs[0]? = some v):∃ u:LT,v=u.val∧u.bare=t.bare∧u.In (fun _=>True) W:=by
 match hs,h,hv with
 | [_],h,hv=>simp at hv;subst hv;exact h.2
def VarsS (wr:World) (xs:List Int):List Value→World→Prop
 | [],W=>Turned zN wr W
 | [v],W=>Turned zN wr W∧Row W 2 1 v xs.length (xs.map (Value.int .i64))
 | [v,v'],W=>Turned zN wr W∧Row W 2 1 v xs.length (xs.map (Value.int .i64))∧Row W 2 1 v' xs.length (xs.map (Value.int .i64))
 | _,_=>False
theorem VarsS.turned {wr:World} {xs:List Int}:∀ (hs:List Value) (W:World),VarsS wr xs hs W→Turned zN wr W
 | [],_,h=>h
 | [_],_,h=>h.1
 | [_,_],_,h=>h.1
 | _ :: _ :: _ :: _,_,h=>h.elim
theorem VarsS.turned0 {wr:World} {xs:List Int}:∀ (hs:List Value) (w w':World),VarsS wr xs hs w→Turned zN w w'→VarsS wr xs hs w'
 | [],_,_,h,ht=>Turned.trans h ht
 | [_],_,_,h,ht=>⟨h.1.trans ht,h.2.turned0 ht⟩
 | [_,_],_,_,h,ht=>⟨h.1.trans ht,h.2.1.turned0 ht,h.2.2.turned0 ht⟩
 | _ :: _ :: _ :: _,_,_,h,_=>h.elim
structure SaysI (A B gx gy bT bE:Nat) (a b x y tl en:LT) (us vs:List LT) (lv mv:Value) (W:World):Prop where
 ca:(W.cell? ⟨A,0,none⟩=some (.int .i64 a.kind)∧W.cell? ⟨A,1,none⟩=some (.int .i64 a.n)∧W.cell? ⟨A,2,none⟩=some (.string a.name)∧W.cell? ⟨A,3,none⟩=some (.slice a.at_.1 a.args.length a.at_.2))
 cb:(W.cell? ⟨B,0,none⟩=some (.int .i64 b.kind)∧W.cell? ⟨B,1,none⟩=some (.int .i64 b.n)∧W.cell? ⟨B,2,none⟩=some (.string b.name)∧W.cell? ⟨B,3,none⟩=some (.slice b.at_.1 b.args.length b.at_.2))
 cx:(W.cell? ⟨gx,0,none⟩=some (.int .i64 x.kind)∧W.cell? ⟨gx,1,none⟩=some (.int .i64 x.n)∧W.cell? ⟨gx,2,none⟩=some (.string x.name)∧W.cell? ⟨gx,3,none⟩=some (.slice x.at_.1 x.args.length x.at_.2))
 cy:(W.cell? ⟨gy,0,none⟩=some (.int .i64 y.kind)∧W.cell? ⟨gy,1,none⟩=some (.int .i64 y.n)∧W.cell? ⟨gy,2,none⟩=some (.string y.name)∧W.cell? ⟨gy,3,none⟩=some (.slice y.at_.1 y.args.length y.at_.2))
 ct:(W.cell? ⟨bT,0,none⟩=some (.int .i64 tl.kind)∧W.cell? ⟨bT,1,none⟩=some (.int .i64 tl.n)∧W.cell? ⟨bT,2,none⟩=some (.string tl.name)∧W.cell? ⟨bT,3,none⟩=some (.slice tl.at_.1 tl.args.length tl.at_.2))
 ce:(W.cell? ⟨bE,0,none⟩=some (.int .i64 en.kind)∧W.cell? ⟨bE,1,none⟩=some (.int .i64 en.n)∧W.cell? ⟨bE,2,none⟩=some (.string en.name)∧W.cell? ⟨bE,3,none⟩=some (.slice en.at_.1 en.args.length en.at_.2))
 ia:a.In (fun _=>True) W
 ib:b.In (fun _=>True) W
 ix:x.In (fun _=>True) W
 iy:y.In (fun _=>True) W
 it:tl.In (fun _=>True) W
 ie:en.In (fun _=>True) W
 iu:∀ u∈us,LT.In (fun _=>True) W u
 iv:∀ u∈vs,LT.In (fun _=>True) W u
 rl:Row W 27 4 lv us.length (us.flatMap LT.cells)
 rm:Row W 41 4 mv vs.length (vs.flatMap LT.cells)
theorem SaysI.turned0 {A B gx gy bT bE:Nat} {a b x y tl en:LT} {us vs:List LT} {lv mv:Value} {W W':World} (h:SaysI A B gx gy bT bE a b x y tl en us vs lv mv W) (T:Turned zN W W'):SaysI A B gx gy bT bE a b x y tl en us vs lv mv W':=
 ⟨⟨T.cell0 h.ca.1,T.cell0 h.ca.2.1,T.cell0 h.ca.2.2.1,T.cell0 h.ca.2.2.2⟩,⟨T.cell0 h.cb.1,T.cell0 h.cb.2.1,T.cell0 h.cb.2.2.1,T.cell0 h.cb.2.2.2⟩,⟨T.cell0 h.cx.1,T.cell0 h.cx.2.1,T.cell0 h.cx.2.2.1,T.cell0 h.cx.2.2.2⟩,⟨T.cell0 h.cy.1,T.cell0 h.cy.2.1,T.cell0 h.cy.2.2.1,T.cell0 h.cy.2.2.2⟩,⟨T.cell0 h.ct.1,T.cell0 h.ct.2.1,T.cell0 h.ct.2.2.1,T.cell0 h.ct.2.2.2⟩,⟨T.cell0 h.ce.1,T.cell0 h.ce.2.1,T.cell0 h.ce.2.2.1,T.cell0 h.ce.2.2.2⟩,
  h.ia.turned0 T,h.ib.turned0 T,h.ix.turned0 T,h.iy.turned0 T,h.it.turned0 T,h.ie.turned0 T,fun u hu=>(h.iu u hu).turned0 T,fun u hu=>(h.iv u hu).turned0 T,h.rl.turned0 T,h.rm.turned0 T⟩
theorem row_at {w:World} {ty:TypeId} {la:Option Addr} {n c:Nat} {us:List LT} (h:Row w ty 4 (.slice la n c) n (us.flatMap LT.cells)) {j:Nat} {u:LT} (hj:us[j]? = some u):∃ g,la=some ⟨g,0,none⟩∧w.cell? ⟨g,j * 4,none⟩=some (.int .i64 u.kind)∧w.cell? ⟨g,j * 4+1,none⟩=some (.int .i64 u.n)∧w.cell? ⟨g,j * 4+2,none⟩=some (.string u.name)∧w.cell? ⟨g,j * 4+3,none⟩=some (.slice u.at_.1 u.args.length u.at_.2):=by
 have hn:n=us.length:=by have:=h.1;rw [LT.flat_length] at this;omega
 obtain ⟨g,q,e⟩:=h.shape_pos (by have:=(Qg.1 hj).1;omega)
 injection e with e1 _ e2
 subst e1 e2;refine ⟨g,rfl,?_,?_,?_,?_⟩
 · have:=LT.flat_at hj 0 (by omega);rw [Nat.add_zero] at this;exact h.cells rfl _ _ (by rw [this,LT.cells_eq];rfl)
 · exact h.cells rfl _ _ (by rw [LT.flat_at hj 1 (by omega),LT.cells_eq];rfl)
 · exact h.cells rfl _ _ (by rw [LT.flat_at hj 2 (by omega),LT.cells_eq];rfl)
 · exact h.cells rfl _ _ (by rw [LT.flat_at hj 3 (by omega),LT.cells_eq];rfl)
theorem twoBox (w:World) (x y:Obj):Turned zN w ((w.alloc x).alloc y)∧((w.alloc x).alloc y).heap.size=w.heap.size+2∧((w.alloc x).alloc y).heap[w.heap.size]? = some x∧((w.alloc x).alloc y).heap[w.heap.size+1]? = some y:=
 ⟨((Turned.refl _ w).alloc _).alloc _,by simp,heap_alloc2_old w x y,heap_alloc2_new w x y⟩
end Go.Proofs.Ytoihjobdfjajfaa
namespace Go.Proofs.Ytoihjobdfjajfaa
namespace Tm
mutual
theorem bare_unit:∀ t:Tm Unit,t.bare=t
 | .mk k n s e aa=>by simp only [bare,bares_unit aa]
theorem bares_unit:∀ l:List (Tm Unit),bares l=l
 | []=>rfl
 | x :: l=>by simp only [bares,bare_unit x,bares_unit l]
end
end Tm
theorem sizes_take {α:Type} (l:List (Tm α)) (j:Nat):Tm.sizes (l.take j)≤Tm.sizes l:=by
 have h:=Tm.sizes_append (l.take j) (l.drop j);rw [List.take_append_drop] at h;omega
namespace Tm
def V (n:Int):Tm Unit:=.mk 0 n ByteArray.empty () []
mutual
def subT (σ:Int→Tm Unit):Tm Unit→Tm Unit
 | .mk k n s e aa=>if k=0 then σ n else .mk k n s e (subTs σ aa)
def subTs (σ:Int→Tm Unit):List (Tm Unit)→List (Tm Unit)
 | []=>[]
 | x :: l=>subT σ x :: subTs σ l
end
theorem subTs_eq (σ:Int→Tm Unit) (l:List (Tm Unit)):subTs σ l=l.map (subT σ):=by
 induction l with
 | nil=>rfl
 | cons x l ih=>simp only [subTs,Qx,ih]
def leafy (t:Tm Unit):Prop:=∀ x∈t.flat,x.kind=0→x=V x.n
theorem leafy_args {k n:Int} {s:ByteArray} {aa:List (Tm Unit)} (h:leafy (.mk k n s () aa)):∀ x∈aa,leafy x:=by
 intro x hx y hy;refine h y ?_;rw [flat_eq];refine Qb _ ?_;clear h
 induction aa with
 | nil=>cases hx
 | cons z aa ih=>
  simp only [args,flats,Qn] at ih ⊢
  rcases Qw.1 hx with rfl | hx
  · exact .inl hy
  · exact .inr (ih hx)
theorem leafy_good {t:Tm Unit} (h:∀ x∈t.flat,goodOneB x=true):leafy t:=by
 intro x hx hk;have:=h x hx;rw [goodOneB_0 x hk] at this;simp only [Qd,decide_eq_true_eq] at this;obtain ⟨_,_,h3,h4⟩:=this
 cases x with | mk k n s e aa=>
 simp only [kind] at hk;simp only [name] at h3;simp only [args] at h4;have:aa=[]:=Qh h4;subst this;have hs:s=ByteArray.empty:=(bytes_nil s).1 h3;subst hs hk;rfl
def numsIn (t:Tm Unit) (n:Int):Prop:=∃ x∈t.flat,x.kind=0∧x.n=n
mutual
theorem subT_congr {σ τ:Int→Tm Unit}:∀ t:Tm Unit,(∀ x∈t.flat,x.kind=0→σ x.n=τ x.n)→subT σ t=subT τ t
 | .mk k n s e aa,h=>by
  by_cases hk:k=0
  · have:=h (.mk k n s e aa) (by rw [flat_eq];exact Qe ..) hk
    simp only [subT,if_pos hk];exact this
  · simp only [subT,if_neg hk]
    rw [subTs_congr aa (fun x hx=>h x (by rw [flat_eq];exact Qb _ hx))]
theorem subTs_congr {σ τ:Int→Tm Unit}:∀ l:List (Tm Unit),(∀ x∈flats l,x.kind=0→σ x.n=τ x.n)→subTs σ l=subTs τ l
 | [],_=>rfl
 | x :: l,h=>by
  simp only [subTs];rw [subT_congr x (fun y hy=>h y (by simp only [flats];exact Qc _ hy)),subTs_congr l (fun y hy=>h y (by simp only [flats];exact Qj _ hy))]
end
mutual
theorem subT_subT {σ τ:Int→Tm Unit}:∀ t:Tm Unit,subT τ (subT σ t)=subT (fun n=>subT τ (σ n)) t
 | .mk k n s e aa=>by
  by_cases hk:k=0
  · simp only [subT,if_pos hk]
  · simp only [subT,if_neg hk,subTs_subTs aa]
theorem subTs_subTs {σ τ:Int→Tm Unit}:∀ l:List (Tm Unit),subTs τ (subTs σ l)=subTs (fun n=>subT τ (σ n)) l
 | []=>rfl
 | x :: l=>by simp only [subTs,subT_subT x,subTs_subTs l]
end
mutual
theorem subT_V:∀ t:Tm Unit,leafy t→subT V t=t
 | .mk k n s e aa,h=>by
  by_cases hk:k=0
  · have:=h (.mk k n s e aa) (by rw [flat_eq];exact Qe ..) hk
    simp only [subT,if_pos hk];exact this.symm
  · simp only [subT,if_neg hk]
    rw [subTs_V aa (fun x hx=>h x (by rw [flat_eq];exact Qb _ hx))]
theorem subTs_V:∀ l:List (Tm Unit),(∀ x∈flats l,x.kind=0→x=V x.n)→subTs V l=l
 | [],_=>rfl
 | x :: l,h=>by
  simp only [subTs];rw [subT_V x (fun y hy=>h y (by simp only [flats];exact Qc _ hy)),subTs_V l (fun y hy=>h y (by simp only [flats];exact Qj _ hy))]
end
def ren (s:Int→Int) (t:Tm Unit):Tm Unit:=subT (fun n=>V (s n)) t
def rens (s:Int→Int) (l:List (Tm Unit)):List (Tm Unit):=subTs (fun n=>V (s n)) l
mutual
theorem flat_ren (s:Int→Int):∀ t:Tm Unit,leafy t→(ren s t).flat=t.flat.map (ren s)
 | .mk k n nm e aa,h=>by
  by_cases hk:k=0
  · have:=h (.mk k n nm e aa) (by rw [flat_eq];exact Qe ..) hk
    rw [this];simp only [Tm.n,V,flat,flats,ren,subT,if_pos,Qx,List.map_nil]
  · have hr:ren s (.mk k n nm e aa) = .mk k n nm e (rens s aa):=by unfold ren rens;simp only [subT,if_neg hk]
    rw [flat_eq (.mk k n nm e aa),Qx,hr,flat];congr 1;exact flats_ren s aa (fun x hx=>h x (by rw [flat_eq];exact Qb _ hx))
theorem flats_ren (s:Int→Int):∀ l:List (Tm Unit),(∀ x∈flats l,x.kind=0→x=V x.n)→flats (rens s l)=(flats l).map (ren s)
 | [],_=>rfl
 | x :: l,h=>by
  show flats (ren s x :: rens s l)=_;simp only [flats,List.map_append];rw [flat_ren s x (fun y hy=>h y (by simp only [flats];exact Qc _ hy)),flats_ren s l (fun y hy=>h y (by simp only [flats];exact Qj _ hy))]
end
theorem size_ren (s:Int→Int) {t:Tm Unit} (h:leafy t):(ren s t).size=t.size:=by rw [←flat_length,flat_ren s t h,Qu,flat_length]
mutual
theorem depth_ren (s:Int→Int):∀ t:Tm Unit,leafy t→(ren s t).depth=t.depth
 | .mk k n nm e aa,h=>by
  by_cases hk:k=0
  · have:=h (.mk k n nm e aa) (by rw [flat_eq];exact Qe ..) hk
    rw [this];simp only [Tm.n,V,ren,subT,if_pos,depth,depths]
  · have hr:ren s (.mk k n nm e aa) = .mk k n nm e (rens s aa):=by unfold ren rens;simp only [subT,if_neg hk]
    rw [hr,depth,depth,depths_ren s aa (fun x hx=>h x (by rw [flat_eq];exact Qb _ hx))]
theorem depths_ren (s:Int→Int):∀ l:List (Tm Unit),(∀ x∈flats l,x.kind=0→x=V x.n)→depths (rens s l)=depths l
 | [],_=>rfl
 | x :: l,h=>by
  show depths (ren s x :: rens s l)=_;simp only [depths];rw [depth_ren s x (fun y hy=>h y (by simp only [flats];exact Qc _ hy)),depths_ren s l (fun y hy=>h y (by simp only [flats];exact Qj _ hy))]
end
theorem vars_mem {t:Tm Unit} (n:Int):n∈t.vars↔numsIn t n:=by
 unfold vars numsIn;generalize t.flat=l
 suffices h:∀ (l:List (Tm Unit)) (vs:List Int),n∈l.foldl addVar vs↔n∈vs∨∃ x∈l,x.kind=0∧x.n=n by
  rw [h];simp
 intro l
 induction l with
 | nil=>intro vs;simp
 | cons y l ih=>
  intro vs;rw [Qq,ih];unfold addVar
  by_cases h:y.kind=0∧y.n∉vs
  · rw [if_pos h]
    simp only [Qn,Qw,Ql,or_false,exists_eq_or_imp];constructor
    · rintro ((h1 | h1) | h1)
      · exact .inl h1
      · exact .inr (.inl ⟨h.1,h1.symm⟩)
      · exact .inr (.inr h1)
    · rintro (h1 | h1 | h1)
      · exact .inl (.inl h1)
      · exact .inl (.inr h1.2.symm)
      · exact .inr h1
  · rw [if_neg h]
    simp only [Qw,exists_eq_or_imp];constructor
    · rintro (h1 | h1)
      · exact .inl h1
      · exact .inr (.inr h1)
    · rintro (h1 | h1 | h1)
      · exact .inl h1
      · refine .inl ?_
        by_cases hm:y.n∈vs
        · rw [←h1.2];exact hm
        · exact absurd ⟨h1.1,hm⟩ h
      · exact .inr h1
theorem vars_nodup {α:Type} (t:Tm α):t.vars.Nodup:=by
 unfold vars
 suffices h:∀ (l:List (Tm α)) (vs:List Int),vs.Nodup→(l.foldl addVar vs).Nodup from h _ _ List.nodup_nil
 intro l
 induction l with
 | nil=>intro vs h;exact h
 | cons y l ih=>
  intro vs h;rw [Qq];apply ih;unfold addVar
  split
  · rename_i hc
    rw [List.nodup_append];exact ⟨h,List.nodup_cons.2 ⟨Ql,List.nodup_nil⟩,fun a ha b hb=>by simp at hb;subst hb;exact fun e=>hc.2 (e ▸ ha)⟩
  · exact h
def posOf (vs:List Int) (n:Int):Nat:=vs.idxOf n
theorem posOf_at {vs:List Int} (h:vs.Nodup) {i:Nat} {v:Int} (hi:vs[i]? = some v):posOf vs v=i:=by
 unfold posOf;obtain ⟨hl,rfl⟩:=Qg.1 hi;exact List.Nodup.idxOf_getElem h i hl
theorem posOf_mem {vs:List Int} {n:Int} (h:n∈vs):vs[posOf vs n]? = some n:=by
 have hl:=List.idxOf_lt_length_of_mem h;unfold posOf;rw [Qa hl,List.getElem_idxOf hl]
def fromS (vs:List Int) (first:Int) (n:Int):Int:=first+(posOf vs n:Nat)
def fromT (t:Tm Unit) (first:Int):Tm Unit:=ren (fromS t.vars first) t
end Tm
theorem good_leafy {t:Tm Unit} (h:goodB t=true):Tm.leafy t:=by
 unfold goodB at h;simp only [Qd,decide_eq_true_eq,Qt] at h;exact Tm.leafy_good h.2.2
theorem goodB_ren {s:Int→Int} {t:Tm Unit} (h:goodB t=true) (hs:∀ n∈t.vars,0≤s n∧s n≤2147483647):goodB (Tm.ren s t)=true:=by
 have hl:=good_leafy h;unfold goodB at h ⊢;rw [Tm.size_ren s hl,Tm.depth_ren s t hl,Tm.flat_ren s t hl];simp only [Qd,decide_eq_true_eq,Qt] at h ⊢;refine ⟨h.1,h.2.1,?_⟩;intro x hx;obtain ⟨y,hy,rfl⟩:=List.mem_map.1 hx
 by_cases hk:y.kind=0
 · have:=hs y.n ((Tm.vars_mem _).2 ⟨y,hy,hk,rfl⟩)
   rw [hl y hy hk];simp only [Tm.V,Tm.n,Tm.ren,Tm.subT,if_pos];rw [goodOneB_0 _ rfl];show (decide (0≤s y.n) && (decide (s y.n≤2147483647) && (decide (ByteArray.empty.toList=[]) && decide (0=0))))=true;rw [decide_eq_true this.1,decide_eq_true this.2,decide_eq_true ((bytes_nil _).2 rfl)];rfl
 · have hy':=h.2.2 y hy
   cases y with | mk k n nm e aa=>
   have hr:Tm.ren s (.mk k n nm e aa) = .mk k n nm e (Tm.rens s aa):=by unfold Tm.ren Tm.rens;simp only [Tm.kind] at hk;simp only [Tm.subT,if_neg hk]
   rw [hr];unfold goodOneB at hy' ⊢
   have e1:(Tm.rens s aa).length=aa.length:=by unfold Tm.rens;rw [Tm.subTs_eq,Qu]
   simp only [Tm.kind,Tm.n,Tm.name,Tm.args,e1] at hy' ⊢;exact hy'
theorem goodB_fromT {t:Tm Unit} {first:Int} (h:goodB t=true) (h0:0≤first) (h1:first+t.vars.length≤2147483648):goodB (Tm.fromT t first)=true:=by
 refine goodB_ren h (fun n hn=>?_);have:=List.idxOf_lt_length_of_mem hn;unfold Tm.fromS Tm.posOf;omega
namespace Tm
abbrev MM:=Int→Option (Tm Unit)
def setM (m:MM) (n:Int) (b:Tm Unit):MM:=fun j=>if j=n then some b else m j
mutual
def moreM (a b:Tm Unit) (m:MM):Option MM:=
 match a with
 | .mk k n s _ aa=>
  if k=0 then (match m n with | none=>some (setM m n b) | some x=>if same x b=true then some m else none)
  else if k=b.kind∧n=b.n∧s=b.name∧aa.length=b.args.length then moresM aa b.args m else none
def moresM (l r:List (Tm Unit)) (m:MM):Option MM:=
 match l with
 | []=>some m
 | x :: l=>(match r with | []=>some m | y :: r=>(match moreM x y m with | none=>none | some m=>moresM l r m))
end
def Sub (m m':MM):Prop:=∀ n x,m n=some x→m' n=some x
theorem Sub.refl (m:MM):Sub m m:=fun _ _ h=>h
theorem Sub.trans {a b c:MM} (h:Sub a b) (k:Sub b c):Sub a c:=fun n x e=>k n x (h n x e)
mutual
theorem subT_mem (σ:Int→Tm Unit) (n:Int):∀ t:Tm Unit,(∃ x∈t.flat,x.kind=0∧x.n=n)→leafy t→σ n∈(subT σ t).flat
 | .mk k m s e aa,h,hl=>by
  by_cases hk:k=0
  · have hv:=hl (.mk k m s e aa) (by rw [flat_eq];exact Qe ..) hk
    rw [hv] at h ⊢;obtain ⟨x,hx,_,hn⟩:=h;simp only [V,Tm.n,flat,flats,Qw,Ql,or_false] at hx;subst hx;simp only [Tm.n] at hn;subst hn;simp only [V,subT,if_pos,Tm.n];rw [flat_eq];exact Qe ..
  · simp only [subT,if_neg hk,flat]
    refine Qb _ ?_;refine subTs_mem σ n aa ?_ (fun x hx=>hl x (by rw [flat_eq];exact Qb _ hx));obtain ⟨x,hx,h0,hn⟩:=h;rw [flat_eq] at hx
    rcases Qw.1 hx with rfl | hx
    · exact absurd h0 hk
    · exact ⟨x,hx,h0,hn⟩
theorem subTs_mem (σ:Int→Tm Unit) (n:Int):∀ l:List (Tm Unit),(∃ x∈flats l,x.kind=0∧x.n=n)→(∀ x∈flats l,x.kind=0→x=V x.n)→σ n∈flats (subTs σ l)
 | [],h,_=>by obtain ⟨x,hx,_⟩:=h;cases hx
 | y :: l,h,hl=>by
  simp only [subTs,flats];obtain ⟨x,hx,h0,hn⟩:=h;simp only [flats] at hx
  rcases Qn.1 hx with hx | hx
  · exact Qc _ (subT_mem σ n y ⟨x,hx,h0,hn⟩ (fun z hz=>hl z (by simp only [flats];exact Qc _ hz)))
  · exact Qj _ (subTs_mem σ n l ⟨x,hx,h0,hn⟩ (fun z hz=>hl z (by simp only [flats];exact Qj _ hz)))
end
end Tm
end Go.Proofs.Ytoihjobdfjajfaa
namespace Go.Proofs.Ytoihjobdfjajfaa
open Go.RowKit
def valsM (g:Int→Option LT):Int→Option Value:=fun i=>(g i).map LT.val
def baresM (g:Int→Option LT):Int→Option (Tm Unit):=fun i=>(g i).map Tm.bare
structure RepI (p:Nat→Prop) (σ:Tm Unit→Tm Unit) (N B2:Nat) (t:LT) (w1:World) (j:Nat) (us:List LT) (a:Option Addr) (c:Nat) (W:World):Prop where
 bares:us.map Tm.bare=(t.args.take j).map fun x=>σ x.bare
 blk:W.heap[B2]? = some (.cells #[.int .i64 t.kind,.int .i64 t.n,.string t.name,.slice a j c] 27 (0,0))
 row:Row W 27 4 (.slice a j c) j (us.flatMap LT.cells)
 ins:LT.Ins (fun k=>(p k∨N≤k)∧(Value.slice a j c).ownBlock≠some k) W us
 own:∀ b,(Value.slice a j c).ownBlock=some b→N≤b
 turned:Turned (fun k=>k=B2) w1 W
def RepS (p:Nat→Prop) (σ:Tm Unit→Tm Unit) (N B2:Nat) (t x:LT) (w1:World) (j:Nat) (us:List LT) (a:Option Addr) (c:Nat) (wr:World):List Value→World→Prop
 | [],W=>Turned zN wr W
 | [uv],W=>Turned zN wr W∧∃ u:LT,uv=u.val∧u.bare=σ x.bare∧u.In (fun k=>p k∨wr.heap.size≤k) W
 | [_,sv],W=>Turned zN wr W∧∃ (u:LT) (g:Nat),sv = .slice (some ⟨g,0,none⟩) 1 1∧u.bare=σ x.bare∧u.In (fun k=>p k∨wr.heap.size≤k) W∧W.heap[g]? = some (.cells u.cells.toArray 27 (0,0))
 | [_,_,av],W=>∃ (u:LT) (g cap:Nat),av = .slice (some ⟨g,0,none⟩) (j+1) cap∧u.bare=σ x.bare∧Row W 27 4 av (j+1) (us.flatMap LT.cells++u.cells)∧LT.In (fun k=>(p k∨wr.heap.size≤k)∧k≠g) W u∧Turned (fun k=>(Value.slice a j c).ownBlock=some k) wr W∧(some g=(Value.slice a j c).ownBlock∨wr.heap.size≤g)
 | [_,_,_,_],W=>∃ us' a' c',RepI p σ N B2 t w1 (j+1) us' a' c' W
 | _,_=>False
theorem RepI.turned0 {p:Nat→Prop} {σ:Tm Unit→Tm Unit} {N B2:Nat} {t:LT} {w1:World} {j:Nat} {us:List LT} {a:Option Addr} {c:Nat} {w w':World} (h:RepI p σ N B2 t w1 j us a c w) (ht:Turned zN w w'):RepI p σ N B2 t w1 j us a c w':=
 ⟨h.bares,(ht.block B2 (zL h.blk) (fun f=>f)).trans h.blk,h.row.turned0 ht,h.ins.turned0 ht,h.own,h.turned.trans (ht.mono (fun _ _ f=>f.elim))⟩
theorem RepS.turned0 {p:Nat→Prop} {σ:Tm Unit→Tm Unit} {N B2:Nat} {t x:LT} {w1 wr:World} {j:Nat} {us:List LT} {a:Option Addr} {c:Nat}:∀ (hs:List Value) (w w':World),RepS p σ N B2 t x w1 j us a c wr hs w→Turned zN w w'→RepS p σ N B2 t x w1 j us a c wr hs w'
 | [],w,w',h,ht=>Turned.trans h ht
 | [uv],w,w',h,ht=>by
  obtain ⟨h1,u,h2,h3,h4⟩:=h;exact ⟨h1.trans ht,u,h2,h3,h4.turned0 ht⟩
 | [_,sv],w,w',h,ht=>by
  obtain ⟨h1,u,g,h2,h3,h4,h5⟩:=h;exact ⟨h1.trans ht,u,g,h2,h3,h4.turned0 ht,(ht.block g (zL h5) (fun f=>f)).trans h5⟩
 | [_,_,av],w,w',h,ht=>by
  obtain ⟨u,g,cap,h1,h2,h3,h4,h5,h6⟩:=h;exact ⟨u,g,cap,h1,h2,h3.turned0 ht,h4.turned0 ht,h5.trans (ht.mono (fun _ _ f=>f.elim)),h6⟩
 | [_,_,_,_],w,w',h,ht=>by
  obtain ⟨us',a',c',h⟩:=h;exact ⟨us',a',c',h.bares,(ht.block B2 (zL h.blk) (fun f=>f)).trans h.blk,h.row.turned0 ht,h.ins.turned0 ht,h.own,h.turned.trans (ht.mono (fun _ _ f=>f.elim))⟩
 | _ :: _ :: _ :: _ :: _ :: _,_,_,h,_=>h.elim
theorem RepS.blk {p:Nat→Prop} {σ:Tm Unit→Tm Unit} {N B2:Nat} {t x:LT} {w1 wr:World} {j:Nat} {us:List LT} {a:Option Addr} {c:Nat} (h:RepI p σ N B2 t w1 j us a c wr) (hs:List Value) (W:World) (hle:hs.length≤2) (hS:RepS p σ N B2 t x w1 j us a c wr hs W) :
 W.cell? ⟨B2,0,none⟩=some (.int .i64 t.kind)∧W.cell? ⟨B2,1,none⟩=some (.int .i64 t.n)∧W.cell? ⟨B2,2,none⟩=some (.string t.name)∧W.cell? ⟨B2,3,none⟩=some (.slice a j c):=by
 have hT:Turned zN wr W:=by
  match hs,hle,hS with
  | [],_,h=>exact h
  | [_],_,h=>exact h.1
  | [_,_],_,h=>exact h.1
 obtain ⟨q0,q1,q2,q3,_⟩:=cells4 ((hT.block B2 (zL h.blk) (fun f=>f)).trans h.blk);exact ⟨q0,q1,q2,q3⟩
end Go.Proofs.Ytoihjobdfjajfaa
namespace Go.Proofs.Ytoihjobdfjajfaa
open Go
def edgeMask (ops:Array Oper) (i:Nat):Nat:=match ops[i]? with
 | none=>0
 | some o=>o.after.toList.foldl (fun m e=>if Region.binds .any e then m ||| 1 <<< e.on else m) 0
def reachMask (ops:Array Oper) (j:Nat):Nat:=(List.range (j+1)).reverse.foldl (fun m i=>if m.testBit i then m ||| edgeMask ops i else m) (1 <<< j)
theorem bit_one (k i:Nat):(1 <<< k).testBit i=true↔k=i:=by
 rw [Nat.one_shiftLeft,Nat.testBit_two_pow,decide_eq_true_eq]
theorem edgeMask_bit {ops:Array Oper} {i k:Nat} (h:(edgeMask ops i).testBit k=true):∃ o,ops[i]? = some o∧∃ e∈o.after,Region.binds .any e=true∧e.on=k:=by
 unfold edgeMask at h
 cases ho:ops[i]? with
 | none=>rw [ho] at h;simp at h
 | some o=>
  rw [ho] at h;simp only at h;refine ⟨o,rfl,?_⟩
  have key:∀ (l:List Edge) (m:Nat),(l.foldl (fun m e=>if Region.binds .any e then m ||| 1 <<< e.on else m) m).testBit k=true→m.testBit k=true∨∃ e∈l,Region.binds .any e=true∧e.on=k:=by
   intro l
   induction l with
   | nil=>intro m h;exact .inl h
   | cons x l ih=>
    intro m h;rw [Qq] at h
    rcases ih _ h with h | ⟨e,he,hb⟩
    · split at h
      · rename_i hb
        rw [Nat.testBit_or,Bool.or_eq_true] at h
        rcases h with h | h
        · exact .inl h
        · exact .inr ⟨x,Qe ..,hb,(bit_one _ _).1 h⟩
      · exact .inl h
    · exact .inr ⟨e,Qb _ he,hb⟩
  rcases key _ _ h with h | ⟨e,he,hb⟩
  · simp at h
  · exact ⟨e,by simpa using he,hb⟩
theorem waits_edge {ops:Array Oper} {i k:Nat} (he:∃ o,ops[i]? = some o∧∃ e∈o.after,Region.binds .any e=true∧e.on=k):∀ (n j:Nat),waits ops n j i=true→waits ops (n+1) j k=true:=by
 intro n
 induction n with
 | zero=>intro j h;cases h
 | succ n ih=>
  intro j h;unfold waits at h ⊢
  cases ho:ops[j]? with
  | none=>rw [ho] at h;cases h
  | some o=>
   rw [ho] at h;simp only at h ⊢;obtain ⟨e,hm,hb⟩:=(Array.any_eq_true').1 h;simp only [Qd,Bool.or_eq_true,beq_iff_eq] at hb;refine (Array.any_eq_true').2 ⟨e,hm,?_⟩;simp only [Qd,Bool.or_eq_true,beq_iff_eq];refine ⟨hb.1,.inr ?_⟩
   rcases hb.2 with hq | hq
   · subst hq
     obtain ⟨o',ho',e',he',hb',hon⟩:=he;unfold waits;rw [ho'];refine (Array.any_eq_true').2 ⟨e',he',?_⟩;simp only [Qd,Bool.or_eq_true,beq_iff_eq];exact ⟨hb',.inl hon⟩
   · exact ih _ hq
theorem waits_one {ops:Array Oper} {i k:Nat} (he:∃ o,ops[i]? = some o∧∃ e∈o.after,Region.binds .any e=true∧e.on=k):waits ops 1 i k=true:=by
 obtain ⟨o',ho',e',he',hb',hon⟩:=he;unfold waits;rw [ho'];refine (Array.any_eq_true').2 ⟨e',he',?_⟩;simp only [Qd,Bool.or_eq_true,beq_iff_eq];exact ⟨hb',.inl hon⟩
theorem reachMask_bit {ops:Array Oper} {j i:Nat} (h:(reachMask ops j).testBit i=true):i=j∨∃ n,waits ops n j i=true:=by
 unfold reachMask at h
 have key:∀ (l:List Nat) (m:Nat),(∀ i,m.testBit i=true→i=j∨∃ n,waits ops n j i=true)→∀ i,(l.foldl (fun m i=>if m.testBit i then m ||| edgeMask ops i else m) m).testBit i=true→i=j∨∃ n,waits ops n j i=true:=by
  intro l
  induction l with
  | nil=>intro m hm i h;exact hm i h
  | cons x l ih=>
   intro m hm i h;rw [Qq] at h;refine ih _ ?_ i h;intro k hk
   split at hk
   · rename_i hx
     rw [Nat.testBit_or,Bool.or_eq_true] at hk
     rcases hk with hk | hk
     · exact hm k hk
     · have he:=edgeMask_bit hk
       rcases hm x hx with rfl | ⟨n,hn⟩
       · exact .inr ⟨1,waits_one he⟩
       · exact .inr ⟨n+1,waits_edge he n j hn⟩
   · exact hm k hk
 refine key _ _ (fun i h=>?_) i h;exact .inl ((bit_one _ _).1 h).symm
def chkStW (ops:Array Oper) (st:List Nat):Bool:=
 st.all (fun i=>decide (i < ops.size)) && (List.range st.length).all fun k=>match st[k]?,st[k+1]? with
  | some i,some j=>decide (i < j) && (reachMask ops j).testBit i
  | _,_=>true
theorem chkSt_ltW {ops:Array Oper} {st:List Nat} (h:chkStW ops st=true) {k i:Nat} (hi:st[k]? = some i):i < ops.size:=by
 simp only [chkStW,Qd,Qt] at h;simpa using h.1 i (Qf hi)
theorem chkSt_nextW {ops:Array Oper} {st:List Nat} (h:chkStW ops st=true) {k i j:Nat} (hi:st[k]? = some i) (hj:st[k+1]? = some j):i < j∧∃ n,waits ops n j i=true:=by
 simp only [chkStW,Qd,Qt] at h;have:=h.2 k (List.mem_range.2 (Qg.1 hi).1);rw [hi,hj] at this;simp only [Qd,decide_eq_true_eq] at this;refine ⟨this.1,?_⟩
 rcases reachMask_bit this.2 with e | e
 · omega
 · exact e
theorem chkSt_monoW {ops:Array Oper} {st:List Nat} (h:chkStW ops st=true) (d:Nat):∀ {k i j:Nat},st[k]? = some i→st[k+d+1]? = some j→i < j:=by
 induction d with
 | zero=>intro k i j hi hj;exact (chkSt_nextW h hi hj).1
 | succ d ih=>
  intro k i j hi hj
  have hlt:k+d+1 < st.length:=by have:=(Qg.1 hj).1;omega
  have hm:st[k+d+1]? = some st[k+d+1]:=Qa hlt;have h1:=ih hi hm;have h2:=(chkSt_nextW h hm (by rw [show k+d+1+1=k+(d+1)+1 from by omega];exact hj)).1;omega
theorem chkSt_injW {ops:Array Oper} {st:List Nat} (h:chkStW ops st=true) {k k' i:Nat} (hi:st[k]? = some i) (hj:st[k']? = some i):k=k':=by
 rcases Nat.lt_trichotomy k k' with hl | hl | hl
 · have:=chkSt_monoW h (k' - k - 1) hi (by rw [show k+(k' - k - 1)+1=k' from by omega];exact hj)
   omega
 · exact hl
 · have:=chkSt_monoW h (k - k' - 1) hj (by rw [show k'+(k - k' - 1)+1=k from by omega];exact hi)
   omega
section
variable {P:Program} {G:List Value→Tmp→Value→World→Prop} {ops:Array Oper} {a0:Act} {w0:World} {Q:Exit→Act→World→Prop} {st:List Nat} {R:List Value→World→Prop} {Step:World→World→Prop}
theorem InvS.hereW {listed:Array Bool} {hs:List Value} {m:Nat} {w:World} (h:InvS ops st R listed hs m w) (hst:chkStW ops st=true) {i k:Nat} (hp:posOf st i=some k) (hr:i∈Region.ready .any ops listed):k=m:=by
 obtain ⟨hf,o,ho,hall⟩:=mem_ready.1 hr;have hk:=posOf_some hp;have h1:=h.done k i hk
 have hmk:m≤k:=by
  have:listed.getD i false=false:=by
   have hf':=hf;simp only [Array.getD_eq_getD_getElem?] at hf' ⊢
   cases h:listed[i]? with
   | none=>rfl
   | some b=>rw [h] at hf';simpa using hf'
  rw [this] at h1;have:=of_decide_eq_false h1.symm;omega
 by_cases e:k=m
 · exact e
 · exfalso
   have hk1:st[k - 1]? = some (st[k - 1]'(by have:=(Qg.1 hk).1;omega)):=Qa _;obtain ⟨_,hedge⟩:=chkSt_nextW hst hk1 (by rw [show k - 1+1=k from by omega];exact hk);have h2:=h.done _ _ hk1
   have h3:listed.getD (st[k - 1]'(by have:=(Qg.1 hk).1;omega)) false=true:=by
    obtain ⟨n,hedge⟩:=hedge
    cases n with
    | zero=>cases hedge
    | succ n=>
    unfold waits at hedge;rw [ho] at hedge;obtain ⟨e',he',hb⟩:=(Array.any_eq_true').1 hedge;simp only [Qd,Bool.or_eq_true,beq_iff_eq] at hb;have h4:=hall e' he' hb.1
    rcases hb.2 with hq | hq
    · rw [←hq];exact h4
    · exact waits_listed h.shut n _ _ hq h4
   rw [h3] at h2;have:=of_decide_eq_true h2.symm;omega
theorem InvS.nextW {listed:Array Bool} {hs:List Value} {m:Nat} {w w':World} (h:InvS ops st R listed hs m w) (hst:chkStW ops st=true) (hl:listed.size=ops.size) {i:Nat} (hr:i∈Region.ready .any ops listed) (hp:posOf st i=some m) {v:Value} (hR:R (hs++[v]) w'):InvS ops st R (listed.setIfInBounds i true) (hs++[v]) (m+1) w':=by
 have hk:=posOf_some hp;have hlt:=(Qg.1 hk).1;refine ⟨hlt,by rw [Qi,h.len];rfl,hR,fun k j hj=>?_,shut_set h.shut hl hr⟩
 by_cases e:j=i
 · subst e
   have:=chkSt_injW hst hj hk;subst this
   have hb:j < listed.size:=by rw [hl];exact chkSt_ltW hst hk
   simp [hb]
 · rw [getD_set_ne false (Ne.symm e),h.done k j hj,decide_eq_decide]
   have hne:k≠m:=fun e'=>by subst e';rw [hk] at hj;injection hj with hj;exact e hj.symm
   omega
theorem st_goW (hc:chkAny ops a0.tmps.size=true) (hst:chkStW ops st=true) (hG:∀ hs d v w w',Step w w'→G hs d v w→G hs d v w') (hG2:∀ hs x d v w,G hs d v w→G (hs++[x]) d v w) (hs:StepsAt P G ops a0 st R Step 0 ops.toList)
 (hQ:∀ hs a w,hs.length=st.length→R hs w→(∀ s,Looks (G hs) ops a0 a w s)→a.defers=a0.defers→a.tmps.size=a0.tmps.size→Q .normal a w) :
 ∀ (fuel:Nat) (listed:Array Bool) (a:Act) (w:World) (hs:List Value) (m:Nat),listed.toList.count false≤fuel→InvS ops st R listed hs m w→InvA (G hs) ops a0 a listed w→wpAny P .any ops Q fuel listed a w:=by
 intro fuel
 have hend:∀ (listed:Array Bool) (a:Act) (w:World) (hs:List Value) (m:Nat),InvS ops st R listed hs m w→InvA (G hs) ops a0 a listed w→Region.ready .any ops listed=[]→Q .normal a w:=by
  intro listed a w hs m hT hI hr;have hall:=all_listed hc hI.lsize hr
  have hm:m=st.length:=by
   rcases Nat.lt_or_ge m st.length with hl | hl
   · have hk:st[m]? = some st[m]:=Qa hl
     have h1:=hT.done m _ hk;rw [hall _ (chkSt_ltW hst hk)] at h1;have:=of_decide_eq_true h1.symm;omega
   · have:=hT.le;omega
  subst hm;refine hQ hs a w hT.len hT.state (fun s=>?_) hI.defers hI.size;unfold Looks
  split
  · rename_i hm
    obtain ⟨oj,hoj,hd⟩:=List.mem_filterMap.1 hm;obtain ⟨j,hj⟩:=List.getElem?_of_mem hoj;rw [Qv] at hj;exact hI.done j oj s hj hd (hall j (zL hj))
  · rename_i hm
    refine hI.rest s fun j oj hj hd=>absurd (List.mem_filterMap.2 ⟨oj,?_,hd⟩) hm
    exact Qf (by rw [Qv];exact hj)
 induction fuel with
 | zero=>
  intro listed a w hs' m hf hT hI
  have hr:Region.ready .any ops listed=[]:=by
   apply List.eq_nil_iff_forall_not_mem.2;intro i hi;obtain ⟨hfalse,o,ho,_⟩:=mem_ready.1 hi
   have hlt:i < listed.size:=by rw [hI.lsize];exact (zL ho)
   simp [hlt] at hfalse
   have:false∈listed.toList:=by rw [←hfalse];exact Array.getElem_mem_toList hlt
   have:=List.count_pos_iff.2 this;omega
  exact ⟨hr,hend _ _ _ _ _ hT hI hr⟩
 | succ fuel ih=>
  intro listed a w hs' m hf hT hI;refine ⟨hend _ _ _ _ _ hT hI,fun i hi=>?_⟩;obtain ⟨hfalse,o,ho,_⟩:=mem_ready.1 hi
  have hlt:i < listed.size:=by rw [hI.lsize];exact (zL ho)
  have hcnt:(listed.setIfInBounds i true).toList.count false≤fuel:=by
   have h1:listed.toList[i]? = some false:=by
    simp [hlt] at hfalse;rw [Qv,Array.getElem?_eq_getElem hlt,hfalse]
   have:=count_set h1;rw [Array.toList_setIfInBounds];omega
  have hst1:=hs.at (j:=i) (o:=o) (by rw [Qv];exact ho);rw [Nat.zero_add] at hst1;unfold wpOp;simp only [ho];unfold StepAt at hst1
  cases hp:posOf st i with
  | none=>
   rw [hp] at hst1
   have hst2:=hst1 hs' (by rw [hT.len];exact hT.le) (fun k j n hk hedge=>by
    rw [hT.len];have h1:=hT.done k j hk
    rcases Nat.lt_or_ge k m with hl | hl
    · exfalso
      have h2:=waits_listed hT.shut n j i hedge (by rw [h1];exact decide_eq_true hl)
      have h3:listed.getD i true=false:=by simpa using hfalse
      simp only [Array.getD_eq_getD_getElem?] at h2 h3
      cases hx:listed[i]? with
      | none=>rw [hx] at h2;simp at h2
      | some b=>rw [hx] at h2 h3;simp at h2 h3;rw [h2] at h3;cases h3
    · exact hl) a w hT.state (hI.looks hc ho hi)
   split
   · rename_i hw
     refine .inl ?_
     exact Brings.upon (hst2.1 hw) fun v w' hv=>ih _ _ _ hs' m hcnt (hT.other hp hI.lsize hi hv.1) (hI.stepG hc (fun d v=>hG hs' d v _ _ hv.2.1) ho hv.2.2)
   · rename_i hw
     have:=hst2.2 (by simpa using hw);exact ih _ _ _ hs' m hcnt (hT.other hp hI.lsize hi this.1) (hI.stepG hc (fun d v h=>h) ho this.2.2)
  | some k=>
   rw [hp] at hst1;have hkm:=InvS.hereW hT hst hp hi;subst hkm;have hst2:=hst1 hs' hT.len a w hT.state (hI.looks hc ho hi)
   split
   · rename_i hw
     refine .inl ?_
     exact Brings.upon (hst2.1 hw) fun v w' hv=>ih _ _ _ (hs'++[v]) (k+1) hcnt (InvS.nextW hT hst hI.lsize hi hp hv.1) (hI.stepG hc (fun d u h=>hG2 _ _ _ _ _ (hG hs' d u _ _ hv.2.1 h)) ho hv.2.2)
   · rename_i hw
     have:=hst2.2 (by simpa using hw);exact ih _ _ _ (hs'++[undef]) (k+1) hcnt (InvS.nextW hT hst hI.lsize hi hp this.1) (hI.stepG hc (fun d u h=>hG2 _ _ _ _ _ h) ho this.2.2)
theorem wp_region_stW {id:Nat} (dl:List Tmp) (st:List Nat) (R:List Value→World→Prop) (Step:World→World→Prop) (hdl:ops.toList.filterMap (·.dst)=dl) (hm:P.follows .mixedOrders=true) (hc:chkAny ops a0.tmps.size=true) (hst:chkStW ops st=true) (hR:∀ w,Turned zN w0 w→R [] w) (hG:∀ hs d v w w',Step w w'→G hs d v w→G hs d v w') (hG2:∀ hs x d v w,G hs d v w→G (hs++[x]) d v w) (hs:StepsAt P G ops a0 st R Step 0 ops.toList)
 (hQ:∀ (hs:List Value) (vs:Tmp→Value) w,hs.length=st.length→R hs w→(∀ s∈dl,G hs s (vs s) w)→Q .normal ⟨dl.foldl (fun t d=>t.setIfInBounds d (vs d)) a0.tmps,a0.defers⟩ w):(Code.region id ops true).wp P Q a0 w0:=by
 refine wp_region_any hm (st_goW hc hst hG hG2 hs ?_ _ _ _ _ [] 0 ?_ ⟨Nat.zero_le _,rfl,hR _ ((Turned.refl _ w0).drew),fun k i hi=>?_,fun j o ho hj=>?_⟩ ?_)
 · intro hs a w hlen hR hL hd hsz
   have:=hQ hs (fun d=>a.tmps.getD d undef) w hlen hR (fun s hs=>by
    have:=hL s;unfold Looks at this;rw [hdl,if_pos hs] at this
    exact this)
   have e:a=⟨dl.foldl (fun t d=>t.setIfInBounds d (a.tmps.getD d undef)) a0.tmps,a0.defers⟩:=by
    cases a with | mk tmps defers=>
    simp only at hd hsz this ⊢;subst hd;congr 1;apply Array.ext
    · rw [fold_size];exact hsz
    · intro i h1 h2
      have h3:i < a0.tmps.size:=by rw [←hsz];exact h1
      have hf:=fold_getD (fun d=>tmps.getD d undef) dl a0.tmps i h3;have hl:=hL i;unfold Looks at hl;rw [hdl] at hl;have e1:=getD_lt tmps i h1;have e2:=getD_lt _ i h2;rw [←e1,←e2,hf]
      by_cases hm:i∈dl
      · rw [if_pos hm]
      · rw [if_neg hm] at hl ⊢
        exact hl
   rw [e];exact this
 · rw [Array.toList_replicate,List.count_replicate_self]
   exact Qm _
 · have hlt:=chkSt_ltW hst hi
   simp [hlt]
 · have hlt:=(zL ho)
   simp [hlt] at hj
 · refine ⟨rfl,rfl,by simp,fun j oj d hj hd hl=>?_,fun d _=>rfl⟩
   have hlt:=(zL hj);simp [hlt] at hl
end
def chkBdW (ops:Array Oper) (st bd:List Nat):Bool:=
 (List.range ops.size).all fun i=>bd.getD i st.length == st.length || match st[bd.getD i st.length]? with
  | none=>false
  | some j=>!(j == i) && (reachMask ops j).testBit i
theorem chkBd_atW {ops:Array Oper} {st bd:List Nat} (h:chkBdW ops st bd=true) {i:Nat} {o:Oper} (ho:ops[i]? = some o) {hs:List Value} (h1:hs.length≤st.length)
 (h2:∀ k j n,st[k]? = some j→waits ops n j i=true→hs.length≤k):hs.length≤bd.getD i st.length:=by
 have:=Qt.1 h i (List.mem_range.2 (zL ho));rw [Bool.or_eq_true] at this
 rcases this with this | this
 · rw [beq_iff_eq] at this;omega
 · cases hj:st[bd.getD i st.length]? with
   | none=>rw [hj] at this;cases this
   | some j=>
    rw [hj] at this;simp only [Qd,Bool.not_eq_true',beq_eq_false_iff_ne] at this
    rcases reachMask_bit this.2 with e | ⟨n,hn⟩
    · exact absurd e.symm this.1
    · exact h2 _ j n hj hn
section
variable {P:Program} {hist:List Tmp} {GL:Tmp→Value→Prop} {ops:Array Oper} {a0:Act} {w0:World} {Q:Exit→Act→World→Prop} {st bd:List Nat} {R:List Value→World→Prop}
theorem StepsH.upW (hh:chkHist ops st hist=true) (hb0:chkBdW ops st bd=true) (hRt:∀ hs w w',R hs w→Turned zN w w'→R hs w'):∀ (l:List Oper) (b:Nat),(∀ j o,l[j]? = some o→ops[b+j]? = some o)→StepsH P hist GL ops a0 st bd R b l→StepsAt P (fun hs d v _=>GH hist GL hs d v) ops a0 st R (fun _ _=>True) b l:=by
 intro l
 induction l with
 | nil=>intro b _ _;trivial
 | cons o l ih=>
  intro b hb hs;refine ⟨?_,ih (b+1) (fun j x hx=>by have:=hb (j+1) x (by simpa using hx);rwa [show b+(j+1)=b+1+j from by omega] at this) hs.2⟩;have ho:ops[b]? = some o:=hb 0 o (by simp);have h1:=hs.1;unfold StepH at h1;unfold StepAt
  cases hp:posOf st b with
  | none=>
   rw [hp] at h1;intro hl hl1 hl2 a w hR hL;obtain ⟨k1,k2⟩:=h1 hl (chkBd_atW hb0 ho hl1 hl2) a w hR hL
   have hg:∀ v,GDL GL o.dst v→∀ w',GD (fun d v _=>GH hist GL hl d v) o.dst v w':=by
    intro v hv w'
    cases hd:o.dst with
    | none=>trivial
    | some d=>
     rw [hd] at hv;show GH hist GL hl d v;unfold GH;rw [chkHist_at hh ho hd,hp];exact hv
   refine ⟨fun hw=>(k1 hw).mono fun v w' hv=>⟨hRt _ _ _ hR hv.1,trivial,hg v hv.2 _⟩,fun hw=>⟨hR,trivial,hg _ (k2 hw).2 _⟩⟩
  | some k=>
   rw [hp] at h1;intro hl hk a w hR hL;obtain ⟨k1,k2⟩:=h1 hl hk a w hR hL
   have hg:∀ v w',GD (fun d v _=>GH hist GL (hl++[v]) d v) o.dst v w':=by
    intro v w'
    cases hd:o.dst with
    | none=>trivial
    | some d=>
     show GH hist GL (hl++[v]) d v;unfold GH;rw [chkHist_at hh ho hd,hp];simp only;rw [←hk];simp
   refine ⟨fun hw=>(k1 hw).mono fun v w' hv=>⟨hv,trivial,?_⟩,fun hw=>⟨k2 hw,trivial,?_⟩⟩
   · have:=hg v w'
     cases hd:o.dst with
     | none=>trivial
     | some d=>rw [hd] at this;exact this
   · have:=hg undef w
     cases hd:o.dst with
     | none=>trivial
     | some d=>rw [hd] at this;exact this
theorem wp_region_hsW {id:Nat} (dl:List Tmp) (st bd:List Nat) (hist:List Tmp) (GL:Tmp→Value→Prop) (R:List Value→World→Prop) (hdl:ops.toList.filterMap (·.dst)=dl) (hm:P.follows .mixedOrders=true) (hc:chkAny ops a0.tmps.size=true) (hst:chkStW ops st=true) (hh:chkHist ops st hist=true) (hb:chkBdW ops st bd=true)
 (hR0:∀ w,Turned zN w0 w→R [] w) (hRt:∀ hs w w',R hs w→Turned zN w w'→R hs w') (hs:StepsH P hist GL ops a0 st bd R 0 ops.toList)
 (hQ:∀ (hs:List Value) (vs:Tmp→Value) w,hs.length=st.length→R hs w→(∀ s∈dl,GH hist GL hs s (vs s))→Q .normal ⟨dl.foldl (fun t d=>t.setIfInBounds d (vs d)) a0.tmps,a0.defers⟩ w):(Code.region id ops true).wp P Q a0 w0:=by
 refine wp_region_stW (G:=fun hs d v _=>GH hist GL hs d v) dl st R (fun _ _=>True) hdl hm hc hst hR0 (fun _ _ _ _ _ _ h=>h) (fun hl x d v _ h=>?_) (StepsH.upW hh hb hRt _ 0 (fun j o ho=>by rw [Nat.zero_add];rwa [Qv] at ho) hs) hQ;show GH hist GL (hl++[x]) d v;have h':GH hist GL hl d v:=h;unfold GH at h' ⊢
 split at h'
 · rename_i k hk
   exact (List.getElem?_append_left (Qg.1 h').1).trans h'
 · exact h'
end
end Go.Proofs.Ytoihjobdfjajfaa
namespace Go.Proofs.Ytoihjobdfjajfaa
open Go.RowKit
theorem leafIn' {p:Nat→Prop} {w:World} {k n:Int} {s:ByteArray} (h1:I64 k) (h2:I64 n) (h3:s.size≤maxLen):(leaf k n s).In p w:=
 LT.In.mk h1 h2 h3 (Qm _) (by unfold maxLen;omega) (fun _=>⟨rfl,rfl⟩) (fun h=>absurd h (by decide)) trivial
end Go.Proofs.Ytoihjobdfjajfaa
namespace Go.Proofs.Ytoihjobdfjajfaa
open Go.RowKit Go.Maps
def gmap (vs:List Int) (first:Int) (j:Nat):Int→Option LT:=fun n=>if n∈vs.take j then some (leaf 0 (Tm.fromS vs first n) ByteArray.empty) else none
theorem gmap_none {vs:List Int} {first:Int} {j:Nat} {n:Int} (hnd:vs.Nodup) (h:vs[j]? = some n):gmap vs first j n=none:=by
 unfold gmap;rw [if_neg];intro hm;obtain ⟨i,hi⟩:=List.getElem?_of_mem hm;obtain ⟨hl,_⟩:=Qg.1 hi;rw [List.length_take] at hl;rw [List.getElem?_take_of_lt (by omega)] at hi;have h1:=Tm.posOf_at hnd hi;have h2:=Tm.posOf_at hnd h;omega
theorem gmap_succ {vs:List Int} {first:Int} {j:Nat} {n:Int} (hnd:vs.Nodup) (h:vs[j]? = some n) :
 upd (valsM (gmap vs first j)) n (.agg #[.int .i64 0,.int .i64 (first+(j:Int)),.string ByteArray.empty,.slice none 0 0])=valsM (gmap vs first (j+1)):=by
 funext m
 unfold upd valsM gmap
 have e:vs.take (j+1)=vs.take j++[n]:=by rw [List.take_add_one,h];rfl
 by_cases hm:m=n
 · subst hm
   rw [if_pos rfl,if_pos (by rw [e];simp)];unfold Tm.fromS;rw [Tm.posOf_at hnd h];rfl
 · rw [if_neg hm]
   have:m∈vs.take (j+1)↔m∈vs.take j:=by rw [e];simp [hm]
   by_cases hq:m∈vs.take j
   · rw [if_pos hq,if_pos (this.2 hq)]
   · rw [if_neg hq,if_neg (fun c=>hq (this.1 c))]
theorem good_nums {t:LT} (hg:goodB t=true):∀ n∈t.vars,0≤n∧n≤2147483647:=by
 intro n hn;rw [←Tm.vars_bare] at hn;obtain ⟨x,hx,hk,rfl⟩:=(Tm.vars_mem n).1 hn;rw [←goodB_bare] at hg;unfold goodB at hg;simp only [Qd,decide_eq_true_eq,Qt] at hg;have:=hg.2.2 x hx;rw [goodOneB_0 x hk] at this;simp only [Qd,decide_eq_true_eq] at this;exact ⟨this.1,this.2.1⟩
theorem results_cell_tmp1 {P:Program} {fn:Func} {s p:Tmp} {ty:TypeId} (h:fn.results = #[.cell p ty,.tmp s]) (tmps:Array Value) (w:World) (g:Nat) (t:TypeId) (cs:Array Value) (fr:Nat × Nat) (d:TypeDesc)
 (hp:tmps.getD p undef = .pointer (some ⟨g,0,none⟩)) (hg:w.heap[g]? = some (.cells cs t fr))
 (hu:P.underlying ty=some d) (hd:(match d with | .struct _ | .array _ _=>true | _=>false)=true) (hi:(P.info? ty).map (·.size)=some cs.size) :
 (results fn tmps).run P w = .ok (.tuple #[.agg cs,tmps.getD s undef]) w:=by
 have hp':tmps[p]?.getD undef = .pointer (some ⟨g,0,none⟩):=by simpa using hp
 simp [results,h,hp',asAddr,run_loadVar_row w g t ty cs fr d hg hu hd hi]
structure FromI (w:World) (mb:Nat) (t:LT) (vs:List Int) (first:Int) (v:Value) (j:Nat) (W:World):Prop where
 b0:W.heap[w.heap.size]? = some (.cells #[.int .i64 t.kind,.int .i64 t.n,.string t.name,.slice t.at_.1 t.args.length t.at_.2] 27 (0,0))
 b1:W.heap[w.heap.size+1]? = some (.cells #[.int .i64 0,.int .i64 0,.string ⟨#[]⟩,.slice none 0 0] 27 (0,0))
 map:IMap Try.prog 2 W mb j (valsM (gmap vs first j))
 row:Row W 2 1 v vs.length (vs.map (Value.int .i64))
 turned:Turned zN w W
 ne:v.ownBlock≠some mb
 lt:w.heap.size+1 < mb
theorem FromI.turned0 {w w1 w2:World} {mb:Nat} {t:LT} {vs:List Int} {first:Int} {v:Value} {j:Nat} (h:FromI w mb t vs first v j w1) (ht:Turned zN w1 w2):FromI w mb t vs first v j w2:=
 ⟨(ht.bt h.b0),(ht.bt h.b1),h.map.turned ht (fun f=>f),h.row.turned0 ht,h.turned.trans ht,h.ne,h.lt⟩
theorem FromI.put {w w1 w2:World} {mb:Nat} {t:LT} {vs:List Int} {first:Int} {v:Value} {j:Nat} {n:Int} (h:FromI w mb t vs first v j w1) (hnd:vs.Nodup) (hn:vs[j]? = some n) (ht:Turned (· = mb) w1 w2)
 (hm:IMap Try.prog 2 w2 mb (if (valsM (gmap vs first j) n).isSome then j else j+1) (upd (valsM (gmap vs first j)) n (.agg #[.int .i64 0,.int .i64 (first+(j:Int)),.string ByteArray.empty,.slice none 0 0]))):FromI w mb t vs first v (j+1) w2:=by
 have h0:valsM (gmap vs first j) n=none:=by unfold valsM;rw [gmap_none hnd hn];rfl
 rw [h0,gmap_succ hnd hn] at hm;have hlt:=h.lt
 exact ⟨(ht.block _ (zL h.b0) (by omega)).trans h.b0,(ht.block _ (zL h.b1) (by omega)).trans h.b1,hm,h.row.turned ht (fun k hk e=>h.ne (by rw [hk,e])),
  h.turned.step ht (fun i hi e=>by omega),h.ne,h.lt⟩
theorem varE (n:Int) (hn:I64 n) (w:World):Calls Try.prog 62 #[.int .i64 n] w fun e w'=>e = .returned (.agg #[.int .i64 0,.int .i64 n,.string ByteArray.empty,.slice none 0 0])∧Turned zN w w':=
 (varV n hn w).mono fun e w' ⟨h1,_,h3⟩=>⟨h1,h3⟩
theorem good_slim {α:Type} {t:Tm α} (h:goodB t=true):slim t:=by
 unfold goodB at h;simp only [Qd,decide_eq_true_eq,Qt] at h;intro x hx;have:=h.2.2 x hx;unfold goodOneB at this
 split at this
 · simp only [Qd,decide_eq_true_eq] at this;omega
 · split at this
   · simp only [Qd,decide_eq_true_eq] at this;omega
   · split at this
     · simp only [Qd,decide_eq_true_eq] at this;omega
     · cases this
end Go.Proofs.Ytoihjobdfjajfaa
namespace Go.Proofs.Ytoihjobdfjajfaa
namespace Tm
theorem numsIn_V {i v:Int}:numsIn (V i) v↔v=i:=by
 unfold numsIn V;constructor
 · rintro ⟨x,hx,_,rfl⟩
   simp only [flat,flats,Qw,Ql,or_false] at hx;subst hx;rfl
 · rintro rfl
   exact ⟨_,by simp only [flat,flats];exact Qe ..,rfl,rfl⟩
theorem flat_V (i:Int):(V i).flat=[V i]:=by unfold V;simp only [flat,flats]
theorem leafy_V (i:Int):leafy (V i):=by
 intro x hx hk;rw [flat_V] at hx;simp only [Qw,Ql,or_false] at hx;subst hx;rfl
theorem leafy_self {t:Tm Unit} (h:leafy t) (hk:t.kind=0):t=V t.n:=h t (by rw [flat_eq];exact Qe ..) hk
theorem numsIn_mk {k n:Int} {s:ByteArray} {e:Unit} {aa:List (Tm Unit)} {v:Int} (hk:¬ k=0):numsIn (.mk k n s e aa) v↔∃ x∈flats aa,x.kind=0∧x.n=v:=by
 unfold numsIn;constructor
 · rintro ⟨x,hx,h1,h2⟩
   rw [flat_eq] at hx
   rcases Qw.1 hx with rfl | hx
   · exact absurd h1 hk
   · exact ⟨x,hx,h1,h2⟩
 · rintro ⟨x,hx,h1,h2⟩
   exact ⟨x,by rw [flat_eq];exact Qb _ hx,h1,h2⟩
mutual
theorem numsIn_subT {σ:Int→Tm Unit} {v:Int}:∀ t:Tm Unit,leafy t→(numsIn (subT σ t) v↔∃ u,numsIn t u∧numsIn (σ u) v)
 | .mk k n s e aa,h=>by
  by_cases hk:k=0
  · have:=leafy_self h hk
    rw [this];simp only [Tm.n,V,subT,if_pos];constructor
    · intro hv;exact ⟨n,numsIn_V.2 rfl,hv⟩
    · rintro ⟨u,hu,hv⟩
      have:=numsIn_V.1 hu;subst this;exact hv
  · simp only [subT,if_neg hk]
    rw [numsIn_mk hk,numsIn_subTs aa (fun x hx=>h x (by rw [flat_eq];exact Qb _ hx))];constructor
    · rintro ⟨u,hu,hv⟩;exact ⟨u,(numsIn_mk hk).2 hu,hv⟩
    · rintro ⟨u,hu,hv⟩;exact ⟨u,(numsIn_mk hk).1 hu,hv⟩
theorem numsIn_subTs {σ:Int→Tm Unit} {v:Int}:∀ l:List (Tm Unit),(∀ x∈flats l,x.kind=0→x=V x.n)→((∃ x∈flats (subTs σ l),x.kind=0∧x.n=v)↔∃ u,(∃ x∈flats l,x.kind=0∧x.n=u)∧numsIn (σ u) v)
 | [],_=>by simp [flats,subTs]
 | y :: l,h=>by
  have h1:=numsIn_subT (σ:=σ) (v:=v) y (fun x hx=>h x (by simp only [flats];exact Qc _ hx));have h2:=numsIn_subTs (σ:=σ) (v:=v) l (fun x hx=>h x (by simp only [flats];exact Qj _ hx));unfold numsIn at h1;simp only [subTs,flats,Qn];constructor
  · rintro ⟨x,hx | hx,hk,hn⟩
    · obtain ⟨u,⟨z,hz,h3,h4⟩,hv⟩:=h1.1 ⟨x,hx,hk,hn⟩
      exact ⟨u,⟨z,.inl hz,h3,h4⟩,hv⟩
    · obtain ⟨u,⟨z,hz,h3,h4⟩,hv⟩:=h2.1 ⟨x,hx,hk,hn⟩
      exact ⟨u,⟨z,.inr hz,h3,h4⟩,hv⟩
  · rintro ⟨u,⟨z,hz | hz,h3,h4⟩,hv⟩
    · obtain ⟨x,hx,hk,hn⟩:=h1.2 ⟨u,⟨z,hz,h3,h4⟩,hv⟩
      exact ⟨x,.inl hx,hk,hn⟩
    · obtain ⟨x,hx,hk,hn⟩:=h2.2 ⟨u,⟨z,hz,h3,h4⟩,hv⟩
      exact ⟨x,.inr hx,hk,hn⟩
end
def allN (P:Tm Unit→Prop) (t:Tm Unit):Prop:=∀ x∈t.flat,P x
mutual
theorem allN_subT {P:Tm Unit→Prop} {σ:Int→Tm Unit} (hP:∀ k n s aa bb,P (.mk k n s () aa)→aa.length=bb.length→¬ k=0→P (.mk k n s () bb)):∀ t:Tm Unit,allN P t→(∀ u,numsIn t u→allN P (σ u))→allN P (subT σ t)
 | .mk k n s e aa,h,hσ=>by
  by_cases hk:k=0
  · simp only [subT,if_pos hk]
    exact hσ n ⟨.mk k n s e aa,by rw [flat_eq];exact Qe ..,hk,rfl⟩
  · simp only [subT,if_neg hk]
    intro x hx;rw [flat_eq] at hx
    rcases Qw.1 hx with rfl | hx
    · exact hP k n s aa _ (h _ (by rw [flat_eq];exact Qe ..)) (by rw [subTs_eq,Qu]) hk
    · exact allN_subTs hP aa (fun x hx=>h x (by rw [flat_eq];exact Qb _ hx)) (fun u hu=>hσ u ((numsIn_mk hk).2 hu)) x hx
theorem allN_subTs {P:Tm Unit→Prop} {σ:Int→Tm Unit} (hP:∀ k n s aa bb,P (.mk k n s () aa)→aa.length=bb.length→¬ k=0→P (.mk k n s () bb)):∀ l:List (Tm Unit),(∀ x∈flats l,P x)→(∀ u,(∃ x∈flats l,x.kind=0∧x.n=u)→allN P (σ u))→∀ x∈flats (subTs σ l),P x
 | [],_,_=>by simp [flats,subTs]
 | y :: l,h,hσ=>by
  intro x hx;simp only [subTs,flats,Qn] at hx
  rcases hx with hx | hx
  · exact allN_subT hP y (fun x hx=>h x (by simp only [flats];exact Qc _ hx)) (fun u ⟨z,hz,h3⟩=>hσ u ⟨z,by simp only [flats];exact Qc _ hz,h3⟩) x hx
  · exact allN_subTs hP l (fun x hx=>h x (by simp only [flats];exact Qj _ hx)) (fun u ⟨z,hz,h3⟩=>hσ u ⟨z,by simp only [flats];exact Qj _ hz,h3⟩) x hx
end
theorem leafy_subT {σ:Int→Tm Unit} {t:Tm Unit} (h:leafy t) (hσ:∀ u,numsIn t u→leafy (σ u)):leafy (subT σ t):=
 allN_subT (P:=fun x=>x.kind=0→x=V x.n) (fun k n s aa bb _ _ hk h=>absurd h hk) t h hσ
def put (n:Int) (x:Tm Unit):Int→Tm Unit:=fun i=>if i=n then x else V i
theorem put_self (n:Int) (x:Tm Unit):put n x n=x:=by unfold put;rw [if_pos rfl]
theorem put_ne {n i:Int} (x:Tm Unit) (h:¬ i=n):put n x i=V i:=by unfold put;rw [if_neg h]
abbrev Trail:=List (Int × Tm Unit)
def sig:Trail→Int→Tm Unit
 | []=>V
 | b :: l=>fun i=>subT (put b.1 (subT (sig l) b.2)) (sig l i)
def img (l:Trail) (t:Tm Unit):Tm Unit:=subT (sig l) t
def dom (l:Trail):List Int:=l.map (·.1)
def look:Trail→Int→Option (Tm Unit)
 | [],_=>none
 | b :: l,n=>if b.1=n then some b.2 else look l n
def okT (m:Nat):Trail→Prop
 | []=>True
 | b :: l=>okT m l∧0≤b.1∧b.1 < m∧b.1∉dom l∧goodB b.2=true∧(∀ v,numsIn b.2 v→v < (m:Int))∧¬ numsIn (img l b.2) b.1
theorem okT.more {m m':Nat} (h:m≤m'):∀ {l:Trail},okT m l→okT m' l
 | [],_=>trivial
 | b :: l,⟨h1,h2,h3,h4,h5,h6,h7⟩=>⟨okT.more h h1,h2,by omega,h4,h5,fun v hv=>by have:=h6 v hv;omega,h7⟩
theorem look_none {l:Trail} {n:Int}:look l n=none↔n∉dom l:=by
 induction l with
 | nil=>simp [look,dom]
 | cons b l ih=>
  simp only [look,dom,Qx,Qw,not_or]
  by_cases h:b.1=n
  · rw [if_pos h];simp [h]
  · rw [if_neg h]
    rw [ih]
    have h':¬ n=b.1:=fun e=>h e.symm
    unfold dom;exact ⟨fun c=>⟨h',c⟩,fun c=>c.2⟩
theorem look_mem {l:Trail} {n:Int} {t:Tm Unit} (h:look l n=some t):(n,t)∈l:=by
 induction l with
 | nil=>simp [look] at h
 | cons b l ih=>
  simp only [look] at h
  split at h
  · rename_i e;injection h with h;subst e h;exact Qe ..
  · exact Qb _ (ih h)
theorem okT_mem {m:Nat} {l:Trail} (h:okT m l) {b:Int × Tm Unit} (hb:b∈l):0≤b.1∧b.1 < m∧goodB b.2=true∧∀ v,numsIn b.2 v→v < (m:Int):=by
 induction l with
 | nil=>cases hb
 | cons c l ih=>
  obtain ⟨h1,h2,h3,h4,h5,h6,h7⟩:=h
  rcases Qw.1 hb with rfl | hb
  · exact ⟨h2,h3,h5,h6⟩
  · exact ih h1 hb
theorem sig_free {m:Nat} {l:Trail} (h:okT m l) {i:Int} (hi:i∉dom l):sig l i=V i:=by
 induction l with
 | nil=>rfl
 | cons b l ih=>
  simp only [dom,Qx,Qw,not_or] at hi;simp only [sig];rw [ih h.1 hi.2];simp only [V,subT,if_pos];exact put_ne _ hi.1
theorem sig_leafy {m:Nat} {l:Trail} (h:okT m l) (i:Int):leafy (sig l i):=by
 induction l generalizing i with
 | nil=>exact leafy_V i
 | cons b l ih=>
  simp only [sig];refine leafy_subT (ih h.1 i) (fun u _=>?_);unfold put
  split
  · exact leafy_subT (good_leafy h.2.2.2.2.1) (fun u _=>ih h.1 u)
  · exact leafy_V u
theorem img_leafy {m:Nat} {l:Trail} (h:okT m l) {t:Tm Unit} (ht:leafy t):leafy (img l t):=leafy_subT ht (fun u _=>sig_leafy h u)
theorem img_cons {m:Nat} {b:Int × Tm Unit} {l:Trail} (t:Tm Unit):img (b :: l) t=subT (put b.1 (img l b.2)) (img l t):=by
 unfold img;rw [subT_subT];rfl
theorem put_none {n:Int} {x t:Tm Unit} (ht:leafy t) (h:¬ numsIn t n):subT (put n x) t=t:=by
 rw [subT_congr (τ:=V) t (fun y hy hk=>put_ne _ (fun e=>h ⟨y,hy,hk,e⟩)),subT_V t ht]
theorem sig_look {m:Nat} {l:Trail} (h:okT m l) {i:Int} {t:Tm Unit} (hi:look l i=some t):sig l i=img l t:=by
 induction l generalizing i t with
 | nil=>simp [look] at hi
 | cons b l ih=>
  have hg:=good_leafy h.2.2.2.2.1;rw [img_cons (m:=m)];simp only [look] at hi;simp only [sig]
  split at hi
  · rename_i e
    injection hi with hi
    subst hi;rw [sig_free h.1 (by rw [←e];exact h.2.2.2.1),put_none (img_leafy h.1 hg) h.2.2.2.2.2.2];simp only [V,subT,if_pos];rw [←e,put_self];rfl
  · rw [ih h.1 hi]
    rfl
theorem img_V (l:Trail) (i:Int):img l (V i)=sig l i:=by unfold img V;simp only [subT,if_pos]
theorem img_mk {k n:Int} {s:ByteArray} {e:Unit} {aa:List (Tm Unit)} (l:Trail) (hk:¬ k=0):img l (.mk k n s e aa) = .mk k n s () (aa.map (img l)):=by
 unfold img;simp only [subT,if_neg hk,subTs_eq]
def total (f:Int→Nat) (l:List Int):Nat:=(l.map f).sum
theorem total_mem {f:Int→Nat} {l:List Int} {v:Int} (h:v∈l):f v≤total f l:=by
 unfold total
 induction l with
 | nil=>cases h
 | cons a l ih=>
  simp only [Qx,List.sum_cons]
  rcases Qw.1 h with rfl | h
  · omega
  · have:=ih h;omega
open Classical in
noncomputable def rk:Trail→Int→Nat
 | [],_=>0
 | b :: l,i=>if numsIn (sig l i) b.1 then rk l i+total (rk l) b.2.vars+1 else rk l i
theorem rk_lt {m:Nat} {l:Trail} (h:okT m l) {i v:Int} {t:Tm Unit} (hi:look l i=some t) (hv:numsIn t v):rk l v < rk l i:=by
 induction l generalizing i t v with
 | nil=>simp [look] at hi
 | cons b l ih=>
  have hg:=good_leafy h.2.2.2.2.1;simp only [look] at hi;simp only [rk]
  split at hi
  · rename_i e
    injection hi with hi
    subst hi
    have h0:¬ numsIn (sig l v) b.1:=fun c=>h.2.2.2.2.2.2 ((numsIn_subT _ hg).2 ⟨v,hv,c⟩)
    rw [if_neg h0,if_pos]
    · have:=total_mem (f:=rk l) ((vars_mem v).2 hv)
      omega
    · rw [←e,sig_free h.1 h.2.2.2.1]
      exact numsIn_V.2 rfl
  · have h1:=ih h.1 hi hv
    have hl:leafy t:=by
     have:=okT_mem h.1 (look_mem hi);exact good_leafy this.2.2.1
    by_cases hc:numsIn (sig l v) b.1
    · rw [if_pos hc,if_pos]
      · omega
      · rw [sig_look h.1 hi]
        exact (numsIn_subT _ hl).2 ⟨v,hv,hc⟩
    · rw [if_neg hc]
      split <;> omega
end Tm
end Go.Proofs.Ytoihjobdfjajfaa

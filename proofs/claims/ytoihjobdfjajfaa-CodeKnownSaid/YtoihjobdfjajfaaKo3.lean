/- Merged texts: BT2, BT3, BU1, BU2, BU3, BU4, MP1, MP2, CB2, BX1, CB3, BL1, CB9, CB4, CB5, BX2. -/
import Derived.Test.YtoihjobdfjajfaaKo2
import Derived.Deep.LoopGhost
set_option linter.unusedVariables false
set_option linter.unusedSimpArgs false
open List renaming getElem?_eq_getElem → Qa, mem_cons_of_mem → Qb, mem_append_left → Qc, mem_cons_self → Qe, mem_of_getElem? → Qf, getElem?_eq_some_iff → Qg, eq_nil_of_length_eq_zero → Qh, length_append → Qi, mem_append_right → Qj, setIfInBounds_toArray → Qk, not_mem_nil → Ql, mem_append → Qn, getElem?_map → Qp, foldl_cons → Qq, set_cons_succ → Qr, set_cons_zero → Qs, all_eq_true → Qt, length_map → Qu, mem_cons → Qw, map_cons → Qx, length_cons → QB
open Bool renaming and_eq_true → Qd
open Nat renaming le_refl → Qm, lt_of_lt_of_le → Qo, lt_irrefl → Qy, lt_of_le_of_lt → Qz, le_trans → QA
open Array renaming getElem?_toList → Qv, getElem?_eq_some_iff → QC
set_option maxHeartbeats 12800000
namespace Go.Proofs.Ytoihjobdfjajfaa
open Lib (hid)
open Go.RowKit Go.Maps
theorem ptrs_unset {m:Nat} {l:TL} {i:Int} {c:Nat × LT} (h0:0≤i) (h1:i < (m:Int)) (hl:lookL l i=none):(ptrs m ((i,c) :: l)).set i.toNat (.pointer none)=ptrs m l:=by
 refine List.ext_getElem? (fun j=>?_)
 by_cases hj:j < m
 · rw [ptrs_at (l:=l) hj]
   by_cases he:i.toNat=j
   · subst he
     rw [List.getElem?_set_self (by rw [ptrs_length];omega),Int.toNat_of_nonneg h0,hl];rfl
   · rw [List.getElem?_set_ne he,ptrs_at hj]
     simp only [lookL];rw [if_neg (by omega)]
 · rw [List.getElem?_eq_none (by rw [List.length_set,ptrs_length];omega),List.getElem?_eq_none (by rw [ptrs_length];omega)]
section
variable {p:Nat→Prop} {bb sb m:Nat} {lv tv:Value} {l:TL} {w w':World}
theorem BI.undo {tv':Value} {k:Nat} (h:BI p bb sb lv tv m l w) (ht:Turned (fun k=>k=sb∨lv.ownBlock=some k∨tv.ownBlock=some k) w w') (hs:w'.heap[sb]? = some (.cells #[.int .i64 65536,tv'] 209 (0,0)))
 (hr:Row w' 165 1 lv m (ptrs m (l.drop k))) (htr:Row w' 2 1 tv' (l.drop k).length (((l.drop k).map fun b=>Value.int .i64 b.1).reverse)) (ho:tv'.ownBlock=tv.ownBlock):BI p bb sb lv tv' m (l.drop k) w':=by
 obtain ⟨n1,n2,n3,n4,n5,n6⟩:=h.ne;have hbl:=(zL h.b)
 have hown:∀ k,ownK bb sb lv tv' k→ownK bb sb lv tv k:=by
  rintro k (e | e | e | e)
  · exact .inl e
  · exact .inr (.inl e)
  · exact .inr (.inr (.inl e))
  · exact .inr (.inr (.inr (ho ▸ e)))
 refine ⟨(ht.block _ hbl (fun e=>e.elim n1 (fun e=>e.elim n2 n4))).trans h.b,hs,hr,htr,fun b hb=>?_,?_,h.most,⟨n1,n2,n3,by rw [ho];exact n4,by rw [ho];exact n5,fun k hk=>by rw [ho];exact n6 k hk⟩,fun k hk=>⟨Qo (h.sep k hk).1 ht.size,fun c=>(h.sep k hk).2 (hown k c)⟩⟩
 · obtain ⟨t1,t2,t3⟩:=h.terms b (List.mem_of_mem_drop hb)
   exact ⟨(ht.block _ (zL t1) (fun e=>t3 (.inr e))).trans t1,LT.In.turned ht (fun k hk hq e=>(h.sep k hq).2 (.inr e)) (fun k hk hq=>hq) _ t2,fun e=>t3 (hown _ e)⟩
 · have:=Tm.okT_drop k h.ok
   unfold bt at this ⊢;rw [List.map_drop];exact this
def UndL (lv:Value) (m:Nat) (l:TL) (N:Nat) (w2:World) (k:Nat) (i:Value) (wr:World):Prop:=
 ∃ j:Nat,Hid (j+k=N)∧j≤N∧i = .int .i64 j∧Hid (Row wr 165 1 lv m (ptrs m (l.drop j)))∧Hid (Turned (fun k=>lv.ownBlock=some k) w2 wr)
set_option maxRecDepth 100000 in
theorem undo101 (h:BI p bb sb lv tv m l w) (n:Nat) (hn:n≤l.length) :
 Calls Try.prog 101 #[.pointer (some ⟨bb,0,none⟩),.int .i64 n] w fun e w'=>e = .returned (.bool true)∧(∃ tv',BI p bb sb lv tv' m (l.drop (l.length - n)) w'∧tv'.ownBlock=tv.ownBlock)∧Turned (fun k=>k=sb∨lv.ownBlock=some k∨tv.ownBlock=some k) w w':=by
 obtain ⟨n1,n2,n3,n4,n5,n6⟩:=h.ne;have hlen:=h.length;have hmost:=h.most;obtain ⟨c0,c1,_⟩:=rec2b h.b
 have hst:Stk (α:=Int) 209 2 (Value.int .i64) w 0 sb 65536 tv (l.map (·.1)).reverse:=⟨Nat.zero_le _,fun _ _=>Nat.zero_le _,h.s,by
  have:=h.trail;rw [List.length_reverse,Qu,List.map_reverse,List.map_map]
  exact this,n5,by omega,by omega,by rw [List.length_reverse,Qu];omega⟩
 have hu:=stkUndoI hst n (by rw [List.length_reverse,Qu];exact hn)
 have hdrop:(((l.map (·.1)).reverse.drop n).map (Value.int .i64)).reverse=(l.take (l.length - n)).map fun b=>Value.int .i64 b.1:=by
  rw [←List.map_reverse,List.drop_reverse,List.reverse_reverse,Qu,←List.map_take,List.map_map];rfl
 have htake:((l.map (·.1)).reverse.take n)=((l.drop (l.length - n)).map (·.1)).reverse:=by
  rw [List.take_reverse,Qu,←List.map_drop]
 rw [hdrop,htake,List.length_reverse,Qu] at hu;have HU:=hid hu;have HB:=hid h;have hbl:=(zL h.b)
 have hml:l.length - n≤65536:=by omega
 clear hu hst hdrop htake h;go_enter Try.func101,Try.ntmps101
 go_wp2_with (go_at_call 151;(with_reducible refine HU.out.mono ?_);rintro e w2 ⟨v,tv',rfl,hv,hvn,hs2,ho2,T2⟩;obtain ⟨va,vc,rfl⟩:=hv.shape;have HV:=hid hv;have HVN:=hid hvn;have HS2:=hid hs2;have HO2:=hid ho2;have T2':Turned (fun k=>k=sb∨tv.ownBlock=some k) w w2:=T2;have HT2:=hid T2';clear hv hvn hs2 ho2 T2 T2' c0 c1)
 have hbb:=HT2.out.block bb hbl (fun e=>e.elim n1 n4);have HB2:=hid (hbb.trans HB.out.b)
 have HR2:Hid (Row w2 165 1 lv m (ptrs m (l.drop 0))):=HB.out.row.turned HT2.out (fun k hk e=>by
  rcases e with e | e
  · exact n3 (e ▸ hk)
  · exact n6 k hk e)
 clear hbb
 go_loopg [20] (l.length - n) (fun k i wr=>UndL lv m l (l.length - n) w2 k i wr)
 case atStart=>exact ⟨0,Nat.zero_add _,Nat.zero_le _,rfl,HR2,Turned.refl _ _⟩
 case round=>
  obtain ⟨j,HG,hj,rfl,HR,HT⟩:=hrel;have hbr:=(HT.out.block bb (zL HB2.out) n2).trans HB2.out;obtain ⟨b0,b1,_⟩:=rec2b hbr;clear hbr
  by_cases hjl:j < l.length - n
  · obtain ⟨⟨i,c⟩,hx⟩:∃ x,l[j]? = some x:=⟨_,Qa (by omega)⟩
    have hmem:=HB.out.ok;have hin:(i,c.2.bare)∈bt l:=List.mem_map.2 ⟨_,Qf hx,rfl⟩;obtain ⟨i0,i1,_⟩:=Tm.okT_mem hmem hin;have i0:0≤i:=i0;have i1:i < (m:Int):=i1
    have hdj:l.drop j=(i,c) :: l.drop (j+1):=by
     rw [List.drop_eq_getElem_cons (by omega)];congr 1;have:=Qa (l:=l) (i:=j) (by omega);rw [hx] at this;exact (Option.some.inj this).symm
    have hno:lookL (l.drop (j+1)) i=none:=by
     have hok:=Tm.okT_drop j HB.out.ok
     have e:(bt l).drop j=(i,c.2.bare) :: bt (l.drop (j+1)):=by unfold bt;rw [←List.map_drop,hdj];rfl
     rw [e] at hok;have h3:=Tm.look_none.2 hok.2.2.2.1;rw [look_bt] at h3
     cases hq:lookL (l.drop (j+1)) i with
     | none=>rfl
     | some q=>rw [hq] at h3;cases h3
    obtain ⟨g,cl,hle⟩:=HR.out.shape_pos (by omega);subst hle;have hmx:=HR.out.max;have hrw:=HR.out;rw [hdj] at hrw;have hset:=hrw.setAt (off:=i.toNat) (by omega) (.pointer none);rw [ptrs_unset i0 i1 hno] at hset;have hrf:=hrw.free rfl i.toNat;have hrc:=hrw.cells rfl i.toNat _ (ptrs_at (by omega))
    have hvr:=HV.out.turned HT.out (fun k hk e=>by
     have h1:=HVN.out k hk;have h2:=HB.out.row.lt k e
     omega)
    obtain ⟨gv,cap,he⟩:=hvr.shape_pos (by omega)
    injection he with q1 _ q3
    subst q1 q3;have hvc:=hvr.cells rfl j (.int .i64 i) (by rw [Qp,List.getElem?_take_of_lt hjl,hx];rfl);have HST:=hid hset;clear hx hmem hin hdj hno hrw hset hvr;have h64:IntKind.i64.wrap i=i:=wrapI (by omega) (by omega)
    go_wp2_with fail
    go_roundg (gk - 1)
    case measure=>have:=HG.out;omega
    case rel=>exact ⟨j+1,show _=_ by have:=HG.out;omega,by omega,by go_num,HST,HT.out.setCell (p:=⟨g,i.toNat,none⟩) (.inr rfl) _⟩
  · obtain rfl:j=l.length - n:=by omega
    go_wp2_with fail
    go_ret;have hs3:=(HT.out.block sb (zL HS2.out.blk) n3).trans HS2.out.blk;have htr:=HS2.out.row.turned HT.out (fun k hk e=>n6 k e (by rw [←HO2.out];exact hk));rw [List.length_reverse,Qu,List.map_reverse,List.map_map] at htr;refine ⟨rfl,⟨tv',HB.out.undo ((HT2.out.mono (fun k _ e=>e.elim .inl (fun e=>.inr (.inr e)))).trans (HT.out.mono (fun k _ e=>.inr (.inl e)))) hs3 HR.out htr HO2.out,HO2.out⟩,(HT2.out.mono (fun k _ e=>e.elim .inl (fun e=>.inr (.inr e)))).trans (HT.out.mono (fun k _ e=>.inr (.inl e)))⟩
end
def remL (l:TL) (todo:List LT):List (Tm Unit):=todo.reverse.flatMap fun y=>(Tm.img (bt l) y.bare).flat
theorem remL_snoc (l:TL) (ys:List LT) (x:LT):remL l (ys++[x])=(Tm.img (bt l) x.bare).flat++remL l ys:=by
 unfold remL;rw [List.reverse_append];rfl
theorem remL_args (l:TL) (ys as_:List LT):remL l (ys++as_.reverse)=Tm.flats (as_.map fun y=>Tm.img (bt l) y.bare)++remL l ys:=by
 unfold remL;rw [List.reverse_append,List.reverse_reverse,List.flatMap_append];congr 1
 induction as_ with
 | nil=>rfl
 | cons y l ih=>simp only [List.flatMap_cons,Qx,Tm.flats,ih]
theorem remL_ne (l:TL) (ys:List LT) (x:LT):remL l (ys++[x])≠[]:=by
 rw [remL_snoc,Tm.flat_eq];simp
structure HasI (p:Nat→Prop) (m:Nat) (w0:World) (todo:List LT) (v:Value) (w:World):Prop where
 row:Row w 27 4 v todo.length (todo.flatMap LT.cells)
 own:∀ g,v.ownBlock=some g→w0.heap.size≤g
 mem:∀ y∈todo,y.In p w∧given m y
 turned:Turned zN w0 w
 plt:∀ k,p k→k < w0.heap.size
section
variable {p:Nat→Prop} {m:Nat} {w0 w w':World} {todo ys:List LT} {x:LT} {v:Value}
theorem HasI.turned0 (h:HasI p m w0 todo v w) (T:Turned zN w w'):HasI p m w0 todo v w':=⟨h.row.turned0 T,h.own,fun y hy=>⟨(h.mem y hy).1.turned0 T,(h.mem y hy).2⟩,h.turned.trans T,h.plt⟩
theorem HasI.pop {g k cap:Nat} (h:HasI p m w0 (ys++[x]) (.slice (some ⟨g,0,none⟩) k cap) w):k=ys.length+1∧HasI p m w0 ys (.slice (some ⟨g,0,none⟩) ys.length cap) w∧ys.length+1≤cap∧cap≤maxLen:=by
 have hr:=h.row
 have hn:k=ys.length+1:=by
  rcases hr.2 with ⟨e,_⟩ | ⟨g',c',cur,e,_⟩
  · cases e
  · injection e with _ e _;simp at e;exact e
 subst hn
 have hcap:ys.length+1≤cap∧cap≤maxLen:=by
  rcases hr.2 with ⟨e,_⟩ | ⟨g',c',cur,e,_,h1,h2,_⟩
  · cases e
  · injection e with _ _ e;subst e;simp at h1;omega
 have hr':Row w 27 4 (.slice (some ⟨g,0,none⟩) (ys.length+1) cap) (ys.length+1) ((ys++[x]).flatMap LT.cells):=by simpa using hr
 have ht:=hr'.take (m:=ys.length) (c:=cap) (by omega) (by omega) (Qm _);rw [List.flatMap_append,List.take_left' (by rw [LT.flat_length])] at ht;exact ⟨rfl,⟨ht,fun k hk=>h.own k (by simpa [Value.ownBlock] using hk),fun y hy=>h.mem y (Qc _ hy),h.turned,h.plt⟩,hcap⟩
theorem HasI.top {g k cap:Nat} (h:HasI p m w0 (ys++[x]) (.slice (some ⟨g,0,none⟩) k cap) w) :
 w.cell? ⟨g,ys.length * 4,none⟩=some (.int .i64 x.kind)∧w.cell? ⟨g,ys.length * 4+1,none⟩=some (.int .i64 x.n)∧w.cell? ⟨g,ys.length * 4+2,none⟩=some (.string x.name)∧w.cell? ⟨g,ys.length * 4+3,none⟩=some (.slice x.at_.1 x.args.length x.at_.2):=by
 have hn:=h.pop.1;subst hn
 have hr:Row w 27 4 (.slice (some ⟨g,0,none⟩) (ys.length+1) cap) (ys.length+1) ((ys++[x]).flatMap LT.cells):=by simpa using h.row
 have hi:(ys++[x])[ys.length]? = some x:=by simp
 refine ⟨hr.cells rfl _ _ ?_,hr.cells rfl _ _ ?_,hr.cells rfl _ _ ?_,hr.cells rfl _ _ ?_⟩
 · have:=LT.flat_at hi 0 (by omega);rw [Nat.add_zero] at this;rw [this,LT.cells_eq];rfl
 · rw [LT.flat_at hi 1 (by omega),LT.cells_eq];rfl
 · rw [LT.flat_at hi 2 (by omega),LT.cells_eq];rfl
 · rw [LT.flat_at hi 3 (by omega),LT.cells_eq];rfl
theorem HasI.push {v':Value} {y:LT} (h:HasI p m w0 ys v w) (hy:y.In p w∧given m y) (hr:Row w' 27 4 v' (ys.length+1) (ys.flatMap LT.cells++y.cells)) (T:Turned (fun k=>v.ownBlock=some k) w w') (ho:v'.ownBlock=v.ownBlock∨∀ k,v'.ownBlock=some k→w.heap.size≤k):HasI p m w0 (ys++[y]) v' w':=by
 refine ⟨by rw [List.flatMap_append,Qi];simpa using hr,fun g e=>?_,fun z hz=>?_,h.turned.step T (fun i hi e=>by have:=h.own i e;omega),h.plt⟩
 · rcases ho with ho | ho
   · exact h.own g (ho ▸ e)
   · have:=ho g e;have:=h.turned.size;omega
 · rcases Qn.1 hz with hz | hz
   · exact ⟨LT.In.turned T (fun k _ hk e=>by have:=h.own k e;have:=h.plt k hk;omega) (fun _ _ q=>q) _ (h.mem z hz).1,(h.mem z hz).2⟩
   · rw [List.mem_singleton] at hz;rw [hz];exact ⟨LT.In.turned T (fun k _ hk e=>by have:=h.own k e;have:=h.plt k hk;omega) (fun _ _ q=>q) _ hy.1,hy.2⟩
end
theorem has_miss {m most c:Nat} {n:Int} {l:TL} {ys:List LT} {x0 x:LT} (hl:Tm.okT m (bt l)) (hw:Tm.Walked m (bt l) x0.bare x.bare) (hc:c < most) (hn:¬ (x.kind=0∧x.n=n)) :
 Tm.hasL most n c (remL l (ys++[x0]))=Tm.hasL most n (c+1) (remL l (ys++x.args.reverse)):=by
 rw [remL_snoc,remL_args]
 by_cases hk:x.kind=0
 · have hkb:x.bare.kind=0:=by rw [Tm.bare_kind];exact hk
   rw [hw.flat_var hl hkb];have hb:=Tm.leafy_self hw.leafy hkb
   have ha:x.args=[]:=by
    have:=congrArg (fun t=>(Tm.args t).length) hb;exact Qh ((Tm.bare_arity x).symm.trans this)
   rw [ha,List.map_nil,Tm.flats,List.nil_append];exact Tm.hasL_miss (by rw [Tm.bare_kind,Tm.bare_n];exact hn) hc
 · have hkb:¬ x.bare.kind=0:=by rw [Tm.bare_kind];exact hk
   obtain ⟨h1,h2⟩:=hw.flat_node hl hkb;rw [h1,List.cons_append,Tm.hasL_node h2 hc,Tm.bare_args,Tm.bares_eq,List.map_map];rfl
theorem has_hit {m most c:Nat} {n:Int} {l:TL} {ys:List LT} {x0 x:LT} (hl:Tm.okT m (bt l)) (hw:Tm.Walked m (bt l) x0.bare x.bare) (hk:x.kind=0) (hn:x.n=n) :
 Tm.hasL most n c (remL l (ys++[x0]))=(true,c+1):=by
 rw [remL_snoc,hw.flat_var hl (by rw [Tm.bare_kind];exact hk)];exact Tm.hasL_hit (by rw [Tm.bare_kind];exact hk) (by rw [Tm.bare_n];exact hn)
theorem given_args' {m:Nat} {x y:LT} (h:given m x) (hy:y∈x.args):given m y:=by
 by_cases hk:x.kind=0
 · have:=(given_var h hk).2.2.2.1
   rw [this] at hy
   cases hy
 · exact given_args h hk y hy
def hasR (m:Nat) (l:Tm.Trail) (n:Int) (t:Tm Unit) (most:Nat):Bool × Nat:=if Tm.ownB m t=true then Tm.hasL most n 0 (Tm.img l t).flat else (false,0)
def HasL (p:Nat→Prop) (m:Nat) (l:TL) (n:Int) (M:Nat) (R:Bool × Nat) (w0:World) (k:Nat) (v c:Value) (wr:World):Prop:=
 ∃ (todo:List LT) (j:Nat),Hid (j+k=M)∧j≤M∧c = .int .i64 j∧Hid (HasI p m w0 todo v wr)∧Hid (Tm.hasL M n j (remL l todo)=R)∧Hid (todo.length≤1+8 * j)
set_option maxRecDepth 100000 in
theorem has106 {p O:Nat→Prop} {bb m:Nat} {l:TL} {w:World} {t:LT} {n most:Int} (h:BO p bb O m l w) (ht:t.In p w) (hs:slim t) (hm:most≤100000) (hm0 : -9223372036854775808≤most) :
 Calls Try.prog 106 #[.pointer (some ⟨bb,0,none⟩),.int .i64 n,t.val,.int .i64 most] w fun e w'=>e = .returned (.tuple #[.bool (hasR m (bt l) n t.bare most.toNat).1,.int .i64 (hasR m (bt l) n t.bare most.toNat).2])∧Turned zN w w':=by
 obtain ⟨i0,hi0,hz0,hz1,hz2⟩:=info_parts infoT;have T1:Turned zN w (w.alloc (.cells #[.int .i64 t.kind,.int .i64 t.n,.string t.name,.slice t.at_.1 t.args.length t.at_.2] 27)):=(Turned.refl _ w).alloc _
 have how:Calls Try.prog 144 #[.pointer (some ⟨bb,0,none⟩),t.val] (w.alloc (.cells #[.int .i64 t.kind,.int .i64 t.n,.string t.name,.slice t.at_.1 t.args.length t.at_.2] 27)) fun e w'=>e = .returned (.bool (Tm.ownB m t))∧Turned zN (w.alloc (.cells #[.int .i64 t.kind,.int .i64 t.n,.string t.name,.slice t.at_.1 t.args.length t.at_.2] 27)) w':=by
  obtain ⟨sb,lv,tv,B,_⟩:=h.bi;exact own144 (B.turned0 T1) (ht.turned0 T1) hs
 have hbx:=heap_alloc_new w (.cells #[.int .i64 t.kind,.int .i64 t.n,.string t.name,.slice t.at_.1 t.args.length t.at_.2] 27);have HBX:=hid hbx;have HT:=hid ht;have HH:=hid h;have HT1:=hid T1;have hob0:=ownB_bare m t;rw [LT.val_eq] at how ⊢
 cases hob:Tm.ownB m t with
 | false=>
  have hR:hasR m (bt l) n t.bare most.toNat=(false,0):=by unfold hasR;rw [hob0,hob];rfl
  rw [hR];rw [hob] at how;have HOW:=hid how;clear how hob hob0 hR h ht hs hbx T1;go_enter Try.func106,Try.ntmps106
  go_wp2_with (go_at_call 144;(with_reducible refine HOW.out.mono ?_);rintro e w4 ⟨rfl,T4⟩)
  go_ret2
  exact ⟨rfl,HT1.out.trans T4⟩
 | true=>
  have hgb:=Tm.ownB_iff.1 (show Tm.ownB m t.bare=true by rw [hob0,hob]);have hgv:given m t:=⟨Tm.good_ones' hgb.1,hgb.2⟩
  have hst:∀ M,Tm.hasL M n 0 (remL l [t])=hasR m (bt l) n t.bare M:=fun M=>by
   unfold hasR;rw [hob0,hob,if_pos rfl];rw [show ([t]:List LT)=[]++[t] from rfl,remL_snoc];show Tm.hasL M n 0 (_++[])=_;rw [List.append_nil]
  rw [hob] at how;have HOW:=hid how;have HGV:=hid hgv;clear how hob hob0 h ht hs hbx T1 hgv hgb
  by_cases hneg:most < 0
  · have hM0:most.toNat=0:=by omega
    rw [hM0]
    have hmx:¬ (0:Int) < most:=by omega
    obtain ⟨R,hR⟩:∃ z,z=hasR m (bt l) n t.bare 0:=⟨_,rfl⟩;have HST:=hid ((hst 0).trans hR.symm);rw [←hR];clear hR hst hM0;go_enter Try.func106,Try.ntmps106
    go_wp2_with (go_at_call 144;(with_reducible refine HOW.out.mono ?_);rintro e w4 ⟨rfl,T4⟩;obtain ⟨c0,c1,c2,c3,_⟩:=cells4 ((T4.block _ (by simp) (fun f=>f)).trans HBX.out);have HT4:=hid (HT1.out.trans T4);clear T4)
    have hinit:Hid (HasI p m w [t] (.slice (some ⟨w4.heap.size,0,none⟩) 1 1) (w4.alloc (.cells #[.int .i64 t.kind,.int .i64 t.n,.string t.name,.slice t.at_.1 t.args.length t.at_.2] 27))):=by
     refine ⟨?_,fun g e=>by (simp [Value.ownBlock] at e;have:=HT4.out.size;omega),fun y hy=>?_,HT4.out.alloc _,HH.out.plt⟩
     · have:=Row.made w4 27 4 #[.int .i64 t.kind,.int .i64 t.n,.string t.name,.slice t.at_.1 t.args.length t.at_.2] 1 rfl (by unfold maxLen;omega)
       simpa [LT.cells_eq] using this
     · rw [List.mem_singleton] at hy
       rw [hy];exact ⟨HT.out.turned0 (HT4.out.alloc _),HGV.out⟩
    go_loopg [10,11] 0 (fun k v c wr=>HasL p m l n 0 R w k v c wr)
    case atStart=>exact ⟨[t],0,Nat.zero_add _,Nat.zero_le _,rfl,hinit,HST.out,show _≤_ by simp⟩
    case round=>
     obtain ⟨todo,j,HG,hj,rfl,HI,HR,HL⟩:=hrel;obtain ⟨wo,rfl⟩:∃ wo:World,wo=wr:=⟨_,rfl⟩;obtain ⟨go,rfl⟩:∃ go:Nat,go=gk:=⟨_,rfl⟩
     rcases List.eq_nil_or_concat todo with rfl | ⟨ys,x0,rfl⟩
     · obtain ⟨a,cap,rfl⟩:=HI.out.row.shape
       have hr:R=(false,j):=HR.out.symm;have HRR:=hid hr;clear hr
       go_wp2_with fail
       go_ret2
       rw [HRR.out];exact ⟨rfl,HI.out.turned⟩
     · rw [List.concat_eq_append] at HI HR HL
       obtain ⟨g,cap,rfl⟩:=HI.out.row.shape_pos (by simp);obtain ⟨hn1,hI1,hc1,hc2⟩:=HI.out.pop;obtain ⟨c0,c1,c2,c3⟩:=HI.out.top
       have hcm:cap≤9223372036854775807:=by unfold maxLen at hc2;exact hc2
       have hys:ys.length≤800001:=by have:=HL.out;rw [Qi,List.length_singleton] at this;omega
       rw [Qi,List.length_singleton];have HI1:=hid hI1
       by_cases hjm:j=0
       · have hjb:((j:Int) == 0)=true:=by simp [hjm]
         have hr:R=(true,0+1):=by rw [←HR.out,Tm.hasL_stop (by omega) (remL_ne l ys x0),hjm]
         have HRR:=hid hr;clear hr hjm hI1 hn1
         go_wp2_with fail
         go_ret2
         rw [HRR.out];exact ⟨rfl,HI.out.turned⟩
       · omega
  · obtain ⟨M,rfl⟩:∃ M:Nat,most=M:=⟨most.toNat,by omega⟩
    rw [Int.toNat_natCast];obtain ⟨R,hR⟩:∃ z,z=hasR m (bt l) n t.bare M:=⟨_,rfl⟩;have HST:=hid ((hst M).trans hR.symm);rw [←hR];clear hR hst;go_enter Try.func106,Try.ntmps106
    go_wp2_with (go_at_call 144;(with_reducible refine HOW.out.mono ?_);rintro e w4 ⟨rfl,T4⟩;obtain ⟨c0,c1,c2,c3,_⟩:=cells4 ((T4.block _ (by simp) (fun f=>f)).trans HBX.out);have HT4:=hid (HT1.out.trans T4);clear T4)
    have hinit:Hid (HasI p m w [t] (.slice (some ⟨w4.heap.size,0,none⟩) 1 1) (w4.alloc (.cells #[.int .i64 t.kind,.int .i64 t.n,.string t.name,.slice t.at_.1 t.args.length t.at_.2] 27))):=by
     refine ⟨?_,fun g e=>by (simp [Value.ownBlock] at e;have:=HT4.out.size;omega),fun y hy=>?_,HT4.out.alloc _,HH.out.plt⟩
     · have:=Row.made w4 27 4 #[.int .i64 t.kind,.int .i64 t.n,.string t.name,.slice t.at_.1 t.args.length t.at_.2] 1 rfl (by unfold maxLen;omega)
       simpa [LT.cells_eq] using this
     · rw [List.mem_singleton] at hy
       rw [hy];exact ⟨HT.out.turned0 (HT4.out.alloc _),HGV.out⟩
    go_loopg [10,11] M (fun k v c wr=>HasL p m l n M R w k v c wr)
    case atStart=>exact ⟨[t],0,Nat.zero_add _,Nat.zero_le _,rfl,hinit,HST.out,show _≤_ by simp⟩
    case round=>
     obtain ⟨todo,j,HG,hj,rfl,HI,HR,HL⟩:=hrel;obtain ⟨wo,rfl⟩:∃ wo:World,wo=wr:=⟨_,rfl⟩;obtain ⟨go,rfl⟩:∃ go:Nat,go=gk:=⟨_,rfl⟩
     rcases List.eq_nil_or_concat todo with rfl | ⟨ys,x0,rfl⟩
     · obtain ⟨a,cap,rfl⟩:=HI.out.row.shape
       have hr:R=(false,j):=HR.out.symm;have HRR:=hid hr;clear hr
       go_wp2_with fail
       go_ret2
       rw [HRR.out];exact ⟨rfl,HI.out.turned⟩
     · rw [List.concat_eq_append] at HI HR HL
       obtain ⟨g,cap,rfl⟩:=HI.out.row.shape_pos (by simp);obtain ⟨hn1,hI1,hc1,hc2⟩:=HI.out.pop;obtain ⟨c0,c1,c2,c3⟩:=HI.out.top
       have hcm:cap≤9223372036854775807:=by unfold maxLen at hc2;exact hc2
       have hys:ys.length≤800001:=by have:=HL.out;rw [Qi,List.length_singleton] at this;omega
       rw [Qi,List.length_singleton];have HI1:=hid hI1
       by_cases hjm:j=M
       · have hjb:((j:Int) == (M:Int))=true:=by simp [hjm]
         have hr:R=(true,M+1):=by rw [←HR.out,Tm.hasL_stop (by omega) (remL_ne l ys x0),hjm]
         have HRR:=hid hr;clear hr hjm hI1 hn1
         go_wp2_with fail
         go_ret2
         rw [HRR.out];exact ⟨rfl,HI.out.turned⟩
       · have hjb:((j:Int) == (M:Int))=false:=by simp;omega
         have hjl:j < M:=by omega
         have hw:=Tm.walked HH.out.ok _ x0.bare (Qm _) (HI.out.mem x0 (by simp)).2.1;have hwc:=walkO90 (HH.out.turned0 HI.out.turned) (HI.out.mem x0 (by simp)).1 (HI.out.mem x0 (by simp)).2.1;have hgx:=(HI.out.mem x0 (by simp)).2;rw [LT.val_eq] at hwc;have HWC:=hid hwc;have HWD:=hid hw;have HGX:=hid hgx;clear hw hwc hI1 hn1 hgx;obtain ⟨K,hK⟩:∃ z,z=(Tm.walkT (bt l) x0.bare).kind:=⟨_,rfl⟩;obtain ⟨Q,hQ⟩:∃ z,z=(Tm.walkT (bt l) x0.bare).n:=⟨_,rfl⟩;have HK:=hid hK;have HQ:=hid hQ;clear hK hQ
         by_cases hhit:K=0∧Q=n
         · have hr:∀ x:LT,x.bare=Tm.walkT (bt l) x0.bare→R=(true,j+1)∧x.kind=0∧x.n=n:=fun x hx=>by
            have h1:x.kind=0:=by rw [←Tm.bare_kind,hx,←HK.out];exact hhit.1
            have h2:x.n=n:=by rw [←Tm.bare_n,hx,←HQ.out];exact hhit.2
            exact ⟨by rw [←HR.out];exact has_hit HH.out.ok (by rw [hx];exact HWD.out) h1 h2,h1,h2⟩
           have HRR:=hid hr;clear hr hhit
           go_wp2_with (go_at_call 90;(with_reducible refine HWC.out.mono ?_);rintro e w6 ⟨x,rfl,hxi,hxb,T6⟩;rw [LT.val_eq];obtain ⟨r1,r2,r3⟩:=HRR.out x hxb;rw [r2,r3];have HT6:=hid T6;have HR1:=hid r1;clear hxi hxb T6 r1 r2 r3)
           go_ret2
           rw [HR1.out];exact ⟨rfl,(HI.out.turned.trans HT6.out).alloc _⟩
         · have hgw:∀ x:LT,x.bare=Tm.walkT (bt l) x0.bare→given m x:=fun x hx=>⟨by rw [hx];exact HWD.out.ones,by rw [hx];exact HWD.out.lt HGX.out.2⟩
           have HGW:=hid hgw
           have hms:∀ x:LT,x.bare=Tm.walkT (bt l) x0.bare→Tm.hasL M n (j+1) (remL l (ys++x.args.reverse))=R:=fun x hx=>by
            rw [←HR.out];exact (has_miss HH.out.ok (by rw [hx];exact HWD.out) hjl (fun c=>hhit ⟨by rw [HK.out,←hx,Tm.bare_kind];exact c.1,by rw [HQ.out,←hx,Tm.bare_n];exact c.2⟩)).symm
           have HMS:=hid hms;clear hgw hms
           by_cases hk0:K=0
           · have hqn:∀ x:LT,x.bare=Tm.walkT (bt l) x0.bare→(x.kind == 0)=true∧(x.n == n)=false:=fun x hx=>by
              have h1:x.kind=0:=by rw [←Tm.bare_kind,hx,←HK.out];exact hk0
              have h2:¬ x.n=n:=fun e=>hhit ⟨hk0,by rw [HQ.out,←hx,Tm.bare_n];exact e⟩
              exact ⟨by simp [h1],by simp [h2]⟩
             have HQN:=hid hqn;clear hqn hhit hk0
             go_wp2_with (go_at_call 90;(with_reducible refine HWC.out.mono ?_);rintro e w6 ⟨x,rfl,hxi,hxb,T6⟩;rw [LT.val_eq];obtain ⟨b1,b2⟩:=HQN.out x hxb;have hlen:=hxi.len;have hal:x.args.length≤8:=given_arity (HGW.out x hxb);have HXI:=hid hxi;have HXB:=hid hxb;have hI6:=HI1.out.turned0 T6;have HI6:=hid hI6;have hb6:=heap_alloc_new w6 (.cells #[.int .i64 x.kind,.int .i64 x.n,.string x.name,.slice x.at_.1 x.args.length x.at_.2] 27);have HB6:=hid hb6;clear hxi hxb T6 hI6 hlen hb6)
             have hI7:=HI6.out.turned0 ((Turned.refl (fun _=>False) w6).alloc (.cells #[.int .i64 x.kind,.int .i64 x.n,.string x.name,.slice x.at_.1 x.args.length x.at_.2] 27));have hx7:=HXI.out.turned0 ((Turned.refl (fun _=>False) w6).alloc (.cells #[.int .i64 x.kind,.int .i64 x.n,.string x.name,.slice x.at_.1 x.args.length x.at_.2] 27))
             have hn7:g≠w6.heap.size:=fun e=>by have:=HI6.out.row.lt g rfl;omega
             have HI7:=hid hI7;have HX7:=hid hx7;have HLI:=hid HXI.out.lies;clear hI7 hx7
             try clear b1 b2
             go_loopg [10,13] x.args.length (fun q v i wr2=>Hid (q≤x.args.length)∧i = .int .i64 ((q:Int) - 1)∧Hid (HasI p m w (ys++(x.args.drop q).reverse) v wr2)∧wr2.heap[w6.heap.size]? = some (.cells #[.int .i64 x.kind,.int .i64 x.n,.string x.name,.slice x.at_.1 x.args.length x.at_.2] 27 (0,0))∧Hid (∀ g,v.ownBlock=some g→g≠w6.heap.size)∧Hid (x.In p wr2))
             case atStart=>exact ⟨Qm _,rfl,(show HasI _ _ _ _ _ _ by simpa using HI7.out),HB6.out,fun g' hg'=>by (simp [Value.ownBlock] at hg';subst hg';exact hn7),HX7.out⟩
             case round=>
              obtain ⟨HJ,hi,HI8,hb8,HO8,HX8⟩:=hrel;obtain ⟨a8,cap8,rfl⟩:=HI8.out.row.shape;obtain ⟨c0,c1,c2,c3,_⟩:=cells4 hb8;have HB8:=hid hb8;clear hb8
              rcases gk with _ | q
              · rw [show (((0:Nat):Int) - 1) = -1 from rfl] at hi
                subst hi
                go_wp2_with fail
                go_roundg (go - 1)
                case measure=>have:=HG.out;omega
                case rel=>
                 refine ⟨ys++x.args.reverse,j+1,show _=_ by (have:=HG.out;omega),by omega,by go_num,(show HasI _ _ _ _ _ _ by simpa using HI8.out),HMS.out x HXB.out,?_⟩;show _≤_;have:=HL.out;simp at this ⊢;omega
              · rw [show (((q+1:Nat):Int) - 1)=(q:Int) from by omega] at hi
                subst hi
                have hm:q < x.args.length:=by have:=HJ.out;omega
                obtain ⟨y,hy⟩:∃ y:LT,x.args[q]? = some y:=⟨_,Qa hm⟩;obtain ⟨b,o,ha,_,d0,d1,d2,d3⟩:=HX8.out.lies.cell hy;rw [ha] at c3;have HY:=hid hy;have HAd:=hid ha;have hgy:=given_args' (HGW.out x HXB.out) (Qf hy);have hyi:y.In p wr:=(LT.ins_iff _).1 HX8.out.args y (Qf hy);have TA:Turned zN wr (wr.alloc (.cells #[.int .i64 y.kind,.int .i64 y.n,.string y.name,.slice y.at_.1 y.args.length y.at_.2] 27)):=(Turned.refl _ wr).alloc _;have hrow:=(HI8.out.turned0 TA).row;have hnews:=news_block (cs:=y.cells) (by rw [LT.cells_eq y];exact heap_alloc_new wr (.cells #[.int .i64 y.kind,.int .i64 y.n,.string y.name,.slice y.at_.1 y.args.length y.at_.2] 27));have HN:=hid hnews;have HR9:=hid hrow;have HYG:=hid (And.intro (hyi.turned0 TA) hgy);have HTA:=hid TA
                have hlen:(ys++(x.args.drop (q+1)).reverse).length≤800200:=by simp;omega
                clear hy ha hnews hrow TA hgy hyi
                go_wp2_with (at_builtin;refine append_some _ rfl _ _ 22 rfl 27 i0 zeroT 4 56 Try.underlying22 hi0 hz0 hz1 hz2 rfl (by decide) _ _ _ rfl HR9.out ⟨wr.heap.size,0,none⟩ 1 1 y.cells rfl (LT.cells_length y) HN.out (LT.cells_one y) (by omega) (by unfold maxLen;omega) (by omega) ?_;intro g5 cap5 w5 hown5 hg5 hloc5)
                go_roundg q
                case measure=>omega
                case rel=>
                 have hpush:=(HI8.out.turned0 HTA.out).push HYG.out hown5 hg5 (by
                  rcases hloc5 with e | e
                  · exact .inl e
                  · exact .inr (own_new e (by simp)))
                 have hst:ys++(x.args.drop (q+1)).reverse++[y]=ys++(x.args.drop q).reverse:=by
                  rw [List.append_assoc,List.drop_eq_getElem_cons hm,List.reverse_cons];have hy:=HY.out;rw [Qa hm] at hy
                  injection hy with hy
                  rw [hy]
                 rw [hst] at hpush
                 have hl5:(ys++(x.args.drop (q+1)).reverse).length=ys.length+(x.args.length - (q+1)):=by simp
                 rw [hl5] at hpush;refine ⟨by have:=HJ.out;show _≤_;omega,rfl,hpush,?_,?_,?_⟩
                 · exact (hg5.block _ (Qo (zL HB8.out) HTA.out.size) (fun e=>HO8.out _ e rfl)).trans ((HTA.out.bt HB8.out))
                 · show ∀ g',_
                   intro g' hg'
                   rcases hloc5 with e | e
                   · exact HO8.out g' (e.symm.trans hg')
                   · simp [Value.ownBlock] at hg'
                     have h1:=(zL HB8.out);simp at e;omega
                 · exact LT.In.turned hg5 (fun k _ hk e=>by have:=HI8.out.own k e;have:=HI8.out.plt k hk;omega) (fun _ _ q=>q) _ (HX8.out.turned0 HTA.out)
           · have hqn:∀ x:LT,x.bare=Tm.walkT (bt l) x0.bare→(x.kind == 0)=false∧True:=fun x hx=>by
              have h1:¬ x.kind=0:=by rw [←Tm.bare_kind,hx,←HK.out];exact hk0
              exact ⟨by simp [h1],trivial⟩
             have HQN:=hid hqn;clear hqn hhit hk0
             go_wp2_with (go_at_call 90;(with_reducible refine HWC.out.mono ?_);rintro e w6 ⟨x,rfl,hxi,hxb,T6⟩;rw [LT.val_eq];obtain ⟨b1,b2⟩:=HQN.out x hxb;have hlen:=hxi.len;have hal:x.args.length≤8:=given_arity (HGW.out x hxb);have HXI:=hid hxi;have HXB:=hid hxb;have hI6:=HI1.out.turned0 T6;have HI6:=hid hI6;have hb6:=heap_alloc_new w6 (.cells #[.int .i64 x.kind,.int .i64 x.n,.string x.name,.slice x.at_.1 x.args.length x.at_.2] 27);have HB6:=hid hb6;clear hxi hxb T6 hI6 hlen hb6)
             have hI7:=HI6.out.turned0 ((Turned.refl (fun _=>False) w6).alloc (.cells #[.int .i64 x.kind,.int .i64 x.n,.string x.name,.slice x.at_.1 x.args.length x.at_.2] 27));have hx7:=HXI.out.turned0 ((Turned.refl (fun _=>False) w6).alloc (.cells #[.int .i64 x.kind,.int .i64 x.n,.string x.name,.slice x.at_.1 x.args.length x.at_.2] 27))
             have hn7:g≠w6.heap.size:=fun e=>by have:=HI6.out.row.lt g rfl;omega
             have HI7:=hid hI7;have HX7:=hid hx7;have HLI:=hid HXI.out.lies;clear hI7 hx7
             try clear b1 b2
             go_loopg [10,13] x.args.length (fun q v i wr2=>Hid (q≤x.args.length)∧i = .int .i64 ((q:Int) - 1)∧Hid (HasI p m w (ys++(x.args.drop q).reverse) v wr2)∧wr2.heap[w6.heap.size]? = some (.cells #[.int .i64 x.kind,.int .i64 x.n,.string x.name,.slice x.at_.1 x.args.length x.at_.2] 27 (0,0))∧Hid (∀ g,v.ownBlock=some g→g≠w6.heap.size)∧Hid (x.In p wr2))
             case atStart=>exact ⟨Qm _,rfl,(show HasI _ _ _ _ _ _ by simpa using HI7.out),HB6.out,fun g' hg'=>by (simp [Value.ownBlock] at hg';subst hg';exact hn7),HX7.out⟩
             case round=>
              obtain ⟨HJ,hi,HI8,hb8,HO8,HX8⟩:=hrel;obtain ⟨a8,cap8,rfl⟩:=HI8.out.row.shape;obtain ⟨c0,c1,c2,c3,_⟩:=cells4 hb8;have HB8:=hid hb8;clear hb8
              rcases gk with _ | q
              · rw [show (((0:Nat):Int) - 1) = -1 from rfl] at hi
                subst hi
                go_wp2_with fail
                go_roundg (go - 1)
                case measure=>have:=HG.out;omega
                case rel=>
                 refine ⟨ys++x.args.reverse,j+1,show _=_ by (have:=HG.out;omega),by omega,by go_num,(show HasI _ _ _ _ _ _ by simpa using HI8.out),HMS.out x HXB.out,?_⟩;show _≤_;have:=HL.out;simp at this ⊢;omega
              · rw [show (((q+1:Nat):Int) - 1)=(q:Int) from by omega] at hi
                subst hi
                have hm:q < x.args.length:=by have:=HJ.out;omega
                obtain ⟨y,hy⟩:∃ y:LT,x.args[q]? = some y:=⟨_,Qa hm⟩;obtain ⟨b,o,ha,_,d0,d1,d2,d3⟩:=HX8.out.lies.cell hy;rw [ha] at c3;have HY:=hid hy;have HAd:=hid ha;have hgy:=given_args' (HGW.out x HXB.out) (Qf hy);have hyi:y.In p wr:=(LT.ins_iff _).1 HX8.out.args y (Qf hy);have TA:Turned zN wr (wr.alloc (.cells #[.int .i64 y.kind,.int .i64 y.n,.string y.name,.slice y.at_.1 y.args.length y.at_.2] 27)):=(Turned.refl _ wr).alloc _;have hrow:=(HI8.out.turned0 TA).row;have hnews:=news_block (cs:=y.cells) (by rw [LT.cells_eq y];exact heap_alloc_new wr (.cells #[.int .i64 y.kind,.int .i64 y.n,.string y.name,.slice y.at_.1 y.args.length y.at_.2] 27));have HN:=hid hnews;have HR9:=hid hrow;have HYG:=hid (And.intro (hyi.turned0 TA) hgy);have HTA:=hid TA
                have hlen:(ys++(x.args.drop (q+1)).reverse).length≤800200:=by simp;omega
                clear hy ha hnews hrow TA hgy hyi
                go_wp2_with (at_builtin;refine append_some _ rfl _ _ 22 rfl 27 i0 zeroT 4 56 Try.underlying22 hi0 hz0 hz1 hz2 rfl (by decide) _ _ _ rfl HR9.out ⟨wr.heap.size,0,none⟩ 1 1 y.cells rfl (LT.cells_length y) HN.out (LT.cells_one y) (by omega) (by unfold maxLen;omega) (by omega) ?_;intro g5 cap5 w5 hown5 hg5 hloc5)
                go_roundg q
                case measure=>omega
                case rel=>
                 have hpush:=(HI8.out.turned0 HTA.out).push HYG.out hown5 hg5 (by
                  rcases hloc5 with e | e
                  · exact .inl e
                  · exact .inr (own_new e (by simp)))
                 have hst:ys++(x.args.drop (q+1)).reverse++[y]=ys++(x.args.drop q).reverse:=by
                  rw [List.append_assoc,List.drop_eq_getElem_cons hm,List.reverse_cons];have hy:=HY.out;rw [Qa hm] at hy
                  injection hy with hy
                  rw [hy]
                 rw [hst] at hpush
                 have hl5:(ys++(x.args.drop (q+1)).reverse).length=ys.length+(x.args.length - (q+1)):=by simp
                 rw [hl5] at hpush;refine ⟨by have:=HJ.out;show _≤_;omega,rfl,hpush,?_,?_,?_⟩
                 · exact (hg5.block _ (Qo (zL HB8.out) HTA.out.size) (fun e=>HO8.out _ e rfl)).trans ((HTA.out.bt HB8.out))
                 · show ∀ g',_
                   intro g' hg'
                   rcases hloc5 with e | e
                   · exact HO8.out g' (e.symm.trans hg')
                   · simp [Value.ownBlock] at hg'
                     have h1:=(zL HB8.out);simp at e;omega
                 · exact LT.In.turned hg5 (fun k _ hk e=>by have:=HI8.out.own k e;have:=HI8.out.plt k hk;omega) (fun _ _ q=>q) _ (HX8.out.turned0 HTA.out)
abbrev PT:=LT × LT
def PT.cells (q:PT):List Value:=q.1.cells++q.2.cells
theorem PT.cells_length (q:PT):(PT.cells q).length=8:=by unfold PT.cells;rw [Qi,LT.cells_length,LT.cells_length]
theorem PT.cells_one (q:PT):∀ u∈PT.cells q,u.oneCell'=true:=by
 intro u hu
 rcases Qn.1 hu with h | h
 · exact LT.cells_one _ u h
 · exact LT.cells_one _ u h
theorem PT.flat_length (l:List PT):(l.flatMap PT.cells).length=l.length * 8:=by
 induction l with
 | nil=>rfl
 | cons x l ih=>rw [List.flatMap_cons,Qi,PT.cells_length,ih,QB];omega
structure UK (p:Nat→Prop) (bb K:Nat) (v:Value) (st:List PT) (c:Int) (O:Nat→Prop) (m:Nat) (l:TL) (w:World):Prop where
 bo:BO p bb O m l w
 k:w.heap[K]? = some (.cells #[.pointer (some ⟨bb,0,none⟩),v,.int .i64 c] 190 (0,0))
 row:Row w 187 8 v st.length (st.flatMap PT.cells)
 mem:∀ q∈st,(q.1.In p w∧Tm.ownB m q.1.bare=true)∧q.2.In p w∧Tm.ownB m q.2.bare=true
 kO:¬ O K∧¬ p K
 vO:∀ g,v.ownBlock=some g→¬ O g∧¬ p g∧g≠K
def ownU (K:Nat) (v:Value) (O:Nat→Prop) (k:Nat):Prop:=k=K∨v.ownBlock=some k∨O k
section
variable {p O:Nat→Prop} {bb K m:Nat} {v:Value} {st:List PT} {c:Int} {l:TL} {w w':World}
theorem UK.kcells (h:UK p bb K v st c O m l w):w.cell? ⟨K,0,none⟩=some (.pointer (some ⟨bb,0,none⟩))∧w.cell? ⟨K,1,none⟩=some v∧w.cell? ⟨K,2,none⟩=some (.int .i64 c)∧w.frozen? ⟨K,1,none⟩=false∧w.frozen? ⟨K,2,none⟩=false:=
 ⟨by rw [cell_of_row w K 0 _ 190 (0,0) h.k];rfl,by rw [cell_of_row w K 1 _ 190 (0,0) h.k];rfl,by rw [cell_of_row w K 2 _ 190 (0,0) h.k];rfl,frozen_of_row w K 1 _ 190 h.k,frozen_of_row w K 2 _ 190 h.k⟩
theorem UK.turned0 (h:UK p bb K v st c O m l w) (T:Turned zN w w'):UK p bb K v st c O m l w':=
 ⟨h.bo.turned0 T,(T.bt h.k),h.row.turned0 T,fun q hq=>⟨⟨(h.mem q hq).1.1.turned0 T,(h.mem q hq).1.2⟩,(h.mem q hq).2.1.turned0 T,(h.mem q hq).2.2⟩,h.kO,h.vO⟩
theorem UK.own_lt (h:UK p bb K v st c O m l w):∀ k,ownU K v O k→k < w.heap.size:=by
 rintro k (rfl | e | e)
 · exact (zL h.k)
 · exact h.row.lt k e
 · exact h.bo.lt k e
theorem UK.cost (h:UK p bb K v st c O m l w) (c':Int):UK p bb K v st c' O m l (w.setCell ⟨K,2,none⟩ (.int .i64 c'))∧Turned (fun k=>k=K) w (w.setCell ⟨K,2,none⟩ (.int .i64 c')):=by
 have T:Turned (fun k=>k=K) w (w.setCell ⟨K,2,none⟩ (.int .i64 c')):=(Turned.refl (fun k=>k=K) w).setCell (p:=⟨K,2,none⟩) (.inr rfl) _
 have hp:∀ q:LT,q.In p w→q.In p (w.setCell ⟨K,2,none⟩ (.int .i64 c')):=fun q hq=>LT.In.turned T (fun k _ hk e=>h.kO.2 (e ▸ hk)) (fun _ _ hk=>hk) q hq
 refine ⟨⟨h.bo.turned T (fun k hk e=>⟨fun c=>h.kO.1 (e ▸ c),fun c=>h.kO.2 (e ▸ c)⟩),?_,h.row.turned T (fun k hk e=>(h.vO k hk).2.2 e),fun q hq=>⟨⟨hp _ (h.mem q hq).1.1,(h.mem q hq).1.2⟩,hp _ (h.mem q hq).2.1,(h.mem q hq).2.2⟩,h.kO,h.vO⟩,T⟩;have:=heap_setCell_same w K 2 _ 190 (.int .i64 c') h.k;simpa using this
end
def UA (p:Nat→Prop) (bb K:Nat) (v:Value) (st:List PT) (c':Int) (O:Nat→Prop) (m:Nat) (l':Tm.Trail) (w w':World):Prop:=
 ∃ (l2:TL) (O':Nat→Prop),bt l2=l'∧UK p bb K v st c' O' m l2 w'∧(∀ k,O' k→k < w.heap.size→O k)∧Turned (ownU K v O) w w'
def UQ (p:Nat→Prop) (bb K:Nat) (v:Value) (st:List PT) (O:Nat→Prop) (m:Nat) (l:TL) (w:World):Tm.UR→Ending→World→Prop
 | .ok l' left',e,w'=>e = .returned (.tuple #[.bool true,.int .i64 0])∧UA p bb K v st (2000 - (left':Int)) O m l' w w'
 | .no q,e,w'=>e = .returned (.tuple #[.bool false,.int .i64 0])∧UA p bb K v st (2000 - (q:Int)) O m (bt l) w w'
 | .over,e,w'=>e = .returned (.tuple #[.bool false,.int .i64 12])∧∃ c',UA p bb K v st c' O m (bt l) w w'
theorem UA.same {p O:Nat→Prop} {bb K m:Nat} {v:Value} {st:List PT} {c:Int} {l:TL} {w w':World} (h:UK p bb K v st c O m l w') (T:Turned (ownU K v O) w w'):UA p bb K v st c O m (bt l) w w':=⟨l,O,rfl,h,fun _ hk _=>hk,T⟩
theorem UK.after {p O:Nat→Prop} {bb K m:Nat} {v:Value} {st:List PT} {c:Int} {l l2:TL} {w w':World} (h:UK p bb K v st c O m l w) (A:After p bb O m l2 w w'):∃ O',UK p bb K v st c O' m l2 w'∧(∀ k,O' k→k < w.heap.size→O k)∧Turned O w w':=by
 obtain ⟨O',a1,a2,a3⟩:=A;have hkl:=(zL h.k)
 have hp:∀ q:LT,q.In p w→q.In p w':=fun q hq=>LT.In.turned a3 (fun k _ hk e=>h.bo.sep k hk e) (fun _ _ hk=>hk) q hq
 exact ⟨O',⟨a1,(a3.block K hkl h.kO.1).trans h.k,h.row.turned a3 (fun k hk e=>(h.vO k hk).1 e),fun q hq=>⟨⟨hp _ (h.mem q hq).1.1,(h.mem q hq).1.2⟩,hp _ (h.mem q hq).2.1,(h.mem q hq).2.2⟩,⟨fun e=>h.kO.1 (a2 K e hkl),h.kO.2⟩,fun g hg=>⟨fun e=>(h.vO g hg).1 (a2 g e (h.row.lt g hg)),(h.vO g hg).2⟩⟩,a2,a3⟩
section
variable {p O:Nat→Prop} {bb K m:Nat} {v:Value} {st:List PT} {c:Nat} {l:TL} {w w':World}
set_option maxRecDepth 100000 in
theorem tie183 {xv t:LT} (h:UK p bb K v st c O m l w) (hc:c≤2000) (ht:t.In p w) (hg:Tm.ownB m t.bare=true) (hk:¬ t.kind=0) (h0:0≤xv.n) (h1:xv.n < (m:Int)) (hd:xv.n∉Tm.dom (bt l)) :
 Calls Try.prog 183 #[.pointer (some ⟨K,0,none⟩),xv.val,t.val] w (UQ p bb K v st O m l w (Tm.tieU (bt l) (2000 - c) xv.n t.bare)):=by
 have h2:=twoBox w (.cells #[.int .i64 xv.kind,.int .i64 xv.n,.string xv.name,.slice xv.at_.1 xv.args.length xv.at_.2] 27) (.cells #[.int .i64 t.kind,.int .i64 t.n,.string t.name,.slice t.at_.1 t.args.length t.at_.2] 27);obtain ⟨w2,hw2⟩:∃ z,z=(w.alloc (.cells #[.int .i64 xv.kind,.int .i64 xv.n,.string xv.name,.slice xv.at_.1 xv.args.length xv.at_.2] 27)).alloc (.cells #[.int .i64 t.kind,.int .i64 t.n,.string t.name,.slice t.at_.1 t.args.length t.at_.2] 27):=⟨_,rfl⟩;rw [←hw2] at h2
 have hbx:∀ W,Turned zN w2 W→W.heap[w.heap.size]? = some (.cells #[.int .i64 xv.kind,.int .i64 xv.n,.string xv.name,.slice xv.at_.1 xv.args.length xv.at_.2] 27 (0,0))∧W.heap[w.heap.size+1]? = some (.cells #[.int .i64 t.kind,.int .i64 t.n,.string t.name,.slice t.at_.1 t.args.length t.at_.2] 27 (0,0)):=fun W hW=>⟨(hW.block _ (by have:=h2.2.1;omega) (fun f=>f)).trans h2.2.2.1,(hW.block _ (by have:=h2.2.1;omega) (fun f=>f)).trans h2.2.2.2⟩
 have hsl:slim t:=good_slim (by rw [←goodB_bare];exact (Tm.ownB_iff.1 hg).1);obtain ⟨R,hR⟩:∃ z,z=Tm.hasL (2000 - c) xv.n 0 (Tm.img (bt l) t.bare).flat:=⟨_,rfl⟩
 have hhas:∀ W,Turned zN w2 W→Calls Try.prog 106 #[.pointer (some ⟨bb,0,none⟩),.int .i64 xv.n,.agg #[.int .i64 t.kind,.int .i64 t.n,.string t.name,.slice t.at_.1 t.args.length t.at_.2],.int .i64 (2000 - (c:Int))] W fun e w'=>e = .returned (.tuple #[.bool R.1,.int .i64 R.2])∧Turned zN W w':=by
  intro W hW;have:=has106 (n:=xv.n) (most:=2000 - (c:Int)) (h.bo.turned0 (h2.1.trans hW)) (ht.turned0 (h2.1.trans hW)) hsl (by omega) (by omega);rw [LT.val_eq,show (2000 - (c:Int)).toNat=2000 - c from by omega] at this;unfold hasR at this;rw [if_pos hg,←hR] at this;exact this
 have hkc:∀ W,Turned zN w2 W→UK p bb K v st c O m l W:=fun W hW=>h.turned0 (h2.1.trans hW)
 have hm65:=h.bo.most;have hR2:=Tm.hasL_le (2000 - c) xv.n (Tm.img (bt l) t.bare).flat 0;rw [←hR] at hR2;have hR3:=Tm.hasL_most (2000 - c) xv.n (Tm.img (bt l) t.bare).flat 0 (Nat.zero_le _);rw [←hR] at hR3;have hsp:=Tm.tieU_spec (left:=2000 - c) h.bo.ok h0 h1 hd hg (by rw [Tm.bare_kind];exact hk)
 have hT:Tm.tieU (bt l) (2000 - c) xv.n t.bare=if 2000 - c < R.2 then .over else if R.1=true then .no (2000 - c - R.2) else .ok ((xv.n,t.bare) :: bt l) (2000 - c - R.2):=by unfold Tm.tieU;rw [←hR]
 obtain ⟨U,hU⟩:∃ z,z=Tm.tieU (bt l) (2000 - c) xv.n t.bare:=⟨_,rfl⟩;rw [←hU] at hsp hT ⊢;clear hU;rw [LT.val_eq,LT.val_eq];have HHAS:=hid hhas;have HKC:=hid hkc;have HBX:=hid hbx;have HW2:=hid hw2;have HT2:=hid h2.1;have HT:=hid ht;have HSL:=hid hsl;have HG:=hid hg;have HK:=hid hk
 have hvi:I64 xv.n:=by unfold I64;omega
 have HS2:=hid h2.2.1;have hkl:=(zL h.k)
 have hKN:K≠w.heap.size:=by omega
 have hKN1:K≠w.heap.size+1:=by omega
 have hNK:w.heap.size≠K:=by omega
 have hNK1:w.heap.size+1≠K:=by omega
 obtain ⟨r1,r2⟩:=R;simp only at hR2 hR3 hT;have HU:=hid hT;have HSP:=hid hsp;have HOWN:=hid h.own_lt;have HUK:=hid h;clear hR h2 hw2 hhas hkc hbx h ht hsl hg hk hT hsp;go_enter Try.func183,Try.ntmps183
 go_wp2_with fail
 rw [←HW2.out];refine wp_region_ssa' (G:=(fun dd vv _=>(match dd with | 11=>vv = .pointer (some ⟨K,0,none⟩) | 12=>vv = .pointer (some ⟨K,0,none⟩) | 13=>vv = .pointer (some ⟨K,0,none⟩) | 14=>vv = .pointer (some ⟨bb,0,none⟩) | 15=>vv = .pointer (some ⟨w.heap.size,1,none⟩) | 16=>vv = .int .i64 xv.n | 17=>vv = .agg #[.int .i64 t.kind,.int .i64 t.n,.string t.name,.slice t.at_.1 t.args.length t.at_.2] | 18=>vv = .pointer (some ⟨K,0,none⟩) | 19=>vv = .pointer (some ⟨K,0,none⟩) | 20=>vv = .pointer (some ⟨K,2,none⟩) | 21=>vv = .int .i64 c | 22=>vv = .int .i64 (2000 - (c:Int)) | 23=>vv = .tuple #[.bool r1,.int .i64 r2] | 10=>vv = .tuple #[.bool r1,.int .i64 r2] | 24=>vv = .bool r1 | 25=>vv = .int .i64 r2 | 8=>vv = .bool r1 | 9=>vv = .int .i64 r2 | _=>True:Prop))) [11,12,13,14,15,16,17,18,19,20,21,22,23,10,24,25,8,9] (by kernel_rfl) rfl (by kernel_rfl) ?hG ?hs ?hQ
 case hG=>exact fun d v _ _ _ h=>h
 case hs=>
  refine ⟨?s0,?s1,?s2,?s3,?s4,?s5,?s6,?s7,?s8,?s9,?s10,?s11,?s12,?s13,?s14,?s15,?s16,?s17,trivial⟩
  case s0=>refine zO [] [0] fun ac W hT hI hO=>?_;simp only [execOp,Act.eval,hO 0 (by simp)];go_simp;try exact tq
  case s1=>refine zO [11] [] fun ac W hT hI hO=>?_;have h11:_=_:=hI 11 (by simp);have hnz:W.cell? ⟨K,0,none⟩=some (.pointer (some ⟨bb,0,none⟩)):=(HKC.out W hT).kcells.1;simp only [execOp,Act.eval,h11];go_simp;try exact tq
  case s2=>refine zO [12] [] fun ac W hT hI hO=>?_;have h12:_=_:=hI 12 (by simp);simp only [execOp,Act.eval,h12];go_simp;try exact tq
  case s3=>refine zO [13] [] fun ac W hT hI hO=>?_;have h13:_=_:=hI 13 (by simp);obtain ⟨k0,k1,k2,kf1,kf2⟩:=(HKC.out W hT).kcells;simp only [execOp,Act.eval,h13];go_simp;try exact tq
  case s4=>refine zO [] [4] fun ac W hT hI hO=>?_;simp only [execOp,Act.eval,hO 4 (by simp)];go_simp;try exact tq
  case s5=>refine zO [15] [] fun ac W hT hI hO=>?_;have h15:_=_:=hI 15 (by simp);obtain ⟨c0,c1,c2,c3,_⟩:=cells4 (HBX.out W hT).1;simp only [execOp,Act.eval,h15];go_simp;try exact tq
  case s6=>refine zO [] [5] fun ac W hT hI hO=>?_;obtain ⟨c0,c1,c2,c3,_⟩:=cells4 (HBX.out W hT).2;simp only [execOp,Act.eval,hO 5 (by simp)];go_simp;try exact tq
  case s7=>refine zO [] [0] fun ac W hT hI hO=>?_;simp only [execOp,Act.eval,hO 0 (by simp)];go_simp;try exact tq
  case s8=>refine zO [18] [] fun ac W hT hI hO=>?_;have h18:_=_:=hI 18 (by simp);have hnz:W.cell? ⟨K,0,none⟩=some (.pointer (some ⟨bb,0,none⟩)):=(HKC.out W hT).kcells.1;simp only [execOp,Act.eval,h18];go_simp;try exact tq
  case s9=>refine zO [19] [] fun ac W hT hI hO=>?_;have h19:_=_:=hI 19 (by simp);simp only [execOp,Act.eval,h19];go_simp;try exact tq
  case s10=>refine zO [20] [] fun ac W hT hI hO=>?_;have h20:_=_:=hI 20 (by simp);obtain ⟨k0,k1,k2,kf1,kf2⟩:=(HKC.out W hT).kcells;simp only [execOp,Act.eval,h20];go_simp;try exact tq
  case s11=>
   refine zO [21] [] fun ac W hT hI hO=>?_;have h21:_=_:=hI 21 (by simp);simp only [execOp,Act.eval,h21];go_simp
   try rw [wrapI (by omega) (by omega)]
   try exact tq
  case s12=>
   refine zO [14,16,17,22] [] fun ac W hT hI hO=>?_;have h14:_=_:=hI 14 (by simp);have h16:_=_:=hI 16 (by simp);have h17:_=_:=hI 17 (by simp);have h22:_=_:=hI 22 (by simp);simp only [execOp,Act.eval,h14,h16,h17,h22];go_simp;show Calls Try.prog 106 _ W _
   (with_reducible refine (HHAS.out W hT).mono ?_)
   rintro e w' ⟨rfl,T'⟩
   exact ⟨_,rfl,T',rfl⟩
  case s13=>refine zO [23] [] fun ac W hT hI hO=>?_;have h23:_=_:=hI 23 (by simp);simp only [execOp,Act.eval,h23];go_simp;try exact tq
  case s14=>refine zO [10] [] fun ac W hT hI hO=>?_;have h10:_=_:=hI 10 (by simp);simp only [execOp,Act.eval,h10];go_simp;try exact tq
  case s15=>refine zO [10] [] fun ac W hT hI hO=>?_;have h10:_=_:=hI 10 (by simp);simp only [execOp,Act.eval,h10];go_simp;try exact tq
  case s16=>refine zO [24] [] fun ac W hT hI hO=>?_;have h24:_=_:=hI 24 (by simp);simp only [execOp,Act.eval,h24];go_simp;try exact tq
  case s17=>
   refine zO [25] [] fun ac W hT hI hO=>?_;have h25:_=_:=hI 25 (by simp);simp only [execOp,Act.eval,h25];go_simp
   try exact tq
 case hQ=>
  intro vs w3 T3 hV;have q8:vs 8 = .bool r1:=hV 8 (by simp);have q9:vs 9 = .int .i64 r2:=hV 9 (by simp);simp only [Qq,List.foldl_nil,Qk,Qs,Qr,q8,q9];clear hV q8 q9;have HK3:=hid (HKC.out w3 T3);obtain ⟨k0,k1,k2,kf1,kf2⟩:=HK3.out.kcells;have HC3:=hid (HK3.out.cost ((c:Int)+r2));have HT3:=hid (HT2.out.trans T3);have hb3:=HBX.out w3 T3;have HB3:=hid hb3;clear T3 hb3
  by_cases hov:2000 - c < r2
  · have d1:decide (2000 < (c:Int)+r2)=true:=decide_eq_true (by omega)
    have hu:U = .over:=by rw [HU.out,if_pos hov]
    have HUE:=hid hu;clear hu
    go_wp2_with fail
    go_ret2
    rw [HUE.out];exact ⟨rfl,_,UA.same HC3.out.1 ((HT3.out.mono (fun _ _ f=>f.elim)).trans (HC3.out.2.mono (fun _ _ e=>.inl e)))⟩
  · have d1:decide (2000 < (c:Int)+r2)=false:=decide_eq_false (by omega)
    cases r1 with
    | true=>
     have hu:U = .no (2000 - c - r2):=by rw [HU.out,if_neg hov,if_pos rfl]
     have HUE:=hid hu;clear hu
     go_wp2_with fail
     go_ret2
     rw [HUE.out];refine ⟨rfl,?_⟩;rw [show (2000 - ((2000 - c - r2:Nat):Int))=(c:Int)+r2 from by omega];exact UA.same HC3.out.1 ((HT3.out.mono (fun _ _ f=>f.elim)).trans (HC3.out.2.mono (fun _ _ e=>.inl e)))
    | false=>
     have hu:U = .ok ((xv.n,t.bare) :: bt l) (2000 - c - r2):=by rw [HU.out,if_neg hov,if_neg (by simp)]
     have hsp:=HSP.out;rw [hu] at hsp;have HUE:=hid hu;have HSE:=hid hsp.2.2;clear hsp hu
     go_wp2_with fail
     revert HC3;generalize w3.setCell ⟨K,2,none⟩ (.int .i64 ((c:Int)+r2))=w4;intro HC3;obtain ⟨k0,k1,k2,kf1,kf2⟩:=HC3.out.1.kcells;have hb4:w4.heap[w.heap.size]? = some (.cells #[.int .i64 xv.kind,.int .i64 xv.n,.string xv.name,.slice xv.at_.1 xv.args.length xv.at_.2] 27 (0,0))∧w4.heap[w.heap.size+1]? = some (.cells #[.int .i64 t.kind,.int .i64 t.n,.string t.name,.slice t.at_.1 t.args.length t.at_.2] 27 (0,0)):=⟨(HC3.out.2.block _ (zL HB3.out.1) (fun e=>hNK e)).trans HB3.out.1,(HC3.out.2.block _ (zL HB3.out.2) (fun e=>hNK1 e)).trans HB3.out.2⟩;obtain ⟨c0,c1,c2,c3,_⟩:=cells4 hb4.1;obtain ⟨e0,e1,e2,e3,_⟩:=cells4 hb4.2;refine region_tail 7 (by kernel_rfl) (by kernel_rfl) ?_;simp only [List.take_succ_cons,List.take_zero,List.drop_succ_cons,List.drop_zero]
     repeat still_step
     refine wpStill_nil ?_;have hti:t.In p w4.drew:=(LT.In.turned HC3.out.2 (fun k _ hk e=>HUK.out.kO.2 (e ▸ hk)) (fun _ _ hk=>hk) _ (HT.out.turned0 HT3.out)).turned0 (Turned.refl _ _).drew;have HTI:=hid hti;clear hti hb4
     go_wp2_with (go_at_call 88;have hs88:=setO88 ((HC3.out.1.bo).turned0 (Turned.refl _ _).drew) HTI.out HSL.out xv.n hvi;rw [LT.val_eq,HSE.out,if_pos rfl] at hs88;(with_reducible refine hs88.mono ?_);rintro e w5 ⟨rfl,l2,hl2,A5⟩;have HA5:=hid A5;have HL2:=hid hl2;clear A5 hl2 hs88)
     go_ret2
     rw [HUE.out];refine ⟨rfl,?_⟩;rw [show (2000 - ((2000 - c - r2:Nat):Int))=(c:Int)+r2 from by omega];obtain ⟨O',u1,u2,u3⟩:=(HC3.out.1.turned0 (Turned.refl _ _).drew).after HA5.out
     have hsz:w.heap.size≤w4.heap.size:=by have:=HT3.out.size;have:=HC3.out.2.size;omega
     refine ⟨l2,O',HL2.out,u1,fun k hk hl=>u2 k hk (Qo hl hsz),?_⟩;exact (((HT3.out.mono (fun _ _ f=>f.elim)).trans (HC3.out.2.mono (fun _ _ e=>.inl e))).trans ((Turned.refl _ w4).drew)).trans (u3.mono (fun _ _ e=>.inr (.inr e)))
end
def WkS (p:Nat→Prop) (X0 Y0:Tm Unit) (N:Nat) (w2:World):List Value→World→Prop
 | [],W=>Turned zN w2 W
 | [a],W=>Turned zN w2 W∧∃ X:LT,a = .agg #[.int .i64 X.kind,.int .i64 X.n,.string X.name,.slice X.at_.1 X.args.length X.at_.2]∧X.In p W∧X.bare=X0
 | [a,b],W=>Turned zN w2 W∧(∃ X:LT,a = .agg #[.int .i64 X.kind,.int .i64 X.n,.string X.name,.slice X.at_.1 X.args.length X.at_.2]∧X.In p W∧X.bare=X0)∧∃ Y:LT,b = .agg #[.int .i64 Y.kind,.int .i64 Y.n,.string Y.name,.slice Y.at_.1 Y.args.length Y.at_.2]∧Y.In p W∧Y.bare=Y0
 | [_,b,_],W=>Turned (fun k=>k=N) w2 W∧(∃ X:LT,W.heap[N]? = some (.cells #[.int .i64 X.kind,.int .i64 X.n,.string X.name,.slice X.at_.1 X.args.length X.at_.2] 27 (0,0))∧X.In p W∧X.bare=X0)∧∃ Y:LT,b = .agg #[.int .i64 Y.kind,.int .i64 Y.n,.string Y.name,.slice Y.at_.1 Y.args.length Y.at_.2]∧Y.In p W∧Y.bare=Y0
 | [_,_,_,_],W=>Turned (fun k=>k=N∨k=N+1) w2 W∧(∃ X:LT,W.heap[N]? = some (.cells #[.int .i64 X.kind,.int .i64 X.n,.string X.name,.slice X.at_.1 X.args.length X.at_.2] 27 (0,0))∧X.In p W∧X.bare=X0)∧∃ Y:LT,W.heap[N+1]? = some (.cells #[.int .i64 Y.kind,.int .i64 Y.n,.string Y.name,.slice Y.at_.1 Y.args.length Y.at_.2] 27 (0,0))∧Y.In p W∧Y.bare=Y0
 | _,_=>False
section
variable {p:Nat→Prop} {X0 Y0:Tm Unit} {N:Nat} {w2 W W':World}
theorem WkS.turned0:∀ (hs:List Value) (w w':World),WkS p X0 Y0 N w2 hs w→Turned zN w w'→WkS p X0 Y0 N w2 hs w'
 | [],_,_,h,T=>Turned.trans h T
 | [_],_,_,h,T=>by obtain ⟨h1,X,x1,x2,x3⟩:=h;exact ⟨h1.trans T,X,x1,x2.turned0 T,x3⟩
 | [_,_],_,_,h,T=>by obtain ⟨h1,⟨X,x1,x2,x3⟩,Y,y1,y2,y3⟩:=h;exact ⟨h1.trans T,⟨X,x1,x2.turned0 T,x3⟩,Y,y1,y2.turned0 T,y3⟩
 | [_,_,_],_,_,h,T=>by obtain ⟨h1,⟨X,x1,x2,x3⟩,Y,y1,y2,y3⟩:=h;exact ⟨h1.trans (T.mono (fun _ _ f=>f.elim)),⟨X,(T.bt x1),x2.turned0 T,x3⟩,Y,y1,y2.turned0 T,y3⟩
 | [_,_,_,_],_,_,h,T=>by obtain ⟨h1,⟨X,x1,x2,x3⟩,Y,y1,y2,y3⟩:=h;exact ⟨h1.trans (T.mono (fun _ _ f=>f.elim)),⟨X,(T.bt x1),x2.turned0 T,x3⟩,Y,(T.bt y1),y2.turned0 T,y3⟩
 | _ :: _ :: _ :: _ :: _ :: _,_,_,h,_=>h.elim
theorem WkS.turned:∀ (hs:List Value) (W:World),WkS p X0 Y0 N w2 hs W→Turned (fun k=>k=N∨k=N+1) w2 W
 | [],_,h=>Turned.mono h (fun _ _ f=>f.elim)
 | [_],_,h=>h.1.mono (fun _ _ f=>f.elim)
 | [_,_],_,h=>h.1.mono (fun _ _ f=>f.elim)
 | [_,_,_],_,h=>h.1.mono (fun _ _ e=>.inl e)
 | [_,_,_,_],_,h=>h.1
 | _ :: _ :: _ :: _ :: _ :: _,_,h=>h.elim
theorem WkS.early:∀ (hs:List Value) (W:World),hs.length≤2→WkS p X0 Y0 N w2 hs W→Turned zN w2 W
 | [],_,_,h=>h
 | [_],_,_,h=>h.1
 | [_,_],_,_,h=>h.1
theorem WkS.store1 {a b q:Value} {X:LT} (h:WkS p X0 Y0 N w2 [a,b] W) (hX:a = .agg #[.int .i64 X.kind,.int .i64 X.n,.string X.name,.slice X.at_.1 X.args.length X.at_.2]) (hXi:X.In p W) (hXb:X.bare=X0) (hN:∃ a0 b0 c0 d0,W.heap[N]? = some (.cells #[a0,b0,c0,d0] 27 (0,0))) (hp:¬ p N) :
 WkS p X0 Y0 N w2 [a,b,q] ((((W.setCell ⟨N,0,none⟩ (.int .i64 X.kind)).setCell ⟨N,1,none⟩ (.int .i64 X.n)).setCell ⟨N,2,none⟩ (.string X.name)).setCell ⟨N,3,none⟩ (.slice X.at_.1 X.args.length X.at_.2)):=by
 obtain ⟨h1,_,Y,y1,y2,y3⟩:=h;obtain ⟨a0,b0,c0,d0,hN⟩:=hN;have T:=turned_store4 W N (.int .i64 X.kind) (.int .i64 X.n) (.string X.name) (.slice X.at_.1 X.args.length X.at_.2);have hs:=set4 (a':=.int .i64 X.kind) (b':=.int .i64 X.n) (c':=.string X.name) (d':=.slice X.at_.1 X.args.length X.at_.2) hN;exact ⟨(h1.mono (fun _ _ f=>f.elim)).trans T,⟨X,hs,LT.In.turned T (fun k _ hk e=>hp (e ▸ hk)) (fun _ _ hk=>hk) _ hXi,hXb⟩,Y,y1,LT.In.turned T (fun k _ hk e=>hp (e ▸ hk)) (fun _ _ hk=>hk) _ y2,y3⟩
theorem WkS.store2 {a b c q:Value} {Y:LT} (h:WkS p X0 Y0 N w2 [a,b,c] W) (hYi:Y.In p W) (hYb:Y.bare=Y0) (hN:∃ a0 b0 c0 d0,W.heap[N+1]? = some (.cells #[a0,b0,c0,d0] 27 (0,0))) (hp:¬ p (N+1)) :
 WkS p X0 Y0 N w2 [a,b,c,q] ((((W.setCell ⟨N+1,0,none⟩ (.int .i64 Y.kind)).setCell ⟨N+1,1,none⟩ (.int .i64 Y.n)).setCell ⟨N+1,2,none⟩ (.string Y.name)).setCell ⟨N+1,3,none⟩ (.slice Y.at_.1 Y.args.length Y.at_.2)):=by
 obtain ⟨h1,⟨X,x1,x2,x3⟩,_⟩:=h;obtain ⟨a0,b0,c0,d0,hN⟩:=hN;have T:=turned_store4 W (N+1) (.int .i64 Y.kind) (.int .i64 Y.n) (.string Y.name) (.slice Y.at_.1 Y.args.length Y.at_.2);have hs:=set4 (a':=.int .i64 Y.kind) (b':=.int .i64 Y.n) (c':=.string Y.name) (d':=.slice Y.at_.1 Y.args.length Y.at_.2) hN;exact ⟨(h1.mono (fun _ _ e=>.inl e)).trans (T.mono (fun _ _ e=>.inr e)),⟨X,(T.block N (zL x1) (by omega)).trans x1,LT.In.turned T (fun k _ hk e=>hp (e ▸ hk)) (fun _ _ hk=>hk) _ x2,x3⟩,Y,hs,LT.In.turned T (fun k _ hk e=>hp (e ▸ hk)) (fun _ _ hk=>hk) _ hYi,hYb⟩
end
theorem info187:(Try.prog.info? 187).map (fun i=>(i.zero,i.size,i.bytes))=some (some (.agg #[.int .i64 0,.int .i64 0,.string ByteArray.empty,.slice none 0 0,.int .i64 0,.int .i64 0,.string ByteArray.empty,.slice none 0 0]),8,112):=by kernel_rfl
theorem brings_build187 {o:Oper} {a:Act} {w:World} {F:Value→World→Prop} (x y:Tmp) (ho:o.op=Op.build 187 #[(0,.tmp x),(1,.tmp y)]) {a0 a1 a2 a3 b0 b1 b2 b3:Value} (hx:a.tmps.getD x undef = .agg #[a0,a1,a2,a3]) (hy:a.tmps.getD y undef = .agg #[b0,b1,b2,b3])
 (h:F (.agg #[a0,a1,a2,a3,b0,b1,b2,b3]) w):Brings Try.prog F ((execOp a.eval o).run Try.prog w):=by
 have e:∀ q,a.eval (.tmp q)=a.tmps.getD q undef:=fun _=>rfl
 unfold execOp;simp only [ho,List.map_toArray,Qx,List.map_nil,e,hx,hy];go_simp;exact h
theorem brings_slice188 {o:Oper} {a:Act} {w:World} {F:Value→World→Prop} (x:Tmp) (ho:o.op=Op.buildSlice 188 1 #[(0,.tmp x)]) {a0 a1 a2 a3 b0 b1 b2 b3:Value} (hx:a.tmps.getD x undef = .agg #[a0,a1,a2,a3,b0,b1,b2,b3])
 (h:F (.slice (some ⟨w.heap.size,0,none⟩) 1 1) (w.alloc (.cells #[a0,a1,a2,a3,b0,b1,b2,b3] 187))):Brings Try.prog F ((execOp a.eval o).run Try.prog w):=by
 have hx':a.tmps[x]?.getD undef = .agg #[a0,a1,a2,a3,b0,b1,b2,b3]:=by rw [←Array.getD_eq_getD_getElem?];exact hx
 simp only [execOp,ho,Act.eval];go_simp;exact h
section
variable {l:Tm.Trail} {left:Nat} {X Y:LT}
theorem oneU_same (hx:X.kind=0) (hy:Y.kind=0) (hn:X.n=Y.n):Tm.oneU l left X.bare Y.bare = .done (.ok l left):=by
 unfold Tm.oneU;rw [if_pos (by rw [Tm.bare_kind];exact hx),if_pos (by rw [Tm.bare_kind];exact hy),if_pos (by rw [Tm.bare_n,Tm.bare_n];exact hn)]
theorem oneU_vars (hx:X.kind=0) (hy:Y.kind=0) (hn:¬ X.n=Y.n):Tm.oneU l left X.bare Y.bare = .done (.ok ((max X.n Y.n,Tm.V (min X.n Y.n)) :: l) left):=by
 unfold Tm.oneU;rw [if_pos (by rw [Tm.bare_kind];exact hx),if_pos (by rw [Tm.bare_kind];exact hy),if_neg (by rw [Tm.bare_n,Tm.bare_n];exact hn),Tm.bare_n,Tm.bare_n]
theorem oneU_left (hx:X.kind=0) (hy:¬ Y.kind=0):Tm.oneU l left X.bare Y.bare = .done (Tm.tieU l left X.n Y.bare):=by
 unfold Tm.oneU;rw [if_pos (by rw [Tm.bare_kind];exact hx),if_neg (by rw [Tm.bare_kind];exact hy),Tm.bare_n]
theorem oneU_right (hx:¬ X.kind=0) (hy:Y.kind=0):Tm.oneU l left X.bare Y.bare = .done (Tm.tieU l left Y.n X.bare):=by
 unfold Tm.oneU;rw [if_neg (by rw [Tm.bare_kind];exact hx),if_pos (by rw [Tm.bare_kind];exact hy),Tm.bare_n]
theorem oneU_heads (hx:¬ X.kind=0) (hy:¬ Y.kind=0):Tm.oneU l left X.bare Y.bare=if X.kind=Y.kind∧X.n=Y.n∧X.name=Y.name∧X.args.length=Y.args.length then .more (X.bare.args.zip Y.bare.args) else .done (.no left):=by
 unfold Tm.oneU;rw [if_neg (by rw [Tm.bare_kind];exact hx),if_neg (by rw [Tm.bare_kind];exact hy)];have h:=Tm.headsB_iff (x:=X.bare) (y:=Y.bare);rw [Tm.bare_kind,Tm.bare_kind,Tm.bare_n,Tm.bare_n,Tm.bare_name,Tm.bare_name,Tm.bare_arity,Tm.bare_arity] at h
 by_cases hh:Tm.headsB X.bare Y.bare=true
 · rw [if_pos hh,if_pos (h.1 hh)]
 · rw [if_neg hh,if_neg (fun c=>hh (h.2 c))]
theorem setE_vars {m:Nat} {l:Tm.Trail} {n k:Int} (hl:Tm.okT m l) (hm:m≤65536) (n0:0≤n) (n1:n < (m:Int)) (k0:0≤k) (k1:k < (m:Int)) (hn:n∉Tm.dom l) (hk:k∉Tm.dom l) (hne:¬ n=k):Tm.setE m l n (Tm.V k)=0:=by
 unfold Tm.setE;rw [if_pos ⟨n0,n1,Tm.ownB_V k0 k1 hm⟩,if_neg hn,if_neg];rw [Tm.img_V,Tm.sig_free hl hk,Tm.vars_mem,Tm.numsIn_V];exact hne
end
theorem UA.from {p O:Nat→Prop} {bb K m:Nat} {v:Value} {st:List PT} {c:Int} {l':Tm.Trail} {w w3 w':World} (T:Turned zN w w3) (h:UA p bb K v st c O m l' w3 w'):UA p bb K v st c O m l' w w':=by
 obtain ⟨l2,O',h1,h2,h3,h4⟩:=h;exact ⟨l2,O',h1,h2,fun k hk hl=>h3 k hk (Qo hl T.size),(T.mono (fun _ _ f=>f.elim)).trans h4⟩
theorem After.from0 {p O:Nat→Prop} {bb m:Nat} {l:TL} {w w3 w':World} (h:After p bb O m l w3 w') (T:Turned zN w w3):After p bb O m l w w':=by
 obtain ⟨O',h1,h2,h3⟩:=h;exact ⟨O',h1,fun k hk hl=>h2 k hk (Qo hl T.size),(T.mono (fun _ _ f=>f.elim)).trans h3⟩
theorem setVar {p O:Nat→Prop} {bb m:Nat} {l:TL} {w:World} {n k:Int} (h:BO p bb O m l w) (hn:I64 n) (hk:I64 k) (hE:Tm.setE m (bt l) n (Tm.V k)=0) :
 Calls Try.prog 88 #[.pointer (some ⟨bb,0,none⟩),.int .i64 n,.agg #[.int .i64 0,.int .i64 k,.string ByteArray.empty,.slice none 0 0]] w fun e w'=>e = .returned (.int .i64 0)∧∃ l',bt l'=(n,Tm.V k) :: bt l∧After p bb O m l' w w':=by
 have:=setO88 h (t:=leaf 0 k ByteArray.empty) (var_in hk) (leaf_slim _ _ _) n hn;have e:(leaf 0 k ByteArray.empty).bare=Tm.V k:=rfl;rw [e,hE,if_pos rfl] at this;exact this
def VarS (p:Nat→Prop) (bb:Nat) (O:Nat→Prop) (m:Nat) (l:TL) (n k:Int) (w3:World):List Value→World→Prop
 | [],W=>Turned zN w3 W
 | [a],W=>Turned zN w3 W∧a = .agg #[.int .i64 0,.int .i64 k,.string ByteArray.empty,.slice none 0 0]
 | [_,b],W=>b = .int .i64 0∧∃ l',bt l'=(n,Tm.V k) :: bt l∧After p bb O m l' w3 W
 | _,_=>False
section
variable {p O:Nat→Prop} {bb m:Nat} {l:TL} {n k:Int} {w3:World}
theorem VarS.turned0:∀ (hs:List Value) (w w':World),VarS p bb O m l n k w3 hs w→Turned zN w w'→VarS p bb O m l n k w3 hs w'
 | [],_,_,h,T=>Turned.trans h T
 | [_],_,_,h,T=>⟨h.1.trans T,h.2⟩
 | [_,_],_,_,⟨h1,l',h2,h3⟩,T=>⟨h1,l',h2,h3.turned0 T⟩
 | _ :: _ :: _ :: _,_,_,h,_=>h.elim
theorem VarS.turned:∀ (hs:List Value) (W:World),hs.length≤1→VarS p bb O m l n k w3 hs W→Turned zN w3 W
 | [],_,_,h=>h
 | [_],_,_,h=>h.1
theorem VarS.val:∀ (hs:List Value) (W:World) {x:Value},VarS p bb O m l n k w3 hs W→hs[1]? = some x→x = .int .i64 0
 | [],_,_,_,e=>by simp at e
 | [_],_,_,_,e=>by simp at e
 | [_,_],_,_,h,e=>by simp at e;rw [←e];exact h.1
 | _ :: _ :: _ :: _,_,_,h,_=>h.elim
end
def PsS (bb K:Nat) (v:Value) (n:Nat) (xs:List Value) (c:Int) (X Y:LT) (wr:World):List Value→World→Prop
 | [],W=>Turned zN wr W
 | [s],W=>Turned zN wr W∧∃ g0,s = .slice (some ⟨g0,0,none⟩) 1 1∧W.heap[g0]? = some (.cells #[.int .i64 X.kind,.int .i64 X.n,.string X.name,.slice X.at_.1 X.args.length X.at_.2,.int .i64 Y.kind,.int .i64 Y.n,.string Y.name,.slice Y.at_.1 Y.args.length Y.at_.2] 187 (0,0))
 | [_,a],W=>Row W 187 8 a (n+1) (xs++PT.cells (X,Y))∧(a.ownBlock=v.ownBlock∨∀ g,a.ownBlock=some g→wr.heap.size≤g)∧Turned (fun k=>v.ownBlock=some k) wr W
 | [_,a,_],W=>Row W 187 8 a (n+1) (xs++PT.cells (X,Y))∧(a.ownBlock=v.ownBlock∨∀ g,a.ownBlock=some g→wr.heap.size≤g)∧Turned (fun k=>k=K∨v.ownBlock=some k) wr W∧W.heap[K]? = some (.cells #[.pointer (some ⟨bb,0,none⟩),a,.int .i64 c] 190 (0,0))
 | _,_=>False
section
variable {bb K n:Nat} {v:Value} {xs:List Value} {c:Int} {X Y:LT} {wr W W':World}
theorem PsS.turned0:∀ (hs:List Value) (w w':World),PsS bb K v n xs c X Y wr hs w→Turned zN w w'→PsS bb K v n xs c X Y wr hs w'
 | [],_,_,h,T=>Turned.trans h T
 | [_],_,_,⟨h1,g0,h2,h3⟩,T=>⟨h1.trans T,g0,h2,(T.bt h3)⟩
 | [_,_],_,_,⟨h1,h2,h3⟩,T=>⟨h1.turned0 T,h2,h3.trans (T.mono (fun _ _ f=>f.elim))⟩
 | [_,_,_],_,_,⟨h1,h2,h3,h4⟩,T=>⟨h1.turned0 T,h2,h3.trans (T.mono (fun _ _ f=>f.elim)),(T.bt h4)⟩
 | _ :: _ :: _ :: _ :: _,_,_,h,_=>h.elim
theorem PsS.turned:∀ (hs:List Value) (W:World),hs.length≤2→PsS bb K v n xs c X Y wr hs W→Turned (fun k=>v.ownBlock=some k) wr W
 | [],_,_,h=>Turned.mono h (fun _ _ f=>f.elim)
 | [_],_,_,h=>h.1.mono (fun _ _ f=>f.elim)
 | [_,_],_,_,h=>h.2.2
end
theorem UK.push {p O:Nat→Prop} {bb K m:Nat} {v a:Value} {st:List PT} {c:Int} {l:TL} {wr W:World} {X Y:LT} (h:UK p bb K v st c O m l wr) (hX:X.In p wr∧Tm.ownB m X.bare=true) (hY:Y.In p wr∧Tm.ownB m Y.bare=true) (hr:Row W 187 8 a (st.length+1) (st.flatMap PT.cells++PT.cells (X,Y))) (ho:a.ownBlock=v.ownBlock∨∀ g,a.ownBlock=some g→wr.heap.size≤g) (T:Turned (fun k=>k=K∨v.ownBlock=some k) wr W) (hk:W.heap[K]? = some (.cells #[.pointer (some ⟨bb,0,none⟩),a,.int .i64 c] 190 (0,0))) :
 UK p bb K a (st++[(X,Y)]) c O m l W:=by
 have hS:∀ k,k < wr.heap.size→(k=K∨v.ownBlock=some k)→¬ O k∧¬ p k:=fun k _ e=>by
  rcases e with e | e
  · rw [e];exact h.kO
  · exact ⟨(h.vO k e).1,(h.vO k e).2.1⟩
 have hp:∀ q:LT,q.In p wr→q.In p W:=fun q hq=>LT.In.turned T (fun k hl hk e=>(hS k hl e).2 hk) (fun _ _ hk=>hk) q hq
 refine ⟨h.bo.turned T hS,hk,by simpa using hr,fun q hq=>?_,h.kO,fun g hg=>?_⟩
 · rcases Qn.1 hq with hq | hq
   · exact ⟨⟨hp _ (h.mem q hq).1.1,(h.mem q hq).1.2⟩,hp _ (h.mem q hq).2.1,(h.mem q hq).2.2⟩
   · rw [List.mem_singleton] at hq
     rw [hq];exact ⟨⟨hp _ hX.1,hX.2⟩,hp _ hY.1,hY.2⟩
 · rcases ho with e | e
   · exact h.vO g (e ▸ hg)
   · have h1:=e g hg
     exact ⟨fun c=>by have:=h.bo.lt g c;omega,fun c=>by have:=h.bo.plt g c;omega,fun c=>by have:=(zL h.k);omega⟩
def OneL (p:Nat→Prop) (bb K:Nat) (v:Value) (st:List PT) (c:Nat) (O:Nat→Prop) (m:Nat) (l:TL) (X Y:LT) (N:Nat) (w3:World) (q:Nat) (i:Value) (wr:World):Prop:=
 Hid (q≤X.args.length)∧i = .int .i64 ((q:Int) - 1)∧∃ v',Hid (UK p bb K v' (st++((X.args.zip Y.args).drop q).reverse) c O m l wr)∧Hid (v'.ownBlock=v.ownBlock∨∀ g,v'.ownBlock=some g→w3.heap.size≤g)∧wr.heap[N]? = some (.cells #[.int .i64 X.kind,.int .i64 X.n,.string X.name,.slice X.at_.1 X.args.length X.at_.2] 27 (0,0))∧wr.heap[N+1]? = some (.cells #[.int .i64 Y.kind,.int .i64 Y.n,.string Y.name,.slice Y.at_.1 Y.args.length Y.at_.2] 27 (0,0))∧Hid (X.In p wr∧Y.In p wr)∧Hid (Turned (ownU K v O) w3 wr)
def OQ (p:Nat→Prop) (bb K:Nat) (v:Value) (st:List PT) (c:Nat) (O:Nat→Prop) (m:Nat) (l:TL) (w:World):Tm.UStep→Ending→World→Prop
 | .done r,e,w'=>∃ v',v'=v∧UQ p bb K v' st O m l w r e w'
 | .more ps,e,w'=>e = .returned (.tuple #[.bool true,.int .i64 0])∧∃ (v':Value) (qs:List PT),UK p bb K v' (st++qs.reverse) c O m l w'∧qs.map (fun q=>(q.1.bare,q.2.bare))=ps∧(v'.ownBlock=v.ownBlock∨∀ g,v'.ownBlock=some g→w.heap.size≤g)∧Turned (ownU K v O) w w'
section
variable {p O:Nat→Prop} {bb K m:Nat} {v:Value} {st:List PT} {c:Nat} {l:TL} {w w':World}
set_option maxRecDepth 100000 in
theorem one173 {x y:LT} (h:UK p bb K v st c O m l w) (hc:c≤2000) (hsl:st.length≤20000) (hx:x.In p w) (gx:Tm.ownB m x.bare=true) (hy:y.In p w) (gy:Tm.ownB m y.bare=true) :
 Calls Try.prog 173 #[.pointer (some ⟨K,0,none⟩),x.val,y.val] w (OQ p bb K v st c O m l w (Tm.oneU (bt l) (2000 - c) (Tm.walkT (bt l) x.bare) (Tm.walkT (bt l) y.bare))):=by
 have h2:=twoBox w (.cells #[.int .i64 x.kind,.int .i64 x.n,.string x.name,.slice x.at_.1 x.args.length x.at_.2] 27) (.cells #[.int .i64 y.kind,.int .i64 y.n,.string y.name,.slice y.at_.1 y.args.length y.at_.2] 27);obtain ⟨w2,hw2⟩:∃ z,z=(w.alloc (.cells #[.int .i64 x.kind,.int .i64 x.n,.string x.name,.slice x.at_.1 x.args.length x.at_.2] 27)).alloc (.cells #[.int .i64 y.kind,.int .i64 y.n,.string y.name,.slice y.at_.1 y.args.length y.at_.2] 27):=⟨_,rfl⟩;rw [←hw2] at h2
 have hbx:∀ W,Turned zN w2 W→W.heap[w.heap.size]? = some (.cells #[.int .i64 x.kind,.int .i64 x.n,.string x.name,.slice x.at_.1 x.args.length x.at_.2] 27 (0,0))∧W.heap[w.heap.size+1]? = some (.cells #[.int .i64 y.kind,.int .i64 y.n,.string y.name,.slice y.at_.1 y.args.length y.at_.2] 27 (0,0)):=fun W hW=>⟨(hW.block _ (by have:=h2.2.1;omega) (fun f=>f)).trans h2.2.2.1,(hW.block _ (by have:=h2.2.1;omega) (fun f=>f)).trans h2.2.2.2⟩
 have hkc:∀ W,Turned (fun k=>k=w.heap.size∨k=w.heap.size+1) w2 W→UK p bb K v st c O m l W:=fun W hW=>h.turned0 (h2.1.step hW (fun i hi e=>by omega))
 have hwx:∀ W,Turned zN w2 W→Calls Try.prog 90 #[.pointer (some ⟨bb,0,none⟩),x.val] W fun e w'=>∃ X:LT,e = .returned X.val∧X.In p w'∧X.bare=Tm.walkT (bt l) x.bare∧Turned zN W w':=fun W hW=>walkO90 (h.bo.turned0 (h2.1.trans hW)) (hx.turned0 (h2.1.trans hW)) (Tm.good_ones' (Tm.ownB_iff.1 gx).1)
 have hwy:∀ W,Turned zN w2 W→Calls Try.prog 90 #[.pointer (some ⟨bb,0,none⟩),y.val] W fun e w'=>∃ X:LT,e = .returned X.val∧X.In p w'∧X.bare=Tm.walkT (bt l) y.bare∧Turned zN W w':=fun W hW=>walkO90 (h.bo.turned0 (h2.1.trans hW)) (hy.turned0 (h2.1.trans hW)) (Tm.good_ones' (Tm.ownB_iff.1 gy).1)
 have wdx:=Tm.walked h.bo.ok _ x.bare (Qm _) (Tm.good_ones' (Tm.ownB_iff.1 gx).1);have wdy:=Tm.walked h.bo.ok _ y.bare (Qm _) (Tm.good_ones' (Tm.ownB_iff.1 gy).1);have owx:=Tm.walkT_own h.bo.ok _ x.bare (Qm _) gx;have owy:=Tm.walkT_own h.bo.ok _ y.bare (Qm _) gy;obtain ⟨X0,hX0⟩:∃ z,z=Tm.walkT (bt l) x.bare:=⟨_,rfl⟩;obtain ⟨Y0,hY0⟩:∃ z,z=Tm.walkT (bt l) y.bare:=⟨_,rfl⟩;rw [←hX0] at hwx wdx owx ⊢;rw [←hY0] at hwy wdy owy ⊢;obtain ⟨U,hU⟩:∃ z,z=Tm.oneU (bt l) (2000 - c) X0 Y0:=⟨_,rfl⟩;rw [←hU];rw [LT.val_eq] at hwx hwy ⊢;rw [LT.val_eq y];have HU:=hid hU;have HWX:=hid hwx;have HWY:=hid hwy;have WDX:=hid wdx;have WDY:=hid wdy;have OWX:=hid owx;have OWY:=hid owy;have HKC:=hid hkc;have HBX:=hid hbx;have HW2:=hid hw2;have HT2:=hid h2.1;have HS2:=hid h2.2.1;have hkl:=(zL h.k)
 have hKN:K≠w.heap.size:=by omega
 have hKN1:K≠w.heap.size+1:=by omega
 have hNK:w.heap.size≠K:=by omega
 have hNK1:w.heap.size+1≠K:=by omega
 have HUK:=hid h;have HPN:Hid (¬ p w.heap.size∧¬ p (w.heap.size+1)):=⟨fun e=>Qy _ (h.bo.plt _ e),fun e=>by have:=h.bo.plt _ e;omega⟩;clear hU hX0 hY0 hwx hwy wdx wdy owx owy hkc hbx hw2 h2 hx hy gx gy h;go_enter Try.func173,Try.ntmps173
 go_wp2_with fail
 rw [←HW2.out];refine wp_region_hsW [9,10,11,12,13,14,15,16,17,18,19,20] [5,11,12,13] [0,0,0,0,0,1,1,1,1,1,1,2,3,4] [14,20,100012,100013] (fun dd vv=>(match dd with | 9=>vv = .pointer (some ⟨K,0,none⟩) | 10=>vv = .pointer (some ⟨K,0,none⟩) | 11=>vv = .pointer (some ⟨K,0,none⟩) | 12=>vv = .pointer (some ⟨bb,0,none⟩) | 13=>vv = .agg #[.int .i64 x.kind,.int .i64 x.n,.string x.name,.slice x.at_.1 x.args.length x.at_.2] | 15=>vv = .pointer (some ⟨K,0,none⟩) | 16=>vv = .pointer (some ⟨K,0,none⟩) | 17=>vv = .pointer (some ⟨K,0,none⟩) | 18=>vv = .pointer (some ⟨bb,0,none⟩) | 19=>vv = .agg #[.int .i64 y.kind,.int .i64 y.n,.string y.name,.slice y.at_.1 y.args.length y.at_.2] | _=>True:Prop)) (WkS p X0 Y0 w.heap.size w2) (by kernel_rfl) rfl (by kernel_rfl) (by kernel_rfl) (by kernel_rfl) (by kernel_rfl) (fun w h=>h) (fun hs w w' h T=>WkS.turned0 hs w w' h T) ?hs ?hQ
 case hs=>
  refine ⟨?s0,?s1,?s2,?s3,?s4,?s5,?s6,?s7,?s8,?s9,?s10,?s11,?s12,?s13,trivial⟩
  case s0=>refine fun hs hle=>zG [] [0] fun ac W hT hI hO=>?_;have hle:hs.length≤0:=hle;simp only [execOp,Act.eval,hO 0 (by simp)];go_simp;try exact tq
  case s1=>refine fun hs hle=>zG [9] [] fun ac W hT hI hO=>?_;have hle:hs.length≤0:=hle;have h9:_=_:=hI 9 (by simp);obtain ⟨k0,k1,k2,kf1,kf2⟩:=(HKC.out W (WkS.turned hs W hT)).kcells;simp only [execOp,Act.eval,h9];go_simp;try exact tq
  case s2=>refine fun hs hle=>zG [10] [] fun ac W hT hI hO=>?_;have hle:hs.length≤0:=hle;have h10:_=_:=hI 10 (by simp);simp only [execOp,Act.eval,h10];go_simp;try exact tq
  case s3=>refine fun hs hle=>zG [11] [] fun ac W hT hI hO=>?_;have hle:hs.length≤0:=hle;have h11:_=_:=hI 11 (by simp);obtain ⟨k0,k1,k2,kf1,kf2⟩:=(HKC.out W (WkS.turned hs W hT)).kcells;simp only [execOp,Act.eval,h11];go_simp;try exact tq
  case s4=>refine fun hs hle=>zG [] [4] fun ac W hT hI hO=>?_;have hle:hs.length≤0:=hle;obtain ⟨c0,c1,c2,c3,_⟩:=cells4 (HBX.out W (WkS.early hs W (by omega) hT)).1;simp only [execOp,Act.eval,hO 4 (by simp)];go_simp;try exact tq
  case s5=>
   refine fun hs hlen=>zG [12,13] [] fun ac W hT hI hO=>?_;have h12:_=_:=hI 12 (by simp);have h13:_=_:=hI 13 (by simp);obtain rfl:hs=[]:=Qh hlen;replace hT:Turned zN w2 W:=hT;show Brings _ (fun vv w'=>WkS p X0 Y0 w.heap.size w2 [vv] w') _;simp only [execOp,Act.eval,h12,h13];go_simp;show Calls Try.prog 90 _ W _
   (with_reducible refine (HWX.out W hT).mono ?_)
   rintro e w' ⟨X,rfl,g1,g2,T'⟩
   exact ⟨_,rfl,hT.trans T',X,by rw [LT.val_eq],g1,g2⟩
  case s6=>refine fun hs hle=>zG [] [0] fun ac W hT hI hO=>?_;have hle:hs.length≤1:=hle;simp only [execOp,Act.eval,hO 0 (by simp)];go_simp;try exact tq
  case s7=>refine fun hs hle=>zG [15] [] fun ac W hT hI hO=>?_;have hle:hs.length≤1:=hle;have h15:_=_:=hI 15 (by simp);obtain ⟨k0,k1,k2,kf1,kf2⟩:=(HKC.out W (WkS.turned hs W hT)).kcells;simp only [execOp,Act.eval,h15];go_simp;try exact tq
  case s8=>refine fun hs hle=>zG [16] [] fun ac W hT hI hO=>?_;have hle:hs.length≤1:=hle;have h16:_=_:=hI 16 (by simp);simp only [execOp,Act.eval,h16];go_simp;try exact tq
  case s9=>refine fun hs hle=>zG [17] [] fun ac W hT hI hO=>?_;have hle:hs.length≤1:=hle;have h17:_=_:=hI 17 (by simp);obtain ⟨k0,k1,k2,kf1,kf2⟩:=(HKC.out W (WkS.turned hs W hT)).kcells;simp only [execOp,Act.eval,h17];go_simp;try exact tq
  case s10=>refine fun hs hle=>zG [] [5] fun ac W hT hI hO=>?_;have hle:hs.length≤1:=hle;obtain ⟨c0,c1,c2,c3,_⟩:=cells4 (HBX.out W (WkS.early hs W (by omega) hT)).2;simp only [execOp,Act.eval,hO 5 (by simp)];go_simp;try exact tq
  case s11=>
   refine fun hs hlen=>zG [18,19] [] fun ac W hT hI hO=>?_;have h18:_=_:=hI 18 (by simp);have h19:_=_:=hI 19 (by simp);obtain ⟨a,rfl⟩:=List.length_eq_one_iff.1 hlen;obtain ⟨hT1,X,x1,x2,x3⟩:=hT;show Brings _ (fun vv w'=>WkS p X0 Y0 w.heap.size w2 [a,vv] w') _;simp only [execOp,Act.eval,h18,h19];go_simp;show Calls Try.prog 90 _ W _
   (with_reducible refine (HWY.out W hT1).mono ?_)
   rintro e w' ⟨Y,rfl,g1,g2,T'⟩
   exact ⟨_,rfl,hT1.trans T',⟨X,by first | rfl | exact x1,x2.turned0 T',x3⟩,Y,by rw [LT.val_eq],g1,g2⟩
  case s12=>
   refine fun hs hlen=>zG [14] [4] fun ac W hT hI hO=>?_;have h14:hs[0]? = some (ac.tmps.getD 14 undef):=hI 14 (by simp);obtain ⟨a,b,rfl⟩:=list2' hlen
   have e14:a=ac.tmps.getD 14 undef:=by simpa using h14
   have hbW:=(HBX.out W hT.1).1;obtain ⟨c0,c1,c2,c3,f0,f1,f2,f3⟩:=cells4 hbW;obtain ⟨X,x1,x2,x3⟩:=hT.2.1;have HST:=hid (fun q=>WkS.store1 (q:=q) hT x1 x2 x3 ⟨_,_,_,_,hbW⟩ HPN.out.1);show Brings _ (fun vv w'=>WkS p X0 Y0 w.heap.size w2 [a,b,vv] w') _;rw [e14] at x1;simp only [execOp,Act.eval,hO 4 (by simp),x1];clear hbW hT x2 x3 e14 x1;go_simp;exact HST.out undef
  case s13=>
   refine fun hs hlen=>zG [20] [5] fun ac W hT hI hO=>?_;have h20:hs[1]? = some (ac.tmps.getD 20 undef):=hI 20 (by simp);obtain ⟨a,b,cc,rfl⟩:=list3' hlen
   have e20:b=ac.tmps.getD 20 undef:=by simpa using h20
   have hbW:W.heap[w.heap.size+1]? = some (.cells #[.int .i64 y.kind,.int .i64 y.n,.string y.name,.slice y.at_.1 y.args.length y.at_.2] 27 (0,0)):=(hT.1.block _ (by have:=HS2.out;omega) (by omega)).trans (HBX.out w2 (Turned.refl _ _)).2;obtain ⟨c0,c1,c2,c3,f0,f1,f2,f3⟩:=cells4 hbW;obtain ⟨Y,y1,y2,y3⟩:=hT.2.2;have HST:=hid (fun q=>WkS.store2 (q:=q) hT y2 y3 ⟨_,_,_,_,hbW⟩ HPN.out.2);show Brings _ (fun vv w'=>WkS p X0 Y0 w.heap.size w2 [a,b,cc,vv] w') _;rw [e20] at y1;simp only [execOp,Act.eval,hO 5 (by simp),y1];clear hbW hT y2 y3 e20 y1;go_simp;exact HST.out undef
 case hQ=>
  intro hs vs w3 hlen hR hV;simp only [Qq,List.foldl_nil,Qk,Qs,Qr];obtain ⟨e1,e2,e3,e4,rfl⟩:=list4' hlen;obtain ⟨T3,⟨X,hbx,hxi,rfl⟩,Y,hby,hyi,rfl⟩:=hR;have HT3:=hid (HT2.out.step T3 (fun i hi e=>by omega));have HK3:=hid (HKC.out w3 T3);have HXB:=hid hbx;have HYB:=hid hby;have HXI:=hid hxi;have HYI:=hid hyi;obtain ⟨c0,c1,c2,c3,f0,f1,f2,f3⟩:=cells4 hbx;obtain ⟨d0,d1,d2,d3,g0,g1,g2,g3⟩:=cells4 hby;clear T3 hbx hby hxi hyi hlen hV;obtain ⟨k0,k1,k2,kf1,kf2⟩:=HK3.out.kcells;have hok:=HK3.out.bo.ok;have hm65:=HK3.out.bo.most
  by_cases hxk:X.kind=0
  · have vX:=Tm.ownB_var OWX.out (by rw [Tm.bare_kind];exact hxk)
    have fX:=WDX.out.free (by rw [Tm.bare_kind];exact hxk);rw [Tm.bare_n] at vX fX
    have bx:(X.kind == 0)=true:=by simp [hxk]
    by_cases hyk:Y.kind=0
    · have vY:=Tm.ownB_var OWY.out (by rw [Tm.bare_kind];exact hyk)
      have fY:=WDY.out.free (by rw [Tm.bare_kind];exact hyk);rw [Tm.bare_n] at vY fY
      have by_:(Y.kind == 0)=true:=by simp [hyk]
      by_cases hn:X.n=Y.n
      · have bn:(X.n == Y.n)=true:=by simp [hn]
        have HE:=hid (HU.out.trans (oneU_same hxk hyk hn));clear hxk hyk hn vX vY fX fY hok
        go_wp2_with fail
        go_ret2
        rw [HE.out];refine ⟨v,rfl,rfl,?_⟩;rw [show (2000 - ((2000 - c:Nat):Int))=(c:Int) from by omega];exact UA.same HK3.out (HT3.out.mono (fun _ _ f=>f.elim))
      · have bn:(X.n == Y.n)=false:=by simp [hn]
        have HE:=hid (HU.out.trans (oneU_vars hxk hyk hn))
        by_cases hlt:X.n < Y.n
        · rw [Int.max_eq_right (by omega),Int.min_eq_left (by omega)] at HE
          have HSE:=hid (setE_vars hok hm65 vY.1 vY.2.1 vX.1 vX.2.1 fY fX (fun e=>hn e.symm))
          have hnlt:¬ Y.n < X.n:=by omega
          have hb0:0≤X.n∧X.n < 65536∧0≤Y.n∧Y.n < 65536:=by omega
          clear hxk hyk hn vX vY fX fY hok
          go_wp2_with fail
          refine wp_region_hsW [35,36,37,38,39,40,41,42,43,44,45,46,47,48,49,50,6,7] [14,15] [1,1,1,1,1,1,1,1,1,0,0,0,0,0,1,2,2,2] [49,50] (fun dd vv=>(match dd with | 35=>vv = .pointer (some ⟨K,0,none⟩) | 36=>vv = .pointer (some ⟨K,0,none⟩) | 37=>vv = .pointer (some ⟨K,0,none⟩) | 38=>vv = .pointer (some ⟨bb,0,none⟩) | 39=>vv = .pointer (some ⟨w.heap.size,1,none⟩) | 40=>vv = .int .i64 X.n | 41=>vv = .pointer (some ⟨w.heap.size+1,1,none⟩) | 42=>vv = .int .i64 Y.n | 43=>vv = .int .i64 Y.n | 44=>vv = .pointer (some ⟨w.heap.size,1,none⟩) | 45=>vv = .int .i64 X.n | 46=>vv = .pointer (some ⟨w.heap.size+1,1,none⟩) | 47=>vv = .int .i64 Y.n | 48=>vv = .int .i64 X.n | 6=>vv = .bool true | 7=>vv = .int .i64 0 | _=>True:Prop)) (VarS p bb O m l Y.n X.n w3) (by kernel_rfl) rfl (by kernel_rfl) (by kernel_rfl) (by kernel_rfl) (by kernel_rfl) (fun w h=>h) (fun hs w w' h T=>VarS.turned0 hs w w' h T) ?hs ?hQ
          case hs=>
           refine ⟨?s0,?s1,?s2,?s3,?s4,?s5,?s6,?s7,?s8,?s9,?s10,?s11,?s12,?s13,?s14,?s15,?s16,?s17,trivial⟩
           case s0=>refine fun hs hle=>zG [] [0] fun ac W hT hI hO=>?_;have hle:hs.length≤1:=hle;simp only [execOp,Act.eval,hO 0 (by simp)];go_simp;try exact tq
           case s1=>refine fun hs hle=>zG [35] [] fun ac W hT hI hO=>?_;have hle:hs.length≤1:=hle;have h35:_=_:=hI 35 (by simp);obtain ⟨k0,k1,k2,kf1,kf2⟩:=(HK3.out.turned0 (VarS.turned hs W hle hT)).kcells;simp only [execOp,Act.eval,h35];go_simp;try exact tq
           case s2=>refine fun hs hle=>zG [36] [] fun ac W hT hI hO=>?_;have hle:hs.length≤1:=hle;have h36:_=_:=hI 36 (by simp);simp only [execOp,Act.eval,h36];go_simp;try exact tq
           case s3=>refine fun hs hle=>zG [37] [] fun ac W hT hI hO=>?_;have hle:hs.length≤1:=hle;have h37:_=_:=hI 37 (by simp);obtain ⟨k0,k1,k2,kf1,kf2⟩:=(HK3.out.turned0 (VarS.turned hs W hle hT)).kcells;simp only [execOp,Act.eval,h37];go_simp;try exact tq
           case s4=>refine fun hs hle=>zG [] [4] fun ac W hT hI hO=>?_;have hle:hs.length≤1:=hle;simp only [execOp,Act.eval,hO 4 (by simp)];go_simp;try exact tq
           case s5=>refine fun hs hle=>zG [39] [] fun ac W hT hI hO=>?_;have hle:hs.length≤1:=hle;have h39:_=_:=hI 39 (by simp);obtain ⟨c0,c1,c2,c3,_⟩:=cells4 (((VarS.turned hs W (by omega) hT).bt HXB.out));simp only [execOp,Act.eval,h39];go_simp;try exact tq
           case s6=>refine fun hs hle=>zG [] [5] fun ac W hT hI hO=>?_;have hle:hs.length≤1:=hle;simp only [execOp,Act.eval,hO 5 (by simp)];go_simp;try exact tq
           case s7=>refine fun hs hle=>zG [41] [] fun ac W hT hI hO=>?_;have hle:hs.length≤1:=hle;have h41:_=_:=hI 41 (by simp);obtain ⟨c0,c1,c2,c3,_⟩:=cells4 (((VarS.turned hs W (by omega) hT).bt HYB.out));simp only [execOp,Act.eval,h41];go_simp;try exact tq
           case s8=>
            refine fun hs hle=>zG [40,42] [] fun ac W hT hI hO=>?_;have hle:hs.length≤1:=hle;have h40:_=_:=hI 40 (by simp);have h42:_=_:=hI 42 (by simp);simp only [execOp,Act.eval,h40,h42];go_simp
            try rw [if_pos (by omega)]
            try rw [if_neg (by omega)]
            try exact tq
           case s9=>refine fun hs hle=>zG [] [4] fun ac W hT hI hO=>?_;have hle:hs.length≤0:=hle;simp only [execOp,Act.eval,hO 4 (by simp)];go_simp;try exact tq
           case s10=>refine fun hs hle=>zG [44] [] fun ac W hT hI hO=>?_;have hle:hs.length≤0:=hle;have h44:_=_:=hI 44 (by simp);obtain ⟨c0,c1,c2,c3,_⟩:=cells4 (((VarS.turned hs W (by omega) hT).bt HXB.out));simp only [execOp,Act.eval,h44];go_simp;try exact tq
           case s11=>refine fun hs hle=>zG [] [5] fun ac W hT hI hO=>?_;have hle:hs.length≤0:=hle;simp only [execOp,Act.eval,hO 5 (by simp)];go_simp;try exact tq
           case s12=>refine fun hs hle=>zG [46] [] fun ac W hT hI hO=>?_;have hle:hs.length≤0:=hle;have h46:_=_:=hI 46 (by simp);obtain ⟨c0,c1,c2,c3,_⟩:=cells4 (((VarS.turned hs W (by omega) hT).bt HYB.out));simp only [execOp,Act.eval,h46];go_simp;try exact tq
           case s13=>
            refine fun hs hle=>zG [45,47] [] fun ac W hT hI hO=>?_;have hle:hs.length≤0:=hle;have h45:_=_:=hI 45 (by simp);have h47:_=_:=hI 47 (by simp);simp only [execOp,Act.eval,h45,h47];go_simp
            try rw [if_pos (by omega)]
            try rw [if_neg (by omega)]
            try exact tq
           case s14=>
            refine fun hs hlen=>zG [48] [] fun ac W hT hI hO=>?_;have h48:_=_:=hI 48 (by simp);obtain rfl:hs=[]:=Qh hlen;replace hT:Turned zN w3 W:=hT;show Brings _ (fun vv w'=>VarS p bb O m l Y.n X.n w3 [vv] w') _;simp only [execOp,Act.eval,h48];go_simp;show Calls Try.prog 62 _ W _
            (with_reducible refine (varE X.n (by unfold I64;omega) W).mono ?_)
            rintro e w' ⟨rfl,T'⟩
            exact ⟨_,rfl,hT.trans T',rfl⟩
           case s15=>
            refine fun hs hlen=>zG [38,43,49] [] fun ac W hT hI hO=>?_;have h38:_=_:=hI 38 (by simp);have h43:_=_:=hI 43 (by simp);have h49:hs[0]? = some (ac.tmps.getD 49 undef):=hI 49 (by simp);obtain ⟨a,rfl⟩:=List.length_eq_one_iff.1 hlen;obtain ⟨hT1,ha⟩:=hT
            have e49:a=ac.tmps.getD 49 undef:=by simpa using h49
            rw [e49] at ha;show Brings _ (fun vv w'=>VarS p bb O m l Y.n X.n w3 [a,vv] w') _;have HS88:=hid (setVar (HK3.out.bo.turned0 hT1) (n:=Y.n) (k:=X.n) (by unfold I64;omega) (by unfold I64;omega) HSE.out);simp only [execOp,Act.eval,h38,h43,ha];go_simp;show Calls Try.prog 88 _ W _
            (with_reducible refine HS88.out.mono ?_)
            rintro e w' ⟨rfl,l2,hl2,A⟩
            exact ⟨_,rfl,rfl,l2,hl2,A.from0 hT1⟩
           case s16=>refine fun hs hle=>zG [] [] fun ac W hT hI hO=>?_;have hle:hs.length≤2:=hle;simp only [execOp,Act.eval];go_simp;try exact tq
           case s17=>
            refine fun hs hle=>zG [50] [] fun ac W hT hI hO=>?_;have hle:hs.length≤2:=hle;have h50:hs[1]? = some (ac.tmps.getD 50 undef):=hI 50 (by simp);have e50:=VarS.val hs W hT h50;simp only [execOp,Act.eval,e50];go_simp
            try exact tq
          case hQ=>
           intro hs5 vs5 w5 hlen hR hV;have q6:vs5 6 = .bool true:=hV 6 (by simp);have q7:vs5 7 = .int .i64 0:=hV 7 (by simp);simp only [Qq,List.foldl_nil,Qk,Qs,Qr,q6,q7];obtain ⟨e1,e2,rfl⟩:=list2' hlen;obtain ⟨_,l2,hl2,A5⟩:=hR;have HA5:=hid A5;have HL2:=hid hl2;clear A5 hl2 hlen hV q6 q7
           go_wp2_with fail
           go_ret2
           rw [HE.out];refine ⟨v,rfl,rfl,?_⟩;rw [show (2000 - ((2000 - c:Nat):Int))=(c:Int) from by omega];obtain ⟨O',u1,u2,u3⟩:=HK3.out.after HA5.out;exact UA.from HT3.out ⟨l2,O',HL2.out,u1,u2,u3.mono (fun _ _ e=>.inr (.inr e))⟩
        · rw [Int.max_eq_left (by omega),Int.min_eq_right (by omega)] at HE
          have HSE:=hid (setE_vars hok hm65 vX.1 vX.2.1 vY.1 vY.2.1 fX fY hn)
          have hgt:Y.n < X.n:=by omega
          have hb0:0≤X.n∧X.n < 65536∧0≤Y.n∧Y.n < 65536:=by omega
          clear hxk hyk hn vX vY fX fY hok
          go_wp2_with fail
          refine wp_region_hsW [35,36,37,38,39,40,41,42,43,44,45,46,47,48,49,50,6,7] [14,15] [1,1,1,1,1,1,1,1,1,0,0,0,0,0,1,2,2,2] [49,50] (fun dd vv=>(match dd with | 35=>vv = .pointer (some ⟨K,0,none⟩) | 36=>vv = .pointer (some ⟨K,0,none⟩) | 37=>vv = .pointer (some ⟨K,0,none⟩) | 38=>vv = .pointer (some ⟨bb,0,none⟩) | 39=>vv = .pointer (some ⟨w.heap.size,1,none⟩) | 40=>vv = .int .i64 X.n | 41=>vv = .pointer (some ⟨w.heap.size+1,1,none⟩) | 42=>vv = .int .i64 Y.n | 43=>vv = .int .i64 X.n | 44=>vv = .pointer (some ⟨w.heap.size,1,none⟩) | 45=>vv = .int .i64 X.n | 46=>vv = .pointer (some ⟨w.heap.size+1,1,none⟩) | 47=>vv = .int .i64 Y.n | 48=>vv = .int .i64 Y.n | 6=>vv = .bool true | 7=>vv = .int .i64 0 | _=>True:Prop)) (VarS p bb O m l X.n Y.n w3) (by kernel_rfl) rfl (by kernel_rfl) (by kernel_rfl) (by kernel_rfl) (by kernel_rfl) (fun w h=>h) (fun hs w w' h T=>VarS.turned0 hs w w' h T) ?hs ?hQ
          case hs=>
           refine ⟨?s0,?s1,?s2,?s3,?s4,?s5,?s6,?s7,?s8,?s9,?s10,?s11,?s12,?s13,?s14,?s15,?s16,?s17,trivial⟩
           case s0=>refine fun hs hle=>zG [] [0] fun ac W hT hI hO=>?_;have hle:hs.length≤1:=hle;simp only [execOp,Act.eval,hO 0 (by simp)];go_simp;try exact tq
           case s1=>refine fun hs hle=>zG [35] [] fun ac W hT hI hO=>?_;have hle:hs.length≤1:=hle;have h35:_=_:=hI 35 (by simp);obtain ⟨k0,k1,k2,kf1,kf2⟩:=(HK3.out.turned0 (VarS.turned hs W hle hT)).kcells;simp only [execOp,Act.eval,h35];go_simp;try exact tq
           case s2=>refine fun hs hle=>zG [36] [] fun ac W hT hI hO=>?_;have hle:hs.length≤1:=hle;have h36:_=_:=hI 36 (by simp);simp only [execOp,Act.eval,h36];go_simp;try exact tq
           case s3=>refine fun hs hle=>zG [37] [] fun ac W hT hI hO=>?_;have hle:hs.length≤1:=hle;have h37:_=_:=hI 37 (by simp);obtain ⟨k0,k1,k2,kf1,kf2⟩:=(HK3.out.turned0 (VarS.turned hs W hle hT)).kcells;simp only [execOp,Act.eval,h37];go_simp;try exact tq
           case s4=>refine fun hs hle=>zG [] [4] fun ac W hT hI hO=>?_;have hle:hs.length≤1:=hle;simp only [execOp,Act.eval,hO 4 (by simp)];go_simp;try exact tq
           case s5=>refine fun hs hle=>zG [39] [] fun ac W hT hI hO=>?_;have hle:hs.length≤1:=hle;have h39:_=_:=hI 39 (by simp);obtain ⟨c0,c1,c2,c3,_⟩:=cells4 (((VarS.turned hs W (by omega) hT).bt HXB.out));simp only [execOp,Act.eval,h39];go_simp;try exact tq
           case s6=>refine fun hs hle=>zG [] [5] fun ac W hT hI hO=>?_;have hle:hs.length≤1:=hle;simp only [execOp,Act.eval,hO 5 (by simp)];go_simp;try exact tq
           case s7=>refine fun hs hle=>zG [41] [] fun ac W hT hI hO=>?_;have hle:hs.length≤1:=hle;have h41:_=_:=hI 41 (by simp);obtain ⟨c0,c1,c2,c3,_⟩:=cells4 (((VarS.turned hs W (by omega) hT).bt HYB.out));simp only [execOp,Act.eval,h41];go_simp;try exact tq
           case s8=>
            refine fun hs hle=>zG [40,42] [] fun ac W hT hI hO=>?_;have hle:hs.length≤1:=hle;have h40:_=_:=hI 40 (by simp);have h42:_=_:=hI 42 (by simp);simp only [execOp,Act.eval,h40,h42];go_simp
            try rw [if_pos (by omega)]
            try rw [if_neg (by omega)]
            try exact tq
           case s9=>refine fun hs hle=>zG [] [4] fun ac W hT hI hO=>?_;have hle:hs.length≤0:=hle;simp only [execOp,Act.eval,hO 4 (by simp)];go_simp;try exact tq
           case s10=>refine fun hs hle=>zG [44] [] fun ac W hT hI hO=>?_;have hle:hs.length≤0:=hle;have h44:_=_:=hI 44 (by simp);obtain ⟨c0,c1,c2,c3,_⟩:=cells4 (((VarS.turned hs W (by omega) hT).bt HXB.out));simp only [execOp,Act.eval,h44];go_simp;try exact tq
           case s11=>refine fun hs hle=>zG [] [5] fun ac W hT hI hO=>?_;have hle:hs.length≤0:=hle;simp only [execOp,Act.eval,hO 5 (by simp)];go_simp;try exact tq
           case s12=>refine fun hs hle=>zG [46] [] fun ac W hT hI hO=>?_;have hle:hs.length≤0:=hle;have h46:_=_:=hI 46 (by simp);obtain ⟨c0,c1,c2,c3,_⟩:=cells4 (((VarS.turned hs W (by omega) hT).bt HYB.out));simp only [execOp,Act.eval,h46];go_simp;try exact tq
           case s13=>
            refine fun hs hle=>zG [45,47] [] fun ac W hT hI hO=>?_;have hle:hs.length≤0:=hle;have h45:_=_:=hI 45 (by simp);have h47:_=_:=hI 47 (by simp);simp only [execOp,Act.eval,h45,h47];go_simp
            try rw [if_pos (by omega)]
            try rw [if_neg (by omega)]
            try exact tq
           case s14=>
            refine fun hs hlen=>zG [48] [] fun ac W hT hI hO=>?_;have h48:_=_:=hI 48 (by simp);obtain rfl:hs=[]:=Qh hlen;replace hT:Turned zN w3 W:=hT;show Brings _ (fun vv w'=>VarS p bb O m l X.n Y.n w3 [vv] w') _;simp only [execOp,Act.eval,h48];go_simp;show Calls Try.prog 62 _ W _
            (with_reducible refine (varE Y.n (by unfold I64;omega) W).mono ?_)
            rintro e w' ⟨rfl,T'⟩
            exact ⟨_,rfl,hT.trans T',rfl⟩
           case s15=>
            refine fun hs hlen=>zG [38,43,49] [] fun ac W hT hI hO=>?_;have h38:_=_:=hI 38 (by simp);have h43:_=_:=hI 43 (by simp);have h49:hs[0]? = some (ac.tmps.getD 49 undef):=hI 49 (by simp);obtain ⟨a,rfl⟩:=List.length_eq_one_iff.1 hlen;obtain ⟨hT1,ha⟩:=hT
            have e49:a=ac.tmps.getD 49 undef:=by simpa using h49
            rw [e49] at ha;show Brings _ (fun vv w'=>VarS p bb O m l X.n Y.n w3 [a,vv] w') _;have HS88:=hid (setVar (HK3.out.bo.turned0 hT1) (n:=X.n) (k:=Y.n) (by unfold I64;omega) (by unfold I64;omega) HSE.out);simp only [execOp,Act.eval,h38,h43,ha];go_simp;show Calls Try.prog 88 _ W _
            (with_reducible refine HS88.out.mono ?_)
            rintro e w' ⟨rfl,l2,hl2,A⟩
            exact ⟨_,rfl,rfl,l2,hl2,A.from0 hT1⟩
           case s16=>refine fun hs hle=>zG [] [] fun ac W hT hI hO=>?_;have hle:hs.length≤2:=hle;simp only [execOp,Act.eval];go_simp;try exact tq
           case s17=>
            refine fun hs hle=>zG [50] [] fun ac W hT hI hO=>?_;have hle:hs.length≤2:=hle;have h50:hs[1]? = some (ac.tmps.getD 50 undef):=hI 50 (by simp);have e50:=VarS.val hs W hT h50;simp only [execOp,Act.eval,e50];go_simp
            try exact tq
          case hQ=>
           intro hs5 vs5 w5 hlen hR hV;have q6:vs5 6 = .bool true:=hV 6 (by simp);have q7:vs5 7 = .int .i64 0:=hV 7 (by simp);simp only [Qq,List.foldl_nil,Qk,Qs,Qr,q6,q7];obtain ⟨e1,e2,rfl⟩:=list2' hlen;obtain ⟨_,l2,hl2,A5⟩:=hR;have HA5:=hid A5;have HL2:=hid hl2;clear A5 hl2 hlen hV q6 q7
           go_wp2_with fail
           go_ret2
           rw [HE.out];refine ⟨v,rfl,rfl,?_⟩;rw [show (2000 - ((2000 - c:Nat):Int))=(c:Int) from by omega];obtain ⟨O',u1,u2,u3⟩:=HK3.out.after HA5.out;exact UA.from HT3.out ⟨l2,O',HL2.out,u1,u2,u3.mono (fun _ _ e=>.inr (.inr e))⟩
    · have by_:(Y.kind == 0)=false:=by simp [hyk]
      have HE:=hid (HU.out.trans (oneU_left hxk hyk));have HTI:=hid (tie183 (xv:=X) HK3.out hc HYI.out OWY.out hyk vX.1 vX.2.1 fX);clear hxk hyk vX fX hok;rw [LT.val_eq,LT.val_eq] at HTI;obtain ⟨TU,hTU⟩:∃ z,z=Tm.tieU (bt l) (2000 - c) X.n Y.bare:=⟨_,rfl⟩;rw [←hTU] at HTI HE;clear hTU
      cases TU with
      | ok l' left'=>
       go_wp2_with (go_at_call 183;(with_reducible refine HTI.out.mono ?_);rintro e w4 ⟨rfl,h4⟩;have H4:=hid h4;clear h4)
       go_ret2
       rw [HE.out];exact ⟨v,rfl,rfl,H4.out.from HT3.out⟩
      | no q=>
       go_wp2_with (go_at_call 183;(with_reducible refine HTI.out.mono ?_);rintro e w4 ⟨rfl,h4⟩;have H4:=hid h4;clear h4)
       go_ret2
       rw [HE.out];exact ⟨v,rfl,rfl,H4.out.from HT3.out⟩
      | over=>
       go_wp2_with (go_at_call 183;(with_reducible refine HTI.out.mono ?_);rintro e w4 ⟨rfl,h4⟩;have H4:=hid h4;clear h4)
       go_ret2
       rw [HE.out];obtain ⟨c',h4⟩:=H4.out;exact ⟨v,rfl,rfl,c',h4.from HT3.out⟩
  · have bx:(X.kind == 0)=false:=by simp [hxk]
    by_cases hyk:Y.kind=0
    · have vY:=Tm.ownB_var OWY.out (by rw [Tm.bare_kind];exact hyk)
      have fY:=WDY.out.free (by rw [Tm.bare_kind];exact hyk);rw [Tm.bare_n] at vY fY
      have by_:(Y.kind == 0)=true:=by simp [hyk]
      have HE:=hid (HU.out.trans (oneU_right hxk hyk));have HTI:=hid (tie183 (xv:=Y) HK3.out hc HXI.out OWX.out hxk vY.1 vY.2.1 fY);clear hxk hyk vY fY hok;rw [LT.val_eq,LT.val_eq] at HTI;obtain ⟨TU,hTU⟩:∃ z,z=Tm.tieU (bt l) (2000 - c) Y.n X.bare:=⟨_,rfl⟩;rw [←hTU] at HTI HE;clear hTU
      cases TU with
      | ok l' left'=>
       go_wp2_with (go_at_call 183;(with_reducible refine HTI.out.mono ?_);rintro e w4 ⟨rfl,h4⟩;have H4:=hid h4;clear h4)
       go_ret2
       rw [HE.out];exact ⟨v,rfl,rfl,H4.out.from HT3.out⟩
      | no q=>
       go_wp2_with (go_at_call 183;(with_reducible refine HTI.out.mono ?_);rintro e w4 ⟨rfl,h4⟩;have H4:=hid h4;clear h4)
       go_ret2
       rw [HE.out];exact ⟨v,rfl,rfl,H4.out.from HT3.out⟩
      | over=>
       go_wp2_with (go_at_call 183;(with_reducible refine HTI.out.mono ?_);rintro e w4 ⟨rfl,h4⟩;have H4:=hid h4;clear h4)
       go_ret2
       rw [HE.out];obtain ⟨c',h4⟩:=H4.out;exact ⟨v,rfl,rfl,c',h4.from HT3.out⟩
    · have by_:(Y.kind == 0)=false:=by simp [hyk]
      have HE:=hid (HU.out.trans (oneU_heads hxk hyk));have HXK:=hid hxk;have HYK:=hid hyk;clear hxk hyk hok
      by_cases h1:X.kind=Y.kind
      · have t1:(X.kind != Y.kind)=false:=by simp [h1]
        by_cases h2:X.n=Y.n
        · have t2:(X.n != Y.n)=false:=by simp [h2]
          by_cases h3:X.name=Y.name
          · have t3:(X.name.toList != Y.name.toList)=false:=by simp [h3]
            have t3':(X.name.toList == Y.name.toList)=true:=by simp [h3]
            by_cases h4:X.args.length=Y.args.length
            · have t4:((X.args.length:Int) != (Y.args.length:Int))=false:=by simp [h4]
              have HE2:Hid (U = .more (X.bare.args.zip Y.bare.args)):=by show _=_;rw [HE.out,if_pos ⟨h1,h2,h3,h4⟩]
              have HL4:=hid h4;clear h1 h2 h3 h4
              have hal:X.args.length≤8:=by
               by_cases ha:X.bare.args=[]
               · have:=Tm.bare_arity X;rw [ha] at this;simp at this;omega
               · have:=(Tm.one_args (WDX.out.ones _ (by rw [Tm.flat_eq];exact Qe ..)) ha).2.2
                 rw [Tm.bare_arity] at this;exact this
              go_wp2_with fail
              go_loopg [8] X.args.length (fun q i wr=>OneL p bb K v st c O m l X Y w.heap.size w3 q i wr)
              case atStart=>exact ⟨Qm _,rfl,v,(by (rw [List.drop_eq_nil_of_le (by rw [List.length_zip];omega),List.reverse_nil,List.append_nil];exact HK3)),.inl rfl,HXB.out,HYB.out,⟨HXI.out,HYI.out⟩,Turned.refl _ _⟩
              case round=>
               obtain ⟨HJ,hi,v4,HK4,HO4,hb4,hb5,HI4,HT4⟩:=hrel
               rcases gk with _ | q
               · rw [show (((0:Nat):Int) - 1) = -1 from rfl] at hi
                 subst hi
                 go_wp2_with fail
                 go_ret2
                 rw [HE2.out];refine ⟨rfl,v4,X.args.zip Y.args,by simpa using HK4.out,?_,?_,(HT3.out.mono (fun _ _ f=>f.elim)).trans HT4.out⟩
                 · rw [Tm.bare_args,Tm.bare_args,Tm.bares_eq,Tm.bares_eq,List.zip_map]
                   rfl
                 · exact HO4.out.elim .inl (fun e=>.inr (fun g hg=>QA HT3.out.size (e g hg)))
               · rw [show (((q+1:Nat):Int) - 1)=(q:Int) from by omega] at hi
                 subst hi
                 have hm:q < X.args.length:=by have:=HJ.out;omega
                 obtain ⟨xq,hxq⟩:∃ y:LT,X.args[q]? = some y:=⟨_,Qa hm⟩;obtain ⟨yq,hyq⟩:∃ y:LT,Y.args[q]? = some y:=⟨_,Qa (by have:=HL4.out;omega)⟩;obtain ⟨i0,hi0,hz0,hz1,hz2⟩:=info_parts info187
                 have hlen:(st++((X.args.zip Y.args).drop (q+1)).reverse).length≤20100:=by
                  rw [Qi,List.length_reverse,List.length_drop,List.length_zip];omega
                 obtain ⟨LL,hLL⟩:∃ z,z=st++((X.args.zip Y.args).drop (q+1)).reverse:=⟨_,rfl⟩;rw [←hLL] at HK4 hlen;have HLL:=hid hLL;clear hLL;obtain ⟨b,o,hax,_,d0,d1,d2,d3⟩:=HI4.out.1.lies.cell hxq;obtain ⟨b2,o2,hay,_,e0,e1,e2,e3⟩:=HI4.out.2.lies.cell hyq;have HAX:=hid hax;have HAY:=hid hay;have HLY:=hid HL4.out.symm
                 have hpl:∀ k,p k→¬ v4.ownBlock=some k:=fun k hk e=>(HK4.out.vO k e).2.1 hk
                 have HXW:Hid (∀ W,Turned (fun k=>v4.ownBlock=some k) wr W→(W.cell? ⟨b,o+q * 4,none⟩=some (.int .i64 xq.kind)∧W.cell? ⟨b,o+q * 4+1,none⟩=some (.int .i64 xq.n)∧W.cell? ⟨b,o+q * 4+2,none⟩=some (.string xq.name)∧W.cell? ⟨b,o+q * 4+3,none⟩=some (.slice xq.at_.1 xq.args.length xq.at_.2))∧(W.cell? ⟨b2,o2+q * 4,none⟩=some (.int .i64 yq.kind)∧W.cell? ⟨b2,o2+q * 4+1,none⟩=some (.int .i64 yq.n)∧W.cell? ⟨b2,o2+q * 4+2,none⟩=some (.string yq.name)∧W.cell? ⟨b2,o2+q * 4+3,none⟩=some (.slice yq.at_.1 yq.args.length yq.at_.2))):=fun W T=>by
                  have hX:=LT.In.turned T (fun k _ hk e=>hpl k hk e) (fun _ _ hk=>hk) X HI4.out.1;have hY:=LT.In.turned T (fun k _ hk e=>hpl k hk e) (fun _ _ hk=>hk) Y HI4.out.2;obtain ⟨b',o',h1,_,z⟩:=hX.lies.cell hxq;obtain ⟨b2',o2',h2,_,z2⟩:=hY.lies.cell hyq;rw [hax] at h1;rw [hay] at h2
                  injection h1 with h1
                  injection h1 with h1 h1'
                  injection h2 with h2
                  injection h2 with h2 h2'
                  subst h1 h1' h2 h2';exact ⟨z,z2⟩
                 have hvl:∀ k,v4.ownBlock=some k→k≠w.heap.size∧k≠w.heap.size+1:=fun k hk=>by
                  have hs3:w.heap.size+2≤w3.heap.size:=by have:=(zL HYB.out);omega
                  rcases HO4.out with e | e
                  · have:=HUK.out.row.lt k (e ▸ hk);omega
                  · have:=e k hk;omega
                 have HBW:Hid (∀ W,Turned (fun k=>v4.ownBlock=some k) wr W→W.heap[w.heap.size]? = some (.cells #[.int .i64 X.kind,.int .i64 X.n,.string X.name,.slice X.at_.1 X.args.length X.at_.2] 27 (0,0))∧W.heap[w.heap.size+1]? = some (.cells #[.int .i64 Y.kind,.int .i64 Y.n,.string Y.name,.slice Y.at_.1 Y.args.length Y.at_.2] 27 (0,0))):=fun W T=>⟨(T.block _ (zL hb4) (fun e=>(hvl _ e).1 rfl)).trans hb4,(T.block _ (zL hb5) (fun e=>(hvl _ e).2 rfl)).trans hb5⟩
                 have HKB:Hid (∀ W,Turned (fun k=>v4.ownBlock=some k) wr W→W.heap[K]? = some (.cells #[.pointer (some ⟨bb,0,none⟩),v4,.int .i64 (c:Int)] 190 (0,0))):=fun W T=>(T.block _ (zL HK4.out.k) (fun e=>(HK4.out.vO K e).2.2 rfl)).trans HK4.out.k
                 have HKW:Hid (∀ W,Turned (fun k=>v4.ownBlock=some k) wr W→W.cell? ⟨K,0,none⟩=some (.pointer (some ⟨bb,0,none⟩))∧W.cell? ⟨K,1,none⟩=some v4∧W.cell? ⟨K,2,none⟩=some (.int .i64 c)∧W.frozen? ⟨K,1,none⟩=false∧W.frozen? ⟨K,2,none⟩=false):=fun W T=>
                  ⟨by (rw [cell_of_row W K 0 _ 190 (0,0) (HKB.out W T)];rfl),by (rw [cell_of_row W K 1 _ 190 (0,0) (HKB.out W T)];rfl),by (rw [cell_of_row W K 2 _ 190 (0,0) (HKB.out W T)];rfl),frozen_of_row W K 1 _ 190 (HKB.out W T),frozen_of_row W K 2 _ 190 (HKB.out W T)⟩
                 have hxl:=HI4.out.1.len;have hylen:=HI4.out.2.len
                 have hxm:X.at_.2≤9223372036854775807:=by have:=hxl.2.1;unfold maxLen at this;exact this
                 have hym:Y.at_.2≤9223372036854775807:=by have:=hylen.2.1;unfold maxLen at this;exact this
                 have HXQ:=hid hxq;have HYQ:=hid hyq;have HB4:=hid (And.intro hb4 hb5);clear d0 d1 d2 d3 e0 e1 e2 e3 hax hay hb4 hb5 hxq hyq hvl hpl hxl hylen c0 c1 c2 c3 f0 f1 f2 f3 g0 g1 g2 g3 k0 k1 k2 kf1 kf2
                 try clear d0 d1 d2 d3
                 go_wp2_with fail
                 refine wp_region_hsW [108,109,110,111,112,113,114,115,116,117,118,119,120,121,122,123,124,125,126,127] [16,17,20] [2,1,1,1,1,0,0,0,0,0,0,0,0,0,0,0,1,2,2,2,3] [124,125,100020] (fun dd vv=>(match dd with | 108=>vv = .pointer (some ⟨K,0,none⟩) | 109=>vv = .pointer (some ⟨K,0,none⟩) | 110=>vv = .pointer (some ⟨K,0,none⟩) | 111=>vv = .pointer (some ⟨K,1,none⟩) | 112=>vv=v4 | 113=>vv = .pointer (some ⟨w.heap.size,3,none⟩) | 114=>vv = .slice (some ⟨b,o,none⟩) X.args.length X.at_.2 | 115=>vv = .int .i64 q | 116=>vv = .pointer (some ⟨b,o+q * 4,none⟩) | 117=>vv = .agg #[.int .i64 xq.kind,.int .i64 xq.n,.string xq.name,.slice xq.at_.1 xq.args.length xq.at_.2] | 118=>vv = .pointer (some ⟨w.heap.size+1,3,none⟩) | 119=>vv = .slice (some ⟨b2,o2,none⟩) Y.args.length Y.at_.2 | 120=>vv = .int .i64 q | 121=>vv = .pointer (some ⟨b2,o2+q * 4,none⟩) | 122=>vv = .agg #[.int .i64 yq.kind,.int .i64 yq.n,.string yq.name,.slice yq.at_.1 yq.args.length yq.at_.2] | 123=>vv = .agg #[.int .i64 xq.kind,.int .i64 xq.n,.string xq.name,.slice xq.at_.1 xq.args.length xq.at_.2,.int .i64 yq.kind,.int .i64 yq.n,.string yq.name,.slice yq.at_.1 yq.args.length yq.at_.2] | 126=>vv = .pointer (some ⟨K,0,none⟩) | 127=>vv = .pointer (some ⟨K,1,none⟩) | _=>True:Prop)) (PsS bb K v4 LL.length (LL.flatMap PT.cells) (c:Int) xq yq wr) (by kernel_rfl) rfl (by kernel_rfl) (by kernel_rfl) (by kernel_rfl) (by kernel_rfl) (fun w h=>h) (fun hs w w' h T=>PsS.turned0 hs w w' h T) ?hs ?hQ
                 case hs=>
                  refine ⟨?s0,?s1,?s2,?s3,?s4,?s5,?s6,?s7,?s8,?s9,?s10,?s11,?s12,?s13,?s14,?s15,?s16,?s17,?s18,?s19,?s20,trivial⟩
                  case s0=>refine fun hs hle=>zG [] [0] fun ac W hT hI hO=>?_;have hle:hs.length≤2:=hle;simp only [execOp,Act.eval,hO 0 (by simp)];go_simp;try exact tq
                  case s1=>refine fun hs hle=>zG [] [0] fun ac W hT hI hO=>?_;have hle:hs.length≤1:=hle;simp only [execOp,Act.eval,hO 0 (by simp)];go_simp;try exact tq
                  case s2=>refine fun hs hle=>zG [109] [] fun ac W hT hI hO=>?_;have hle:hs.length≤1:=hle;have h109:_=_:=hI 109 (by simp);obtain ⟨k0,k1,k2,kf1,kf2⟩:=HKW.out W (PsS.turned hs W (by omega) hT);simp only [execOp,Act.eval,h109];go_simp;try exact tq
                  case s3=>refine fun hs hle=>zG [110] [] fun ac W hT hI hO=>?_;have hle:hs.length≤1:=hle;have h110:_=_:=hI 110 (by simp);simp only [execOp,Act.eval,h110];go_simp;try exact tq
                  case s4=>refine fun hs hle=>zG [111] [] fun ac W hT hI hO=>?_;have hle:hs.length≤1:=hle;have h111:_=_:=hI 111 (by simp);obtain ⟨k0,k1,k2,kf1,kf2⟩:=HKW.out W (PsS.turned hs W (by omega) hT);simp only [execOp,Act.eval,h111];go_simp;try exact tq
                  case s5=>refine fun hs hle=>zG [] [4] fun ac W hT hI hO=>?_;have hle:hs.length≤0:=hle;simp only [execOp,Act.eval,hO 4 (by simp)];go_simp;try exact tq
                  case s6=>refine fun hs hle=>zG [113] [] fun ac W hT hI hO=>?_;have hle:hs.length≤0:=hle;have h113:_=_:=hI 113 (by simp);obtain ⟨c0,c1,c2,c3,_⟩:=cells4 ((HBW.out W (PsS.turned hs W (by omega) hT)).1);rw [HAX.out] at c3;simp only [execOp,Act.eval,h113];go_simp;try exact tq
                  case s7=>refine fun hs hle=>zG [] [8] fun ac W hT hI hO=>?_;have hle:hs.length≤0:=hle;simp only [execOp,Act.eval,hO 8 (by simp)];go_simp;try exact tq
                  case s8=>
                   refine fun hs hle=>zG [114,115] [] fun ac W hT hI hO=>?_;have hle:hs.length≤0:=hle;have h114:_=_:=hI 114 (by simp);have h115:_=_:=hI 115 (by simp);have hyl:=HLY.out;simp only [execOp,Act.eval,h114,h115];go_simp
                   try rw [if_pos (by omega)]
                   try exact tq
                  case s9=>refine fun hs hle=>zG [116] [] fun ac W hT hI hO=>?_;have hle:hs.length≤0:=hle;have h116:_=_:=hI 116 (by simp);obtain ⟨x0,x1,x2,x3⟩:=(HXW.out W (PsS.turned hs W (by omega) hT)).1;simp only [execOp,Act.eval,h116];go_simp;try exact tq
                  case s10=>refine fun hs hle=>zG [] [5] fun ac W hT hI hO=>?_;have hle:hs.length≤0:=hle;simp only [execOp,Act.eval,hO 5 (by simp)];go_simp;try exact tq
                  case s11=>refine fun hs hle=>zG [118] [] fun ac W hT hI hO=>?_;have hle:hs.length≤0:=hle;have h118:_=_:=hI 118 (by simp);obtain ⟨c0,c1,c2,c3,_⟩:=cells4 ((HBW.out W (PsS.turned hs W (by omega) hT)).2);rw [HAY.out] at c3;simp only [execOp,Act.eval,h118];go_simp;try exact tq
                  case s12=>refine fun hs hle=>zG [] [8] fun ac W hT hI hO=>?_;have hle:hs.length≤0:=hle;simp only [execOp,Act.eval,hO 8 (by simp)];go_simp;try exact tq
                  case s13=>
                   refine fun hs hle=>zG [119,120] [] fun ac W hT hI hO=>?_;have hle:hs.length≤0:=hle;have h119:_=_:=hI 119 (by simp);have h120:_=_:=hI 120 (by simp);have hyl:=HLY.out;simp only [execOp,Act.eval,h119,h120];go_simp
                   try rw [if_pos (by omega)]
                   try exact tq
                  case s14=>refine fun hs hle=>zG [121] [] fun ac W hT hI hO=>?_;have hle:hs.length≤0:=hle;have h121:_=_:=hI 121 (by simp);obtain ⟨x0,x1,x2,x3⟩:=(HXW.out W (PsS.turned hs W (by omega) hT)).2;simp only [execOp,Act.eval,h121];go_simp;try exact tq
                  case s15=>
                   refine fun hs hle=>zG [117,122] [] fun ac W hT hI hO=>?_;have hle:hs.length≤0:=hle;have h117:_=_:=hI 117 (by simp);have h122:_=_:=hI 122 (by simp);refine brings_build187 117 122 rfl h117 h122 ?_;exact ⟨Turned.refl _ _,rfl⟩
                  case s16=>
                   refine fun hs hlen=>zG [123] [] fun ac W hT hI hO=>?_;have h123:_=_:=hI 123 (by simp);obtain rfl:hs=[]:=Qh hlen;replace hT:Turned zN wr W:=hT;show Brings _ (fun vv w'=>PsS bb K v4 LL.length (LL.flatMap PT.cells) (c:Int) xq yq wr [vv] w') _;refine brings_slice188 123 rfl h123 ?_;exact ⟨hT.alloc _,_,rfl,heap_alloc_new W _⟩
                  case s17=>
                   refine fun hs hlen=>zG [112,124] [] fun ac W hT hI hO=>?_;have h112:_=_:=hI 112 (by simp);have h124:hs[0]? = some (ac.tmps.getD 124 undef):=hI 124 (by simp);obtain ⟨a,rfl⟩:=List.length_eq_one_iff.1 hlen;obtain ⟨hT1,g0,ha,hg0⟩:=hT
                   have e124:a=ac.tmps.getD 124 undef:=by simpa using h124
                   rw [e124] at ha;show Brings _ (fun vv w'=>PsS bb K v4 LL.length (LL.flatMap PT.cells) (c:Int) xq yq wr [a,vv] w') _;have hnb:=news_block (cs:=PT.cells (xq,yq)) (by unfold PT.cells;rw [LT.cells_eq,LT.cells_eq];exact hg0);refine brings_append_any (.tmp 112) (.tmp 124) 188 rfl 187 i0 _ 8 112 Try.underlying188 hi0 hz0 hz1 hz2 rfl (by decide) v4 _ _ h112 (HK4.out.row.turned0 hT1) (some ⟨g0,0,none⟩) 1 1 (PT.cells (xq,yq)) ha (fun e=>by cases e) (PT.cells_length _) (fun ad e j u hu=>by injection e with e;subst e;exact hnb j u hu) (PT.cells_one _) (by unfold maxLen;omega) (by omega) ?_;intro v5 w5 hr5 T5 ho5;exact ⟨hr5,ho5.elim .inl (fun e=>.inr (fun g hg=>by rw [hg] at e;injection e with e;have:=hT1.size;omega)),(hT1.mono (fun _ _ f=>f.elim)).trans T5⟩
                  case s18=>refine fun hs hle=>zG [108] [] fun ac W hT hI hO=>?_;have hle:hs.length≤2:=hle;have h108:_=_:=hI 108 (by simp);obtain ⟨k0,k1,k2,kf1,kf2⟩:=HKW.out W (PsS.turned hs W (by omega) hT);simp only [execOp,Act.eval,h108];go_simp;try exact tq
                  case s19=>refine fun hs hle=>zG [126] [] fun ac W hT hI hO=>?_;have hle:hs.length≤2:=hle;have h126:_=_:=hI 126 (by simp);simp only [execOp,Act.eval,h126];go_simp;try exact tq
                  case s20=>
                   refine fun hs hlen=>zG [127,125] [] fun ac W hT hI hO=>?_;have h127:_=_:=hI 127 (by simp);have h125:hs[1]? = some (ac.tmps.getD 125 undef):=hI 125 (by simp);obtain ⟨a,b9,rfl⟩:=list2' hlen;obtain ⟨hr5,ho5,T5⟩:=hT
                   have e125:b9=ac.tmps.getD 125 undef:=by simpa using h125
                   obtain ⟨k0,k1,k2,kf1,kf2⟩:=HKW.out W T5;obtain ⟨ra,rc,e5⟩:=hr5.shape;have hsk:=heap_setCell_same W K 1 _ 190 b9 (HKB.out W T5);have HSK:=hid hsk;have T6:Turned (fun k=>k=K∨v4.ownBlock=some k) W (W.setCell ⟨K,1,none⟩ b9):=(Turned.refl _ W).setCell (p:=⟨K,1,none⟩) (.inr (.inl rfl)) b9
                   have hne:b9.ownBlock≠some K:=fun e=>by
                    rcases ho5 with h | h
                    · exact (HK4.out.vO K (h ▸ e)).2.2 rfl
                    · have:=h K e;have:=(zL HK4.out.k);omega
                   have HR6:=hid (hr5.setCell (p:=⟨K,1,none⟩) hne b9);have HT6:=hid ((T5.mono (fun _ _ e=>Or.inr e)).trans T6);have HO6:=hid ho5;have h125':ac.tmps.getD 125 undef=b9:=e125.symm;show Brings _ (fun vv w'=>PsS bb K v4 LL.length (LL.flatMap PT.cells) (c:Int) xq yq wr [a,b9,vv] w') _;clear hsk T6 hne hr5 T5 ho5 e125 h125;subst e5;simp only [execOp,Act.eval,h127,h125'];go_simp;exact ⟨HR6.out,HO6.out,HT6.out,by simpa using HSK.out⟩
                 case hQ=>
                  intro hs15 vs15 w5 hlen15 hR hV;simp only [Qq,List.foldl_nil,Qk,Qs,Qr];obtain ⟨z1,a5,z3,rfl⟩:=list3' hlen15;obtain ⟨r1,r2,r3,r4⟩:=hR;have HPK:=hid (HK4.out.push (X:=xq) (Y:=yq) ⟨(LT.ins_iff _).1 HI4.out.1.args xq (Qf HXQ.out),Tm.ownB_arg OWX.out (by rw [Tm.bare_kind];exact HXK.out) (by rw [Tm.bare_args,Tm.bares_eq];exact List.mem_map_of_mem (Qf HXQ.out))⟩ ⟨(LT.ins_iff _).1 HI4.out.2.args yq (Qf HYQ.out),Tm.ownB_arg OWY.out (by rw [Tm.bare_kind];exact HYK.out) (by rw [Tm.bare_args,Tm.bares_eq];exact List.mem_map_of_mem (Qf HYQ.out))⟩ r1 r2 r3 r4);have HR2:=hid r2;have HR3:=hid r3;clear r1 r2 r3 r4 hlen15 hV
                  go_wp2_with fail
                  go_roundg q
                  case measure=>omega
                  case rel=>
                   have hz:(X.args.zip Y.args).drop q=(xq,yq) :: (X.args.zip Y.args).drop (q+1):=by
                    have hzl:q < (X.args.zip Y.args).length:=by rw [List.length_zip];have:=HL4.out;omega
                    rw [List.drop_eq_getElem_cons hzl];congr 1;rw [List.getElem_zip];have h1:=HXQ.out;have h2:=HYQ.out;rw [Qa hm] at h1;rw [Qa (by have:=HL4.out;omega)] at h2
                    injection h1 with h1
                    injection h2 with h2
                    rw [h1,h2]
                   have hown:∀ k,k < w3.heap.size→(k=K∨v4.ownBlock=some k)→ownU K v O k:=fun k hk e=>by
                    rcases e with e | e
                    · exact .inl e
                    · rcases HO4.out with h | h
                      · exact .inr (.inl (h ▸ e))
                      · have:=h k e;omega
                   have hps:∀ k,k=w.heap.size∨k=w.heap.size+1→¬ (k=K∨v4.ownBlock=some k):=fun k hk e=>by
                    have hs3:w.heap.size+2≤w3.heap.size:=by have:=(zL HYB.out);omega
                    rcases e with e | e
                    · omega
                    · rcases HO4.out with h | h
                      · have:=HUK.out.row.lt k (h ▸ e);omega
                      · have:=h k e;omega
                   have hpt:∀ t:LT,t.In p wr→t.In p w5:=fun t ht=>LT.In.turned HR3.out (fun k _ hk e=>by
                    rcases e with e | e
                    · exact HK4.out.kO.2 (e ▸ hk)
                    · exact (HK4.out.vO k e).2.1 hk) (fun _ _ hk=>hk) t ht
                   refine ⟨by have:=HJ.out;show _≤_;omega,rfl,a5,?_,?_,?_,?_,⟨hpt _ HI4.out.1,hpt _ HI4.out.2⟩,HT4.out.step HR3.out hown⟩
                   · show UK _ _ _ _ _ _ _ _ _ _
                     rw [hz,List.reverse_cons,←List.append_assoc,←HLL.out];exact HPK.out
                   · show _∨_
                     rcases HR2.out with e | e
                     · rcases HO4.out with h | h
                       · exact .inl (e.trans h)
                       · exact .inr (fun g hg=>h g (e ▸ hg))
                     · exact .inr (fun g hg=>QA HT4.out.size (e g hg))
                   · exact (HR3.out.block _ (zL HB4.out.1) (hps _ (.inl rfl))).trans HB4.out.1
                   · exact (HR3.out.block _ (zL HB4.out.2) (hps _ (.inr rfl))).trans HB4.out.2
            · have t4:((X.args.length:Int) != (Y.args.length:Int))=true:=by simp;omega
              have HE2:Hid (U = .done (.no (2000 - c))):=by show _=_;rw [HE.out,if_neg (fun e=>h4 e.2.2.2)]
              clear h1 h2 h3 h4
              go_wp2_with fail
              go_ret2
              rw [HE2.out];refine ⟨v,rfl,rfl,?_⟩;rw [show (2000 - ((2000 - c:Nat):Int))=(c:Int) from by omega];exact UA.same HK3.out (HT3.out.mono (fun _ _ f=>f.elim))
          · have t3:(X.name.toList != Y.name.toList)=true:=by rw [bne,str_neq h3];rfl
            have t3':(X.name.toList == Y.name.toList)=false:=str_neq h3
            have HE2:Hid (U = .done (.no (2000 - c))):=by show _=_;rw [HE.out,if_neg (fun e=>h3 e.2.2.1)]
            clear h1 h2 h3
            go_wp2_with fail
            go_ret2
            rw [HE2.out];refine ⟨v,rfl,rfl,?_⟩;rw [show (2000 - ((2000 - c:Nat):Int))=(c:Int) from by omega];exact UA.same HK3.out (HT3.out.mono (fun _ _ f=>f.elim))
        · have t2:(X.n != Y.n)=true:=by simp [h2]
          have HE2:Hid (U = .done (.no (2000 - c))):=by show _=_;rw [HE.out,if_neg (fun e=>h2 e.2.1)]
          clear h1 h2
          go_wp2_with fail
          go_ret2
          rw [HE2.out];refine ⟨v,rfl,rfl,?_⟩;rw [show (2000 - ((2000 - c:Nat):Int))=(c:Int) from by omega];exact UA.same HK3.out (HT3.out.mono (fun _ _ f=>f.elim))
      · have t1:(X.kind != Y.kind)=true:=by simp [h1]
        have HE2:Hid (U = .done (.no (2000 - c))):=by show _=_;rw [HE.out,if_neg (fun e=>h1 e.1)]
        clear h1
        go_wp2_with fail
        go_ret2
        rw [HE2.out];refine ⟨v,rfl,rfl,?_⟩;rw [show (2000 - ((2000 - c:Nat):Int))=(c:Int) from by omega];exact UA.same HK3.out (HT3.out.mono (fun _ _ f=>f.elim))
end
def pairsT (st:List PT):List (Tm Unit × Tm Unit):=st.reverse.map fun q=>(q.1.bare,q.2.bare)
theorem pairsT_snoc (ss:List PT) (q:PT):pairsT (ss++[q])=(q.1.bare,q.2.bare) :: pairsT ss:=by unfold pairsT;rw [List.reverse_append];rfl
theorem pairsT_args (ss qs:List PT):pairsT (ss++qs.reverse)=qs.map (fun q=>(q.1.bare,q.2.bare))++pairsT ss:=by
 unfold pairsT;rw [List.reverse_append,List.reverse_reverse,List.map_append]
theorem PT.flat_at {l:List PT} {i:Nat} {q:PT} (h:l[i]? = some q) (j:Nat) (hj:j < 8):(l.flatMap PT.cells)[i * 8+j]? = (PT.cells q)[j]?:=by
 induction l generalizing i with
 | nil=>simp at h
 | cons y l ih=>
  rw [List.flatMap_cons]
  cases i with
  | zero=>
   simp at h;subst h;rw [List.getElem?_append_left (by rw [PT.cells_length];omega),Nat.zero_mul,Nat.zero_add]
  | succ i=>
   simp at h;rw [List.getElem?_append_right (by rw [PT.cells_length];omega),PT.cells_length]
   have:(i+1) * 8+j - 8=i * 8+j:=by omega
   rw [this];exact ih h
theorem PT.cells_eq (q:PT):PT.cells q=[.int .i64 q.1.kind,.int .i64 q.1.n,.string q.1.name,.slice q.1.at_.1 q.1.args.length q.1.at_.2,.int .i64 q.2.kind,.int .i64 q.2.n,.string q.2.name,.slice q.2.at_.1 q.2.args.length q.2.at_.2]:=by unfold PT.cells;rw [LT.cells_eq,LT.cells_eq];rfl
theorem turned8 (W:World) (B:Nat) (a b c d e f g h:Value):Turned (fun k=>k=B) W ((((((((W.setCell ⟨B,0,none⟩ a).setCell ⟨B,1,none⟩ b).setCell ⟨B,2,none⟩ c).setCell ⟨B,3,none⟩ d).setCell ⟨B,4,none⟩ e).setCell ⟨B,5,none⟩ f).setCell ⟨B,6,none⟩ g).setCell ⟨B,7,none⟩ h):=
 ((((((((Turned.refl (fun k=>k=B) W).setCell (p:=⟨B,0,none⟩) (.inr rfl) _).setCell (p:=⟨B,1,none⟩) (.inr rfl) _).setCell (p:=⟨B,2,none⟩) (.inr rfl) _).setCell (p:=⟨B,3,none⟩) (.inr rfl) _).setCell (p:=⟨B,4,none⟩) (.inr rfl) _).setCell (p:=⟨B,5,none⟩) (.inr rfl) _).setCell (p:=⟨B,6,none⟩) (.inr rfl) _).setCell (p:=⟨B,7,none⟩) (.inr rfl) _
theorem set8 {W:World} {B:Nat} {T:TypeId} {a b c d e f g h a' b' c' d' e' f' g' h':Value} (hb:W.heap[B]? = some (.cells #[a,b,c,d,e,f,g,h] T (0,0))) :
 ((((((((W.setCell ⟨B,0,none⟩ a').setCell ⟨B,1,none⟩ b').setCell ⟨B,2,none⟩ c').setCell ⟨B,3,none⟩ d').setCell ⟨B,4,none⟩ e').setCell ⟨B,5,none⟩ f').setCell ⟨B,6,none⟩ g').setCell ⟨B,7,none⟩ h').heap[B]? = some (.cells #[a',b',c',d',e',f',g',h'] T (0,0)):=by
 have h0:=heap_setCell_same W B 0 _ T a' hb;have h1:=heap_setCell_same _ B 1 _ T b' h0;have h2:=heap_setCell_same _ B 2 _ T c' h1;have h3:=heap_setCell_same _ B 3 _ T d' h2;have h4:=heap_setCell_same _ B 4 _ T e' h3;have h5:=heap_setCell_same _ B 5 _ T f' h4;have h6:=heap_setCell_same _ B 6 _ T g' h5;have h7:=heap_setCell_same _ B 7 _ T h' h6;simpa using h7
theorem cells8 {W:World} {B:Nat} {T:TypeId} {a b c d e f g h:Value} (hb:W.heap[B]? = some (.cells #[a,b,c,d,e,f,g,h] T (0,0))) :
 (W.cell? ⟨B,0,none⟩=some a∧W.cell? ⟨B,1,none⟩=some b∧W.cell? ⟨B,2,none⟩=some c∧W.cell? ⟨B,3,none⟩=some d∧W.cell? ⟨B,4,none⟩=some e∧W.cell? ⟨B,5,none⟩=some f∧W.cell? ⟨B,6,none⟩=some g∧W.cell? ⟨B,7,none⟩=some h)∧
 W.frozen? ⟨B,0,none⟩=false∧W.frozen? ⟨B,1,none⟩=false∧W.frozen? ⟨B,2,none⟩=false∧W.frozen? ⟨B,3,none⟩=false∧W.frozen? ⟨B,4,none⟩=false∧W.frozen? ⟨B,5,none⟩=false∧W.frozen? ⟨B,6,none⟩=false∧W.frozen? ⟨B,7,none⟩=false:=by
 refine ⟨⟨?_,?_,?_,?_,?_,?_,?_,?_⟩,?_,?_,?_,?_,?_,?_,?_,?_⟩
 · rw [cell_of_row W B 0 _ T (0,0) hb];rfl
 · rw [cell_of_row W B 1 _ T (0,0) hb];rfl
 · rw [cell_of_row W B 2 _ T (0,0) hb];rfl
 · rw [cell_of_row W B 3 _ T (0,0) hb];rfl
 · rw [cell_of_row W B 4 _ T (0,0) hb];rfl
 · rw [cell_of_row W B 5 _ T (0,0) hb];rfl
 · rw [cell_of_row W B 6 _ T (0,0) hb];rfl
 · rw [cell_of_row W B 7 _ T (0,0) hb];rfl
 all_goals exact frozen_of_row W B _ _ T hb
theorem UK.last {p O:Nat→Prop} {bb K m g n cap:Nat} {ss:List PT} {q:PT} {c:Int} {l:TL} {w:World} (h:UK p bb K (.slice (some ⟨g,0,none⟩) n cap) (ss++[q]) c O m l w) :
 n=ss.length+1∧ss.length+1≤cap∧cap≤maxLen∧(w.cell? ⟨g,ss.length * 8,none⟩=some (.int .i64 q.1.kind)∧w.cell? ⟨g,ss.length * 8+1,none⟩=some (.int .i64 q.1.n)∧w.cell? ⟨g,ss.length * 8+2,none⟩=some (.string q.1.name)∧w.cell? ⟨g,ss.length * 8+3,none⟩=some (.slice q.1.at_.1 q.1.args.length q.1.at_.2))∧
 w.cell? ⟨g,ss.length * 8+4,none⟩=some (.int .i64 q.2.kind)∧w.cell? ⟨g,ss.length * 8+5,none⟩=some (.int .i64 q.2.n)∧w.cell? ⟨g,ss.length * 8+6,none⟩=some (.string q.2.name)∧w.cell? ⟨g,ss.length * 8+7,none⟩=some (.slice q.2.at_.1 q.2.args.length q.2.at_.2):=by
 have hr:=h.row
 have hn:n=ss.length+1:=by
  rcases hr.2 with ⟨e,_⟩ | ⟨g',c',cur,e,_⟩
  · cases e
  · injection e with _ e _;simp at e;exact e
 subst hn
 have hcap:ss.length+1≤cap∧cap≤maxLen:=by
  rcases hr.2 with ⟨e,_⟩ | ⟨g',c',cur,e,_,h1,h2,_⟩
  · cases e
  · injection e with _ _ e;subst e;simp at h1;omega
 have hr':Row w 187 8 (.slice (some ⟨g,0,none⟩) (ss.length+1) cap) (ss.length+1) ((ss++[q]).flatMap PT.cells):=by simpa using hr
 have hi:(ss++[q])[ss.length]? = some q:=by simp
 refine ⟨rfl,hcap.1,hcap.2,⟨hr'.cells rfl _ _ ?_,hr'.cells rfl _ _ ?_,hr'.cells rfl _ _ ?_,hr'.cells rfl _ _ ?_⟩,hr'.cells rfl _ _ ?_,hr'.cells rfl _ _ ?_,hr'.cells rfl _ _ ?_,hr'.cells rfl _ _ ?_⟩
 · have:=PT.flat_at hi 0 (by omega);rw [Nat.add_zero] at this;rw [this,PT.cells_eq];rfl
 all_goals (rw [PT.flat_at hi _ (by omega),PT.cells_eq];rfl)
theorem UK.popc {p O:Nat→Prop} {bb K m g n cap:Nat} {ss:List PT} {q:PT} {c:Int} {l:TL} {w:World} (h:UK p bb K (.slice (some ⟨g,0,none⟩) n cap) (ss++[q]) c O m l w) (c':Int) :
 UK p bb K (.slice (some ⟨g,0,none⟩) ss.length cap) ss c' O m l ((w.setCell ⟨K,1,none⟩ (.slice (some ⟨g,0,none⟩) ss.length cap)).setCell ⟨K,2,none⟩ (.int .i64 c'))∧Turned (fun k=>k=K) w ((w.setCell ⟨K,1,none⟩ (.slice (some ⟨g,0,none⟩) ss.length cap)).setCell ⟨K,2,none⟩ (.int .i64 c')):=by
 obtain ⟨hn,h1,h2,_⟩:=h.last;subst hn;have T:Turned (fun k=>k=K) w (w.setCell ⟨K,1,none⟩ (.slice (some ⟨g,0,none⟩) ss.length cap)):=(Turned.refl (fun k=>k=K) w).setCell (p:=⟨K,1,none⟩) (.inr rfl) _
 have hp:∀ q:LT,q.In p w→q.In p (w.setCell ⟨K,1,none⟩ (.slice (some ⟨g,0,none⟩) ss.length cap)):=fun q hq=>LT.In.turned T (fun k _ hk e=>h.kO.2 (e ▸ hk)) (fun _ _ hk=>hk) q hq
 have hr':Row w 187 8 (.slice (some ⟨g,0,none⟩) (ss.length+1) cap) (ss.length+1) ((ss++[q]).flatMap PT.cells):=by simpa using h.row
 have ht:=hr'.take (m:=ss.length) (c:=cap) (by omega) (by omega) (Qm _);rw [List.flatMap_append,List.take_left' (by rw [PT.flat_length])] at ht
 have h1:UK p bb K (.slice (some ⟨g,0,none⟩) ss.length cap) ss c O m l (w.setCell ⟨K,1,none⟩ (.slice (some ⟨g,0,none⟩) ss.length cap)):=by
  refine ⟨h.bo.turned T (fun k hk e=>⟨fun c=>h.kO.1 (e ▸ c),fun c=>h.kO.2 (e ▸ c)⟩),?_,ht.turned T (fun k hk e=>(h.vO k (by simpa [Value.ownBlock] using hk)).2.2 e),fun q' hq=>?_,h.kO,fun g' hg=>h.vO g' (by simpa [Value.ownBlock] using hg)⟩
  · have:=heap_setCell_same w K 1 _ 190 (.slice (some ⟨g,0,none⟩) ss.length cap) h.k
    simpa using this
  · have hm:=h.mem q' (Qc _ hq)
    exact ⟨⟨hp _ hm.1.1,hm.1.2⟩,hp _ hm.2.1,hm.2.2⟩
 obtain ⟨h3,T3⟩:=h1.cost c';exact ⟨h3,T.trans T3⟩
def BxS (q:PT) (wr:World):List Value→World→Prop
 | [],W=>Turned zN wr W
 | [b],W=>Turned zN wr W∧∃ B a0 a1 a2 a3 a4 a5 a6 a7,b = .pointer (some ⟨B,0,none⟩)∧wr.heap.size≤B∧W.heap[B]? = some (.cells #[a0,a1,a2,a3,a4,a5,a6,a7] 187 (0,0))
 | [b,_],W=>Turned zN wr W∧∃ B,b = .pointer (some ⟨B,0,none⟩)∧wr.heap.size≤B∧W.heap[B]? = some (.cells #[.int .i64 q.1.kind,.int .i64 q.1.n,.string q.1.name,.slice q.1.at_.1 q.1.args.length q.1.at_.2,.int .i64 q.2.kind,.int .i64 q.2.n,.string q.2.name,.slice q.2.at_.1 q.2.args.length q.2.at_.2] 187 (0,0))
 | _,_=>False
theorem BxS.turned0 {q:PT} {wr:World}:∀ (hs:List Value) (w w':World),BxS q wr hs w→Turned zN w w'→BxS q wr hs w'
 | [],_,_,h,T=>Turned.trans h T
 | [_],_,_,⟨h1,B,a0,a1,a2,a3,a4,a5,a6,a7,h2,h3,h4⟩,T=>⟨h1.trans T,B,a0,a1,a2,a3,a4,a5,a6,a7,h2,h3,(T.bt h4)⟩
 | [_,_],_,_,⟨h1,B,h2,h3,h4⟩,T=>⟨h1.trans T,B,h2,h3,(T.bt h4)⟩
 | _ :: _ :: _ :: _,_,_,h,_=>h.elim
theorem BxS.turned {q:PT} {wr:World}:∀ (hs:List Value) (W:World),BxS q wr hs W→Turned zN wr W
 | [],_,h=>h
 | [_],_,h=>h.1
 | [_,_],_,h=>h.1
 | _ :: _ :: _ :: _,_,h=>h.elim
structure AllI (p:Nat→Prop) (bb K:Nat) (v0:Value) (O0:Nat→Prop) (m:Nat) (l0:TL) (U:Tm.UR) (w0:World) (v:Value) (st:List PT) (c:Nat) (O:Nat→Prop) (l:TL) (wr:World):Prop where
 uk:UK p bb K v st c O m l wr
 c2:c≤2000
 len:st.length≤1+8 * c
 pre:∃ a,bt l=a++bt l0
 same:Tm.unify (bt l) (2000 - c) (pairsT st)=U
 own:∀ k,ownU K v O k→k < w0.heap.size→ownU K v0 O0 k
 ownO:∀ k,O k→k < w0.heap.size→O0 k
 turned:Turned (ownU K v0 O0) w0 wr
def AllQ (p:Nat→Prop) (bb K:Nat) (v0:Value) (O0:Nat→Prop) (m:Nat) (l0:TL) (w0:World):Tm.UR→Ending→World→Prop
 | .ok l' left',e,w'=>e = .returned (.tuple #[.bool true,.int .i64 0])∧∃ v st O l,bt l=l'∧UK p bb K v st (2000 - (left':Int)) O m l w'∧(∀ k,O k→k < w0.heap.size→O0 k)∧Turned (ownU K v0 O0) w0 w'
 | .no q,e,w'=>e = .returned (.tuple #[.bool false,.int .i64 0])∧∃ v st O l,(∃ a,bt l=a++bt l0)∧UK p bb K v st (2000 - (q:Int)) O m l w'∧(∀ k,O k→k < w0.heap.size→O0 k)∧Turned (ownU K v0 O0) w0 w'
 | .over,e,w'=>e = .returned (.tuple #[.bool false,.int .i64 12])∧∃ v st c O l,(∃ a,bt l=a++bt l0)∧UK p bb K v st c O m l w'∧(∀ k,O k→k < w0.heap.size→O0 k)∧Turned (ownU K v0 O0) w0 w'
section
variable {p O0 O:Nat→Prop} {bb K m:Nat} {v0 v:Value} {st:List PT} {c:Nat} {l0 l:TL} {U:Tm.UR} {w0 wr w5 w6 w':World}
theorem AllI.far {O':Nat→Prop} {v':Value} (h:AllI p bb K v0 O0 m l0 U w0 v st c O l wr) (T5:Turned zN wr w5) (T6:Turned (fun k=>k=K) w5 w6) (T:Turned (ownU K v' O) w6 w') (hv:∀ k,v'.ownBlock=some k→v.ownBlock=some k) (hO:∀ k,O' k→k < w6.heap.size→O k) :
 (∀ k,O' k→k < w0.heap.size→O0 k)∧Turned (ownU K v0 O0) w0 w'∧w0.heap.size≤w6.heap.size:=by
 have hs:w0.heap.size≤w6.heap.size:=by have:=h.turned.size;have:=T5.size;have:=T6.size;omega
 refine ⟨fun k hk hl=>h.ownO k (hO k hk (Qo hl hs)) hl,?_,hs⟩;have R5:=h.turned.trans (T5.mono (fun _ _ f=>f.elim));have R6:=R5.step T6 (fun i hi e=>.inl e);exact R6.step T (fun i hi e=>h.own i (e.elim .inl (fun e=>e.elim (fun e=>.inr (.inl (hv i e))) (fun e=>.inr (.inr e)))) hi)
set_option maxRecDepth 100000 in
theorem all153 {w:World} (h:UK p bb K v st c O m l w) (hc:c≤2000) (hl:st.length≤1+8 * c) :
 Calls Try.prog 153 #[.pointer (some ⟨K,0,none⟩)] w (AllQ p bb K v O m l w (Tm.unify (bt l) (2000 - c) (pairsT st))):=by
 obtain ⟨U,hU⟩:∃ z,z=Tm.unify (bt l) (2000 - c) (pairsT st):=⟨_,rfl⟩;rw [←hU];have hinit:Hid (AllI p bb K v O m l U w v st c O l w):=⟨h,hc,hl,⟨[],rfl⟩,hU.symm,fun _ hk _=>hk,fun _ hk _=>hk,Turned.refl _ _⟩;clear h hl hU;go_enter Try.func153,Try.ntmps153
 go_wp2_with fail
 go_loopg [] (2000 - c) (fun k wr=>∃ v' st' c' O' l',Hid (c'+k=2000)∧Hid (AllI p bb K v O m l U w v' st' c' O' l' wr))
 case atStart=>exact ⟨v,st,c,O,l,show _=_ by omega,hinit⟩
 case round=>
  obtain ⟨v1,st1,c1,O1,l1,HG,HI⟩:=hrel;obtain ⟨k0,k1,k2,kf1,kf2⟩:=HI.out.uk.kcells
  rcases List.eq_nil_or_concat st1 with rfl | ⟨ss,q,rfl⟩
  · obtain ⟨a,cap,rfl⟩:=HI.out.uk.row.shape
    have hu:U = .ok (bt l1) (2000 - c1):=HI.out.same.symm;have HE:=hid hu;clear hu
    go_wp2_with fail
    go_ret2
    rw [HE.out];have huk:=HI.out.uk;rw [show (c1:Int)=2000 - ((2000 - c1:Nat):Int) from by have:=HI.out.c2;omega] at huk;exact ⟨rfl,.slice a ([]:List PT).length cap,[],O1,l1,rfl,huk,HI.out.ownO,HI.out.turned⟩
  · rw [List.concat_eq_append] at HI
    obtain ⟨g,cap,rfl⟩:=HI.out.uk.row.shape_pos (by simp);obtain ⟨hn1,hc1,hc2,_⟩:=HI.out.uk.last
    have hcm:cap≤9223372036854775807:=by unfold maxLen at hc2;exact hc2
    have hss:ss.length≤16001:=by have h1:=HI.out.len;have h2:=HI.out.c2;rw [Qi,List.length_singleton] at h1;omega
    rw [Qi,List.length_singleton] at k1
    have HKW:Hid (∀ W,Turned zN wr W→W.cell? ⟨K,0,none⟩=some (.pointer (some ⟨bb,0,none⟩))∧W.cell? ⟨K,1,none⟩=some (.slice (some ⟨g,0,none⟩) (ss.length+1) cap)∧W.cell? ⟨K,2,none⟩=some (.int .i64 c1)∧W.frozen? ⟨K,1,none⟩=false∧W.frozen? ⟨K,2,none⟩=false):=fun W T=>by
     have:=(HI.out.uk.turned0 T).kcells;rw [Qi,List.length_singleton] at this;exact this
    have HLW:=hid (fun W (T:Turned zN wr W)=>(HI.out.uk.turned0 T).last.2.2.2);clear hn1
    go_wp2_with fail
    refine wp_region_hsW [13,14,15,16,17,18,19,20,21,22,23,24,4] [12,13] [1,1,1,1,1,1,1,1,1,1,1,1,1,2] [4,100013] (fun dd vv=>(match dd with | 13=>vv = .pointer (some ⟨K,0,none⟩) | 14=>vv = .pointer (some ⟨K,0,none⟩) | 15=>vv = .pointer (some ⟨K,1,none⟩) | 16=>vv = .slice (some ⟨g,0,none⟩) (ss.length+1) cap | 17=>vv = .pointer (some ⟨K,0,none⟩) | 18=>vv = .pointer (some ⟨K,0,none⟩) | 19=>vv = .pointer (some ⟨K,1,none⟩) | 20=>vv = .slice (some ⟨g,0,none⟩) (ss.length+1) cap | 21=>vv = .int .i64 ((ss.length:Int)+1) | 22=>vv = .int .i64 ss.length | 23=>vv = .pointer (some ⟨g,ss.length * 8,none⟩) | 24=>vv = .agg #[.int .i64 q.1.kind,.int .i64 q.1.n,.string q.1.name,.slice q.1.at_.1 q.1.args.length q.1.at_.2,.int .i64 q.2.kind,.int .i64 q.2.n,.string q.2.name,.slice q.2.at_.1 q.2.args.length q.2.at_.2] | _=>True:Prop)) (BxS q wr) (by kernel_rfl) rfl (by kernel_rfl) (by kernel_rfl) (by kernel_rfl) (by kernel_rfl) (fun w h=>h) (fun hs w w' h T=>BxS.turned0 hs w w' h T) ?hs ?hQ
    case hs=>
     refine ⟨?s0,?s1,?s2,?s3,?s4,?s5,?s6,?s7,?s8,?s9,?s10,?s11,?s12,?s13,trivial⟩
     case s0=>refine fun hs hle=>zG [] [0] fun ac W hT hI hO=>?_;have hle:hs.length≤1:=hle;simp only [execOp,Act.eval,hO 0 (by simp)];go_simp;try exact tq
     case s1=>refine fun hs hle=>zG [13] [] fun ac W hT hI hO=>?_;have hle:hs.length≤1:=hle;have h13:_=_:=hI 13 (by simp);obtain ⟨k0,k1,k2,kf1,kf2⟩:=HKW.out W (BxS.turned hs W hT);simp only [execOp,Act.eval,h13];go_simp;try exact tq
     case s2=>refine fun hs hle=>zG [14] [] fun ac W hT hI hO=>?_;have hle:hs.length≤1:=hle;have h14:_=_:=hI 14 (by simp);simp only [execOp,Act.eval,h14];go_simp;try exact tq
     case s3=>refine fun hs hle=>zG [15] [] fun ac W hT hI hO=>?_;have hle:hs.length≤1:=hle;have h15:_=_:=hI 15 (by simp);obtain ⟨k0,k1,k2,kf1,kf2⟩:=HKW.out W (BxS.turned hs W hT);simp only [execOp,Act.eval,h15];go_simp;try exact tq
     case s4=>refine fun hs hle=>zG [] [0] fun ac W hT hI hO=>?_;have hle:hs.length≤1:=hle;simp only [execOp,Act.eval,hO 0 (by simp)];go_simp;try exact tq
     case s5=>refine fun hs hle=>zG [17] [] fun ac W hT hI hO=>?_;have hle:hs.length≤1:=hle;have h17:_=_:=hI 17 (by simp);obtain ⟨k0,k1,k2,kf1,kf2⟩:=HKW.out W (BxS.turned hs W hT);simp only [execOp,Act.eval,h17];go_simp;try exact tq
     case s6=>refine fun hs hle=>zG [18] [] fun ac W hT hI hO=>?_;have hle:hs.length≤1:=hle;have h18:_=_:=hI 18 (by simp);simp only [execOp,Act.eval,h18];go_simp;try exact tq
     case s7=>refine fun hs hle=>zG [19] [] fun ac W hT hI hO=>?_;have hle:hs.length≤1:=hle;have h19:_=_:=hI 19 (by simp);obtain ⟨k0,k1,k2,kf1,kf2⟩:=HKW.out W (BxS.turned hs W hT);simp only [execOp,Act.eval,h19];go_simp;try exact tq
     case s8=>refine fun hs hle=>zG [20] [] fun ac W hT hI hO=>?_;have hle:hs.length≤1:=hle;have h20:_=_:=hI 20 (by simp);simp only [execOp,Act.eval,h20];go_simp;try exact tq
     case s9=>
      refine fun hs hle=>zG [21] [] fun ac W hT hI hO=>?_;have hle:hs.length≤1:=hle;have h21:_=_:=hI 21 (by simp);simp only [execOp,Act.eval,h21];go_simp
      try rw [wrapI (by omega) (by omega)]
      try exact tq
     case s10=>
      refine fun hs hle=>zG [16,22] [] fun ac W hT hI hO=>?_;have hle:hs.length≤1:=hle;have h16:_=_:=hI 16 (by simp);have h22:_=_:=hI 22 (by simp);simp only [execOp,Act.eval,h16,h22];go_simp
      try rw [if_pos (by omega)]
      try exact tq
     case s11=>refine fun hs hle=>zG [23] [] fun ac W hT hI hO=>?_;have hle:hs.length≤1:=hle;have h23:_=_:=hI 23 (by simp);obtain ⟨⟨x0,x1,x2,x3⟩,x4,x5,x6,x7⟩:=HLW.out W (BxS.turned hs W hT);simp only [execOp,Act.eval,h23];go_simp;try exact tq
     case s12=>
      refine fun hs hlen=>zG [] [] fun ac W hT hI hO=>?_;obtain rfl:hs=[]:=Qh hlen;replace hT:Turned zN wr W:=hT;show Brings _ (fun vv w'=>BxS q wr [vv] w') _;simp only [execOp,Act.eval];go_simp;exact ⟨hT.alloc _,_,_,_,_,_,_,_,_,_,rfl,hT.size,heap_alloc_new W _⟩
     case s13=>
      refine fun hs hlen=>zG [4,24] [] fun ac W hT hI hO=>?_;have h4:hs[0]? = some (ac.tmps.getD 4 undef):=hI 4 (by simp);have h24:_=_:=hI 24 (by simp);obtain ⟨a,rfl⟩:=List.length_eq_one_iff.1 hlen;obtain ⟨hT1,B,a0,a1,a2,a3,a4,a5,a6,a7,ha,hB,hb⟩:=hT
      have e4:a=ac.tmps.getD 4 undef:=by simpa using h4
      rw [e4] at ha;obtain ⟨⟨p0,p1,p2,p3,p4,p5,p6,p7⟩,f0,f1,f2,f3,f4,f5,f6,f7⟩:=cells8 hb;have HST:=hid (set8 (a':=.int .i64 q.1.kind) (b':=.int .i64 q.1.n) (c':=.string q.1.name) (d':=.slice q.1.at_.1 q.1.args.length q.1.at_.2) (e':=.int .i64 q.2.kind) (f':=.int .i64 q.2.n) (g':=.string q.2.name) (h':=.slice q.2.at_.1 q.2.args.length q.2.at_.2) hb);have HT8:=hid (hT1.step (turned8 W B (.int .i64 q.1.kind) (.int .i64 q.1.n) (.string q.1.name) (.slice q.1.at_.1 q.1.args.length q.1.at_.2) (.int .i64 q.2.kind) (.int .i64 q.2.n) (.string q.2.name) (.slice q.2.at_.1 q.2.args.length q.2.at_.2)) (fun i hi e=>by omega));have HBB:Hid (wr.heap.size≤B):=hB;show Brings _ (fun vv w'=>BxS q wr [a,vv] w') _;have HEA:=hid (e4.trans ha);clear hb hT1 hB;simp only [execOp,Act.eval,ha,h24];go_simp;exact ⟨HT8.out,B,by first | rfl | exact HEA.out,HBB.out,HST.out⟩
    case hQ=>
     intro hs2 vs2 w5 hlen2 hR hV;obtain ⟨b1,b2,rfl⟩:=list2' hlen2;obtain ⟨T5,B,rfl,hB,hb5⟩:=hR;have q4:some (Value.pointer (some ⟨B,0,none⟩))=some (vs2 4):=hV 4 (by simp);have q4':vs2 4 = .pointer (some ⟨B,0,none⟩):=(Option.some.inj q4).symm;simp only [Qq,List.foldl_nil,Qk,Qs,Qr,q4'];clear q4 q4' hV hlen2;have HB5:=hid hb5;have HBN:Hid (wr.heap.size≤B):=hB;have hpc:=(HI.out.uk.turned0 T5).popc ((c1:Int)+1);have HPC:=hid (And.intro (hpc.1.turned0 (Turned.refl _ _).drew) hpc.2.drew);have HT5:=hid T5;have hkl:=(zL HI.out.uk.k)
     have hKB:K≠B:=by have:=HBN.out;omega
     have hBK:B≠K:=by have:=HBN.out;omega
     obtain ⟨k0,k1,k2,kf1,kf2⟩:=HKW.out w5 T5;obtain ⟨⟨p0,p1,p2,p3,p4,p5,p6,p7⟩,_⟩:=cells8 hb5;have hc2k:=HI.out.c2
     have hcc:ss.length≤cap:=by omega
     have hwr:IntKind.i64.wrap (ss.length:Int)=(ss.length:Int):=wrapI (by omega) (by omega);clear T5 hB hb5 hpc
     go_wp2_with fail
     refine region_tail 14 (by kernel_rfl) (by kernel_rfl) ?_;simp only [List.take_succ_cons,List.take_zero,List.drop_succ_cons,List.drop_zero]
     repeat still_step
     refine wpStill_nil ?_
     by_cases hover:c1=2000
     · have hu:U = .over:=by
        have:=HI.out.same;rw [hover,pairsT_snoc,show 2000 - 2000=0 from rfl,Tm.unify_zero] at this;exact this.symm
       have HE:=hid hu;have d1:decide (2000 < (c1:Int)+1)=true:=decide_eq_true (by omega);clear hu hover
       go_wp2_with fail
       go_ret2
       rw [HE.out];obtain ⟨r1,r2,_⟩:=HI.out.far HT5.out HPC.out.2 (Turned.refl (ownU K (.slice (some ⟨g,0,none⟩) (ss++[q]).length cap) O1) _) (fun k hk=>hk) (O':=O1) (fun k hk _=>hk);exact ⟨rfl,_,ss,_,O1,l1,HI.out.pre,HPC.out.1,r1,r2⟩
     · have d1:decide (2000 < (c1:Int)+1)=false:=decide_eq_false (by omega)
       obtain ⟨hx,hy⟩:=HI.out.uk.mem q (by simp);have T6:=HPC.out.2
       have hin:∀ t:LT,t.In p wr→t.In p ((w5.setCell ⟨K,1,none⟩ (.slice (some ⟨g,0,none⟩) ss.length cap)).setCell ⟨K,2,none⟩ (.int .i64 ((c1:Int)+1))).drew:=fun t ht=>LT.In.turned T6 (fun k _ hk e=>HI.out.uk.kO.2 (e ▸ hk)) (fun _ _ hk=>hk) _ (ht.turned0 HT5.out)
       have hone:=one173 (c:=c1+1) (by rw [show (((c1+1:Nat):Int))=(c1:Int)+1 from by omega];exact HPC.out.1) (by omega) (by omega) (hin _ hx.1) hx.2 (hin _ hy.1) hy.2;rw [LT.val_eq,LT.val_eq] at hone;have hun:=HI.out.same;rw [pairsT_snoc,show 2000 - c1=(2000 - (c1+1))+1 from by omega] at hun;obtain ⟨S,hS⟩:∃ z,z=Tm.oneU (bt l1) (2000 - (c1+1)) (Tm.walkT (bt l1) q.1.bare) (Tm.walkT (bt l1) q.2.bare):=⟨_,rfl⟩;rw [←hS] at hone;have HON:=hid hone;have HUN:=hid hun;have HS:=hid hS;clear hone hun hS hx hy hin T6
       cases S with
       | more ps=>
        have hu:=(Tm.unify_more (r:=pairsT ss) HS.out.symm).symm.trans HUN.out;have HE:=hid hu;clear hu
        go_wp2_with (go_at_call 173;(with_reducible refine HON.out.mono ?_);rintro e w7 ⟨rfl,v7,qs,u7,hq7,ho7,T7⟩;have HU7:=hid u7;have HQ7:=hid hq7;have HO7:=hid ho7;have HT7:=hid T7;clear u7 hq7 ho7 T7)
        go_roundg (2000 - (c1+1))
        case measure=>have:=HG.out;omega
        case rel=>
         obtain ⟨r1,r2,r3⟩:=HI.out.far HT5.out HPC.out.2 HT7.out (fun k hk=>by simpa [Value.ownBlock] using hk) (O':=O1) (fun k hk _=>hk);refine ⟨v7,ss++qs.reverse,c1+1,O1,l1,show _=_ by omega,HU7.out,by omega,?_,HI.out.pre,?_,?_,r1,r2⟩
         · have hql:qs.length≤8:=by
            have h1:=congrArg List.length HQ7.out;rw [Qu] at h1;have h2:=Tm.oneU_more_len HS.out.symm (Tm.walkT_own HI.out.uk.bo.ok _ _ (Qm _) (HI.out.uk.mem q (by simp)).1.2);omega
           have:=HI.out.len;rw [Qi,List.length_singleton] at this;rw [Qi,List.length_reverse];omega
         · rw [pairsT_args,HQ7.out];exact HE.out
         · intro k hk hl
           rcases hk with e | e | e
           · exact .inl e
           · rcases HO7.out with h | h
             · exact HI.out.own k (.inr (.inl (by rw [h] at e;simpa [Value.ownBlock] using e))) hl
             · have:=h k e;omega
           · exact HI.out.own k (.inr (.inr e)) hl
       | done r=>
       cases r with
       | ok l' left'=>
        have hu:=(Tm.unify_ok (r:=pairsT ss) HS.out.symm).symm.trans HUN.out;have HE:=hid hu;have hlf:=Tm.oneU_left HS.out.symm;have HLF:=hid hlf;clear hu hlf
        go_wp2_with (go_at_call 173;(with_reducible refine HON.out.mono ?_);rintro e w7 ⟨v7,rfl,rfl,l7,O7,hl7,u7,ho7,T7⟩;have HU7:=hid u7;have HL7:=hid hl7;have HO7:=hid ho7;have HT7:=hid T7;clear u7 hl7 ho7 T7)
        go_roundg left'
        case measure=>have:=HG.out;have:=HLF.out;omega
        case rel=>
         obtain ⟨r1,r2,r3⟩:=HI.out.far HT5.out HPC.out.2 HT7.out (fun k hk=>by simpa [Value.ownBlock] using hk) HO7.out;have hlf:=HLF.out;refine ⟨.slice (some ⟨g,0,none⟩) ss.length cap,ss,2000 - left',O7,l7,show _=_ by omega,?_,by omega,?_,?_,?_,?_,r1,r2⟩
         · rw [show (((2000 - left':Nat):Int))=2000 - (left':Int) from by omega];exact HU7.out
         · have:=HI.out.len
           rw [Qi,List.length_singleton] at this;omega
         · obtain ⟨a,ha⟩:=HI.out.pre
           obtain ⟨a2,ha2⟩:=Tm.oneU_pre HS.out.symm;exact ⟨a2++a,by rw [HL7.out,ha2,ha,List.append_assoc]⟩
         · rw [HL7.out,show 2000 - (2000 - left')=left' from by omega];exact HE.out
         · intro k hk hl
           rcases hk with e | e | e
           · exact .inl e
           · exact HI.out.own k (.inr (.inl (by simpa [Value.ownBlock] using e))) hl
           · exact HI.out.own k (.inr (.inr (HO7.out k e (Qo hl r3)))) hl
       | no q'=>
        have hu:=(Tm.unify_no (r:=pairsT ss) HS.out.symm).symm.trans HUN.out;have HE:=hid hu;clear hu
        go_wp2_with (go_at_call 173;(with_reducible refine HON.out.mono ?_);rintro e w7 ⟨v7,rfl,rfl,l7,O7,hl7,u7,ho7,T7⟩;have HU7:=hid u7;have HL7:=hid hl7;have HO7:=hid ho7;have HT7:=hid T7;clear u7 hl7 ho7 T7)
        go_ret2
        rw [←HE.out];obtain ⟨r1,r2,r3⟩:=HI.out.far HT5.out HPC.out.2 HT7.out (fun k hk=>by simpa [Value.ownBlock] using hk) HO7.out;exact ⟨rfl,_,ss,O7,l7,by rw [HL7.out];exact HI.out.pre,HU7.out,r1,r2⟩
       | over=>
        have hu:=(Tm.unify_over (r:=pairsT ss) HS.out.symm).symm.trans HUN.out;have HE:=hid hu;clear hu
        go_wp2_with (go_at_call 173;(with_reducible refine HON.out.mono ?_);rintro e w7 ⟨v7,rfl,rfl,c7,l7,O7,hl7,u7,ho7,T7⟩;have HU7:=hid u7;have HL7:=hid hl7;have HO7:=hid ho7;have HT7:=hid T7;clear u7 hl7 ho7 T7)
        go_ret2
        rw [←HE.out];obtain ⟨r1,r2,r3⟩:=HI.out.far HT5.out HPC.out.2 HT7.out (fun k hk=>by simpa [Value.ownBlock] using hk) HO7.out;exact ⟨rfl,_,ss,c7,O7,l7,by rw [HL7.out];exact HI.out.pre,HU7.out,r1,r2⟩
end
theorem undoO101 {p O:Nat→Prop} {bb m:Nat} {l:TL} {w:World} (h:BO p bb O m l w) (n:Nat) (hn:n≤l.length) :
 Calls Try.prog 101 #[.pointer (some ⟨bb,0,none⟩),.int .i64 n] w fun e w'=>e = .returned (.bool true)∧After p bb O m (l.drop (l.length - n)) w w':=by
 obtain ⟨sb,lv,tv,B,hO⟩:=h.bi;refine (undo101 B n hn).mono ?_
 rintro e w' ⟨rfl,⟨tv',B',ho⟩,T⟩
 refine ⟨rfl,O,⟨⟨sb,lv,tv',B',fun k hk=>hO k ?_⟩,fun b hb=>h.box b (List.mem_of_mem_drop hb),fun k hk=>Qo (h.lt k hk) T.size,h.sep⟩,fun k hk _=>hk,T.mono (fun k _ e=>hO k (e.elim (fun e=>.inr (.inl e)) (fun e=>e.elim (fun e=>.inr (.inr (.inl e))) (fun e=>.inr (.inr (.inr e))))))⟩
 rcases hk with e | e | e | e
 · exact .inl e
 · exact .inr (.inl e)
 · exact .inr (.inr (.inl e))
 · exact .inr (.inr (.inr (ho ▸ e)))
noncomputable def bothR (m:Nat) (l:Tm.Trail) (x y:Tm Unit):Bool × Int × Int × Tm.Trail:=
 if Tm.ownB m x=true∧Tm.ownB m y=true then
  match Tm.unify l 2000 [(x,y)] with
  | .ok l' left'=>(true,2000 - (left':Int),0,l')
  | .no q=>(false,2000 - (q:Int),0,l)
  | .over=>(false,0,12,l)
 else (false,0,1,l)
theorem UK.new {p O:Nat→Prop} {bb m:Nat} {l:TL} {w:World} {x y:LT} (h:BO p bb O m l w) (hx:x.In p w) (gx:Tm.ownB m x.bare=true) (hy:y.In p w) (gy:Tm.ownB m y.bare=true) :
 UK p bb (w.heap.size+1) (.slice (some ⟨w.heap.size,0,none⟩) 1 1) [(x,y)] 0 O m l ((w.alloc (.cells #[.int .i64 x.kind,.int .i64 x.n,.string x.name,.slice x.at_.1 x.args.length x.at_.2,.int .i64 y.kind,.int .i64 y.n,.string y.name,.slice y.at_.1 y.args.length y.at_.2] 187)).alloc (.cells #[.pointer (some ⟨bb,0,none⟩),.slice (some ⟨w.heap.size,0,none⟩) 1 1,.int .i64 0] 190)):=by
 have T:Turned zN w ((w.alloc (.cells #[.int .i64 x.kind,.int .i64 x.n,.string x.name,.slice x.at_.1 x.args.length x.at_.2,.int .i64 y.kind,.int .i64 y.n,.string y.name,.slice y.at_.1 y.args.length y.at_.2] 187)).alloc (.cells #[.pointer (some ⟨bb,0,none⟩),.slice (some ⟨w.heap.size,0,none⟩) 1 1,.int .i64 0] 190)):=((Turned.refl _ w).alloc _).alloc _;refine ⟨h.turned0 T,heap_alloc2_new w _ _,?_,fun q hq=>?_,⟨fun e=>by have:=h.lt _ e;omega,fun e=>by have:=h.plt _ e;omega⟩,fun g hg=>?_⟩
 · have:=Row.made w 187 8 #[.int .i64 x.kind,.int .i64 x.n,.string x.name,.slice x.at_.1 x.args.length x.at_.2,.int .i64 y.kind,.int .i64 y.n,.string y.name,.slice y.at_.1 y.args.length y.at_.2] 1 rfl (by unfold maxLen;omega)
   have:=this.turned0 ((Turned.refl (fun _=>False) _).alloc (.cells #[.pointer (some ⟨bb,0,none⟩),.slice (some ⟨w.heap.size,0,none⟩) 1 1,.int .i64 0] 190));simpa [PT.cells_eq] using this
 · rw [List.mem_singleton] at hq
   rw [hq];exact ⟨⟨hx.turned0 T,gx⟩,hy.turned0 T,gy⟩
 · simp [Value.ownBlock] at hg
   subst hg;exact ⟨fun e=>by have:=h.lt _ e;omega,fun e=>by have:=h.plt _ e;omega,by omega⟩
section
variable {p O:Nat→Prop} {bb m:Nat} {l:TL} {w w':World}
theorem both_after {v v':Value} {st:List PT} {c:Int} {K:Nat} {O':Nat→Prop} {l2:TL} {w4 w6 w5:World} (T4:Turned zN w w4) (T5:Turned zN w w5) (hK:w.heap.size≤K) (hv:∀ g,v.ownBlock=some g→w.heap.size≤g) (u:UK p bb K v' st c O' m l2 w6) (ho:∀ k,O' k→k < w5.heap.size→O k) (T6:Turned (ownU K v O) w5 w6):After p bb O m l2 w w6:=
 ⟨O',u.bo,fun k hk hl=>ho k hk (Qo hl T5.size),(T5.mono (fun _ _ f=>f.elim)).step T6 (fun i hi e=>by
  rcases e with e | e | e
  · omega
  · have:=hv i e;omega
  · exact e)⟩
set_option maxRecDepth 100000 in
theorem bothO110 {x y:LT} (h:BO p bb O m l w) (hx:x.In p w) (sx:slim x) (hy:y.In p w) (sy:slim y) :
 Calls Try.prog 110 #[.pointer (some ⟨bb,0,none⟩),x.val,y.val] w fun e w'=>e = .returned (.tuple #[.bool (bothR m (bt l) x.bare y.bare).1,.int .i64 (bothR m (bt l) x.bare y.bare).2.1,.int .i64 (bothR m (bt l) x.bare y.bare).2.2.1])∧∃ l2,bt l2=(bothR m (bt l) x.bare y.bare).2.2.2∧After p bb O m l2 w w':=by
 have h2:=twoBox w (.cells #[.int .i64 x.kind,.int .i64 x.n,.string x.name,.slice x.at_.1 x.args.length x.at_.2] 27) (.cells #[.int .i64 y.kind,.int .i64 y.n,.string y.name,.slice y.at_.1 y.args.length y.at_.2] 27);obtain ⟨w2,hw2⟩:∃ z,z=(w.alloc (.cells #[.int .i64 x.kind,.int .i64 x.n,.string x.name,.slice x.at_.1 x.args.length x.at_.2] 27)).alloc (.cells #[.int .i64 y.kind,.int .i64 y.n,.string y.name,.slice y.at_.1 y.args.length y.at_.2] 27):=⟨_,rfl⟩;rw [←hw2] at h2
 have hbx:∀ W,Turned zN w2 W→W.heap[w.heap.size]? = some (.cells #[.int .i64 x.kind,.int .i64 x.n,.string x.name,.slice x.at_.1 x.args.length x.at_.2] 27 (0,0))∧W.heap[w.heap.size+1]? = some (.cells #[.int .i64 y.kind,.int .i64 y.n,.string y.name,.slice y.at_.1 y.args.length y.at_.2] 27 (0,0)):=fun W hW=>⟨(hW.block _ (by have:=h2.2.1;omega) (fun f=>f)).trans h2.2.2.1,(hW.block _ (by have:=h2.2.1;omega) (fun f=>f)).trans h2.2.2.2⟩
 have hox:∀ W,Turned zN w2 W→Calls Try.prog 144 #[.pointer (some ⟨bb,0,none⟩),x.val] W fun e w'=>e = .returned (.bool (Tm.ownB m x.bare))∧Turned zN W w':=fun W hW=>by
  obtain ⟨sb,lv,tv,B,_⟩:=h.bi;rw [ownB_bare];exact own144 (B.turned0 (h2.1.trans hW)) (hx.turned0 (h2.1.trans hW)) sx
 have hoy:∀ W,Turned zN w2 W→Calls Try.prog 144 #[.pointer (some ⟨bb,0,none⟩),y.val] W fun e w'=>e = .returned (.bool (Tm.ownB m y.bare))∧Turned zN W w':=fun W hW=>by
  obtain ⟨sb,lv,tv,B,_⟩:=h.bi;rw [ownB_bare];exact own144 (B.turned0 (h2.1.trans hW)) (hy.turned0 (h2.1.trans hW)) sy
 obtain ⟨R,hR⟩:∃ z,z=bothR m (bt l) x.bare y.bare:=⟨_,rfl⟩;rw [←hR]
 have hsame:∀ W,Turned zN w2 W→After p bb O m l w W:=fun W hW=>⟨O,h.turned0 (h2.1.trans hW),fun _ hk _=>hk,(h2.1.trans hW).mono (fun _ _ f=>f.elim)⟩
 rw [LT.val_eq] at hox hoy ⊢;rw [LT.val_eq y];have HOX:=hid hox;have HOY:=hid hoy;have HBX:=hid hbx;have HW2:=hid hw2;have HT2:=hid h2.1;have HH:=hid h;have HX:=hid hx;have HY:=hid hy;have HSAME:=hid hsame;clear hox hoy hbx hw2 h2 h hx hy sx sy hsame
 cases gx:Tm.ownB m x.bare with
 | false=>
  have hr:R=(false,0,1,bt l):=by rw [hR];unfold bothR;rw [if_neg (fun c=>by rw [gx] at c;exact Bool.false_ne_true c.1)]
  rw [gx] at HOX;have HR:=hid hr;clear hr hR gx;go_enter Try.func110,Try.ntmps110
  go_wp2_with (go_at_call 144;rw [←HW2.out];(with_reducible refine (HOX.out _ (Turned.refl _ _)).mono ?_);rintro e w3 ⟨rfl,T3⟩)
  go_ret3
  rw [HR.out];exact ⟨rfl,l,rfl,HSAME.out _ T3⟩
 | true=>
  rw [gx] at HOX
  cases gy:Tm.ownB m y.bare with
  | false=>
   have hr:R=(false,0,1,bt l):=by rw [hR];unfold bothR;rw [if_neg (fun c=>by rw [gy] at c;exact Bool.false_ne_true c.2)]
   rw [gy] at HOY;have HR:=hid hr;clear hr hR gx gy;go_enter Try.func110,Try.ntmps110
   go_wp2_with (first
    | (go_at_call 144;(with_reducible refine (HOY.out _ T3).mono ?_);rintro e w4 ⟨rfl,T4⟩)
    | (go_at_call 144;rw [←HW2.out];(with_reducible refine (HOX.out _ (Turned.refl _ _)).mono ?_);rintro e w3 ⟨rfl,T3⟩;obtain ⟨c0,c1,c2,c3,_⟩:=cells4 (HBX.out _ T3).2))
   go_ret3
   rw [HR.out];exact ⟨rfl,l,rfl,HSAME.out _ (T3.trans T4)⟩
  | true=>
   rw [gy] at HOY
   have hr:R=match Tm.unify (bt l) 2000 [(x.bare,y.bare)] with
    | .ok l' left'=>(true,2000 - (left':Int),0,l')
    | .no q=>(false,2000 - (q:Int),0,bt l)
    | .over=>(false,0,12,bt l):=by rw [hR];unfold bothR;rw [if_pos ⟨gx,gy⟩]
   have hall:∀ W,Turned zN w2 W→Calls Try.prog 153 #[.pointer (some ⟨W.heap.size+1,0,none⟩)] ((W.alloc (.cells #[.int .i64 x.kind,.int .i64 x.n,.string x.name,.slice x.at_.1 x.args.length x.at_.2,.int .i64 y.kind,.int .i64 y.n,.string y.name,.slice y.at_.1 y.args.length y.at_.2] 187)).alloc (.cells #[.pointer (some ⟨bb,0,none⟩),.slice (some ⟨W.heap.size,0,none⟩) 1 1,.int .i64 0] 190)) (AllQ p bb (W.heap.size+1) (.slice (some ⟨W.heap.size,0,none⟩) 1 1) O m l ((W.alloc (.cells #[.int .i64 x.kind,.int .i64 x.n,.string x.name,.slice x.at_.1 x.args.length x.at_.2,.int .i64 y.kind,.int .i64 y.n,.string y.name,.slice y.at_.1 y.args.length y.at_.2] 187)).alloc (.cells #[.pointer (some ⟨bb,0,none⟩),.slice (some ⟨W.heap.size,0,none⟩) 1 1,.int .i64 0] 190)) (Tm.unify (bt l) 2000 [(x.bare,y.bare)])):=fun W hW=>
    all153 (c:=0) (UK.new (HH.out.turned0 (HT2.out.trans hW)) (HX.out.turned0 (HT2.out.trans hW)) gx (HY.out.turned0 (HT2.out.trans hW)) gy) (by omega) (by simp)
   obtain ⟨U,hU⟩:∃ z,z=Tm.unify (bt l) 2000 [(x.bare,y.bare)]:=⟨_,rfl⟩;rw [←hU] at hr hall;have HALL:=hid hall;clear hR hU hall gx gy
   have HTT:Hid (∀ W W',Turned zN w2 W→Turned zN W W'→Turned zN w W'):=fun W W' h1 h2=>(HT2.out.trans h1).trans h2
   cases U with
   | ok l' left'=>
    have HR:=hid hr;clear hr;go_enter Try.func110,Try.ntmps110
    go_wp2_with (first
     | (go_at_call 144;(with_reducible refine (HOY.out _ T3).mono ?_);rintro e w4 ⟨rfl,T4⟩;have HT4:=hid (T3.trans T4);clear c0 c1 c2 c3 T3 T4)
     | (go_at_call 144;rw [←HW2.out];(with_reducible refine (HOX.out _ (Turned.refl _ _)).mono ?_);rintro e w3 ⟨rfl,T3⟩;obtain ⟨c0,c1,c2,c3,_⟩:=cells4 (HBX.out _ T3).2)
     | (go_at_call 111;(with_reducible refine (markO111 (HH.out.turned0 (HT2.out.trans HT4.out))).mono ?_);rintro e w5 ⟨rfl,T5⟩;have HT5:=hid (HT4.out.trans T5);obtain ⟨x0,x1,x2,x3,_⟩:=cells4 (HBX.out _ HT5.out).1;obtain ⟨y0,y1,y2,y3,_⟩:=cells4 (HBX.out _ HT5.out).2;clear T5)
     | (go_at_call 153;(with_reducible refine (HALL.out _ HT5.out).mono ?_);rintro e w6 ⟨rfl,v6,st6,O6,l6,hl6,u6,ho6,T6⟩;have HL6:=hid hl6;have HU6:=hid u6;have HO6:=hid ho6;have HT6:=hid T6;obtain ⟨k0,k1,k2,_⟩:=u6.kcells;clear hl6 u6 ho6 T6))
    go_region
    go_wp2_with fail
    go_ret3
    rw [HR.out];have hw5:Turned zN w ((w5.alloc (.cells #[.int .i64 x.kind,.int .i64 x.n,.string x.name,.slice x.at_.1 x.args.length x.at_.2,.int .i64 y.kind,.int .i64 y.n,.string y.name,.slice y.at_.1 y.args.length y.at_.2] 187)).alloc (.cells #[.pointer (some ⟨bb,0,none⟩),.slice (some ⟨w5.heap.size,0,none⟩) 1 1,.int .i64 0] 190)):=HTT.out _ _ HT5.out (((Turned.refl _ w5).alloc _).alloc _);have hsz:w.heap.size≤w5.heap.size:=(HT2.out.trans HT5.out).size;exact ⟨rfl,l6,HL6.out,(both_after hw5 hw5 (by omega) (fun g hg=>by (simp [Value.ownBlock] at hg;omega)) HU6.out HO6.out HT6.out).turned0 (Turned.refl _ _).drew⟩
   | no q=>
    have HR:=hid hr;clear hr;go_enter Try.func110,Try.ntmps110
    go_wp2_with (first
     | (go_at_call 144;(with_reducible refine (HOY.out _ T3).mono ?_);rintro e w4 ⟨rfl,T4⟩;have HT4:=hid (T3.trans T4);clear c0 c1 c2 c3 T3 T4)
     | (go_at_call 144;rw [←HW2.out];(with_reducible refine (HOX.out _ (Turned.refl _ _)).mono ?_);rintro e w3 ⟨rfl,T3⟩;obtain ⟨c0,c1,c2,c3,_⟩:=cells4 (HBX.out _ T3).2)
     | (go_at_call 111;(with_reducible refine (markO111 (HH.out.turned0 (HT2.out.trans HT4.out))).mono ?_);rintro e w5 ⟨rfl,T5⟩;have HT5:=hid (HT4.out.trans T5);obtain ⟨x0,x1,x2,x3,_⟩:=cells4 (HBX.out _ HT5.out).1;obtain ⟨y0,y1,y2,y3,_⟩:=cells4 (HBX.out _ HT5.out).2;clear T5)
     | (go_at_call 153;(with_reducible refine (HALL.out _ HT5.out).mono ?_);rintro e w6 ⟨rfl,v6,st6,O6,l6,hl6,u6,ho6,T6⟩;have HL6:=hid hl6;have HU6:=hid u6;have HO6:=hid ho6;have HT6:=hid T6;clear hl6 u6 ho6 T6)
     | (go_at_call 101;have hun:=undoO101 (n:=l.length) HU6.out.bo (by obtain ⟨a,ha⟩:=HL6.out;have:=congrArg List.length ha;rw [Qi,bt_length,bt_length] at this;omega);(with_reducible refine hun.mono ?_);rintro e w7 ⟨rfl,A7⟩;have HA7:=hid A7;obtain ⟨k0,k1,k2,_⟩:=(HU6.out.after A7).choose_spec.1.kcells;clear A7 hun))
    go_region
    go_wp2_with fail
    go_ret3
    rw [HR.out];have hw5:Turned zN w ((w5.alloc (.cells #[.int .i64 x.kind,.int .i64 x.n,.string x.name,.slice x.at_.1 x.args.length x.at_.2,.int .i64 y.kind,.int .i64 y.n,.string y.name,.slice y.at_.1 y.args.length y.at_.2] 187)).alloc (.cells #[.pointer (some ⟨bb,0,none⟩),.slice (some ⟨w5.heap.size,0,none⟩) 1 1,.int .i64 0] 190)):=HTT.out _ _ HT5.out (((Turned.refl _ w5).alloc _).alloc _);have hsz:w.heap.size≤w5.heap.size:=(HT2.out.trans HT5.out).size;have h6:=both_after hw5 hw5 (by omega) (fun g hg=>by (simp [Value.ownBlock] at hg;omega)) HU6.out HO6.out HT6.out;refine ⟨rfl,l6.drop (l6.length - l.length),?_,?_⟩
    · obtain ⟨a,ha⟩:=HL6.out
      have hlen:=congrArg List.length ha;rw [Qi,bt_length,bt_length] at hlen;show bt _=bt l;unfold bt at ha ⊢;rw [List.map_drop,ha,show l6.length - l.length=a.length from by omega,List.drop_left]
    · obtain ⟨O7,a1,a2,a3⟩:=HA7.out
      obtain ⟨O8,b1,b2,b3⟩:=h6;have hs6:=hw5.size;have hs7:=HT6.out.size;refine After.turned0 (w2:=_) ⟨O7,a1,fun k hk hl=>HO6.out k (a2 k hk (by omega)) (by omega),b3.step a3 (fun i hi e=>HO6.out i e (by omega))⟩ (Turned.refl _ _).drew
   | over=>
    have HR:=hid hr;clear hr;go_enter Try.func110,Try.ntmps110
    go_wp2_with (first
     | (go_at_call 144;(with_reducible refine (HOY.out _ T3).mono ?_);rintro e w4 ⟨rfl,T4⟩;have HT4:=hid (T3.trans T4);clear c0 c1 c2 c3 T3 T4)
     | (go_at_call 144;rw [←HW2.out];(with_reducible refine (HOX.out _ (Turned.refl _ _)).mono ?_);rintro e w3 ⟨rfl,T3⟩;obtain ⟨c0,c1,c2,c3,_⟩:=cells4 (HBX.out _ T3).2)
     | (go_at_call 111;(with_reducible refine (markO111 (HH.out.turned0 (HT2.out.trans HT4.out))).mono ?_);rintro e w5 ⟨rfl,T5⟩;have HT5:=hid (HT4.out.trans T5);obtain ⟨x0,x1,x2,x3,_⟩:=cells4 (HBX.out _ HT5.out).1;obtain ⟨y0,y1,y2,y3,_⟩:=cells4 (HBX.out _ HT5.out).2;clear T5)
     | (go_at_call 153;(with_reducible refine (HALL.out _ HT5.out).mono ?_);rintro e w6 ⟨rfl,v6,st6,c6,O6,l6,hl6,u6,ho6,T6⟩;have HL6:=hid hl6;have HU6:=hid u6;have HO6:=hid ho6;have HT6:=hid T6;clear hl6 u6 ho6 T6)
     | (go_at_call 101;have hun:=undoO101 (n:=l.length) HU6.out.bo (by obtain ⟨a,ha⟩:=HL6.out;have:=congrArg List.length ha;rw [Qi,bt_length,bt_length] at this;omega);(with_reducible refine hun.mono ?_);rintro e w7 ⟨rfl,A7⟩;have HA7:=hid A7;clear A7 hun))
    go_ret3
    rw [HR.out];have hw5:Turned zN w ((w5.alloc (.cells #[.int .i64 x.kind,.int .i64 x.n,.string x.name,.slice x.at_.1 x.args.length x.at_.2,.int .i64 y.kind,.int .i64 y.n,.string y.name,.slice y.at_.1 y.args.length y.at_.2] 187)).alloc (.cells #[.pointer (some ⟨bb,0,none⟩),.slice (some ⟨w5.heap.size,0,none⟩) 1 1,.int .i64 0] 190)):=HTT.out _ _ HT5.out (((Turned.refl _ w5).alloc _).alloc _);have hsz:w.heap.size≤w5.heap.size:=(HT2.out.trans HT5.out).size;have h6:=both_after hw5 hw5 (by omega) (fun g hg=>by (simp [Value.ownBlock] at hg;omega)) HU6.out HO6.out HT6.out;refine ⟨rfl,l6.drop (l6.length - l.length),?_,?_⟩
    · obtain ⟨a,ha⟩:=HL6.out
      have hlen:=congrArg List.length ha;rw [Qi,bt_length,bt_length] at hlen;show bt _=bt l;unfold bt at ha ⊢;rw [List.map_drop,ha,show l6.length - l.length=a.length from by omega,List.drop_left]
    · obtain ⟨O7,a1,a2,a3⟩:=HA7.out
      obtain ⟨O8,b1,b2,b3⟩:=h6;have hs6:=hw5.size;have hs7:=HT6.out.size;refine ⟨O7,a1,fun k hk hl=>HO6.out k (a2 k hk (by omega)) (by omega),b3.step a3 (fun i hi e=>HO6.out i e (by omega))⟩
end
end Go.Proofs.Ytoihjobdfjajfaa
namespace Go.Proofs.Ytoihjobdfjajfaa
namespace Tm
structure MS where
 m:Nat
 l:Trail
 rs:List (Tm Unit)
 ss:List (Tm Unit)
inductive MR where
 | go (st:MS)
 | stop (e:Int) (m:Nat)
def tieM (st:MS) (x t:Tm Unit):MR:=
 if x.kind=0 then (if setE st.m st.l x.n t=0 then .go ⟨st.m,(x.n,t) :: st.l,st.rs,st.ss⟩ else .stop (setE st.m st.l x.n t) st.m)
 else if sameB x t=true then .go st else .stop 0 st.m
def putAt (rs:List (Tm Unit)) (c:Nat) (xs:List (Tm Unit)):List (Tm Unit):=rs.take c++(xs++rs.drop (c+xs.length))
def news (m k:Nat):List (Tm Unit):=(List.range k).map fun i=>V ((m+i:Nat):Int)
def newT (s:Stp) (m:Nat):Tm Unit:=.mk 2 0 s.name () (news m s.b.toNat)
def compM (st:MS) (x:Tm Unit) (s:Stp):MR:=
 if x.kind=0 then
  (if st.m+s.b.toNat≤65536 then
   (if setE (st.m+s.b.toNat) st.l x.n (newT s st.m)=0 then .go ⟨st.m+s.b.toNat,(x.n,newT s st.m) :: st.l,putAt st.rs s.c.toNat (news st.m s.b.toNat),st.ss⟩
   else .stop (setE (st.m+s.b.toNat) st.l x.n (newT s st.m)) (st.m+s.b.toNat))
  else .stop 12 65536)
 else if x.name=s.name∧(x.args.length:Int)=s.b then .go ⟨st.m,st.l,putAt st.rs s.c.toNat x.args,st.ss⟩ else .stop 0 st.m
noncomputable def valM (st:MS) (y x:Tm Unit):MR:=
 if (bothR st.m st.l y x).1=true∧(bothR st.m st.l y x).2.2.1=0 then .go ⟨st.m,(bothR st.m st.l y x).2.2.2,st.rs,st.ss⟩ else .stop (bothR st.m st.l y x).2.2.1 st.m
noncomputable def stepM (st:MS) (s:Stp):MR:=
 let x:=walkT st.l (st.rs.getD s.a.toNat (V 0))
 if s.op=sVar then .go ⟨st.m,st.l,st.rs,st.ss.set s.b.toNat x⟩
 else if s.op=sVal then valM st (st.ss.getD s.b.toNat (V 0)) x
 else if s.op=sInt then tieM st x (.mk 1 s.n ByteArray.empty () [])
 else if s.op=sAtom then tieM st x (.mk 2 0 s.name () [])
 else compM st x s
noncomputable def runM:MS→List Stp→MR
 | st,[]=>.go st
 | st,s :: L=>match stepM st s with
  | .go st'=>runM st' L
  | .stop e m=>.stop e m
theorem putAt_length {rs xs:List (Tm Unit)} {c:Nat} (h:c+xs.length≤rs.length):(putAt rs c xs).length=rs.length:=by
 unfold putAt;rw [Qi,Qi,List.length_take,List.length_drop];omega
theorem putAt_old {rs xs:List (Tm Unit)} {c j:Nat} (h:c+xs.length≤rs.length) (hj:j < c):(putAt rs c xs)[j]? = rs[j]?:=by
 unfold putAt;rw [List.getElem?_append_left (by rw [List.length_take];omega),List.getElem?_take,if_pos hj]
theorem putAt_new {rs xs:List (Tm Unit)} {c j:Nat} (h:c+xs.length≤rs.length) (hj:j < xs.length):(putAt rs c xs)[c+j]? = xs[j]?:=by
 unfold putAt
 have hl:(rs.take c).length=c:=by rw [List.length_take];omega
 rw [List.getElem?_append_right (by omega),hl,Nat.add_sub_cancel_left,List.getElem?_append_left hj]
theorem news_length (m k:Nat):(news m k).length=k:=by unfold news;rw [Qu,List.length_range]
theorem news_at {m k j:Nat} (h:j < k):(news m k)[j]? = some (V ((m+j:Nat):Int)):=by
 unfold news;rw [Qp,List.getElem?_range h];rfl
structure MInv {α:Type} (t:Tm α) (i:Nat) (st:MS):Prop where
 ok:okT st.m st.l
 most:st.m≤65536
 rl:st.rs.length=sizes t.args
 sl:st.ss.length=t.vars.length
 own:∀ j y,j < cb t.args i→st.rs[j]? = some y→ownB st.m y=true
 slots:∀ v∈met t.args i,∀ y,st.ss[posOf t.vars v]? = some y→ownB st.m y=true
structure MSol {α:Type} (t:Tm α) (ρ:Int→Tm Unit) (i:Nat) (st:MS) (θ:Int→Tm Unit):Prop where
 sol:solves θ st.l
 regs:∀ j y r,j < cb t.args i→st.rs[j]? = some y→(Tm.regs t.args)[j]? = some r→subT θ y=subT ρ r.bare
 slots:∀ v∈met t.args i,∀ y,st.ss[posOf t.vars v]? = some y→subT θ y=ρ v
structure MNext {α:Type} (t:Tm α) (i:Nat) (x:Tm α) (st st':MS):Prop where
 inv:MInv t (i+1) st'
 le:st.m≤st'.m
 pre:∃ a,st'.l=a++st.l
 rs:∀ j,j < cb t.args i→st'.rs[j]? = st.rs[j]?
 ss:∀ v∈met t.args i,st'.ss[posOf t.vars v]? = st.ss[posOf t.vars v]?
 snd:∀ θ ρ,solves θ st'.l→(∀ j,j < x.args.length→∀ y r,st'.rs[cb t.args i+j]? = some y→x.args[j]? = some r→subT θ y=subT ρ r.bare)→(x.kind=0→∀ y,st'.ss[posOf t.vars x.n]? = some y→subT θ y=ρ x.n)→∀ y,st.rs[i]? = some y→subT θ y=subT ρ x.bare
 cpl:∀ θ ρ,MSol t ρ i st θ→∃ θ',(∀ v,v < (st.m:Int)→θ' v=θ v)∧MSol t ρ (i+1) st' θ'
section
variable {α:Type} {t:Tm α} {i:Nat} {x:Tm α} {st:MS}
theorem cb_le {l:List (Tm α)} {i:Nat} (h:i≤sizes l):cb l i≤sizes l:=by
 have h1:=reg_le l h;have h2:=regs_length l;unfold regs at h2;unfold cb;omega
theorem MNext.trail {l':Trail} (hx:(regs t.args)[i]? = some x) (ha:x.args.length=0) (hm:x.kind≠0∨x.n∈met t.args i) (I:MInv t i st) (hok:okT st.m l') (hpre:∃ a,l'=a++st.l)
 (hsnd:∀ θ ρ,solves θ l'→(x.kind=0→∀ y,st.ss[posOf t.vars x.n]? = some y→subT θ y=ρ x.n)→∀ y,st.rs[i]? = some y→subT θ y=subT ρ x.bare)
 (hcpl:∀ θ ρ,MSol t ρ i st θ→solves θ l'):MNext t i x st ⟨st.m,l',st.rs,st.ss⟩:=by
 have hc:cb t.args (i+1)=cb t.args i:=by have:=(cb_next hx).1;omega
 have hmet:met t.args (i+1)=met t.args i:=by
  rw [met_succ hx];unfold addVar
  rcases hm with h | h
  · rw [if_neg (fun c=>h c.1)]
  · rw [if_neg (fun c=>c.2 h)]
 exact ⟨⟨hok,I.most,I.rl,I.sl,by rw [hc];exact I.own,by rw [hmet];exact I.slots⟩,Qm _,hpre,fun _ _=>rfl,fun _ _=>rfl,fun θ ρ hs _ h3=>hsnd θ ρ hs h3,fun θ ρ S=>⟨θ,fun _ _=>rfl,hcpl θ ρ S,by rw [hc];exact S.regs,by rw [hmet];exact S.slots⟩⟩
end
end Tm
namespace Tm
section
variable {α:Type} {t:Tm α} {m:Nat} {a:List (Tm Unit)}
theorem lens_le (l:List (Tm α)):l.length≤sizes l:=by
 have:=cb_le (l:=l) (Nat.zero_le _);rw [cb_zero] at this;exact this
end
end Tm
end Go.Proofs.Ytoihjobdfjajfaa
namespace Go.Proofs.Ytoihjobdfjajfaa
open Go.RowKit Go.Maps
open Tm (Stp)
def stC (s:Stp):List Value:=[.string s.op,.int .i64 s.a,.int .i64 s.b,.int .i64 s.c,.int .i64 s.n,.string s.name]
theorem stC_length (s:Stp):(stC s).length=6:=rfl
theorem stC_one (s:Stp):∀ u∈stC s,u.oneCell'=true:=by
 intro u hu;simp only [stC,Qw,Ql,or_false] at hu
 rcases hu with rfl | rfl | rfl | rfl | rfl | rfl <;> rfl
theorem stCs_one (L:List Stp):∀ u∈L.flatMap stC,u.oneCell'=true:=by
 intro u hu;obtain ⟨x,_,hx⟩:=List.mem_flatMap.1 hu;exact stC_one x u hx
theorem stCs_at {L:List Stp} {i:Nat} {s:Stp} (h:L[i]? = some s) (j:Nat) (hj:j < 6):(L.flatMap stC)[i * 6+j]? = (stC s)[j]?:=by
 induction L generalizing i with
 | nil=>simp at h
 | cons y l ih=>
  rw [List.flatMap_cons]
  cases i with
  | zero=>
   simp at h;subst h;rw [List.getElem?_append_left (by rw [stC_length];omega),Nat.zero_mul,Nat.zero_add]
  | succ i=>
   simp at h;rw [List.getElem?_append_right (by rw [stC_length];omega),stC_length]
   have:(i+1) * 6+j - 6=i * 6+j:=by omega
   rw [this];exact ih h
theorem step_cells {w:World} {L:List Stp} {g cap i:Nat} {s:Stp} (h:Row w 139 6 (.slice (some ⟨g,0,none⟩) L.length cap) L.length (L.flatMap stC)) (hi:L[i]? = some s) :
 w.cell? ⟨g,i * 6,none⟩=some (.string s.op)∧w.cell? ⟨g,i * 6+1,none⟩=some (.int .i64 s.a)∧w.cell? ⟨g,i * 6+2,none⟩=some (.int .i64 s.b)∧w.cell? ⟨g,i * 6+3,none⟩=some (.int .i64 s.c)∧w.cell? ⟨g,i * 6+4,none⟩=some (.int .i64 s.n)∧w.cell? ⟨g,i * 6+5,none⟩=some (.string s.name):=by
 have hc:=h.cells rfl;refine ⟨hc _ _ (by have:=stCs_at hi 0 (by omega);rw [Nat.add_zero] at this;rw [this];rfl),hc _ _ (by rw [stCs_at hi 1 (by omega)];rfl),hc _ _ (by rw [stCs_at hi 2 (by omega)];rfl),hc _ _ (by rw [stCs_at hi 3 (by omega)];rfl),hc _ _ (by rw [stCs_at hi 4 (by omega)];rfl),hc _ _ (by rw [stCs_at hi 5 (by omega)];rfl)⟩
def stOk (s:Stp):Prop:=s.op.size≤maxLen∧I64 s.a∧I64 s.b∧I64 s.c∧I64 s.n∧s.name.size≤maxLen
theorem cells6 {w:World} {bb:Nat} {a b c d e f:Value} {T:TypeId} (h:w.heap[bb]? = some (.cells #[a,b,c,d,e,f] T (0,0))) :
 w.cell? ⟨bb,0,none⟩=some a∧w.cell? ⟨bb,1,none⟩=some b∧w.cell? ⟨bb,2,none⟩=some c∧w.cell? ⟨bb,3,none⟩=some d∧w.cell? ⟨bb,4,none⟩=some e∧w.cell? ⟨bb,5,none⟩=some f:=
 ⟨by rw [cell_of_row w bb 0 _ T (0,0) h];rfl,by rw [cell_of_row w bb 1 _ T (0,0) h];rfl,by rw [cell_of_row w bb 2 _ T (0,0) h];rfl,by rw [cell_of_row w bb 3 _ T (0,0) h];rfl,by rw [cell_of_row w bb 4 _ T (0,0) h];rfl,by rw [cell_of_row w bb 5 _ T (0,0) h];rfl⟩
theorem free6 {w:World} {bb:Nat} {cs:Array Value} {T:TypeId} (h:w.heap[bb]? = some (.cells cs T (0,0))) (j:Nat):w.frozen? ⟨bb,j,none⟩=false:=frozen_of_row w bb j _ T h
end Go.Proofs.Ytoihjobdfjajfaa
namespace Go.Proofs.Ytoihjobdfjajfaa
open Go.RowKit Go.Maps
structure BoxR (g:Nat) (ty:TypeId) (bs ns:List Value) (ops:List (Nat × Nat)) (w0:World) (hs:Hist) (W:World):Prop where
 t:Turned (fun k=>k=g) w0 W
 box:∃ cs:List Value,cs.length=bs.length∧W.heap[g]? = some (.cells cs.toArray ty (0,0))∧(∀ c,(∀ j,(j,c)∈ops→∀ v,(j,v)∉hs)→cs[c]? = bs[c]?)∧∀ j c v,(j,c)∈ops→(j,v)∈hs→cs[c]? = ns[c]?
def opsOk (ops:List (Nat × Nat)):Bool:=ops.all fun a=>ops.all fun b=>(a.1 == b.1) == (a.2 == b.2)
section
variable {g:Nat} {ty:TypeId} {bs ns:List Value} {ops:List (Nat × Nat)} {w0 W W':World} {hs:Hist}
theorem opsOk.iff (h:opsOk ops=true) {a b:Nat × Nat} (ha:a∈ops) (hb:b∈ops):a.1=b.1↔a.2=b.2:=by
 unfold opsOk at h;rw [Qt] at h;have h1:=h a ha;rw [Qt] at h1;have h2:=h1 b hb;simp only [beq_iff_eq] at h2;constructor
 · intro e
   have:(a.1 == b.1)=true:=by simp [e]
   rw [this] at h2;simpa using h2.symm
 · intro e
   have:(a.2 == b.2)=true:=by simp [e]
   rw [this] at h2;simpa using h2
theorem BoxR.start (h:w0.heap[g]? = some (.cells bs.toArray ty (0,0))) (T:Turned zN w0 W):BoxR g ty bs ns ops w0 [] W:=
 ⟨T.mono (fun _ _ f=>f.elim),bs,rfl,(T.block g (zL h) (fun f=>f)).trans h,fun _ _=>rfl,fun j c v _ hm=>(Ql hm).elim⟩
theorem BoxR.turned0 (h:BoxR g ty bs ns ops w0 hs W) (T:Turned zN W W'):BoxR g ty bs ns ops w0 hs W':=by
 obtain ⟨cs,h1,h2,h3,h4⟩:=h.box;exact ⟨h.t.trans (T.mono (fun _ _ f=>f.elim)),cs,h1,(T.block g (zL h2) (fun f=>f)).trans h2,h3,h4⟩
theorem BoxR.store (h:BoxR g ty bs ns ops w0 hs W) (hok:opsOk ops=true) {j c:Nat} {x v:Value} (hj:(j,c)∈ops) (hc:c < bs.length) (hv:ns[c]? = some v):BoxR g ty bs ns ops w0 (hs++[(j,x)]) (W.setCell ⟨g,c,none⟩ v):=by
 obtain ⟨cs,h1,h2,h3,h4⟩:=h.box;have T:Turned (fun k=>k=g) W (W.setCell ⟨g,c,none⟩ v):=(Turned.refl (fun k=>k=g) W).setCell (p:=⟨g,c,none⟩) (.inr rfl) v;have hset:=heap_setCell_same W g c cs.toArray ty v h2;refine ⟨h.t.step T (fun i hi e=>e),cs.set c v,by rw [List.length_set];exact h1,by simpa using hset,fun c' hn=>?_,fun j' c' v' hm hq=>?_⟩
 · have hne:c≠c':=fun e=>hn j (e ▸ hj) x (Qj _ (List.mem_singleton.2 rfl))
   rw [List.getElem?_set_ne hne];exact h3 c' (fun j' hm v' hq=>hn j' hm v' (Qc _ hq))
 · by_cases he:c=c'
   · subst he
     rw [List.getElem?_set_self (by omega),hv]
   · rw [List.getElem?_set_ne he]
     rcases mem_snoc hq with hq | ⟨e,_⟩
     · exact h4 j' c' v' hm hq
     · exact absurd ((opsOk.iff hok hm hj).1 e).symm he
theorem BoxR.at (h:BoxR g ty bs ns ops w0 hs W) {c:Nat} (hc:c < bs.length):(∃ v,W.cell? ⟨g,c,none⟩=some v)∧W.frozen? ⟨g,c,none⟩=false:=by
 obtain ⟨cs,h1,h2,h3,h4⟩:=h.box;refine ⟨⟨cs[c]'(by omega),?_⟩,frozen_of_row W g c _ ty h2⟩;rw [cell_of_row W g c _ ty (0,0) h2];simp [h1,hc]
theorem BoxR.old (h:BoxR g ty bs ns ops w0 hs W) {c:Nat} {v0:Value} (hb:bs[c]? = some v0) (hn:∀ j,(j,c)∈ops→∀ v,(j,v)∉hs):W.cell? ⟨g,c,none⟩=some v0:=by
 obtain ⟨cs,h1,h2,h3,h4⟩:=h.box;rw [cell_of_row W g c _ ty (0,0) h2];simp only [List.getElem?_toArray];rw [h3 c hn,hb]
theorem BoxR.done (h:BoxR g ty bs ns ops w0 hs W) (hl:ns.length=bs.length) (hall:∀ a∈ops,∃ v,(a.1,v)∈hs) (hsame:∀ c,c < bs.length→c∉ops.map (·.2)→ns[c]? = bs[c]?):W.heap[g]? = some (.cells ns.toArray ty (0,0)):=by
 obtain ⟨cs,h1,h2,h3,h4⟩:=h.box
 have:cs=ns:=by
  refine List.ext_getElem? (fun c=>?_)
  by_cases hc:c < bs.length
  · by_cases hm:c∈ops.map (·.2)
    · obtain ⟨⟨j,c'⟩,ha,rfl⟩:=List.mem_map.1 hm
      obtain ⟨v,hv⟩:=hall _ ha;exact h4 j c' v ha hv
    · rw [hsame c hc hm]
      refine h3 c (fun j hj v hv=>hm (List.mem_map.2 ⟨_,hj,rfl⟩))
  · rw [List.getElem?_eq_none (by omega),List.getElem?_eq_none (by omega)]
 rw [this] at h2;exact h2
end
end Go.Proofs.Ytoihjobdfjajfaa
namespace Go.Proofs.Ytoihjobdfjajfaa
open Go.RowKit Go.Maps
open Tm (Stp sVar sVal sInt sAtom sComp)
def hadF (had:List Int):Int→Option Value:=fun i=>if i∈had then some (.bool true) else none
theorem hadF_nil:hadF []=fun _=>none:=by funext i;unfold hadF;simp
theorem hadF_put (had:List Int) (b:Int):upd (hadF had) b (.bool true)=hadF (had++[b]):=by
 funext i
 unfold upd hadF
 by_cases h:i=b
 · rw [if_pos h,if_pos (by rw [h];simp)]
 · rw [if_neg h]
   by_cases hm:i∈had
   · rw [if_pos hm,if_pos (Qc _ hm)]
   · rw [if_neg hm,if_neg (by simp [hm,h])]
theorem hadF_same {had:List Int} {b:Int} (h:b∈had):upd (hadF had) b (.bool true)=hadF had:=by
 funext i
 unfold upd hadF
 by_cases e:i=b
 · rw [if_pos e,e,if_pos h]
 · rw [if_neg e]
theorem hadF_get (had:List Int) (b:Int):((hadF had b).getD (.bool false)) = .bool (decide (b∈had)):=by
 unfold hadF
 by_cases h:b∈had
 · rw [if_pos h,decide_eq_true h];rfl
 · rw [if_neg h,decide_eq_false h];rfl
structure Chk (kb mb:Nat) (k:Int) (had:List Int) (w:World):Prop where
 b:w.heap[kb]? = some (.cells #[.int .i64 k,.map (some mb)] 178 (0,0))
 m:IMap Try.prog 3 w mb had.length (hadF had)
 ne:kb≠mb
 few:had.length≤60000
theorem Chk.turned0 {kb mb:Nat} {k:Int} {had:List Int} {w w':World} (h:Chk kb mb k had w) (T:Turned zN w w'):Chk kb mb k had w':=
 ⟨(T.bt h.b),h.m.turned T (fun f=>f),h.ne,h.few⟩
theorem Chk.lt {kb mb:Nat} {k:Int} {had:List Int} {w:World} (h:Chk kb mb k had w):kb < w.heap.size∧mb < w.heap.size:=⟨(zL h.b),h.m.lt⟩
def stEqB (a b:Stp):Bool:=decide (a.op=b.op) && (decide (a.a=b.a) && (decide (a.b=b.b) && (decide (a.c=b.c) && (decide (a.n=b.n) && decide (a.name=b.name)))))
end Go.Proofs.Ytoihjobdfjajfaa
namespace Go.Proofs.Ytoihjobdfjajfaa
open Go.RowKit Go.Maps
theorem good_slimB {t:LT} (h:goodB t.bare=true):slim t:=by
 intro x hx;have h1:=Tm.good_ones' h x.bare (by rw [Tm.flat_bare];exact List.mem_map_of_mem hx);rw [goodOneB_bare] at h1
 by_cases ha:x.args=[]
 · rw [ha];exact Nat.zero_le _
 · have:=(Tm.one_args h1 ha).2.2;omega
theorem wholeVal {p O:Nat→Prop} {bb m:Nat} {l:TL} {w:World} {t:LT} {E:Int} (h:BO p bb O m l w) (ht:t.In p w) (hs:slim t) (hE:wholeE m (bt l) t.bare=E) :
 Calls Try.prog 89 #[.pointer (some ⟨bb,0,none⟩),.agg #[.int .i64 t.kind,.int .i64 t.n,.string t.name,.slice t.at_.1 t.args.length t.at_.2]] w fun e w'=>∃ u:LT,e = .returned (.tuple #[.agg #[.int .i64 u.kind,.int .i64 u.n,.string u.name,.slice u.at_.1 u.args.length u.at_.2],.int .i64 E])∧u.bare=wholeT m (bt l) t.bare∧u.In (fun k=>p k∨w.heap.size≤k) w'∧Turned zN w w':=by
 have:=wholeO89 h ht hs;rw [LT.val_eq,hE] at this
 exact this.mono fun e w' ⟨u,h1,h2⟩=>⟨u,by rw [h1,LT.val_eq],h2⟩
theorem varsVal {p:Nat→Prop} {w:World} {u:LT} (hu:u.In p w) (hg:goodB u.bare=true) :
 Calls Try.prog 34 #[.agg #[.int .i64 u.kind,.int .i64 u.n,.string u.name,.slice u.at_.1 u.args.length u.at_.2]] w fun e w'=>∃ (va:Option Addr) (vc:Nat),e = .returned (.slice va u.vars.length vc)∧Row w' 2 1 (.slice va u.vars.length vc) u.vars.length (u.vars.map (Value.int .i64))∧Turned zN w w':=by
 have hg':goodB u=true:=by rw [←goodB_bare];exact hg
 have:=vars34 hu (good_slimB hg);rw [LT.val_eq] at this;refine this.mono ?_
 rintro e w' ⟨v,rfl,hr,_,T⟩
 rw [show varsB u=u.vars from by unfold varsB;rw [if_pos hg']] at hr;obtain ⟨va,vc,rfl⟩:=hr.shape;exact ⟨va,vc,rfl,hr,T⟩
def BLoop (N bb m:Nat) (l:TL) (w1 wr:World):Prop:=
 ∃ O,BO (fun k=>k < N) bb O m l wr∧(∀ k,O k→N≤k)∧Turned zN w1 wr
theorem BLoop.step {N bb m m':Nat} {l l':TL} {w1 wr w':World} {O:Nat→Prop} (hN:N=w1.heap.size) (h:BO (fun k=>k < N) bb O m l wr) (hO:∀ k,O k→N≤k) (T:Turned zN w1 wr) (ha:After (fun k=>k < N) bb O m' l' wr w'):BLoop N bb m' l' w1 w':=by
 obtain ⟨O',a1,a2,a3⟩:=ha;refine ⟨O',a1,fun k hk=>?_,T.step a3 (fun i hi e=>by have:=hO i e;omega)⟩
 rcases Nat.lt_or_ge k wr.heap.size with h1 | h1
 · exact hO k (a2 k hk h1)
 · have:=T.size;omega
end Go.Proofs.Ytoihjobdfjajfaa
namespace Go.Proofs.Ytoihjobdfjajfaa
open Go.RowKit Go.Maps
open Tm (Stp sVar sVal sInt sAtom sComp cb met steps stepX reg)
theorem turned_cell' (W:World) (g j:Nat) (v:Value):Turned (fun k=>k=g) W (W.setCell ⟨g,j,none⟩ v):=
 (Turned.refl (fun k=>k=g) W).setCell (p:=⟨g,j,none⟩) (.inr rfl) v
def slotF (vs:List Int):Int→Option Value:=fun n=>if n∈vs then some (.int .i64 (Tm.posOf vs n)) else none
theorem slotF_nil:slotF []=fun _=>none:=by funext i;unfold slotF;simp
theorem slotF_snoc {vs:List Int} {v:Int} (h:v∉vs):upd (slotF vs) v (.int .i64 vs.length)=slotF (vs++[v]):=by
 funext n
 unfold upd slotF Tm.posOf
 by_cases e:n=v
 · subst e
   rw [if_pos rfl,if_pos (by simp),List.idxOf_append,if_neg h];simp
 · rw [if_neg e]
   by_cases hm:n∈vs
   · rw [if_pos hm,if_pos (Qc _ hm),List.idxOf_append,if_pos hm]
   · rw [if_neg hm,if_neg (by simp [hm,e])]
theorem slotF_none {vs:List Int} {v:Int} (h:v∉vs):(slotF vs v).isSome=false:=by unfold slotF;rw [if_neg h];rfl
theorem slotF_get {vs:List Int} {v:Int} (h:v∈vs):(slotF vs v).getD (.int .i64 0) = .int .i64 (Tm.posOf vs v):=by unfold slotF;rw [if_pos h];rfl
theorem zero3 (w:World):(zeroValue 3).run Try.prog w = .ok (.int .i64 0) w:=by kernel_rfl
theorem slotLook {w:World} {mb n:Nat} {vs:List Int} {v:Int} (h:IMap Try.prog 2 w mb n (slotF vs)) (hv:v∈vs) (h64:I64 v):(Instr.lookup 172 (.map (some mb)) (.int .i64 v) false).run Try.prog w = .ok (.int .i64 (Tm.posOf vs v)) w:=by
 rw [h.look law2 Try.underlying172 (zero3 _) (key2 h64),slotF_get hv]
theorem term_cells {w:World} {l:List LT} {n g cap i:Nat} {x:LT} (h:Row w 27 4 (.slice (some ⟨g,0,none⟩) n cap) n (l.flatMap LT.cells)) (hi:l[i]? = some x) :
 w.cell? ⟨g,i * 4,none⟩=some (.int .i64 x.kind)∧w.cell? ⟨g,i * 4+1,none⟩=some (.int .i64 x.n)∧w.cell? ⟨g,i * 4+2,none⟩=some (.string x.name)∧w.cell? ⟨g,i * 4+3,none⟩=some (.slice x.at_.1 x.args.length x.at_.2):=by
 have hc:=h.cells rfl;refine ⟨hc _ _ (by have:=LT.flat_at hi 0 (by omega);rw [Nat.add_zero] at this;rw [this,LT.cells_eq];rfl),hc _ _ (by rw [LT.flat_at hi 1 (by omega),LT.cells_eq];rfl),hc _ _ (by rw [LT.flat_at hi 2 (by omega),LT.cells_eq];rfl),hc _ _ (by rw [LT.flat_at hi 3 (by omega),LT.cells_eq];rfl)⟩
def metS (t:LT) (i:Nat):List Int:=(met t.args i).map fun n=>(Tm.posOf t.vars n:Int)
structure HeadI (t:LT) (cbk mb hb i:Nat) (sv:Value) (w wr:World):Prop where
 slots:IMap Try.prog 2 wr mb t.vars.length (slotF t.vars)
 had:IMap Try.prog 3 wr hb (metS t i).length (hadF (metS t i))
 regs:Row wr 27 4 sv (cb t.args i) ((reg t.args i).flatMap LT.cells)
 ins:t.In (fun k=>k < w.heap.size) wr
 code:∃ lv,wr.heap[cbk]? = some (.cells #[.int .i64 t.args.length,.int .i64 t.vars.length,.int .i64 0,lv] 104 (0,0))∧Row wr 139 6 lv i ((steps t.vars t.args i).flatMap stC)∧∀ k,lv.ownBlock=some k→w.heap.size≤k∧k≠cbk∧k≠mb∧k≠hb∧sv.ownBlock≠some k
 own:∀ k,sv.ownBlock=some k→w.heap.size≤k∧k≠cbk∧k≠mb∧k≠hb
 ne:w.heap.size≤cbk∧w.heap.size≤mb∧w.heap.size≤hb∧cbk≠mb∧cbk≠hb∧mb≠hb
 t:Turned zN w wr
theorem HeadI.turned0 {t:LT} {cbk mb hb i:Nat} {sv:Value} {w wr w':World} (h:HeadI t cbk mb hb i sv w wr) (T:Turned zN wr w'):HeadI t cbk mb hb i sv w w':=by
 obtain ⟨lv,h1,h2,h3⟩:=h.code;exact ⟨h.slots.turned T (fun f=>f),h.had.turned T (fun f=>f),h.regs.turned0 T,h.ins.turned0 T,⟨lv,(T.bt h1),h2.turned0 T,h3⟩,h.own,h.ne,h.t.trans T⟩
theorem Tm.cb_le' {α:Type} {l:List (Tm α)} {i:Nat} (h:i≤Tm.sizes l):Tm.cb l i≤Tm.sizes l:=by
 have h1:=Tm.reg_le l h;have h2:=Tm.regs_length l;unfold Tm.regs at h2;unfold Tm.cb;omega
structure HeadM (t:LT) (cbk mb hb i:Nat) (sv lv:Value) (w wr:World):Prop where
 slots:IMap Try.prog 2 wr mb t.vars.length (slotF t.vars)
 had:IMap Try.prog 3 wr hb (metS t (i+1)).length (hadF (metS t (i+1)))
 regs:Row wr 27 4 sv (cb t.args (i+1)) ((reg t.args (i+1)).flatMap LT.cells)
 ins:t.In (fun k=>k < w.heap.size) wr
 c:wr.heap[cbk]? = some (.cells #[.int .i64 t.args.length,.int .i64 t.vars.length,.int .i64 0,lv] 104 (0,0))
 row:Row wr 139 6 lv i ((steps t.vars t.args i).flatMap stC)
 lvo:∀ k,lv.ownBlock=some k→w.heap.size≤k∧k≠cbk∧k≠mb∧k≠hb∧sv.ownBlock≠some k
 own:∀ k,sv.ownBlock=some k→w.heap.size≤k∧k≠cbk∧k≠mb∧k≠hb
 ne:w.heap.size≤cbk∧w.heap.size≤mb∧w.heap.size≤hb∧cbk≠mb∧cbk≠hb∧mb≠hb
 t:Turned zN w wr
section
variable {t:LT} {cbk mb hb i:Nat} {sv sv' lv lv':Value} {w wr W W':World}
theorem HeadM.turned0 (h:HeadM t cbk mb hb i sv lv w wr) (T:Turned zN wr W):HeadM t cbk mb hb i sv lv w W:=
 ⟨h.slots.turned T (fun f=>f),h.had.turned T (fun f=>f),h.regs.turned0 T,h.ins.turned0 T,(T.bt h.c),h.row.turned0 T,h.lvo,h.own,h.ne,h.t.trans T⟩
theorem HeadI.mid (h:HeadI t cbk mb hb i sv w wr) (hc:wr.heap[cbk]? = some (.cells #[.int .i64 t.args.length,.int .i64 t.vars.length,.int .i64 0,lv] 104 (0,0))) (hl:Row wr 139 6 lv i ((steps t.vars t.args i).flatMap stC)) (hlo:∀ k,lv.ownBlock=some k→w.heap.size≤k∧k≠cbk∧k≠mb∧k≠hb∧sv.ownBlock≠some k)
 (T:Turned (fun k=>k=hb∨sv.ownBlock=some k) wr W) (hhad:IMap Try.prog 3 W hb (metS t (i+1)).length (hadF (metS t (i+1)))) (hregs:Row W 27 4 sv' (cb t.args (i+1)) ((reg t.args (i+1)).flatMap LT.cells)) (ho:sv'.ownBlock=sv.ownBlock∨∀ k,sv'.ownBlock=some k→wr.heap.size≤k):HeadM t cbk mb hb i sv' lv w W:=by
 obtain ⟨n1,n2,n3,n4,n5,n6⟩:=h.ne;have lc:=(zL hc);have lm:=h.slots.lt;have lh:=h.had.lt;refine ⟨h.slots.turned T (fun c=>c.elim n6 (fun c=>(h.own _ c).2.2.1 rfl)),hhad,hregs,?_,(T.block _ lc (fun c=>c.elim n5 (fun c=>(h.own _ c).2.1 rfl))).trans hc,hl.turned T (fun k hk c=>c.elim (fun c=>(hlo k hk).2.2.2.1 c) (fun c=>(hlo k hk).2.2.2.2 c)),fun k hk=>⟨(hlo k hk).1,(hlo k hk).2.1,(hlo k hk).2.2.1,(hlo k hk).2.2.2.1,fun c=>?_⟩,fun k hk=>?_,h.ne,h.t.step T (fun k hk c=>c.elim (fun c=>by omega) (fun c=>by have:=(h.own k c).1;omega))⟩
 · refine LT.In.turned T (fun k hk hp c=>?_) (fun k hk hp=>hp) t h.ins
   rcases c with c | c
   · omega
   · have:=(h.own k c).1;omega
 · rcases ho with ho | ho
   · exact (hlo k hk).2.2.2.2 (ho ▸ c)
   · have:=ho k c;have:=hl.lt k hk;omega
 · rcases ho with ho | ho
   · exact h.own k (ho ▸ hk)
   · have:=ho k hk
     exact ⟨by have:=h.t.size;omega,by omega,by omega,by omega⟩
theorem HeadM.next (h:HeadM t cbk mb hb i sv lv w wr) {s:Stp} (hs:steps t.vars t.args (i+1)=steps t.vars t.args i++[s]) (T:Turned (fun k=>lv.ownBlock=some k) wr W) (hr:Row W 139 6 lv' (i+1) ((steps t.vars t.args i).flatMap stC++stC s)) (ho:lv'.ownBlock=lv.ownBlock∨∀ k,lv'.ownBlock=some k→wr.heap.size≤k)
 (T':Turned (fun k=>k=cbk) W W') (hc:W'.heap[cbk]? = some (.cells #[.int .i64 t.args.length,.int .i64 t.vars.length,.int .i64 0,lv'] 104 (0,0))):HeadI t cbk mb hb (i+1) sv w W':=by
 obtain ⟨n1,n2,n3,n4,n5,n6⟩:=h.ne;have lc:=(zL h.c);have lm:=h.slots.lt;have lh:=h.had.lt
 have hlo':∀ k,lv'.ownBlock=some k→w.heap.size≤k∧k≠cbk∧k≠mb∧k≠hb∧sv.ownBlock≠some k:=by
  intro k hk
  rcases ho with ho | ho
  · exact h.lvo k (ho ▸ hk)
  · have:=ho k hk
    exact ⟨by have:=h.t.size;omega,by omega,by omega,by omega,fun c=>by have:=h.regs.lt k c;omega⟩
 have TT:Turned (fun k=>k=cbk∨lv.ownBlock=some k) wr W':=(T.mono (fun k _ c=>.inr c)).trans (T'.mono (fun k _ c=>.inl c));refine ⟨h.slots.turned TT (fun c=>c.elim (fun c=>n4 c.symm) (fun c=>(h.lvo _ c).2.2.1 rfl)),h.had.turned TT (fun c=>c.elim (fun c=>n5 c.symm) (fun c=>(h.lvo _ c).2.2.2.1 rfl)),h.regs.turned TT (fun k hk c=>c.elim (fun c=>(h.own k hk).2.1 c) (fun c=>(h.lvo k c).2.2.2.2 hk)),?_,⟨lv',hc,?_,hlo'⟩,h.own,h.ne,h.t.step TT (fun k hk c=>c.elim (fun c=>by omega) (fun c=>by have:=(h.lvo k c).1;omega))⟩
 · refine LT.In.turned TT (fun k hk hp c=>?_) (fun k hk hp=>hp) t h.ins
   rcases c with c | c
   · omega
   · have:=(h.lvo k c).1;omega
 · rw [hs,List.flatMap_append]
   have:Row W' 139 6 lv' (i+1) ((steps t.vars t.args i).flatMap stC++stC s):=hr.turned T' (fun k hk c=>(hlo' k hk).2.1 c);simpa using this
end
theorem reg_facts {t x:LT} {i:Nat} {w:World} {p:Nat→Prop} (ht:t.In p w) (hg:goodB t=true) (hi:i < Tm.sizes t.args) (hx:(reg t.args i)[i]? = some x) :
 x.In p w∧goodOneB x=true∧(Tm.regs t.args)[i]? = some x∧reg t.args (i+1)=reg t.args i++x.args∧cb t.args (i+1)=cb t.args i+x.args.length∧(x.kind=0→x.n∈t.vars)∧cb t.args i≤2000∧x.args.length≤8:=by
 obtain ⟨y,h1,h2,h3⟩:=Tm.regs_some hi
 rw [hx] at h2;injection h2 with h2;subst h2
 have hm:x∈t.flat:=by rw [Tm.flat_eq];exact Qb _ (Tm.regs_flats x (Qf h1))
 have h:=hg;unfold goodB at h;simp only [Qd,decide_eq_true_eq,Qt] at h;have hs:=h.1;rw [Tm.size_eq] at hs;have hc:=Tm.cb_le' (l:=t.args) (i:=i) (by omega);refine ⟨LT.In.flat t ht x hm,h.2.2 x hm,h1,h3,(Tm.cb_next h1).1,fun h0=>(Tm.mem_fold _ _ _).2 (.inr ⟨x,hm,h0,rfl⟩),by omega,?_⟩
 by_cases ha:x.args=[]
 · rw [ha];exact Nat.zero_le _
 · exact (Tm.one_args (h.2.2 x hm) ha).2.2
theorem vars_few {t:LT} (hg:goodB t=true):t.vars.length≤2000:=by
 have h:=hg;unfold goodB at h;simp only [Qd,decide_eq_true_eq,Qt] at h;have hs:=h.1
 have:∀ (l:List LT) (vs:List Int),(l.foldl Tm.addVar vs).length≤vs.length+l.length:=by
  intro l
  induction l with
  | nil=>intro vs;simp
  | cons y l ih=>
   intro vs;rw [Qq,QB];have:=ih (Tm.addVar vs y)
   have h2:(Tm.addVar vs y).length≤vs.length+1:=by unfold Tm.addVar;split <;> simp
   omega
 have h3:=this t.flat [];rw [Tm.flat_length] at h3;unfold Tm.vars;simp at h3;omega
theorem metS_mem {t:LT} {i:Nat} {v:Int} (hv:v∈t.vars):(Tm.posOf t.vars v:Int)∈metS t i↔v∈met t.args i:=by
 unfold metS;constructor
 · intro h
   obtain ⟨u,hu,e⟩:=List.mem_map.1 h;have e':Tm.posOf t.vars u=Tm.posOf t.vars v:=Int.ofNat.inj e
   have huv:u∈t.vars:=by
    obtain ⟨y,hy,h0,rfl⟩:=Tm.mem_met hu;exact (Tm.mem_fold _ _ _).2 (.inr ⟨_,by rw [Tm.flat_eq];exact Qb _ hy,h0,rfl⟩)
   have p1:=Tm.posOf_mem huv;have p2:=Tm.posOf_mem hv;rw [e',p2] at p1
   injection p1 with p1
   rw [p1];exact hu
 · exact fun h=>List.mem_map.2 ⟨_,h,rfl⟩
theorem metS_next {t x:LT} {i:Nat} (hx:(Tm.regs t.args)[i]? = some x):metS t (i+1)=if x.kind=0∧x.n∉met t.args i then metS t i++[(Tm.posOf t.vars x.n:Int)] else metS t i:=by
 unfold metS;rw [Tm.met_succ hx];unfold Tm.addVar
 split
 · rw [List.map_append];rfl
 · rfl
theorem metS_few {t:LT} {i:Nat} (hg:goodB t=true) (hi:i≤Tm.sizes t.args):(metS t i).length≤2000:=by
 unfold metS;rw [Qu];unfold met
 have:∀ (l:List LT) (vs:List Int),(l.foldl Tm.addVar vs).length≤vs.length+l.length:=by
  intro l
  induction l with
  | nil=>intro vs;simp
  | cons y l ih=>
   intro vs;rw [Qq,QB];have:=ih (Tm.addVar vs y)
   have h2:(Tm.addVar vs y).length≤vs.length+1:=by unfold Tm.addVar;split <;> simp
   omega
 have h3:=this ((Tm.regs t.args).take i) [];have h4:((Tm.regs t.args).take i).length≤i:=List.length_take_le _ _;have h:=hg;unfold goodB at h;simp only [Qd,decide_eq_true_eq,Qt] at h;have hs:=h.1;rw [Tm.size_eq] at hs;simp at h3;simp at h4;omega
end Go.Proofs.Ytoihjobdfjajfaa
namespace Go.Proofs.Ytoihjobdfjajfaa
open Lib (hid)
open Go.RowKit Go.Maps
open Tm (Stp sVar sVal sInt sAtom sComp)
theorem op_Var_Var:(sVar.toList == [118,97,114])=true:=by rw [ByteArray.toList_eq];rfl
theorem op_Var_Val:(sVar.toList == [118,97,108])=false:=by rw [ByteArray.toList_eq];rfl
theorem op_Var_Int:(sVar.toList == [105,110,116])=false:=by rw [ByteArray.toList_eq];rfl
theorem op_Var_Atom:(sVar.toList == [97,116,111,109])=false:=by rw [ByteArray.toList_eq];rfl
theorem op_Var_Comp:(sVar.toList == [99,111,109,112])=false:=by rw [ByteArray.toList_eq];rfl
theorem op_Val_Var:(sVal.toList == [118,97,114])=false:=by rw [ByteArray.toList_eq];rfl
theorem op_Val_Val:(sVal.toList == [118,97,108])=true:=by rw [ByteArray.toList_eq];rfl
theorem op_Val_Int:(sVal.toList == [105,110,116])=false:=by rw [ByteArray.toList_eq];rfl
theorem op_Val_Atom:(sVal.toList == [97,116,111,109])=false:=by rw [ByteArray.toList_eq];rfl
theorem op_Val_Comp:(sVal.toList == [99,111,109,112])=false:=by rw [ByteArray.toList_eq];rfl
theorem op_Int_Var:(sInt.toList == [118,97,114])=false:=by rw [ByteArray.toList_eq];rfl
theorem op_Int_Val:(sInt.toList == [118,97,108])=false:=by rw [ByteArray.toList_eq];rfl
theorem op_Int_Int:(sInt.toList == [105,110,116])=true:=by rw [ByteArray.toList_eq];rfl
theorem op_Int_Atom:(sInt.toList == [97,116,111,109])=false:=by rw [ByteArray.toList_eq];rfl
theorem op_Int_Comp:(sInt.toList == [99,111,109,112])=false:=by rw [ByteArray.toList_eq];rfl
theorem op_Atom_Var:(sAtom.toList == [118,97,114])=false:=by rw [ByteArray.toList_eq];rfl
theorem op_Atom_Val:(sAtom.toList == [118,97,108])=false:=by rw [ByteArray.toList_eq];rfl
theorem op_Atom_Int:(sAtom.toList == [105,110,116])=false:=by rw [ByteArray.toList_eq];rfl
theorem op_Atom_Atom:(sAtom.toList == [97,116,111,109])=true:=by rw [ByteArray.toList_eq];rfl
theorem op_Atom_Comp:(sAtom.toList == [99,111,109,112])=false:=by rw [ByteArray.toList_eq];rfl
theorem op_Comp_Var:(sComp.toList == [118,97,114])=false:=by rw [ByteArray.toList_eq];rfl
theorem op_Comp_Val:(sComp.toList == [118,97,108])=false:=by rw [ByteArray.toList_eq];rfl
theorem op_Comp_Int:(sComp.toList == [105,110,116])=false:=by rw [ByteArray.toList_eq];rfl
theorem op_Comp_Atom:(sComp.toList == [97,116,111,109])=false:=by rw [ByteArray.toList_eq];rfl
theorem op_Comp_Comp:(sComp.toList == [99,111,109,112])=true:=by rw [ByteArray.toList_eq];rfl
theorem empty_nil:(ByteArray.empty.toList=[])=True:=by simp [(bytes_nil ByteArray.empty).2 rfl]
theorem stEqB_iff {a b:Stp}:stEqB a b=true↔a.op=b.op∧a.a=b.a∧a.b=b.b∧a.c=b.c∧a.n=b.n∧a.name=b.name:=by
 unfold stEqB;simp only [Qd,decide_eq_true_eq]
theorem slim_leaf (k n:Int) (s:ByteArray):slim (leaf k n s):=by
 intro x hx;rw [show (leaf k n s).flat=[leaf k n s] from rfl,List.mem_singleton] at hx;subst hx;exact Nat.zero_le _
theorem goodAtom (s:ByteArray) (hs:s.size≤maxLen) (w:World):Calls Try.prog 38 #[.agg #[.int .i64 2,.int .i64 0,.string s,.slice none 0 0]] w fun e w'=>e = .returned (.bool (goodNameB s))∧Turned zN w w':=by
 have h:=good38 (p:=fun _=>True) (t:=leaf 2 0 s) (w:=w) (leafIn' (i64_lit _ (by omega)) (i64_lit _ (by omega)) hs) (slim_leaf _ _ _)
 have hg:goodB (leaf 2 0 s)=goodNameB s:=by
  unfold goodB;rw [show (leaf 2 0 s).size=1 from rfl,show (leaf 2 0 s).depth=1 from rfl,show (leaf 2 0 s).flat=[leaf 2 0 s] from rfl];simp only [List.all_cons,List.all_nil,Bool.and_true];rw [goodOneB_2 (leaf 2 0 s) rfl];show (decide (1≤2000) && (decide (1≤64) && (decide ((0:Int)=0) && (goodNameB s && decide (0≤8)))))=goodNameB s
  cases goodNameB s <;> rfl
 rw [hg] at h;exact h
theorem atomOnly (s:ByteArray) (hs:s.size≤maxLen) (w:World):Calls Try.prog 63 #[.string s] w fun e w'=>e = .returned (.agg #[.int .i64 2,.int .i64 0,.string s,.slice none 0 0])∧Turned zN w w':=
 (atomV s hs w).mono fun e w' ⟨h1,_,h3⟩=>⟨h1,h3⟩
set_option maxRecDepth 100000 in
theorem one_int {kb:Nat} {ar sl rg i:Int} {lv:Value} {s:Stp} {w:World} (hs:stOk s) (hop:s.op=sInt) :
 Calls Try.prog 149 #[.pointer (some ⟨kb,0,none⟩),.agg #[.int .i64 ar,.int .i64 sl,.int .i64 rg,lv],.int .i64 i,.agg #[.string s.op,.int .i64 s.a,.int .i64 s.b,.int .i64 s.c,.int .i64 s.n,.string s.name]] w fun e w'=>e = .returned (.bool (stEqB s ⟨sInt,i,0,0,s.n,ByteArray.empty⟩ && goodNameB s.name))∧Turned zN w w':=by
 have hnm:=hs.2.2.2.2.2;have o0:=op_Int_Var;have o1:=op_Int_Val;have o2:=op_Int_Int;have o3:=op_Int_Atom;have o4:=op_Int_Comp;have en:=empty_nil
 cases hq:stEqB s ⟨sInt,i,0,0,s.n,ByteArray.empty⟩ with
 | true=>
  obtain ⟨_,h1,h2,h3,h4,h5⟩:=stEqB_iff.1 hq;obtain ⟨op,a,b,c,n,name⟩:=s;simp only at hop h1 h2 h3 h4 h5 hnm;subst hop h1 h2 h3 h5;clear hq hs;obtain ⟨B,hB⟩:∃ B,B=goodNameB ByteArray.empty:=⟨_,rfl⟩;have HB:=hid hB;clear hB;go_enter Try.func149,Try.ntmps149
  go_wp2_with (first
   | (go_at_call 63;(with_reducible refine (atomOnly ByteArray.empty hnm _).mono ?_);rintro e W1 ⟨rfl,T1⟩)
   | (go_at_call 38;(with_reducible refine (goodAtom ByteArray.empty hnm _).mono ?_);rintro e W2 ⟨rfl,T2⟩;rw [←HB.out]))
  all_goals
   go_ret;exact ⟨by rw [←HB.out];rfl,((((Turned.refl _ w).alloc _).alloc _).alloc _).trans (T1.trans T2)⟩
 | false=>
  have HQ:Hid (¬ (s.a=i∧s.b=0∧s.c=0∧s.name=ByteArray.empty)):=fun c=>by
   rw [show stEqB s ⟨sInt,i,0,0,s.n,ByteArray.empty⟩=true from stEqB_iff.2 ⟨hop,c.1,c.2.1,c.2.2.1,rfl,c.2.2.2⟩] at hq;cases hq
  clear hq hs;rw [hop];go_enter Try.func149,Try.ntmps149
  go_wp2_with (go_at_call 63;exfalso;exact HQ.out (by first | exact ⟨‹_›,‹_›,‹_›,(bytes_nil _).1 ‹_›⟩ | exact ⟨‹_›,‹_›,‹_›,‹_›⟩))
  all_goals
   go_ret;exact ⟨rfl,(((Turned.refl _ w).alloc _).alloc _).alloc _⟩
set_option maxRecDepth 100000 in
theorem one_atom {kb:Nat} {ar sl rg i:Int} {lv:Value} {s:Stp} {w:World} (hs:stOk s) (hop:s.op=sAtom) :
 Calls Try.prog 149 #[.pointer (some ⟨kb,0,none⟩),.agg #[.int .i64 ar,.int .i64 sl,.int .i64 rg,lv],.int .i64 i,.agg #[.string s.op,.int .i64 s.a,.int .i64 s.b,.int .i64 s.c,.int .i64 s.n,.string s.name]] w fun e w'=>e = .returned (.bool (stEqB s ⟨sAtom,i,0,0,0,s.name⟩ && goodNameB s.name))∧Turned zN w w':=by
 have hnm:=hs.2.2.2.2.2;have o0:=op_Atom_Var;have o1:=op_Atom_Val;have o2:=op_Atom_Int;have o3:=op_Atom_Atom;have o4:=op_Atom_Comp;have en:=empty_nil
 cases hq:stEqB s ⟨sAtom,i,0,0,0,s.name⟩ with
 | true=>
  obtain ⟨_,h1,h2,h3,h4,h5⟩:=stEqB_iff.1 hq;obtain ⟨op,a,b,c,n,name⟩:=s;simp only at hop h1 h2 h3 h4 h5 hnm;subst hop h1 h2 h3 h4;clear hq hs;obtain ⟨B,hB⟩:∃ B,B=goodNameB name:=⟨_,rfl⟩;have HB:=hid hB;clear hB;go_enter Try.func149,Try.ntmps149
  go_wp2_with (first
   | (go_at_call 63;(with_reducible refine (atomOnly name hnm _).mono ?_);rintro e W1 ⟨rfl,T1⟩)
   | (go_at_call 38;(with_reducible refine (goodAtom name hnm _).mono ?_);rintro e W2 ⟨rfl,T2⟩;rw [←HB.out]))
  all_goals
   go_ret;exact ⟨by rw [←HB.out];rfl,((((Turned.refl _ w).alloc _).alloc _).alloc _).trans (T1.trans T2)⟩
 | false=>
  have HQ:Hid (¬ (s.a=i∧s.b=0∧s.c=0∧s.n=0)):=fun c=>by
   rw [show stEqB s ⟨sAtom,i,0,0,0,s.name⟩=true from stEqB_iff.2 ⟨hop,c.1,c.2.1,c.2.2.1,c.2.2.2,rfl⟩] at hq;cases hq
  clear hq hs;rw [hop];go_enter Try.func149,Try.ntmps149
  go_wp2_with (go_at_call 63;exfalso;exact HQ.out (by first | exact ⟨‹_›,‹_›,‹_›,(bytes_nil _).1 ‹_›⟩ | exact ⟨‹_›,‹_›,‹_›,‹_›⟩))
  all_goals
   go_ret;exact ⟨rfl,(((Turned.refl _ w).alloc _).alloc _).alloc _⟩
theorem three_boxes (w:World) (a b c:Obj):Turned zN w (((w.alloc a).alloc b).alloc c)∧(((w.alloc a).alloc b).alloc c).heap[w.heap.size]? = some a∧(((w.alloc a).alloc b).alloc c).heap[w.heap.size+1]? = some b∧(((w.alloc a).alloc b).alloc c).heap[w.heap.size+1+1]? = some c:=by
 have h:=twoBox w a b;have T:=(Turned.refl (fun _=>False) ((w.alloc a).alloc b)).alloc c;have hn:=heap_alloc_new ((w.alloc a).alloc b) c;rw [h.2.1] at hn;exact ⟨h.1.trans T,(T.block _ (by have:=h.2.1;omega) (fun f=>f)).trans h.2.2.1,(T.block _ (by have:=h.2.1;omega) (fun f=>f)).trans h.2.2.2,hn⟩
theorem cells2 {w:World} {bb:Nat} {a b:Value} {T:TypeId} (h:w.heap[bb]? = some (.cells #[a,b] T (0,0))):w.cell? ⟨bb,0,none⟩=some a∧w.cell? ⟨bb,1,none⟩=some b:=
 ⟨by rw [cell_of_row w bb 0 _ T (0,0) h];rfl,by rw [cell_of_row w bb 1 _ T (0,0) h];rfl⟩
set_option maxRecDepth 100000 in
theorem one_compT {kb mb:Nat} {k ar sl rg i:Int} {lv:Value} {s:Stp} {w:World} (hb:w.heap[kb]? = some (.cells #[.int .i64 k,.map (some mb)] 178 (0,0))) (hk:0≤k∧k≤30000) (hb8:1≤s.b∧s.b≤8) (hs:stOk s) (hop:s.op=sComp) (h1:s.a=i) (h3:s.c=k) (h4:s.n=0) :
 Calls Try.prog 149 #[.pointer (some ⟨kb,0,none⟩),.agg #[.int .i64 ar,.int .i64 sl,.int .i64 rg,lv],.int .i64 i,.agg #[.string s.op,.int .i64 s.a,.int .i64 s.b,.int .i64 s.c,.int .i64 s.n,.string s.name]] w fun e w'=>e = .returned (.bool (goodNameB s.name))∧w'.heap[kb]? = some (.cells #[.int .i64 (k+s.b),.map (some mb)] 178 (0,0))∧Turned (fun q=>q=kb) w w':=by
 have hnm:=hs.2.2.2.2.2;have o0:=op_Comp_Var;have o1:=op_Comp_Val;have o2:=op_Comp_Int;have o3:=op_Comp_Atom;have o4:=op_Comp_Comp;have d1:decide (s.b < 1)=false:=decide_eq_false (by omega);have d2:decide (8 < s.b)=false:=decide_eq_false (by omega);have hkl:=(zL hb);obtain ⟨T0,z0,z1,z2⟩:=three_boxes w (.cells #[.int .i64 ar,.int .i64 sl,.int .i64 rg,lv] 104) (.cells #[.string sComp,.int .i64 i,.int .i64 s.b,.int .i64 k,.int .i64 0,.string s.name] 139) (.cells #[.string sComp,.int .i64 i,.int .i64 0,.int .i64 0,.int .i64 0,.string ⟨#[]⟩] 139);have H9:=hid z2;have H7:=hid (fun W (T:Turned (fun q=>q=w.heap.size+1+1) (((w.alloc (.cells #[.int .i64 ar,.int .i64 sl,.int .i64 rg,lv] 104)).alloc (.cells #[.string sComp,.int .i64 i,.int .i64 s.b,.int .i64 k,.int .i64 0,.string s.name] 139)).alloc (.cells #[.string sComp,.int .i64 i,.int .i64 0,.int .i64 0,.int .i64 0,.string ⟨#[]⟩] 139)) W)=>(T.block _ (zL z1) (by omega)).trans z1);have HK:=hid (fun W (T:Turned (fun q=>q=w.heap.size+1+1) (((w.alloc (.cells #[.int .i64 ar,.int .i64 sl,.int .i64 rg,lv] 104)).alloc (.cells #[.string sComp,.int .i64 i,.int .i64 s.b,.int .i64 k,.int .i64 0,.string s.name] 139)).alloc (.cells #[.string sComp,.int .i64 i,.int .i64 0,.int .i64 0,.int .i64 0,.string ⟨#[]⟩] 139)) W)=>(T.block kb (Qo hkl T0.size) (by omega)).trans ((T0.block kb hkl (fun f=>f)).trans hb));have HT0:=hid T0;have HKL:=hid hkl;have HKB:=hid hk;have HB8:=hid hb8;rw [hop,h1,h3,h4];clear T0 z0 z1 z2 hb hkl hk hs hb8;go_enter Try.func149,Try.ntmps149
 go_wp2_with fail
 refine wp_region_k [63,64,65,66,67,68,69,70,71,72,73] [9,11,13] [] (fun dd vv=>(match dd with | 63=>vv = .pointer (some ⟨w.heap.size+1,5,none⟩) | 64=>vv = .string s.name | 65=>vv = .pointer (some ⟨w.heap.size+1,2,none⟩) | 66=>vv = .int .i64 s.b | 67=>vv = .pointer (some ⟨kb,0,none⟩) | 68=>vv = .pointer (some ⟨kb,0,none⟩) | 69=>vv = .pointer (some ⟨kb,0,none⟩) | 70=>vv = .int .i64 k | 71=>vv = .pointer (some ⟨w.heap.size+1+1,5,none⟩) | 72=>vv = .pointer (some ⟨w.heap.size+1+1,2,none⟩) | 73=>vv = .pointer (some ⟨w.heap.size+1+1,3,none⟩) | _=>True:Prop)) (BoxR (w.heap.size+1+1) 139 [.string sComp,.int .i64 i,.int .i64 0,.int .i64 0,.int .i64 0,.string ⟨#[]⟩] [.string sComp,.int .i64 i,.int .i64 s.b,.int .i64 k,.int .i64 0,.string s.name] [(9,5),(11,2),(13,3)] (((w.alloc (.cells #[.int .i64 ar,.int .i64 sl,.int .i64 rg,lv] 104)).alloc (.cells #[.string sComp,.int .i64 i,.int .i64 s.b,.int .i64 k,.int .i64 0,.string s.name] 139)).alloc (.cells #[.string sComp,.int .i64 i,.int .i64 0,.int .i64 0,.int .i64 0,.string ⟨#[]⟩] 139))) (by kernel_rfl) rfl (by kernel_rfl) (by kernel_rfl) (fun w h=>BoxR.start H9.out h) (fun hs w w' h ht=>h.turned0 ht) ?hs ?hQ
 case hs=>
  refine ⟨?s0,?s1,?s2,?s3,?s4,?s5,?s6,?s7,?s8,?s9,?s10,?s11,?s12,?s13,trivial⟩
  case s0=>refine fun hs hl=>zG [] [7] fun ac W hT hI hO=>?_;simp only [execOp,Act.eval,hO 7 (by simp)];go_simp;try exact tq
  case s1=>refine fun hs hl=>zG [63] [] fun ac W hT hI hO=>?_;have h63:_=_:=hI 63 (by simp);obtain ⟨e0,e1,e2,e3,e4,e5⟩:=cells6 (H7.out W hT.t);simp only [execOp,Act.eval,h63];go_simp;try exact tq
  case s2=>refine fun hs hl=>zG [] [7] fun ac W hT hI hO=>?_;simp only [execOp,Act.eval,hO 7 (by simp)];go_simp;try exact tq
  case s3=>refine fun hs hl=>zG [65] [] fun ac W hT hI hO=>?_;have h65:_=_:=hI 65 (by simp);obtain ⟨e0,e1,e2,e3,e4,e5⟩:=cells6 (H7.out W hT.t);simp only [execOp,Act.eval,h65];go_simp;try exact tq
  case s4=>refine fun hs hl=>zG [] [0] fun ac W hT hI hO=>?_;simp only [execOp,Act.eval,hO 0 (by simp)];go_simp;try exact tq
  case s5=>refine fun hs hl=>zG [67] [] fun ac W hT hI hO=>?_;have h67:_=_:=hI 67 (by simp);simp only [execOp,Act.eval,h67];go_simp;try exact tq
  case s6=>refine fun hs hl=>zG [68] [] fun ac W hT hI hO=>?_;have h68:_=_:=hI 68 (by simp);simp only [execOp,Act.eval,h68];go_simp;try exact tq
  case s7=>refine fun hs hl=>zG [69] [] fun ac W hT hI hO=>?_;have h69:_=_:=hI 69 (by simp);obtain ⟨k0,k1⟩:=cells2 (HK.out W hT.t);simp only [execOp,Act.eval,h69];go_simp;try exact tq
  case s8=>refine fun hs hl=>zG [] [9] fun ac W hT hI hO=>?_;simp only [execOp,Act.eval,hO 9 (by simp)];go_simp;try exact tq
  case s9=>
   refine fun hs hno hl=>zG [71,64] [] fun ac W hT hI hO=>?_;have h71:_=_:=hI 71 (by simp);have h64:_=_:=hI 64 (by simp);show Brings _ (fun vv w'=>BoxR (w.heap.size+1+1) 139 [.string sComp,.int .i64 i,.int .i64 0,.int .i64 0,.int .i64 0,.string ⟨#[]⟩] [.string sComp,.int .i64 i,.int .i64 s.b,.int .i64 k,.int .i64 0,.string s.name] [(9,5),(11,2),(13,3)] (((w.alloc (.cells #[.int .i64 ar,.int .i64 sl,.int .i64 rg,lv] 104)).alloc (.cells #[.string sComp,.int .i64 i,.int .i64 s.b,.int .i64 k,.int .i64 0,.string s.name] 139)).alloc (.cells #[.string sComp,.int .i64 i,.int .i64 0,.int .i64 0,.int .i64 0,.string ⟨#[]⟩] 139)) (hs++[(9,vv)]) w') _;obtain ⟨⟨z,hz⟩,hf⟩:=hT.at (c:=5) (by simp);simp only [execOp,Act.eval,h71,h64];go_simp;exact hT.store (by kernel_rfl) (by simp) (by simp) rfl
  case s10=>refine fun hs hl=>zG [] [9] fun ac W hT hI hO=>?_;simp only [execOp,Act.eval,hO 9 (by simp)];go_simp;try exact tq
  case s11=>
   refine fun hs hno hl=>zG [72,66] [] fun ac W hT hI hO=>?_;have h72:_=_:=hI 72 (by simp);have h66:_=_:=hI 66 (by simp);show Brings _ (fun vv w'=>BoxR (w.heap.size+1+1) 139 [.string sComp,.int .i64 i,.int .i64 0,.int .i64 0,.int .i64 0,.string ⟨#[]⟩] [.string sComp,.int .i64 i,.int .i64 s.b,.int .i64 k,.int .i64 0,.string s.name] [(9,5),(11,2),(13,3)] (((w.alloc (.cells #[.int .i64 ar,.int .i64 sl,.int .i64 rg,lv] 104)).alloc (.cells #[.string sComp,.int .i64 i,.int .i64 s.b,.int .i64 k,.int .i64 0,.string s.name] 139)).alloc (.cells #[.string sComp,.int .i64 i,.int .i64 0,.int .i64 0,.int .i64 0,.string ⟨#[]⟩] 139)) (hs++[(11,vv)]) w') _;obtain ⟨⟨z,hz⟩,hf⟩:=hT.at (c:=2) (by simp);simp only [execOp,Act.eval,h72,h66];go_simp;exact hT.store (by kernel_rfl) (by simp) (by simp) rfl
  case s12=>refine fun hs hl=>zG [] [9] fun ac W hT hI hO=>?_;simp only [execOp,Act.eval,hO 9 (by simp)];go_simp;try exact tq
  case s13=>
   refine fun hs hno hl=>zG [73,70] [] fun ac W hT hI hO=>?_;have h73:_=_:=hI 73 (by simp);have h70:_=_:=hI 70 (by simp);show Brings _ (fun vv w'=>BoxR (w.heap.size+1+1) 139 [.string sComp,.int .i64 i,.int .i64 0,.int .i64 0,.int .i64 0,.string ⟨#[]⟩] [.string sComp,.int .i64 i,.int .i64 s.b,.int .i64 k,.int .i64 0,.string s.name] [(9,5),(11,2),(13,3)] (((w.alloc (.cells #[.int .i64 ar,.int .i64 sl,.int .i64 rg,lv] 104)).alloc (.cells #[.string sComp,.int .i64 i,.int .i64 s.b,.int .i64 k,.int .i64 0,.string s.name] 139)).alloc (.cells #[.string sComp,.int .i64 i,.int .i64 0,.int .i64 0,.int .i64 0,.string ⟨#[]⟩] 139)) (hs++[(13,vv)]) w') _;obtain ⟨⟨z,hz⟩,hf⟩:=hT.at (c:=3) (by simp);simp only [execOp,Act.eval,h73,h70];go_simp;exact hT.store (by kernel_rfl) (by simp) (by simp) rfl
 case hQ=>
  intro hs3 vs3 w3 hall huniq hR hV;simp only [Qq,List.foldl_nil,Qk,Qs,Qr];have hnew:=hR.done rfl (by intro a ha;simp only [Qw,Ql,or_false] at ha;rcases ha with rfl | rfl | rfl <;> exact hall _ (by simp)) (by intro c hc hn;simp only [QB,List.length_nil] at hc;simp only [Qx,List.map_nil,Qw,Ql,or_false,not_or] at hn;have hcs:c=0∨c=1∨c=2∨c=3∨c=4∨c=5:=(by omega);rcases hcs with rfl | rfl | rfl | rfl | rfl | rfl <;> first | rfl | omega);have H93:=hid hnew;have H73:=hid (H7.out w3 hR.t);have HK3:=hid (HK.out w3 hR.t);have HT3:=hid hR.t;obtain ⟨e0,e1,e2,e3,e4,e5⟩:=cells6 H73.out;clear hR hV hall huniq hnew
  go_wp2_with fail
  clear e0 e1 e2 e3 e4 e5;have HS7:=hid (fun W (T:Turned (fun q=>q=kb) w3 W)=>(T.block _ (zL H73.out) (by have:=HKL.out;omega)).trans H73.out);refine wp_region_k [82,83,84,85,86,87,88,89,90] [9] [] (fun dd vv=>(match dd with | 82=>vv = .pointer (some ⟨kb,0,none⟩) | 83=>vv = .pointer (some ⟨kb,0,none⟩) | 84=>vv = .pointer (some ⟨kb,0,none⟩) | 85=>vv = .int .i64 k | 86=>vv = .pointer (some ⟨w.heap.size+1,2,none⟩) | 87=>vv = .int .i64 s.b | 88=>vv = .int .i64 (k+s.b) | 89=>vv = .pointer (some ⟨kb,0,none⟩) | 90=>vv = .pointer (some ⟨kb,0,none⟩) | _=>True:Prop)) (BoxR (kb) 178 [.int .i64 k,.map (some mb)] [.int .i64 (k+s.b),.map (some mb)] [(9,0)] w3) (by kernel_rfl) rfl (by kernel_rfl) (by kernel_rfl) (fun w h=>BoxR.start HK3.out h) (fun hs w w' h ht=>h.turned0 ht) ?hs ?hQ
  case hs=>
   refine ⟨?s0,?s1,?s2,?s3,?s4,?s5,?s6,?s7,?s8,?s9,trivial⟩
   case s0=>refine fun hs hl=>zG [] [0] fun ac W hT hI hO=>?_;simp only [execOp,Act.eval,hO 0 (by simp)];go_simp;try exact tq
   case s1=>refine fun hs hl=>zG [82] [] fun ac W hT hI hO=>?_;have h82:_=_:=hI 82 (by simp);simp only [execOp,Act.eval,h82];go_simp;try exact tq
   case s2=>refine fun hs hl=>zG [83] [] fun ac W hT hI hO=>?_;have h83:_=_:=hI 83 (by simp);simp only [execOp,Act.eval,h83];go_simp;try exact tq
   case s3=>
    refine fun hs hl=>zG [84] [] fun ac W hT hI hO=>?_;have h84:_=_:=hI 84 (by simp);have k0:=hT.old (c:=0) rfl (fun j hj v=>by simp only [Qw,Ql,or_false,Prod.mk.injEq] at hj;obtain ⟨rfl,_⟩:=hj;exact hl 9 30 v (by kernel_rfl));simp only [execOp,Act.eval,h84];go_simp
    try exact tq
   case s4=>refine fun hs hl=>zG [] [7] fun ac W hT hI hO=>?_;simp only [execOp,Act.eval,hO 7 (by simp)];go_simp;try exact tq
   case s5=>refine fun hs hl=>zG [86] [] fun ac W hT hI hO=>?_;have h86:_=_:=hI 86 (by simp);obtain ⟨e0,e1,e2,e3,e4,e5⟩:=cells6 (HS7.out W hT.t);simp only [execOp,Act.eval,h86];go_simp;try exact tq
   case s6=>refine fun hs hl=>zG [85,87] [] fun ac W hT hI hO=>?_;have h85:_=_:=hI 85 (by simp);have h87:_=_:=hI 87 (by simp);have hw:IntKind.i64.wrap (k+s.b)=k+s.b:=wrapI (by have:=HKB.out;have:=HB8.out;omega) (by have:=HKB.out;have:=HB8.out;omega);simp only [execOp,Act.eval,h85,h87];go_simp;try exact tq
   case s7=>refine fun hs hl=>zG [82] [] fun ac W hT hI hO=>?_;have h82:_=_:=hI 82 (by simp);simp only [execOp,Act.eval,h82];go_simp;try exact tq
   case s8=>refine fun hs hl=>zG [89] [] fun ac W hT hI hO=>?_;have h89:_=_:=hI 89 (by simp);simp only [execOp,Act.eval,h89];go_simp;try exact tq
   case s9=>
    refine fun hs hno hl=>zG [90,88] [] fun ac W hT hI hO=>?_;have h90:_=_:=hI 90 (by simp);have h88:_=_:=hI 88 (by simp);show Brings _ (fun vv w'=>BoxR (kb) 178 [.int .i64 k,.map (some mb)] [.int .i64 (k+s.b),.map (some mb)] [(9,0)] w3 (hs++[(9,vv)]) w') _;obtain ⟨⟨z,hz⟩,hf⟩:=hT.at (c:=0) (by simp);simp only [execOp,Act.eval,h90,h88];go_simp;exact hT.store (by kernel_rfl) (by simp) (by simp) rfl
  case hQ=>
   intro hs4 vs4 w4 hall huniq hR hV;simp only [Qq,List.foldl_nil,Qk,Qs,Qr];have hnew:=hR.done rfl (by intro a ha;simp only [Qw,Ql,or_false] at ha;rcases ha with rfl <;> exact hall _ (by simp)) (by intro c hc hn;simp only [QB,List.length_nil] at hc;simp only [Qx,List.map_nil,Qw,Ql,or_false,not_or] at hn;have hcs:c=0∨c=1∨c=2∨c=3∨c=4∨c=5:=(by omega);rcases hcs with rfl | rfl | rfl | rfl | rfl | rfl <;> first | rfl | omega);have H74:=hid ((hR.t.block _ (zL H73.out) (by have:=HKL.out;omega)).trans H73.out);have H94:=hid ((hR.t.block _ (zL H93.out) (by have:=HKL.out;omega)).trans H93.out);have HK4:=hid hnew;have HT4:=hid hR.t;clear hR hV hall huniq hnew;obtain ⟨a0,a1,a2,a3,a4,a5⟩:=cells6 H74.out;obtain ⟨b0,b1,b2,b3,b4,b5⟩:=cells6 H94.out;obtain ⟨B,hB⟩:∃ B,B=goodNameB s.name:=⟨_,rfl⟩;have HB:=hid hB;clear hB
   go_wp2_with (first
    | (go_at_call 63;(with_reducible refine (atomOnly s.name hnm _).mono ?_);rintro e W1 ⟨rfl,T1⟩)
    | (go_at_call 38;(with_reducible refine (goodAtom s.name hnm _).mono ?_);rintro e W2 ⟨rfl,T2⟩;rw [←HB.out]))
   go_ret;refine ⟨by rw [←HB.out];rfl,((T1.trans T2).block kb (zL HK4.out) (fun f=>f)).trans HK4.out,?_⟩;have hz:=HKL.out;have T7:=HT0.out.step HT3.out (fun q hq e=>by omega);exact ((T7.mono (fun _ _ f=>f.elim)).trans HT4.out).trans ((T1.trans T2).mono (fun _ _ f=>f.elim))
set_option maxRecDepth 100000 in
theorem one_compF {kb mb:Nat} {k ar sl rg i:Int} {lv:Value} {s:Stp} {w:World} (hb:w.heap[kb]? = some (.cells #[.int .i64 k,.map (some mb)] 178 (0,0))) (hk:0≤k∧k≤30000) (hb8:1≤s.b∧s.b≤8) (hs:stOk s) (hop:s.op=sComp) (hne:¬ (s.a=i∧s.c=k∧s.n=0)) :
 Calls Try.prog 149 #[.pointer (some ⟨kb,0,none⟩),.agg #[.int .i64 ar,.int .i64 sl,.int .i64 rg,lv],.int .i64 i,.agg #[.string s.op,.int .i64 s.a,.int .i64 s.b,.int .i64 s.c,.int .i64 s.n,.string s.name]] w fun e w'=>e = .returned (.bool false)∧w'.heap[kb]? = some (.cells #[.int .i64 (k+s.b),.map (some mb)] 178 (0,0))∧Turned (fun q=>q=kb) w w':=by
 have hnm:=hs.2.2.2.2.2;have o0:=op_Comp_Var;have o1:=op_Comp_Val;have o2:=op_Comp_Int;have o3:=op_Comp_Atom;have o4:=op_Comp_Comp;have d1:decide (s.b < 1)=false:=decide_eq_false (by omega);have d2:decide (8 < s.b)=false:=decide_eq_false (by omega);have hkl:=(zL hb);obtain ⟨T0,z0,z1,z2⟩:=three_boxes w (.cells #[.int .i64 ar,.int .i64 sl,.int .i64 rg,lv] 104) (.cells #[.string sComp,.int .i64 s.a,.int .i64 s.b,.int .i64 s.c,.int .i64 s.n,.string s.name] 139) (.cells #[.string sComp,.int .i64 i,.int .i64 0,.int .i64 0,.int .i64 0,.string ⟨#[]⟩] 139);have H9:=hid z2;have H7:=hid (fun W (T:Turned (fun q=>q=w.heap.size+1+1) (((w.alloc (.cells #[.int .i64 ar,.int .i64 sl,.int .i64 rg,lv] 104)).alloc (.cells #[.string sComp,.int .i64 s.a,.int .i64 s.b,.int .i64 s.c,.int .i64 s.n,.string s.name] 139)).alloc (.cells #[.string sComp,.int .i64 i,.int .i64 0,.int .i64 0,.int .i64 0,.string ⟨#[]⟩] 139)) W)=>(T.block _ (zL z1) (by omega)).trans z1);have HK:=hid (fun W (T:Turned (fun q=>q=w.heap.size+1+1) (((w.alloc (.cells #[.int .i64 ar,.int .i64 sl,.int .i64 rg,lv] 104)).alloc (.cells #[.string sComp,.int .i64 s.a,.int .i64 s.b,.int .i64 s.c,.int .i64 s.n,.string s.name] 139)).alloc (.cells #[.string sComp,.int .i64 i,.int .i64 0,.int .i64 0,.int .i64 0,.string ⟨#[]⟩] 139)) W)=>(T.block kb (Qo hkl T0.size) (by omega)).trans ((T0.block kb hkl (fun f=>f)).trans hb));have HT0:=hid T0;have HKL:=hid hkl;have HKB:=hid hk;have HB8:=hid hb8;rw [hop];clear T0 z0 z1 z2 hb hkl hk hs hb8;go_enter Try.func149,Try.ntmps149
 go_wp2_with fail
 refine wp_region_k [63,64,65,66,67,68,69,70,71,72,73] [9,11,13] [] (fun dd vv=>(match dd with | 63=>vv = .pointer (some ⟨w.heap.size+1,5,none⟩) | 64=>vv = .string s.name | 65=>vv = .pointer (some ⟨w.heap.size+1,2,none⟩) | 66=>vv = .int .i64 s.b | 67=>vv = .pointer (some ⟨kb,0,none⟩) | 68=>vv = .pointer (some ⟨kb,0,none⟩) | 69=>vv = .pointer (some ⟨kb,0,none⟩) | 70=>vv = .int .i64 k | 71=>vv = .pointer (some ⟨w.heap.size+1+1,5,none⟩) | 72=>vv = .pointer (some ⟨w.heap.size+1+1,2,none⟩) | 73=>vv = .pointer (some ⟨w.heap.size+1+1,3,none⟩) | _=>True:Prop)) (BoxR (w.heap.size+1+1) 139 [.string sComp,.int .i64 i,.int .i64 0,.int .i64 0,.int .i64 0,.string ⟨#[]⟩] [.string sComp,.int .i64 i,.int .i64 s.b,.int .i64 k,.int .i64 0,.string s.name] [(9,5),(11,2),(13,3)] (((w.alloc (.cells #[.int .i64 ar,.int .i64 sl,.int .i64 rg,lv] 104)).alloc (.cells #[.string sComp,.int .i64 s.a,.int .i64 s.b,.int .i64 s.c,.int .i64 s.n,.string s.name] 139)).alloc (.cells #[.string sComp,.int .i64 i,.int .i64 0,.int .i64 0,.int .i64 0,.string ⟨#[]⟩] 139))) (by kernel_rfl) rfl (by kernel_rfl) (by kernel_rfl) (fun w h=>BoxR.start H9.out h) (fun hs w w' h ht=>h.turned0 ht) ?hs ?hQ
 case hs=>
  refine ⟨?s0,?s1,?s2,?s3,?s4,?s5,?s6,?s7,?s8,?s9,?s10,?s11,?s12,?s13,trivial⟩
  case s0=>refine fun hs hl=>zG [] [7] fun ac W hT hI hO=>?_;simp only [execOp,Act.eval,hO 7 (by simp)];go_simp;try exact tq
  case s1=>refine fun hs hl=>zG [63] [] fun ac W hT hI hO=>?_;have h63:_=_:=hI 63 (by simp);obtain ⟨e0,e1,e2,e3,e4,e5⟩:=cells6 (H7.out W hT.t);simp only [execOp,Act.eval,h63];go_simp;try exact tq
  case s2=>refine fun hs hl=>zG [] [7] fun ac W hT hI hO=>?_;simp only [execOp,Act.eval,hO 7 (by simp)];go_simp;try exact tq
  case s3=>refine fun hs hl=>zG [65] [] fun ac W hT hI hO=>?_;have h65:_=_:=hI 65 (by simp);obtain ⟨e0,e1,e2,e3,e4,e5⟩:=cells6 (H7.out W hT.t);simp only [execOp,Act.eval,h65];go_simp;try exact tq
  case s4=>refine fun hs hl=>zG [] [0] fun ac W hT hI hO=>?_;simp only [execOp,Act.eval,hO 0 (by simp)];go_simp;try exact tq
  case s5=>refine fun hs hl=>zG [67] [] fun ac W hT hI hO=>?_;have h67:_=_:=hI 67 (by simp);simp only [execOp,Act.eval,h67];go_simp;try exact tq
  case s6=>refine fun hs hl=>zG [68] [] fun ac W hT hI hO=>?_;have h68:_=_:=hI 68 (by simp);simp only [execOp,Act.eval,h68];go_simp;try exact tq
  case s7=>refine fun hs hl=>zG [69] [] fun ac W hT hI hO=>?_;have h69:_=_:=hI 69 (by simp);obtain ⟨k0,k1⟩:=cells2 (HK.out W hT.t);simp only [execOp,Act.eval,h69];go_simp;try exact tq
  case s8=>refine fun hs hl=>zG [] [9] fun ac W hT hI hO=>?_;simp only [execOp,Act.eval,hO 9 (by simp)];go_simp;try exact tq
  case s9=>
   refine fun hs hno hl=>zG [71,64] [] fun ac W hT hI hO=>?_;have h71:_=_:=hI 71 (by simp);have h64:_=_:=hI 64 (by simp);show Brings _ (fun vv w'=>BoxR (w.heap.size+1+1) 139 [.string sComp,.int .i64 i,.int .i64 0,.int .i64 0,.int .i64 0,.string ⟨#[]⟩] [.string sComp,.int .i64 i,.int .i64 s.b,.int .i64 k,.int .i64 0,.string s.name] [(9,5),(11,2),(13,3)] (((w.alloc (.cells #[.int .i64 ar,.int .i64 sl,.int .i64 rg,lv] 104)).alloc (.cells #[.string sComp,.int .i64 s.a,.int .i64 s.b,.int .i64 s.c,.int .i64 s.n,.string s.name] 139)).alloc (.cells #[.string sComp,.int .i64 i,.int .i64 0,.int .i64 0,.int .i64 0,.string ⟨#[]⟩] 139)) (hs++[(9,vv)]) w') _;obtain ⟨⟨z,hz⟩,hf⟩:=hT.at (c:=5) (by simp);simp only [execOp,Act.eval,h71,h64];go_simp;exact hT.store (by kernel_rfl) (by simp) (by simp) rfl
  case s10=>refine fun hs hl=>zG [] [9] fun ac W hT hI hO=>?_;simp only [execOp,Act.eval,hO 9 (by simp)];go_simp;try exact tq
  case s11=>
   refine fun hs hno hl=>zG [72,66] [] fun ac W hT hI hO=>?_;have h72:_=_:=hI 72 (by simp);have h66:_=_:=hI 66 (by simp);show Brings _ (fun vv w'=>BoxR (w.heap.size+1+1) 139 [.string sComp,.int .i64 i,.int .i64 0,.int .i64 0,.int .i64 0,.string ⟨#[]⟩] [.string sComp,.int .i64 i,.int .i64 s.b,.int .i64 k,.int .i64 0,.string s.name] [(9,5),(11,2),(13,3)] (((w.alloc (.cells #[.int .i64 ar,.int .i64 sl,.int .i64 rg,lv] 104)).alloc (.cells #[.string sComp,.int .i64 s.a,.int .i64 s.b,.int .i64 s.c,.int .i64 s.n,.string s.name] 139)).alloc (.cells #[.string sComp,.int .i64 i,.int .i64 0,.int .i64 0,.int .i64 0,.string ⟨#[]⟩] 139)) (hs++[(11,vv)]) w') _;obtain ⟨⟨z,hz⟩,hf⟩:=hT.at (c:=2) (by simp);simp only [execOp,Act.eval,h72,h66];go_simp;exact hT.store (by kernel_rfl) (by simp) (by simp) rfl
  case s12=>refine fun hs hl=>zG [] [9] fun ac W hT hI hO=>?_;simp only [execOp,Act.eval,hO 9 (by simp)];go_simp;try exact tq
  case s13=>
   refine fun hs hno hl=>zG [73,70] [] fun ac W hT hI hO=>?_;have h73:_=_:=hI 73 (by simp);have h70:_=_:=hI 70 (by simp);show Brings _ (fun vv w'=>BoxR (w.heap.size+1+1) 139 [.string sComp,.int .i64 i,.int .i64 0,.int .i64 0,.int .i64 0,.string ⟨#[]⟩] [.string sComp,.int .i64 i,.int .i64 s.b,.int .i64 k,.int .i64 0,.string s.name] [(9,5),(11,2),(13,3)] (((w.alloc (.cells #[.int .i64 ar,.int .i64 sl,.int .i64 rg,lv] 104)).alloc (.cells #[.string sComp,.int .i64 s.a,.int .i64 s.b,.int .i64 s.c,.int .i64 s.n,.string s.name] 139)).alloc (.cells #[.string sComp,.int .i64 i,.int .i64 0,.int .i64 0,.int .i64 0,.string ⟨#[]⟩] 139)) (hs++[(13,vv)]) w') _;obtain ⟨⟨z,hz⟩,hf⟩:=hT.at (c:=3) (by simp);simp only [execOp,Act.eval,h73,h70];go_simp;exact hT.store (by kernel_rfl) (by simp) (by simp) rfl
 case hQ=>
  intro hs3 vs3 w3 hall huniq hR hV;simp only [Qq,List.foldl_nil,Qk,Qs,Qr];have hnew:=hR.done rfl (by intro a ha;simp only [Qw,Ql,or_false] at ha;rcases ha with rfl | rfl | rfl <;> exact hall _ (by simp)) (by intro c hc hn;simp only [QB,List.length_nil] at hc;simp only [Qx,List.map_nil,Qw,Ql,or_false,not_or] at hn;have hcs:c=0∨c=1∨c=2∨c=3∨c=4∨c=5:=(by omega);rcases hcs with rfl | rfl | rfl | rfl | rfl | rfl <;> first | rfl | omega);have H93:=hid hnew;have H73:=hid (H7.out w3 hR.t);have HK3:=hid (HK.out w3 hR.t);have HT3:=hid hR.t;obtain ⟨e0,e1,e2,e3,e4,e5⟩:=cells6 H73.out;clear hR hV hall huniq hnew
  go_wp2_with fail
  clear e0 e1 e2 e3 e4 e5;have HS7:=hid (fun W (T:Turned (fun q=>q=kb) w3 W)=>(T.block _ (zL H73.out) (by have:=HKL.out;omega)).trans H73.out);refine wp_region_k [82,83,84,85,86,87,88,89,90] [9] [] (fun dd vv=>(match dd with | 82=>vv = .pointer (some ⟨kb,0,none⟩) | 83=>vv = .pointer (some ⟨kb,0,none⟩) | 84=>vv = .pointer (some ⟨kb,0,none⟩) | 85=>vv = .int .i64 k | 86=>vv = .pointer (some ⟨w.heap.size+1,2,none⟩) | 87=>vv = .int .i64 s.b | 88=>vv = .int .i64 (k+s.b) | 89=>vv = .pointer (some ⟨kb,0,none⟩) | 90=>vv = .pointer (some ⟨kb,0,none⟩) | _=>True:Prop)) (BoxR (kb) 178 [.int .i64 k,.map (some mb)] [.int .i64 (k+s.b),.map (some mb)] [(9,0)] w3) (by kernel_rfl) rfl (by kernel_rfl) (by kernel_rfl) (fun w h=>BoxR.start HK3.out h) (fun hs w w' h ht=>h.turned0 ht) ?hs ?hQ
  case hs=>
   refine ⟨?s0,?s1,?s2,?s3,?s4,?s5,?s6,?s7,?s8,?s9,trivial⟩
   case s0=>refine fun hs hl=>zG [] [0] fun ac W hT hI hO=>?_;simp only [execOp,Act.eval,hO 0 (by simp)];go_simp;try exact tq
   case s1=>refine fun hs hl=>zG [82] [] fun ac W hT hI hO=>?_;have h82:_=_:=hI 82 (by simp);simp only [execOp,Act.eval,h82];go_simp;try exact tq
   case s2=>refine fun hs hl=>zG [83] [] fun ac W hT hI hO=>?_;have h83:_=_:=hI 83 (by simp);simp only [execOp,Act.eval,h83];go_simp;try exact tq
   case s3=>
    refine fun hs hl=>zG [84] [] fun ac W hT hI hO=>?_;have h84:_=_:=hI 84 (by simp);have k0:=hT.old (c:=0) rfl (fun j hj v=>by simp only [Qw,Ql,or_false,Prod.mk.injEq] at hj;obtain ⟨rfl,_⟩:=hj;exact hl 9 30 v (by kernel_rfl));simp only [execOp,Act.eval,h84];go_simp
    try exact tq
   case s4=>refine fun hs hl=>zG [] [7] fun ac W hT hI hO=>?_;simp only [execOp,Act.eval,hO 7 (by simp)];go_simp;try exact tq
   case s5=>refine fun hs hl=>zG [86] [] fun ac W hT hI hO=>?_;have h86:_=_:=hI 86 (by simp);obtain ⟨e0,e1,e2,e3,e4,e5⟩:=cells6 (HS7.out W hT.t);simp only [execOp,Act.eval,h86];go_simp;try exact tq
   case s6=>refine fun hs hl=>zG [85,87] [] fun ac W hT hI hO=>?_;have h85:_=_:=hI 85 (by simp);have h87:_=_:=hI 87 (by simp);have hw:IntKind.i64.wrap (k+s.b)=k+s.b:=wrapI (by have:=HKB.out;have:=HB8.out;omega) (by have:=HKB.out;have:=HB8.out;omega);simp only [execOp,Act.eval,h85,h87];go_simp;try exact tq
   case s7=>refine fun hs hl=>zG [82] [] fun ac W hT hI hO=>?_;have h82:_=_:=hI 82 (by simp);simp only [execOp,Act.eval,h82];go_simp;try exact tq
   case s8=>refine fun hs hl=>zG [89] [] fun ac W hT hI hO=>?_;have h89:_=_:=hI 89 (by simp);simp only [execOp,Act.eval,h89];go_simp;try exact tq
   case s9=>
    refine fun hs hno hl=>zG [90,88] [] fun ac W hT hI hO=>?_;have h90:_=_:=hI 90 (by simp);have h88:_=_:=hI 88 (by simp);show Brings _ (fun vv w'=>BoxR (kb) 178 [.int .i64 k,.map (some mb)] [.int .i64 (k+s.b),.map (some mb)] [(9,0)] w3 (hs++[(9,vv)]) w') _;obtain ⟨⟨z,hz⟩,hf⟩:=hT.at (c:=0) (by simp);simp only [execOp,Act.eval,h90,h88];go_simp;exact hT.store (by kernel_rfl) (by simp) (by simp) rfl
  case hQ=>
   intro hs4 vs4 w4 hall huniq hR hV;simp only [Qq,List.foldl_nil,Qk,Qs,Qr];have hnew:=hR.done rfl (by intro a ha;simp only [Qw,Ql,or_false] at ha;rcases ha with rfl <;> exact hall _ (by simp)) (by intro c hc hn;simp only [QB,List.length_nil] at hc;simp only [Qx,List.map_nil,Qw,Ql,or_false,not_or] at hn;have hcs:c=0∨c=1∨c=2∨c=3∨c=4∨c=5:=(by omega);rcases hcs with rfl | rfl | rfl | rfl | rfl | rfl <;> first | rfl | omega);have H74:=hid ((hR.t.block _ (zL H73.out) (by have:=HKL.out;omega)).trans H73.out);have H94:=hid ((hR.t.block _ (zL H93.out) (by have:=HKL.out;omega)).trans H93.out);have HK4:=hid hnew;have HT4:=hid hR.t;clear hR hV hall huniq hnew;obtain ⟨a0,a1,a2,a3,a4,a5⟩:=cells6 H74.out;obtain ⟨b0,b1,b2,b3,b4,b5⟩:=cells6 H94.out;have HQ:=hid hne;clear hne
   go_wp2_with (go_at_call 63;exfalso;exact HQ.out ⟨‹_›,‹_›,‹_›⟩)
   all_goals
    go_ret;refine ⟨rfl,HK4.out,?_⟩;have hz:=HKL.out;have T7:=HT0.out.step HT3.out (fun q hq e=>by omega);exact (T7.mono (fun _ _ f=>f.elim)).trans HT4.out
theorem one_comp {kb mb:Nat} {k ar sl rg i:Int} {lv:Value} {s:Stp} {w:World} (hb:w.heap[kb]? = some (.cells #[.int .i64 k,.map (some mb)] 178 (0,0))) (hk:0≤k∧k≤30000) (hb8:1≤s.b∧s.b≤8) (hs:stOk s) (hop:s.op=sComp) :
 Calls Try.prog 149 #[.pointer (some ⟨kb,0,none⟩),.agg #[.int .i64 ar,.int .i64 sl,.int .i64 rg,lv],.int .i64 i,.agg #[.string s.op,.int .i64 s.a,.int .i64 s.b,.int .i64 s.c,.int .i64 s.n,.string s.name]] w fun e w'=>e = .returned (.bool (stEqB s ⟨sComp,i,s.b,k,0,s.name⟩ && goodNameB s.name))∧w'.heap[kb]? = some (.cells #[.int .i64 (k+s.b),.map (some mb)] 178 (0,0))∧Turned (fun q=>q=kb) w w':=by
 by_cases hq:s.a=i∧s.c=k∧s.n=0
 · rw [show stEqB s ⟨sComp,i,s.b,k,0,s.name⟩=true from stEqB_iff.2 ⟨hop,hq.1,rfl,hq.2.1,hq.2.2,rfl⟩,Bool.true_and]
   exact one_compT hb hk hb8 hs hop hq.1 hq.2.1 hq.2.2
 · have:stEqB s ⟨sComp,i,s.b,k,0,s.name⟩=false:=by
    cases h:stEqB s ⟨sComp,i,s.b,k,0,s.name⟩ with
    | false=>rfl
    | true=>obtain ⟨_,h1,_,h2,h3,_⟩:=stEqB_iff.1 h;exact absurd ⟨h1,h2,h3⟩ hq
   rw [this,Bool.false_and];exact one_compF hb hk hb8 hs hop hq
end Go.Proofs.Ytoihjobdfjajfaa
namespace Go.Proofs.Ytoihjobdfjajfaa
open Go.RowKit Go.Maps
structure MapR (kt:TypeId) (mb op n n':Nat) (f f':Int→Option Value) (w0:World) (hs:Hist) (W:World):Prop where
 t:Turned (fun k=>k=mb) w0 W
 old:(∀ v,(op,v)∉hs)→IMap Try.prog kt W mb n f
 new:∀ v,(op,v)∈hs→IMap Try.prog kt W mb n' f'
section
variable {kt:TypeId} {mb op n n':Nat} {f f':Int→Option Value} {w0 W W':World} {hs:Hist}
theorem MapR.start (h:IMap Try.prog kt w0 mb n f) (T:Turned zN w0 W):MapR kt mb op n n' f f' w0 [] W:=
 ⟨T.mono (fun _ _ f=>f.elim),fun _=>h.turned T (fun f=>f),fun v hm=>(Ql hm).elim⟩
theorem MapR.turned0 (h:MapR kt mb op n n' f f' w0 hs W) (T:Turned zN W W'):MapR kt mb op n n' f f' w0 hs W':=
 ⟨h.t.trans (T.mono (fun _ _ f=>f.elim)),fun hn=>(h.old hn).turned T (fun f=>f),fun v hv=>(h.new v hv).turned T (fun f=>f)⟩
theorem MapR.put (h:MapR kt mb op n n' f f' w0 hs W) {x:Value} (T:Turned (· = mb) W W') (hm:IMap Try.prog kt W' mb n' f'):MapR kt mb op n n' f f' w0 (hs++[(op,x)]) W':=
 ⟨h.t.step T (fun i hi e=>e),fun hn=>absurd (Qj _ (List.mem_singleton.2 rfl)) (hn x),fun v hv=>hm⟩
end
end Go.Proofs.Ytoihjobdfjajfaa

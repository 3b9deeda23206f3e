/- Merged texts: MA2, MA3, MA4, MA5, MA6, MA7, MA8, MB1, MB2, MB3, MB4, KN1, MN2, MB5, MB6, MB7, KN2, LB, LB2, RI, BB1, DW1, DW3, DW4, MC1. -/
import Derived.Test.YtoihjobdfjajfaaKo4
import Derived.RangeFuncWrites
import Derived.RangeFuncLeaves
import Derived.RangeFuncCalls
import Derived.Shelf.Abstract
import Derived.OwnWalkIn
import Derived.TacticsInMore
import Derived.LoopNIn
import Derived.LoopIn
import Derived.RangeFuncNested
import Derived.OrdersIn
set_option linter.unusedVariables false
set_option linter.unusedSimpArgs false
open List renaming getElem?_eq_getElem → Qa, mem_cons_of_mem → Qb, mem_append_left → Qc, mem_cons_self → Qe, mem_of_getElem? → Qf, getElem?_eq_some_iff → Qg, eq_nil_of_length_eq_zero → Qh, length_append → Qi, mem_append_right → Qj, setIfInBounds_toArray → Qk, not_mem_nil → Ql, mem_append → Qn, getElem?_map → Qp, foldl_cons → Qq, set_cons_succ → Qr, set_cons_zero → Qs, all_eq_true → Qt, length_map → Qu, mem_cons → Qw, map_cons → Qx, length_cons → QB
open Bool renaming and_eq_true → Qd
open Nat renaming le_refl → Qm, lt_of_lt_of_le → Qo, lt_irrefl → Qy, lt_of_le_of_lt → Qz, le_trans → QA
open Array renaming getElem?_toList → Qv, getElem?_eq_some_iff → QC
set_option maxHeartbeats 12800000
namespace Go.Proofs.Ytoihjobdfjajfaa
open Lib (hid)
open Go.RowKit Go.Maps
def MRQ (mk:Tm.MS→World→Prop) (st:Tm.MS):Tm.MR→Ending→World→Prop
 | .go st',e,w'=>e = .returned (.tuple #[.bool true,.int .i64 0])∧mk st' w'
 | .stop E m',e,w'=>∃ (b:Bool) (st2:Tm.MS),e = .returned (.tuple #[.bool b,.int .i64 E])∧(b=true→¬ E=0)∧st2.m=m'∧(∃ a,st2.l=a++st.l)∧mk st2 w'
def tieB:Tm.MR→Bool
 | .go _=>true
 | .stop E _=>decide (¬ E=0)
def tieE:Tm.MR→Int
 | .go _=>0
 | .stop E _=>E
theorem sameB_unbare (a b:LT):sameB a b=sameB a.bare b.bare:=by
 unfold sameB;rw [goodB_bare,goodB_bare];congr 2;rw [Bool.eq_iff_iff,Tm.same_iff,Tm.same_iff,Tm.bare_unit,Tm.bare_unit]
section
variable {N bb mb gr gs R S:Nat} {bx:List (Nat × Obj)} {ts:List LT} {w1 W W' W0:World} {st st':Tm.MS} {x t:LT}
set_option maxRecDepth 100000 in
theorem tie178 (hN:N=w1.heap.size) (h:MK N bb mb gr gs R S bx ts w1 st W) (hx:x.In (fun _=>True) W) (sx:slim x) (gx:Tm.ownB st.m x.bare=true) (ht:∀ (p:Nat→Prop) (w:World),t.In p w) (sl:slim t) :
 Calls Try.prog 178 #[.pointer (some ⟨mb,0,none⟩),.agg #[.int .i64 x.kind,.int .i64 x.n,.string x.name,.slice x.at_.1 x.args.length x.at_.2],.agg #[.int .i64 t.kind,.int .i64 t.n,.string t.name,.slice t.at_.1 t.args.length t.at_.2]] W (fun e w'=>MRQ (MK N bb mb gr gs R S bx ts w1) st (Tm.tieM st x.bare t.bare) e w'∧e = .returned (.tuple #[.bool (tieB (Tm.tieM st x.bare t.bare)),.int .i64 (tieE (Tm.tieM st x.bare t.bare))])):=by
 have h2:=twoBox W (.cells #[.int .i64 x.kind,.int .i64 x.n,.string x.name,.slice x.at_.1 x.args.length x.at_.2] 27) (.cells #[.int .i64 t.kind,.int .i64 t.n,.string t.name,.slice t.at_.1 t.args.length t.at_.2] 27);obtain ⟨w2,hw2⟩:∃ z,z=(W.alloc (.cells #[.int .i64 x.kind,.int .i64 x.n,.string x.name,.slice x.at_.1 x.args.length x.at_.2] 27)).alloc (.cells #[.int .i64 t.kind,.int .i64 t.n,.string t.name,.slice t.at_.1 t.args.length t.at_.2] 27):=⟨_,rfl⟩;rw [←hw2] at h2;have hm2:=h.turned0 h2.1
 have hmb:=fun W' (T:Turned zN w2 W')=>(hm2.turned0 T).mbox
 have hbx:∀ W',Turned zN w2 W'→W'.heap[W.heap.size]? = some (.cells #[.int .i64 x.kind,.int .i64 x.n,.string x.name,.slice x.at_.1 x.args.length x.at_.2] 27 (0,0))∧W'.heap[W.heap.size+1]? = some (.cells #[.int .i64 t.kind,.int .i64 t.n,.string t.name,.slice t.at_.1 t.args.length t.at_.2] 27 (0,0)):=fun W' hW=>⟨(hW.block _ (by have:=h2.2.1;omega) (fun f=>f)).trans h2.2.2.1,(hW.block _ (by have:=h2.2.1;omega) (fun f=>f)).trans h2.2.2.2⟩
 obtain ⟨MR,hMR⟩:∃ z,z=Tm.tieM st x.bare t.bare:=⟨_,rfl⟩;rw [←hMR];have HMR:=hid hMR;clear hMR;have HN:=hid hN;have HMB:=hid hmb;have HBX:=hid hbx;have HW2:=hid hw2;have HM2:=hid hm2;have HH:=hid h;have HT2:=hid h2.1;have HX:=hid (hx.turned0 h2.1);have HSX:=hid sx;have HSL:=hid sl;have HTI:=hid ht;obtain ⟨k0,k1,k2,k3,_⟩:=cells4 (hbx w2 (Turned.refl _ _)).1;obtain ⟨m0,m1,m2,m3,_⟩:=cells4 (hbx w2 (Turned.refl _ _)).2;obtain ⟨b0,b1,b2,_⟩:=rec3b (hmb w2 (Turned.refl _ _));clear hm2 hmb hbx h2 hw2 h hx sx sl ht hN
 by_cases hk:x.kind=0
 · have bx0:(x.kind == 0)=true:=by simp [hk]
   obtain ⟨n0,n1,n2⟩:=Tm.ownB_var gx (by rw [Tm.bare_kind];exact hk);have hms:=HH.out.most;rw [Tm.bare_n] at n0 n1
   have hi64:I64 x.n:=by unfold I64;omega
   have hset:Calls Try.prog 88 #[.pointer (some ⟨bb,0,none⟩),.int .i64 x.n,.agg #[.int .i64 t.kind,.int .i64 t.n,.string t.name,.slice t.at_.1 t.args.length t.at_.2]] w2.drew fun e w'=>e = .returned (.int .i64 (Tm.setE st.m st.l x.n t.bare))∧MK N bb mb gr gs R S bx ts w1 ⟨st.m,if Tm.setE st.m st.l x.n t.bare=0 then (x.n,t.bare) :: st.l else st.l,st.rs,st.ss⟩ w':=by
    obtain ⟨q,O,l,h3,hl,hq,hts,hk⟩:=MK.call HN.out (HM2.out.turned0 ((Turned.refl _ w2).drew));have:=setO88 h3 (HTI.out q _) HSL.out x.n hi64;rw [LT.val_eq,hl] at this;refine this.mono ?_
    rintro e w' ⟨rfl,l',hl',ha⟩
    have:=hk _ l' w' ha;rw [hl'] at this;exact ⟨rfl,this⟩
   obtain ⟨E,hE⟩:∃ z,z=Tm.setE st.m st.l x.n t.bare:=⟨_,rfl⟩
   have hti:Tm.tieM st x.bare t.bare=(if E=0 then .go ⟨st.m,(x.n,t.bare) :: st.l,st.rs,st.ss⟩ else .stop E st.m):=by
    unfold Tm.tieM;rw [if_pos (by rw [Tm.bare_kind];exact hk),Tm.bare_n,hE]
   rw [←hE] at hset;have HTM:=hid (HMR.out.trans hti);have HSET:=hid hset;clear hk n0 n1 n2 hms hi64 hset hti hE gx;go_enter Try.func178,Try.ntmps178
   go_wp2_with fail
   rw [←HW2.out]
   go_wp2_with fail
   refine region_tail 7 (by kernel_rfl) (by kernel_rfl) ?_;simp only [List.take_succ_cons,List.take_zero,List.drop_succ_cons,List.drop_zero]
   repeat still_step
   refine wpStill_nil ?_
   go_wp2_with (go_at_call 88;(with_reducible refine HSET.out.mono ?_);rintro e w5 ⟨rfl,h5⟩;have H5:=hid h5;clear h5)
   go_ret2
   rw [HTM.out];have h5:=H5.out
   by_cases hE:E=0
   · subst hE
     rw [if_pos rfl] at h5 ⊢;exact ⟨⟨rfl,h5⟩,rfl⟩
   · rw [if_neg hE] at h5 ⊢
     exact ⟨⟨true,⟨st.m,st.l,st.rs,st.ss⟩,rfl,fun _=>hE,rfl,⟨[],rfl⟩,h5⟩,by simp [tieB,tieE,hE]⟩
 · have bx0:(x.kind == 0)=false:=by simp [hk]
   obtain ⟨b,hb⟩:∃ z,z=sameB x.bare t.bare:=⟨_,rfl⟩
   have hti:Tm.tieM st x.bare t.bare=(if b=true then .go st else .stop 0 st.m):=by
    unfold Tm.tieM;rw [if_neg (by rw [Tm.bare_kind];exact hk),hb]
   have hsame:Calls Try.prog 52 #[.agg #[.int .i64 x.kind,.int .i64 x.n,.string x.name,.slice x.at_.1 x.args.length x.at_.2],.agg #[.int .i64 t.kind,.int .i64 t.n,.string t.name,.slice t.at_.1 t.args.length t.at_.2]] w2 fun e w'=>e = .returned (.bool b)∧Turned zN w2 w':=
    sameVal' (p:=fun _=>True) HX.out (HTI.out _ _) HSX.out HSL.out (by rw [hb];exact sameB_unbare x t)
   have HTM:=hid (HMR.out.trans hti);have HSM:=hid hsame;clear hk hti hsame hb gx
   cases b with
   | true=>
    go_enter Try.func178,Try.ntmps178
    go_wp2_with (go_at_call 52;rw [←HW2.out];(with_reducible refine HSM.out.mono ?_);rintro e w5 ⟨rfl,T5⟩;have HT5:=hid T5;clear T5)
    go_ret2
    rw [HTM.out];exact ⟨⟨rfl,HM2.out.turned0 HT5.out⟩,rfl⟩
   | false=>
    go_enter Try.func178,Try.ntmps178
    go_wp2_with (go_at_call 52;rw [←HW2.out];(with_reducible refine HSM.out.mono ?_);rintro e w5 ⟨rfl,T5⟩;have HT5:=hid T5;clear T5)
    go_ret2
    rw [HTM.out];exact ⟨⟨false,st,rfl,(fun e=>by cases e),rfl,⟨[],rfl⟩,HM2.out.turned0 HT5.out⟩,rfl⟩
end
end Go.Proofs.Ytoihjobdfjajfaa
namespace Go.Proofs.Ytoihjobdfjajfaa
open Go.RowKit Go.Maps
theorem flat_take (l:List LT) (c:Nat) (hc:c≤l.length):(l.take c).flatMap LT.cells=(l.flatMap LT.cells).take (c * 4)∧(l.drop c).flatMap LT.cells=(l.flatMap LT.cells).drop (c * 4):=by
 have h:=List.take_append_drop c l
 have hl:((l.take c).flatMap LT.cells).length=c * 4:=by rw [LT.flat_length,List.length_take];omega
 constructor
 · conv=>rhs;rw [←h,List.flatMap_append]
   rw [List.take_left' hl]
 · conv=>rhs;rw [←h,List.flatMap_append]
   rw [List.drop_left' hl]
def putL (rs xs:List LT) (c:Nat):List LT:=rs.take c++(xs++rs.drop (c+xs.length))
theorem putL_flat {rs xs:List LT} {c:Nat} (h:c+xs.length≤rs.length):(putL rs xs c).flatMap LT.cells=(rs.flatMap LT.cells).take (c * 4)++(xs.flatMap LT.cells++(rs.flatMap LT.cells).drop (c * 4+(xs.flatMap LT.cells).length)):=by
 unfold putL;rw [List.flatMap_append,List.flatMap_append,(flat_take rs c (by omega)).1,(flat_take rs (c+xs.length) h).2,LT.flat_length,Nat.add_mul]
theorem putL_bare {rs xs:List LT} {c:Nat}:(putL rs xs c).map Tm.bare=Tm.putAt (rs.map Tm.bare) c (xs.map Tm.bare):=by
 unfold putL Tm.putAt;rw [List.map_append,List.map_append,List.map_take,List.map_drop,Qu]
theorem info27s:(Try.prog.info? 27).map (·.size)=some 4:=by kernel_rfl
theorem Row.copied {w:World} {g R c cap:Nat} {a:Addr} {rs xs:List LT} (h:Row w 27 4 (.slice (some ⟨g,0,none⟩) R R) R (rs.flatMap LT.cells)) (hc:c+xs.length≤R) (hs:∀ j v,(xs.flatMap LT.cells)[j]? = some v→w.cell? (a.add j)=some v) :
 ∃ w',(∀ ty,(Builtin.copy_ #[22,22] ty #[.slice (some ⟨g,c * 4,none⟩) (R - c) (R - c),.slice (some a) xs.length cap]).run Try.prog w = .ok (.int .i64 xs.length) w')∧Row w' 27 4 (.slice (some ⟨g,0,none⟩) R R) R ((putL rs xs c).flatMap LT.cells)∧Turned (fun k=>k=g) w w':=by
 have hlen:=h.1;rw [LT.flat_length] at hlen
 rcases h.2 with ⟨he,h0⟩ | ⟨g',cap',cur,he,hg,h1,h2,h3,h4⟩
 · cases he
 injection he with e1 _ e3
 injection e1 with e1
 injection e1 with e1
 subst e1 e3;have hxl:(xs.flatMap LT.cells).length=xs.length * 4:=LT.flat_length xs;have hmin:Nat.min xs.length (R - c)=xs.length:=Nat.min_eq_left (by omega)
 have hrun:=fun ty=>run_copy_n (P:=Try.prog) w 22 22 ty 27 4 g (c * 4) (R - c) (R - c) a xs.length cap cur 27 (xs.flatMap LT.cells) Try.underlying22 info27s hg (by rw [hmin,hxl]) hs (by rw [hxl];omega) (fun v hv=>by
  obtain ⟨y,_,hy⟩:=List.mem_flatMap.1 hv
  exact LT.cells_one y v hy)
 rw [hmin] at hrun;refine ⟨_,hrun,⟨by rw [LT.flat_length];unfold putL;rw [Qi,Qi,List.length_take,List.length_drop];omega,.inr ⟨g,R,_,rfl,setRow_heap w g cur _ 27 _ hg,Qm _,h2,?_,?_⟩⟩,⟨rfl,rfl,rfl,by simp [World.setRow],fun k _ hk=>setRow_other w g k _ hk⟩⟩
 · have:cur.toList.length=cur.size:=by simp
   simp only [List.size_toArray,Qi,List.length_take,List.length_drop,hxl,this];omega
 · have hcl:cur.toList.length=cur.size:=by simp
   have hX:=List.take_append_drop (R * 4) cur.toList;rw [h4] at hX;have hXl:(rs.flatMap LT.cells).length=R * 4:=h.1;rw [putL_flat (by omega)]
   have t1:cur.toList.take (c * 4)=(rs.flatMap LT.cells).take (c * 4):=by
    conv=>lhs;rw [←hX]
    rw [List.take_append_of_le_length (by omega)]
   have t2:cur.toList.drop (c * 4+(xs.flatMap LT.cells).length)=(rs.flatMap LT.cells).drop (c * 4+(xs.flatMap LT.cells).length)++cur.toList.drop (R * 4):=by
    conv=>lhs;rw [←hX]
    rw [List.drop_append_of_le_length (by omega)]
   simp only [];rw [t1,t2,List.append_assoc,←List.append_assoc (xs.flatMap LT.cells),←List.append_assoc];refine List.take_left' ?_;simp only [Qi,List.length_take,List.length_drop,hXl,hxl];omega
section
variable {N bb mb gr gs R S:Nat} {bx:List (Nat × Obj)} {ts:List LT} {w1 W W' W0:World} {st st':Tm.MS} {x t:LT}
theorem MK.copyArgs (hN:N=w1.heap.size) (h:MK N bb mb gr gs R S bx ts w1 st W) (hx:x∈ts) {c:Nat} (hc:c+x.args.length≤R) (h0:0 < x.args.length) :
 ∃ ad w',x.at_.1=some ad∧(∀ ty,(Builtin.copy_ #[22,22] ty #[.slice (some ⟨gr,c * 4,none⟩) (R - c) (R - c),.slice (some ad) x.args.length x.at_.2]).run Try.prog W = .ok (.int .i64 x.args.length) w')∧MK N bb mb gr gs R S bx ts w1 ⟨st.m,st.l,Tm.putAt st.rs c x.bare.args,st.ss⟩ w':=by
 obtain ⟨q,l,O,rs,ss,h1,h2,h3,h4,h5,h6,⟨r1,r2,r3⟩,⟨s1,s2,s3⟩,h9,h10,h11,h12⟩:=h;have hxi:=h12 x hx;obtain ⟨b,o,hbo,_,hcells⟩:=hxi.lies (by omega);obtain ⟨w',hrun,hrow,Tq⟩:=r1.copied (xs:=x.args) (a:=⟨b,o,none⟩) (cap:=x.at_.2) hc (fun j v hv=>by rw [Addr.add_lit];exact hcells j v hv);have hgr:=h9 gr (.inr (.inl rfl))
 have up:∀ {y:LT},y.In q W→y.In q w':=fun {y} hy=>LT.In.turned Tq (fun k _ hk e=>hgr.2.2 (e ▸ hk)) (fun _ _ q=>q) y hy
 refine ⟨⟨b,o,none⟩,w',hbo,hrun,q,l,O,putL rs x.args c,ss,h1,h2,h3.turned Tq (fun k hk e=>⟨fun c=>hgr.2.1 (e ▸ c),fun c=>hgr.2.2 (e ▸ c)⟩),h4,h5.step Tq (fun k hk e=>by have:=hgr.1;omega),(Tq.block mb (zL h6) h10.1).trans h6,⟨hrow,by rw [putL_bare,r2,Tm.bare_args,Tm.bares_eq],fun y hy=>?_⟩,⟨s1.turned Tq (fun k hk e=>by simp [Value.ownBlock] at hk;exact h10.2.2 (e.symm.trans hk.symm)),s2,fun y hy=>up (s3 y hy)⟩,h9,h10,fun b hb=>⟨(Tq.block _ (zL (h11 b hb).1) (h11 b hb).2.2.2.1).trans (h11 b hb).1,(h11 b hb).2⟩,fun y hy=>up (h12 y hy)⟩;unfold putL at hy
 rcases Qn.1 hy with hy | hy
 · exact up (r3 y (List.mem_of_mem_take hy))
 · rcases Qn.1 hy with hy | hy
   · exact up ((LT.ins_iff _).1 hxi.args y hy)
   · exact up (r3 y (List.mem_of_mem_drop hy))
end
end Go.Proofs.Ytoihjobdfjajfaa
namespace Go.Proofs.Ytoihjobdfjajfaa
open Lib (hid)
open Go.RowKit Go.Maps
section
variable {N bb mb gr gs R S:Nat} {bx:List (Nat × Obj)} {ts:List LT} {w1 W W' W0:World} {st st':Tm.MS} {x t:LT}
set_option maxRecDepth 100000 in
theorem comp179a {op name:ByteArray} {a n:Int} {b c:Nat} (hN:N=w1.heap.size) (h:MK N bb mb gr gs R S bx ts w1 st W) (hx:x∈ts) (hk:¬ x.kind=0) (hb:1≤b) (hc:c+b≤R) (hR:R≤2000) :
 Calls Try.prog 179 #[.pointer (some ⟨mb,0,none⟩),.agg #[.int .i64 x.kind,.int .i64 x.n,.string x.name,.slice x.at_.1 x.args.length x.at_.2],.agg #[.string op,.int .i64 a,.int .i64 (b:Int),.int .i64 (c:Int),.int .i64 n,.string name]] W (MRQ (MK N bb mb gr gs R S bx ts w1) st (Tm.compM st x.bare ⟨op,a,(b:Int),(c:Int),n,name⟩)):=by
 have h2:=twoBox W (.cells #[.int .i64 x.kind,.int .i64 x.n,.string x.name,.slice x.at_.1 x.args.length x.at_.2] 27) (.cells #[.string op,.int .i64 a,.int .i64 (b:Int),.int .i64 (c:Int),.int .i64 n,.string name] 139);obtain ⟨w2,hw2⟩:∃ z,z=(W.alloc (.cells #[.int .i64 x.kind,.int .i64 x.n,.string x.name,.slice x.at_.1 x.args.length x.at_.2] 27)).alloc (.cells #[.string op,.int .i64 a,.int .i64 (b:Int),.int .i64 (c:Int),.int .i64 n,.string name] 139):=⟨_,rfl⟩;rw [←hw2] at h2;have hm2:=h.turned0 h2.1;have hxl:=(hm2.terms x hx).len
 have hxa:x.args.length≤9223372036854775807:=by have:=hxl.1;have:=hxl.2.1;unfold maxLen at this;omega
 obtain ⟨MR,hMR⟩:∃ z,z=Tm.compM st x.bare ⟨op,a,(b:Int),(c:Int),n,name⟩:=⟨_,rfl⟩
 have hcm:MR=(if x.name=name∧(x.args.length:Int)=(b:Int) then .go ⟨st.m,st.l,Tm.putAt st.rs c x.bare.args,st.ss⟩ else .stop 0 st.m):=by
  rw [hMR];unfold Tm.compM;rw [if_neg (by rw [Tm.bare_kind];exact hk)];simp only [Tm.bare_name,Tm.bare_arity,Int.toNat_natCast]
 rw [←hMR];have HCM:=hid hcm;have HM2:=hid hm2;have HW2:=hid hw2;have HN:=hid hN;have HXT:=hid hx
 have bk:(x.kind != 0)=true:=by simp [hk]
 obtain ⟨k0,k1,k2,k3,_⟩:=cells4 h2.2.2.1;obtain ⟨m0,m1,m2,m3,m4,m5⟩:=cells6 h2.2.2.2;obtain ⟨b0,b1,b2,_⟩:=rec3b hm2.mbox;clear h hm2 hw2 hMR hcm hN hx hk hxl
 by_cases h1:x.name=name
 · have t1:(x.name.toList != name.toList)=false:=by simp [h1]
   have t1':(x.name.toList == name.toList)=true:=by simp [h1]
   by_cases hl:x.args.length=b
   · have t2:((x.args.length:Int) != (b:Int))=false:=by simp [hl]
     have HE:Hid (MR = .go ⟨st.m,st.l,Tm.putAt st.rs c x.bare.args,st.ss⟩):=by show _=_;rw [HCM.out,if_pos ⟨h1,by omega⟩]
     obtain ⟨ad,w',had,hcp,hmk⟩:=MK.copyArgs HN.out (HM2.out.turned0 ((Turned.refl _ w2).drew)) HXT.out (c:=c) (by omega) (by omega);rw [had] at k3;have HMK:=hid hmk;have HAD:=hid had
     have hcr:c≤R:=by omega
     have hcr2:(c:Int)≤(R:Int):=by omega
     have HL:=hid hl;clear h1 hl hmk had h2;go_enter Try.func179,Try.ntmps179
     go_wp2_with fail
     rw [←HW2.out]
     go_wp2_with fail
     refine region_tail 9 (by kernel_rfl) (by kernel_rfl) ?_;simp only [List.take_succ_cons,List.take_zero,List.drop_succ_cons,List.drop_zero]
     repeat still_step
     refine wpStill_nil ?_
     go_wp2_with fail
     go_ret2
     rw [HE.out];exact ⟨rfl,HMK.out⟩
   · have t2:((x.args.length:Int) != (b:Int))=true:=by simp;omega
     have HE:Hid (MR = .stop 0 st.m):=by show _=_;rw [HCM.out,if_neg (fun e=>hl (by omega))]
     clear h1 hl h2;go_enter Try.func179,Try.ntmps179
     go_wp2_with fail
     rw [←HW2.out]
     try go_wp2_with fail
     go_ret2
     rw [HE.out];exact ⟨false,st,rfl,(fun e=>by cases e),rfl,⟨[],rfl⟩,HM2.out⟩
 · have t1:(x.name.toList != name.toList)=true:=by rw [bne,str_neq h1];rfl
   have t1':(x.name.toList == name.toList)=false:=str_neq h1
   have HE:Hid (MR = .stop 0 st.m):=by show _=_;rw [HCM.out,if_neg (fun e=>h1 e.1)]
   clear h1 h2;go_enter Try.func179,Try.ntmps179
   go_wp2_with fail
   rw [←HW2.out]
   try go_wp2_with fail
   go_ret2
   rw [HE.out];exact ⟨false,st,rfl,(fun e=>by cases e),rfl,⟨[],rfl⟩,HM2.out⟩
end
theorem comp37q {p q:Nat→Prop} {w:World} {a:Option Addr} {c:Nat} {l:List LT} (s:ByteArray) (hs:s.size≤maxLen) (h:LT.Sl p w a c l) (hi:LT.Ins q w l) (hn:l.length≤65536) :
 Calls Try.prog 37 #[.string s,.slice a l.length c] w fun e w'=>∃ d,e = .returned (LT.val (.mk 2 0 s d l))∧LT.In (fun k=>q k∨w.heap.size≤k) w' (.mk 2 0 s d l)∧Turned zN w w':=by
 have hcl:∀ o,Calls Try.prog 128 #[.slice a l.length c] (w.alloc o) _:=fun o=>clone128 (h.turned0 ((Turned.refl _ w).alloc o)) hn
 have HCL:=hid hcl;clear hcl;go_enter Try.func37,Try.ntmps37
 go_wp2_with (go_at_call 128;refine (HCL.out _).mono ?_;rintro e w2 ⟨a',c',rfl,hv,hl,ht⟩;obtain ⟨hbox,hlt⟩:=box4 ht;obtain ⟨c0,c1,c2,c3,f0,f1,f2,f3⟩:=cells4 hbox;have HB:=hid hbox;clear hbox)
 have T0:=((Turned.refl (fun _=>False) w).alloc (.cells #[.int .i64 0,.int .i64 0,.string ⟨#[]⟩,.slice none 0 0] 27)).trans ht
 have hsz:w.heap.size≤(w.alloc (.cells #[.int .i64 0,.int .i64 0,.string ⟨#[]⟩,.slice none 0 0] 27)).heap.size:=by simp
 have hset:=set4 (a':=.int .i64 2) (b':=.int .i64 0) (c':=.string s) (d':=.slice a' l.length c') HB.out;have T4:=turned4 (a:=.int .i64 2) (b:=.int .i64 0) (c:=.string s) (d:=.slice a' l.length c') T0 (Qm _)
 have hrow:Row ((((w2.setCell ⟨w.heap.size,0,none⟩ (.int .i64 2)).setCell ⟨w.heap.size,1,none⟩ (.int .i64 0)).setCell ⟨w.heap.size,2,none⟩ (.string s)).setCell ⟨w.heap.size,3,none⟩ (.slice a' l.length c')) 27 4 (.slice a' l.length c') l.length (l.flatMap LT.cells):=by
  have hne:∀ j,(Value.slice a' l.length c').ownBlock≠some (Addr.block ⟨w.heap.size,j,none⟩):=fun j e=>by
   have:=hl _ e;simp at this;omega
  exact (((hv.setCell (hne 0) _).setCell (hne 1) _).setCell (hne 2) _).setCell (hne 3) _
 refine bodyPost_ret (v:=.agg #[.int .i64 2,.int .i64 0,.string s,.slice a' l.length c']) (results_cell_row Try.results37 _ _ w.heap.size 27 _ (0,0) _ rfl hset Try.underlying27 rfl (by kernel_rfl)) rfl ⟨(a',c'),rfl,?_,T4⟩;have hi4:LT.Ins q _ l:=(LT.ins_iff _).2 (fun x hx=>((LT.ins_iff _).1 hi x hx).turned0 T4);obtain ⟨_,hsl⟩:=LT.Sl.of_row (p:=fun k=>q k∨w.heap.size≤k) hrow (fun k hk=>.inr (QA hsz (hl k hk))) (LT.Ins.mono hi4 (fun _ _ hk=>.inl hk));exact hsl.in_ (i64_lit 2 (by omega)) (i64_lit 0 (by omega)) hs
theorem LT.In.none {p q:Nat→Prop} {W W':World} {x:LT} (h:x.In p W) (hx:x.args=[]):x.In q W':=by
 obtain ⟨k,n,s,d,aa⟩:=x;simp only [Tm.args] at hx;subst hx;obtain ⟨h1,h2,h3,h4,h5,h6,h7,h8⟩:=h;exact ⟨h1,h2,h3,h4,h5,h6,fun hp=>absurd hp (by simp),trivial⟩
section
variable {N bb mb gr gs R S:Nat} {bx bx':List (Nat × Obj)} {ts ts':List LT} {w1 W W' W0:World} {st st':Tm.MS} {x t:LT}
theorem MK.sub (h:MK N bb mb gr gs R S bx ts w1 st W) (hb:∀ b∈bx',b∈bx) (ht:∀ x∈ts',x∈ts):MK N bb mb gr gs R S bx' ts' w1 st W:=by
 obtain ⟨q,l,O,rs,ss,h1,h2,h3,h4,h5,h6,h7,h8,h9,h10,h11,h12⟩:=h;exact ⟨q,l,O,rs,ss,h1,h2,h3,h4,h5,h6,h7,h8,h9,h10,fun b hb'=>h11 b (hb b hb'),fun x hx=>h12 x (ht x hx)⟩
theorem MK.leaf (h:MK N bb mb gr gs R S bx ts w1 st W) (hx:∀ (p:Nat→Prop) (w:World),x.In p w):MK N bb mb gr gs R S bx (x :: ts) w1 st W:=
 h.keep (Turned.refl _ _) (hx _ _)
theorem MK.setReg (hN:N=w1.heap.size) (h:MK N bb mb gr gs R S bx (x :: ts) w1 st W) {i:Nat} (hi:i < R) :
 MK N bb mb gr gs R S bx (x :: ts) w1 ⟨st.m,st.l,st.rs.set i x.bare,st.ss⟩ ((((W.setCell ⟨gr,i * 4,none⟩ (.int .i64 x.kind)).setCell ⟨gr,i * 4+1,none⟩ (.int .i64 x.n)).setCell ⟨gr,i * 4+2,none⟩ (.string x.name)).setCell ⟨gr,i * 4+3,none⟩ (.slice x.at_.1 x.args.length x.at_.2)):=by
 obtain ⟨q,l,O,rs,ss,h1,h2,h3,h4,h5,h6,⟨r1,r2,r3⟩,⟨s1,s2,s3⟩,h9,h10,h11,h12⟩:=h
 have Tq:Turned (fun k=>k=gr) W ((((W.setCell ⟨gr,i * 4,none⟩ (.int .i64 x.kind)).setCell ⟨gr,i * 4+1,none⟩ (.int .i64 x.n)).setCell ⟨gr,i * 4+2,none⟩ (.string x.name)).setCell ⟨gr,i * 4+3,none⟩ (.slice x.at_.1 x.args.length x.at_.2)):=
  ((((Turned.refl (fun k=>k=gr) W).setCell (p:=⟨gr,i * 4,none⟩) (.inr rfl) _).setCell (p:=⟨gr,i * 4+1,none⟩) (.inr rfl) _).setCell (p:=⟨gr,i * 4+2,none⟩) (.inr rfl) _).setCell (p:=⟨gr,i * 4+3,none⟩) (.inr rfl) _
 have hgr:=h9 gr (.inr (.inl rfl))
 have up:∀ {y:LT},y.In q W→y.In q _:=fun {y} hy=>LT.In.turned Tq (fun k _ hk e=>hgr.2.2 (e ▸ hk)) (fun _ _ q=>q) y hy
 have e2:=r1.1;rw [LT.flat_length] at e2;have t1:=r1.setAt (off:=i * 4) (by omega) (.int .i64 x.kind);have t2:=t1.setAt (off:=i * 4+1) (by omega) (.int .i64 x.n);have t3:=t2.setAt (off:=i * 4+2) (by omega) (.string x.name);have t4:=t3.setAt (off:=i * 4+3) (by omega) (.slice x.at_.1 x.args.length x.at_.2);rw [flat_set (by omega)] at t4;refine ⟨q,l,O,rs.set i x,ss,h1,h2,h3.turned Tq (fun k hk e=>⟨fun c=>hgr.2.1 (e ▸ c),fun c=>hgr.2.2 (e ▸ c)⟩),h4,h5.step Tq (fun k hk e=>by have:=hgr.1;omega),(Tq.block mb (zL h6) h10.1).trans h6,⟨t4,by rw [List.map_set,r2],fun y hy=>?_⟩,⟨s1.turned Tq (fun k hk e=>by simp [Value.ownBlock] at hk;exact h10.2.2 (e.symm.trans hk.symm)),s2,fun y hy=>up (s3 y hy)⟩,h9,h10,fun b hb=>⟨(Tq.block _ (zL (h11 b hb).1) (h11 b hb).2.2.2.1).trans (h11 b hb).1,(h11 b hb).2⟩,fun y hy=>up (h12 y hy)⟩
 rcases List.mem_or_eq_of_mem_set hy with hy | rfl
 · exact up (r3 y hy)
 · exact up (h12 y (Qe ..))
theorem MK.regAt (h:MK N bb mb gr gs R S bx ts w1 st W) {i:Nat} (hi:i < R):∃ c0 c1 c2 c3,(W.cell? ⟨gr,i * 4,none⟩=some c0∧W.cell? ⟨gr,i * 4+1,none⟩=some c1∧W.cell? ⟨gr,i * 4+2,none⟩=some c2∧W.cell? ⟨gr,i * 4+3,none⟩=some c3)∧W.frozen? ⟨gr,i * 4,none⟩=false∧W.frozen? ⟨gr,i * 4+1,none⟩=false∧W.frozen? ⟨gr,i * 4+2,none⟩=false∧W.frozen? ⟨gr,i * 4+3,none⟩=false:=by
 have hl:=h.lens.1;obtain ⟨r,_,hc,_⟩:=h.reg (Qa (show i < st.rs.length by omega));obtain ⟨q,l,O,rs,ss,h1,h2,h3,h4,h5,h6,⟨r1,_⟩,_⟩:=h;exact ⟨_,_,_,_,hc,r1.free rfl _,r1.free rfl _,r1.free rfl _,r1.free rfl _⟩
theorem MK.slotAt (h:MK N bb mb gr gs R S bx ts w1 st W) {i:Nat} (hi:i < S):∃ c0 c1 c2 c3,(W.cell? ⟨gs,i * 4,none⟩=some c0∧W.cell? ⟨gs,i * 4+1,none⟩=some c1∧W.cell? ⟨gs,i * 4+2,none⟩=some c2∧W.cell? ⟨gs,i * 4+3,none⟩=some c3)∧W.frozen? ⟨gs,i * 4,none⟩=false∧W.frozen? ⟨gs,i * 4+1,none⟩=false∧W.frozen? ⟨gs,i * 4+2,none⟩=false∧W.frozen? ⟨gs,i * 4+3,none⟩=false:=by
 have hl:=h.lens.2;obtain ⟨r,_,hc,_⟩:=h.slot (Qa (show i < st.ss.length by omega));obtain ⟨q,l,O,rs,ss,h1,h2,h3,h4,h5,h6,_,⟨s1,_⟩,_⟩:=h;exact ⟨_,_,_,_,hc,s1.free rfl _,s1.free rfl _,s1.free rfl _,s1.free rfl _⟩
theorem MK.comp37 (hN:N=w1.heap.size) (h:MK N bb mb gr gs R S bx ts w1 st W) (s:ByteArray) (hs:s.size≤maxLen) {b c:Nat} (hc:c+b≤R) (hR:R≤2000) (h0:∀ y∈(st.rs.drop c).take b,y.args=[]) :
 Calls Try.prog 37 #[.string s,.slice (some ⟨gr,c * 4,none⟩) b (R - c)] W fun e w'=>∃ y:LT,e = .returned y.val∧y.bare = .mk 2 0 s () ((st.rs.drop c).take b)∧Turned zN W w'∧MK N bb mb gr gs R S bx (y :: ts) w1 st w':=by
 have hk:=h;obtain ⟨q,l,O,rs,ss,h1,h2,h3,h4,h5,h6,⟨r1,r2,r3⟩,⟨s1,s2,s3⟩,h9,h10,h11,h12⟩:=h;have e2:=r1.1;rw [LT.flat_length] at e2
 have hL:((rs.drop c).take b).map Tm.bare=(st.rs.drop c).take b:=by rw [List.map_take,List.map_drop,r2]
 have hlen:((rs.drop c).take b).length=b:=by rw [List.length_take,List.length_drop];omega
 have hno:∀ y∈(rs.drop c).take b,y.args=[]:=fun y hy=>by
  have:=h0 y.bare (by rw [←hL];exact List.mem_map_of_mem hy);rw [Tm.bare_args,Tm.bares_eq] at this;exact List.map_eq_nil_iff.1 this
 have hin:LT.Ins (fun _=>False) W ((rs.drop c).take b):=(LT.ins_iff _).2 (fun y hy=>(r3 y (List.mem_of_mem_drop (List.mem_of_mem_take hy))).none (hno y hy))
 have hsl:LT.Sl (fun _=>True) W (some ⟨gr,c * 4,none⟩) (R - c) ((rs.drop c).take b):=by
  refine ⟨fun e=>(by cases e),fun _=>⟨gr,c * 4,rfl,trivial,fun j v hv=>r1.cells rfl _ _ ?_⟩,LT.Ins.mono hin (fun _ _ f=>f.elim),by rw [hlen];omega,by unfold maxLen;omega⟩
  have hj:j < b * 4:=by
   have:=(Qg.1 hv).1;rw [LT.flat_length,hlen] at this;exact this
  have hf:=(flat_take (rs.drop c) b (by rw [List.length_drop];omega)).1;rw [hf,List.getElem?_take,if_pos hj,(flat_take rs c (by omega)).2,List.getElem?_drop] at hv;exact hv
 have hcl:=comp37q (q:=fun _=>False) s hs hsl hin (by rw [hlen];omega);rw [hlen] at hcl;refine hcl.mono ?_
 rintro e w' ⟨d,rfl,hy,T⟩
 refine ⟨_,rfl,?_,T,hk.keep T (hy.mono (fun k _ h=>h.elim (fun f=>f.elim) (fun h=>.inr h)))⟩;rw [Tm.bare,Tm.bares_eq,hL]
end
theorem putAt_news (rs:List (Tm Unit)) (c m j:Nat) (h:c+j < rs.length):Tm.putAt rs c (Tm.news m (j+1))=(Tm.putAt rs c (Tm.news m j)).set (c+j) (leaf 0 ((m+j:Nat):Int) ByteArray.empty:LT).bare:=by
 apply List.ext_getElem?;intro i;have l1:(Tm.news m (j+1)).length=j+1:=Tm.news_length ..;have l2:(Tm.news m j).length=j:=Tm.news_length ..;have hl:(Tm.putAt rs c (Tm.news m j)).length=rs.length:=Tm.putAt_length (by rw [l2];omega);rw [List.getElem?_set]
 by_cases hi:c+j=i
 · subst hi
   rw [if_pos rfl,if_pos (by omega),Tm.putAt_new (by rw [l1];omega) (by rw [l1];omega),Tm.news_at (by omega)];rfl
 · rw [if_neg hi]
   rcases Nat.lt_or_ge i c with hc | hc
   · rw [Tm.putAt_old (by rw [l1];omega) hc,Tm.putAt_old (by rw [l2];omega) hc]
   · obtain ⟨d,rfl⟩:∃ d,i=c+d:=⟨i - c,by omega⟩
     rcases Nat.lt_or_ge d j with hd | hd
     · rw [Tm.putAt_new (by rw [l1];omega) (by rw [l1];omega),Tm.putAt_new (by rw [l2];omega) (by rw [l2];omega),Tm.news_at (by omega),Tm.news_at (by omega)]
     · have hx:∀ (xs:List (Tm Unit)),xs.length≤d→(Tm.putAt rs c xs)[c+d]? = rs[c+d]?:=fun xs hx=>by
        unfold Tm.putAt
        have:(rs.take c).length=c:=by rw [List.length_take];omega
        rw [List.getElem?_append_right (by omega),this,Nat.add_sub_cancel_left,List.getElem?_append_right hx,List.getElem?_drop];congr 1;omega
       rw [hx _ (by rw [l1];omega),hx _ (by rw [l2];omega)]
theorem putAt_none (rs:List (Tm Unit)) (c m:Nat):Tm.putAt rs c (Tm.news m 0)=rs:=by
 unfold Tm.putAt Tm.news;simp
theorem putAt_part (rs xs:List (Tm Unit)) (c:Nat) (h:c+xs.length≤rs.length):((Tm.putAt rs c xs).drop c).take xs.length=xs:=by
 unfold Tm.putAt;rw [List.drop_left' (by rw [List.length_take];omega),List.take_left]
theorem news_args (m k:Nat):∀ y∈Tm.news m k,y.args=[]:=by
 intro y hy;unfold Tm.news at hy;obtain ⟨i,_,rfl⟩:=List.mem_map.1 hy;rfl
theorem flats_flat:∀ (l:List LT),(∀ y∈l,y.args=[])→∀ x∈Tm.flats l,x.args=[]
 | [],_,x,hx=>by cases hx
 | y :: l,h,x,hx=>by
  rw [Tm.flats,Tm.flat_eq,h y (Qe ..)] at hx
  rcases Qn.1 hx with hx | hx
  · rcases Qw.1 hx with rfl | hx
    · exact h x (Qe ..)
    · cases hx
  · exact flats_flat l (fun z hz=>h z (Qb _ hz)) x hx
theorem slim_newT {y:LT} {s:ByteArray} {m k:Nat} (h:y.bare = .mk 2 0 s () (Tm.news m k)) (hk:k≤12):slim y:=by
 have ha:y.args.map Tm.bare=Tm.news m k:=by
  rw [←Tm.bares_eq,←Tm.bare_args,h];rfl
 have hl:y.args.length=k:=by rw [←Qu (f:=Tm.bare),ha,Tm.news_length]
 have hn:∀ z∈y.args,z.args=[]:=fun z hz=>by
  have:=news_args m k z.bare (by rw [←ha];exact List.mem_map_of_mem hz);rw [Tm.bare_args,Tm.bares_eq] at this;exact List.map_eq_nil_iff.1 this
 intro x hx;rw [Tm.flat_eq] at hx
 rcases Qw.1 hx with rfl | hx
 · omega
 · rw [flats_flat _ hn x hx]
   exact Nat.zero_le _
def CompS (mk:LT→World→Prop) (nt:Tm Unit) (E:Int) (Q:World→Prop) (w0:World):List Value→World→Prop
 | [],W=>Turned zN w0 W
 | [a],W=>Turned zN w0 W∧∃ y:LT,a = .agg #[.int .i64 y.kind,.int .i64 y.n,.string y.name,.slice y.at_.1 y.args.length y.at_.2]∧y.bare=nt∧mk y W
 | [_,b],W=>b = .int .i64 E∧Q W
 | _,_=>False
section
variable {mk:LT→World→Prop} {nt:Tm Unit} {E:Int} {Q:World→Prop} {w0:World}
theorem CompS.turned0 (hm:∀ y W W',mk y W→Turned zN W W'→mk y W') (hQ:∀ W W',Q W→Turned zN W W'→Q W'):∀ (hs:List Value) (w w':World),CompS mk nt E Q w0 hs w→Turned zN w w'→CompS mk nt E Q w0 hs w'
 | [],_,_,h,T=>Turned.trans h T
 | [_],_,_,⟨h,y,h1,h2,h3⟩,T=>⟨h.trans T,y,h1,h2,hm _ _ _ h3 T⟩
 | [_,_],_,_,h,T=>⟨h.1,hQ _ _ h.2 T⟩
 | _ :: _ :: _ :: _,_,_,h,_=>h.elim
theorem CompS.early:∀ (hs:List Value) (W:World),hs.length≤1→CompS mk nt E Q w0 hs W→Turned zN w0 W
 | [],_,_,h=>h
 | [_],_,_,h=>h.1
 | _ :: _ :: _,_,h,_=>absurd h (by simp)
theorem CompS.val:∀ (hs:List Value) (W:World) {x:Value},CompS mk nt E Q w0 hs W→hs[1]? = some x→x = .int .i64 E
 | [],_,_,_,e=>by simp at e
 | [_],_,_,_,e=>by simp at e
 | [_,_],_,_,h,e=>by simp at e;rw [←e];exact h.1
 | _ :: _ :: _ :: _,_,_,h,_=>h.elim
end
section
variable {N bb mb gr gs R S:Nat} {bx:List (Nat × Obj)} {ts:List LT} {w1 w:World} {st st':Tm.MS} {x t:LT}
set_option maxRecDepth 100000 in
theorem comp179b {op name:ByteArray} {a n:Int} {b c:Nat} (hN:N=w1.heap.size) (h:MK N bb mb gr gs R S bx ts w1 st w) (hx:x∈ts) (hk:x.kind=0) (hb:1≤b) (hb12:b≤12) (hc:c+b≤R) (hR:R≤2000) (hm:st.m+b≤65536) (hs:name.size≤maxLen) (h64:I64 x.n) :
 Calls Try.prog 179 #[.pointer (some ⟨mb,0,none⟩),.agg #[.int .i64 x.kind,.int .i64 x.n,.string x.name,.slice x.at_.1 x.args.length x.at_.2],.agg #[.string op,.int .i64 a,.int .i64 (b:Int),.int .i64 (c:Int),.int .i64 n,.string name]] w (MRQ (MK N bb mb gr gs R S bx ts w1) st (Tm.compM st x.bare ⟨op,a,(b:Int),(c:Int),n,name⟩)):=by
 have h2:=twoBox w (.cells #[.int .i64 x.kind,.int .i64 x.n,.string x.name,.slice x.at_.1 x.args.length x.at_.2] 27) (.cells #[.string op,.int .i64 a,.int .i64 (b:Int),.int .i64 (c:Int),.int .i64 n,.string name] 139)
 have hm2:MK N bb mb gr gs R S ((w.heap.size+1,.cells #[.string op,.int .i64 a,.int .i64 (b:Int),.int .i64 (c:Int),.int .i64 n,.string name] 139 (0,0)) :: (w.heap.size,.cells #[.int .i64 x.kind,.int .i64 x.n,.string x.name,.slice x.at_.1 x.args.length x.at_.2] 27 (0,0)) :: bx) ts w1 st ((w.alloc (.cells #[.int .i64 x.kind,.int .i64 x.n,.string x.name,.slice x.at_.1 x.args.length x.at_.2] 27)).alloc (.cells #[.string op,.int .i64 a,.int .i64 (b:Int),.int .i64 (c:Int),.int .i64 n,.string name] 139)):=by
  have:=(h.box (.cells #[.int .i64 x.kind,.int .i64 x.n,.string x.name,.slice x.at_.1 x.args.length x.at_.2] 27)).box (.cells #[.string op,.int .i64 a,.int .i64 (b:Int),.int .i64 (c:Int),.int .i64 n,.string name] 139);rw [show (w.alloc (.cells #[.int .i64 x.kind,.int .i64 x.n,.string x.name,.slice x.at_.1 x.args.length x.at_.2] 27)).heap.size=w.heap.size+1 by simp] at this;exact this
 obtain ⟨w2,hw2⟩:∃ z,z=(w.alloc (.cells #[.int .i64 x.kind,.int .i64 x.n,.string x.name,.slice x.at_.1 x.args.length x.at_.2] 27)).alloc (.cells #[.string op,.int .i64 a,.int .i64 (b:Int),.int .i64 (c:Int),.int .i64 n,.string name] 139):=⟨_,rfl⟩;rw [←hw2] at h2 hm2;have hlens:=h.lens;obtain ⟨MR,hMR⟩:∃ z,z=Tm.compM st x.bare ⟨op,a,(b:Int),(c:Int),n,name⟩:=⟨_,rfl⟩;obtain ⟨E,hE⟩:∃ z,z=Tm.setE (st.m+b) st.l x.n (.mk 2 0 name () (Tm.news st.m b)):=⟨_,rfl⟩
 have hcm:MR=(if E=0 then .go ⟨st.m+b,(x.n,.mk 2 0 name () (Tm.news st.m b)) :: st.l,Tm.putAt st.rs c (Tm.news st.m b),st.ss⟩ else .stop E (st.m+b)):=by
  rw [hMR];unfold Tm.compM Tm.newT;rw [if_pos (by rw [Tm.bare_kind];exact hk)];simp only [Int.toNat_natCast,Tm.bare_n];rw [if_pos hm,hE]
 rw [←hMR]
 obtain ⟨l2,hl2⟩:∃ z,z=if E=0 then (x.n,.mk 2 0 name () (Tm.news st.m b)) :: st.l else st.l:=⟨_,rfl⟩
 have HL2:=hid hl2;have HB12:=hid hb12;have HCM:=hid hcm;have HM2:=hid hm2;have HW2:=hid hw2;have HN:=hid hN;have HXT:=hid hx;have HE:=hid hE;have HLS:=hid hlens;have HM:=hid hm;have HC:=hid hc;have HS:=hid hs;have H64:=hid h64
 have bk:(x.kind != 0)=false:=by simp [hk]
 obtain ⟨k0,k1,k2,k3,_⟩:=cells4 h2.2.2.1;obtain ⟨m0,m1,m2,m3,m4,m5⟩:=cells6 h2.2.2.2;obtain ⟨b0,b1,b2,_⟩:=rec3b hm2.mbox;clear hl2 hb12 h hm2 hw2 hMR hcm hN hx hk hE hlens hm hs h64 h2;go_enter Try.func179,Try.ntmps179
 go_wp2_with fail
 rw [←HW2.out]
 go_wp2_with fail
 go_loopg [39] b (fun k i wr=>∃ j:Nat,Hid (j+k=b)∧j≤b∧i = .int .i64 j∧Hid (MK N bb mb gr gs R S ((w.heap.size+1,.cells #[.string op,.int .i64 a,.int .i64 (b:Int),.int .i64 (c:Int),.int .i64 n,.string name] 139 (0,0)) :: (w.heap.size,.cells #[.int .i64 x.kind,.int .i64 x.n,.string x.name,.slice x.at_.1 x.args.length x.at_.2] 27 (0,0)) :: bx) ts w1 ⟨st.m+j,st.l,Tm.putAt st.rs c (Tm.news st.m j),st.ss⟩ wr))
 case atStart=>exact ⟨0,Nat.zero_add _,Nat.zero_le _,rfl,by show MK _ _ _ _ _ _ _ _ _ _ _ _;rw [putAt_none];exact HM2.out⟩
 case round=>
  obtain ⟨j,HG,hj,rfl,HMJ⟩:=hrel
  by_cases hjl:j < b
  · have dj:decide ((j:Int) < (b:Int))=true:=decide_eq_true (by omega)
    obtain ⟨m',hm'⟩:∃ z,z=st.m+j:=⟨_,rfl⟩;rw [←hm'] at HMJ;have hmj:=HMJ.out;obtain ⟨q,O,l,h3,hl,hq,hts,hkk⟩:=MK.call HN.out hmj
    have hfr:Calls Try.prog 87 #[.pointer (some ⟨bb,0,none⟩)] wr fun e w'=>e = .returned (.tuple #[.agg #[.int .i64 0,.int .i64 (m':Int),.string ByteArray.empty,.slice none 0 0],.bool true])∧MK N bb mb gr gs R S ((w.heap.size+1,.cells #[.string op,.int .i64 a,.int .i64 (b:Int),.int .i64 (c:Int),.int .i64 n,.string name] 139 (0,0)) :: (w.heap.size,.cells #[.int .i64 x.kind,.int .i64 x.n,.string x.name,.slice x.at_.1 x.args.length x.at_.2] 27 (0,0)) :: bx) ts w1 ⟨m'+1,st.l,Tm.putAt st.rs c (Tm.news st.m j),st.ss⟩ w':=by
     refine (freshO87 h3 (show m' < 65536 by have:=HM.out;omega)).mono ?_
     rintro e w' ⟨rfl,ha⟩
     have:=hkk _ l w' ha;rw [hl] at this;exact ⟨rfl,this⟩
    have HFR:=hid hfr;have HMM:=hid hm';have hbx:=hmj.boxes;have g1:=hbx _ (Qe ..);obtain ⟨b0,b1,b2,_⟩:=rec3b hmj.mbox;clear hfr hmj h3 hl hq hts hkk hm' hbx g1
    go_wp2_with (go_at_call 87;(with_reducible refine HFR.out.mono ?_);rintro e w5 ⟨rfl,h5⟩;have HM5:=hid h5;clear h5)
    obtain ⟨w6,hw6⟩:∃ z,z=w5.alloc (.cells #[.int .i64 0,.int .i64 (m':Int),.string ByteArray.empty,.slice none 0 0] 27):=⟨_,rfl⟩;rw [←hw6];have hnew:=heap_alloc_new w5 (.cells #[.int .i64 0,.int .i64 (m':Int),.string ByteArray.empty,.slice none 0 0] 27);rw [←hw6] at hnew;obtain ⟨v0,v1,v2,v3,_⟩:=cells4 hnew;have hm6:=(HM5.out.turned0 (show Turned zN w5 w6 by rw [hw6];exact (Turned.refl _ _).alloc _)).leaf (x:=leaf 0 (m':Int) ByteArray.empty) (fun p w=>leafIn' (i64_lit 0 (by omega)) (by unfold I64;have:=HMM.out;have:=HM.out;omega) (by unfold maxLen;decide));obtain ⟨b0,b1,b2,_⟩:=rec3b hm6.mbox;obtain ⟨m0,m1,m2,m3,m4,m5⟩:=cells6 (hm6.boxes _ (Qe ..));obtain ⟨cj,hcj⟩:∃ z,z=c+j:=⟨_,rfl⟩
    have hjr:cj < R:=by have:=HC.out;omega
    have hw:IntKind.i64.wrap ((c:Int)+(j:Int))=(cj:Int):=by rw [wrapI (by omega) (by omega)];omega
    have hms:=(hm6.turned0 ((Turned.refl (fun _=>False) w6).drew)).setReg HN.out (i:=cj) hjr;have HMS:=hid hms;obtain ⟨e0,e1,e2,e3,⟨r0,r1,r2,r3⟩,f0,f1,f2,f3⟩:=hm6.regAt hjr;have HCJ:=hid hcj;clear hms hm6 hnew hw6 hcj;refine region_tail 10 (by kernel_rfl) (by kernel_rfl) ?_;simp only [List.take_succ_cons,List.take_zero,List.drop_succ_cons,List.drop_zero]
    repeat still_step
    try rw [hw]
    repeat still_step
    refine wpStill_nil ?_
    go_wp2_with fail
    go_roundg (gk - 1)
    case measure=>have:=HG.out;omega
    case rel=>
     refine ⟨j+1,show _=_ by have:=HG.out;omega,by omega,by go_num,?_⟩;show MK _ _ _ _ _ _ _ _ _ _ _ _;have h1:=HMS.out;have e1:=HMM.out;have e2:=HCJ.out;subst e1 e2;rw [putAt_news _ _ _ _ (by have:=HLS.out.1;have:=HC.out;omega)];exact h1.sub (fun b h=>h) (fun x h=>Qb _ h)
  · obtain rfl:j=b:=by omega
    have dj:decide ((j:Int) < (j:Int))=false:=decide_eq_false (by omega);obtain ⟨b0,b1,b2,_⟩:=rec3b HMJ.out.mbox;have HWR:=hid HMJ.out;obtain ⟨cb,hcb⟩:∃ z,z=c+j:=⟨_,rfl⟩;have HWC:Hid (IntKind.i64.wrap ((c:Int)+(j:Int))=(cb:Int)∧c≤cb∧cb≤R∧c≤R∧cb - c=j∧¬ R=c):=⟨by have:=HC.out;rw [wrapI (by omega) (by omega)];omega,by omega,by have:=HC.out;omega,by have:=HC.out;omega,by omega,by have:=HC.out;omega⟩
    have hpart:(List.take j (List.drop c (Tm.putAt st.rs c (Tm.news st.m j))))=Tm.news st.m j:=by
     have:=putAt_part st.rs (Tm.news st.m j) c (by rw [Tm.news_length];have:=HLS.out.1;have:=HC.out;omega)
     rwa [Tm.news_length] at this
    have HCP:Hid (∀ W,Turned zN wr W→Calls Try.prog 37 #[.string name,.slice (some ⟨gr,c * 4,none⟩) j (R - c)] W fun e w'=>∃ y:LT,e = .returned y.val∧y.bare = .mk 2 0 name () (Tm.news st.m j)∧Turned zN W w'∧MK N bb mb gr gs R S ((w.heap.size+1,.cells #[.string op,.int .i64 a,.int .i64 (j:Int),.int .i64 (c:Int),.int .i64 n,.string name] 139 (0,0)) :: (w.heap.size,.cells #[.int .i64 x.kind,.int .i64 x.n,.string x.name,.slice x.at_.1 x.args.length x.at_.2] 27 (0,0)) :: bx) (y :: ts) w1 ⟨st.m+j,st.l,Tm.putAt st.rs c (Tm.news st.m j),st.ss⟩ w'):=fun W T=>by
     have:=(HWR.out.turned0 T).comp37 HN.out name HS.out (c:=c) (b:=j) HC.out hR (by rw [hpart];exact news_args _ _);rw [hpart] at this;exact this
    have HST:Hid (∀ (y:LT) W,y.bare = .mk 2 0 name () (Tm.news st.m j)→MK N bb mb gr gs R S ((w.heap.size+1,.cells #[.string op,.int .i64 a,.int .i64 (j:Int),.int .i64 (c:Int),.int .i64 n,.string name] 139 (0,0)) :: (w.heap.size,.cells #[.int .i64 x.kind,.int .i64 x.n,.string x.name,.slice x.at_.1 x.args.length x.at_.2] 27 (0,0)) :: bx) (y :: ts) w1 ⟨st.m+j,st.l,Tm.putAt st.rs c (Tm.news st.m j),st.ss⟩ W→Calls Try.prog 88 #[.pointer (some ⟨bb,0,none⟩),.int .i64 x.n,.agg #[.int .i64 y.kind,.int .i64 y.n,.string y.name,.slice y.at_.1 y.args.length y.at_.2]] W fun e w'=>e = .returned (.int .i64 E)∧MK N bb mb gr gs R S bx ts w1 ⟨st.m+j,l2,Tm.putAt st.rs c (Tm.news st.m j),st.ss⟩ w'):=fun y W y2 y3=>by
     obtain ⟨q,O,l,h3,hl,hq,hts,hkk⟩:=MK.call HN.out y3;have:=setO88 h3 (hts y (Qe ..)) (slim_newT y2 HB12.out) x.n H64.out;rw [LT.val_eq,hl,y2,←HE.out,←HL2.out] at this;refine this.mono ?_
     rintro e w' ⟨rfl,l',hl',ha⟩
     have:=hkk _ l' w' ha;rw [hl'] at this;exact ⟨rfl,this.sub (fun b h=>Qb _ (Qb _ h)) (fun x h=>Qb _ h)⟩
    clear hpart hcb;have HBX:=hid (fun W (T:Turned zN wr W)=>And.intro (cells4 ((HWR.out.turned0 T).boxes _ (Qb _ (Qe ..)))) (And.intro (cells6 ((HWR.out.turned0 T).boxes _ (Qe ..))) (rec3b (HWR.out.turned0 T).mbox)))
    go_wp2_with fail
    refine wp_region_hsW [63,64,65,66,67,68,69,70,71,72,73,74,75,76,77,78,79,80,81,82,83,84,6,7] [20,21] [1,1,1,1,1,1,0,0,0,0,0,0,0,0,0,0,0,0,0,0,1,2,2,2] [83,84] (fun dd vv=>(match dd with | 63=>vv = .pointer (some ⟨mb,0,none⟩) | 64=>vv = .pointer (some ⟨mb,0,none⟩) | 65=>vv = .pointer (some ⟨mb,0,none⟩) | 66=>vv = .pointer (some ⟨bb,0,none⟩) | 67=>vv = .pointer (some ⟨w.heap.size,1,none⟩) | 68=>vv = .int .i64 x.n | 69=>vv = .pointer (some ⟨w.heap.size+1,5,none⟩) | 70=>vv = .string name | 71=>vv = .pointer (some ⟨mb,0,none⟩) | 72=>vv = .pointer (some ⟨mb,0,none⟩) | 73=>vv = .pointer (some ⟨mb,1,none⟩) | 74=>vv = .slice (some ⟨gr,0,none⟩) R R | 75=>vv = .pointer (some ⟨w.heap.size+1,3,none⟩) | 76=>vv = .int .i64 (c:Int) | 77=>vv = .pointer (some ⟨w.heap.size+1,3,none⟩) | 78=>vv = .int .i64 (c:Int) | 79=>vv = .pointer (some ⟨w.heap.size+1,2,none⟩) | 80=>vv = .int .i64 (j:Int) | 81=>vv = .int .i64 ((cb:Nat):Int) | 82=>vv = .slice (some ⟨gr,c * 4,none⟩) j (R - c) | 6=>vv = .bool true | 7=>vv = .int .i64 E | _=>True:Prop)) (CompS (fun y W=>MK N bb mb gr gs R S ((w.heap.size+1,.cells #[.string op,.int .i64 a,.int .i64 (j:Int),.int .i64 (c:Int),.int .i64 n,.string name] 139 (0,0)) :: (w.heap.size,.cells #[.int .i64 x.kind,.int .i64 x.n,.string x.name,.slice x.at_.1 x.args.length x.at_.2] 27 (0,0)) :: bx) (y :: ts) w1 ⟨st.m+j,st.l,Tm.putAt st.rs c (Tm.news st.m j),st.ss⟩ W) (.mk 2 0 name () (Tm.news st.m j)) E (fun W=>MK N bb mb gr gs R S bx ts w1 ⟨st.m+j,l2,Tm.putAt st.rs c (Tm.news st.m j),st.ss⟩ W) wr) (by kernel_rfl) rfl (by kernel_rfl) (by kernel_rfl) (by kernel_rfl) (by kernel_rfl) (fun w h=>h) (fun hs w w' h T=>CompS.turned0 (fun y W W' h T=>h.turned0 T) (fun W W' h T=>h.turned0 T) hs w w' h T) ?hs ?hQ
    case hs=>
     refine ⟨?s0,?s1,?s2,?s3,?s4,?s5,?s6,?s7,?s8,?s9,?s10,?s11,?s12,?s13,?s14,?s15,?s16,?s17,?s18,?s19,?s20,?s21,?s22,?s23,trivial⟩
     case s0=>refine fun hs hle=>zG [] [0] fun ac W hT hI hO=>?_;have hle:hs.length≤1:=hle;simp only [execOp,Act.eval,hO 0 (by simp)];go_simp;try exact tq
     case s1=>refine fun hs hle=>zG [63] [] fun ac W hT hI hO=>?_;have hle:hs.length≤1:=hle;have h63:_=_:=hI 63 (by simp);simp only [execOp,Act.eval,h63];go_simp;try exact tq
     case s2=>refine fun hs hle=>zG [64] [] fun ac W hT hI hO=>?_;have hle:hs.length≤1:=hle;have h64:_=_:=hI 64 (by simp);simp only [execOp,Act.eval,h64];go_simp;try exact tq
     case s3=>refine fun hs hle=>zG [65] [] fun ac W hT hI hO=>?_;have hle:hs.length≤1:=hle;have h65:_=_:=hI 65 (by simp);obtain ⟨⟨k0,k1,k2,k3,_⟩,⟨m0,m1,m2,m3,m4,m5⟩,b0,b1,b2,_⟩:=HBX.out W (CompS.early hs W (by omega) hT);simp only [execOp,Act.eval,h65];go_simp;try exact tq
     case s4=>refine fun hs hle=>zG [] [4] fun ac W hT hI hO=>?_;have hle:hs.length≤1:=hle;simp only [execOp,Act.eval,hO 4 (by simp)];go_simp;try exact tq
     case s5=>refine fun hs hle=>zG [67] [] fun ac W hT hI hO=>?_;have hle:hs.length≤1:=hle;have h67:_=_:=hI 67 (by simp);obtain ⟨⟨k0,k1,k2,k3,_⟩,⟨m0,m1,m2,m3,m4,m5⟩,b0,b1,b2,_⟩:=HBX.out W (CompS.early hs W (by omega) hT);simp only [execOp,Act.eval,h67];go_simp;try exact tq
     case s6=>refine fun hs hle=>zG [] [5] fun ac W hT hI hO=>?_;have hle:hs.length≤0:=hle;simp only [execOp,Act.eval,hO 5 (by simp)];go_simp;try exact tq
     case s7=>refine fun hs hle=>zG [69] [] fun ac W hT hI hO=>?_;have hle:hs.length≤0:=hle;have h69:_=_:=hI 69 (by simp);obtain ⟨⟨k0,k1,k2,k3,_⟩,⟨m0,m1,m2,m3,m4,m5⟩,b0,b1,b2,_⟩:=HBX.out W (CompS.early hs W (by omega) hT);simp only [execOp,Act.eval,h69];go_simp;try exact tq
     case s8=>refine fun hs hle=>zG [] [0] fun ac W hT hI hO=>?_;have hle:hs.length≤0:=hle;simp only [execOp,Act.eval,hO 0 (by simp)];go_simp;try exact tq
     case s9=>refine fun hs hle=>zG [71] [] fun ac W hT hI hO=>?_;have hle:hs.length≤0:=hle;have h71:_=_:=hI 71 (by simp);simp only [execOp,Act.eval,h71];go_simp;try exact tq
     case s10=>refine fun hs hle=>zG [72] [] fun ac W hT hI hO=>?_;have hle:hs.length≤0:=hle;have h72:_=_:=hI 72 (by simp);simp only [execOp,Act.eval,h72];go_simp;try exact tq
     case s11=>refine fun hs hle=>zG [73] [] fun ac W hT hI hO=>?_;have hle:hs.length≤0:=hle;have h73:_=_:=hI 73 (by simp);obtain ⟨⟨k0,k1,k2,k3,_⟩,⟨m0,m1,m2,m3,m4,m5⟩,b0,b1,b2,_⟩:=HBX.out W (CompS.early hs W (by omega) hT);simp only [execOp,Act.eval,h73];go_simp;try exact tq
     case s12=>refine fun hs hle=>zG [] [5] fun ac W hT hI hO=>?_;have hle:hs.length≤0:=hle;simp only [execOp,Act.eval,hO 5 (by simp)];go_simp;try exact tq
     case s13=>refine fun hs hle=>zG [75] [] fun ac W hT hI hO=>?_;have hle:hs.length≤0:=hle;have h75:_=_:=hI 75 (by simp);obtain ⟨⟨k0,k1,k2,k3,_⟩,⟨m0,m1,m2,m3,m4,m5⟩,b0,b1,b2,_⟩:=HBX.out W (CompS.early hs W (by omega) hT);simp only [execOp,Act.eval,h75];go_simp;try exact tq
     case s14=>refine fun hs hle=>zG [] [5] fun ac W hT hI hO=>?_;have hle:hs.length≤0:=hle;simp only [execOp,Act.eval,hO 5 (by simp)];go_simp;try exact tq
     case s15=>refine fun hs hle=>zG [77] [] fun ac W hT hI hO=>?_;have hle:hs.length≤0:=hle;have h77:_=_:=hI 77 (by simp);obtain ⟨⟨k0,k1,k2,k3,_⟩,⟨m0,m1,m2,m3,m4,m5⟩,b0,b1,b2,_⟩:=HBX.out W (CompS.early hs W (by omega) hT);simp only [execOp,Act.eval,h77];go_simp;try exact tq
     case s16=>refine fun hs hle=>zG [] [5] fun ac W hT hI hO=>?_;have hle:hs.length≤0:=hle;simp only [execOp,Act.eval,hO 5 (by simp)];go_simp;try exact tq
     case s17=>refine fun hs hle=>zG [79] [] fun ac W hT hI hO=>?_;have hle:hs.length≤0:=hle;have h79:_=_:=hI 79 (by simp);obtain ⟨⟨k0,k1,k2,k3,_⟩,⟨m0,m1,m2,m3,m4,m5⟩,b0,b1,b2,_⟩:=HBX.out W (CompS.early hs W (by omega) hT);simp only [execOp,Act.eval,h79];go_simp;try exact tq
     case s18=>refine fun hs hle=>zG [78,80] [] fun ac W hT hI hO=>?_;have hle:hs.length≤0:=hle;have h78:_=_:=hI 78 (by simp);have h80:_=_:=hI 80 (by simp);have hw:=HWC.out;simp only [execOp,Act.eval,h78,h80];go_simp;try exact tq
     case s19=>refine fun hs hle=>zG [74,76,81] [] fun ac W hT hI hO=>?_;have hle:hs.length≤0:=hle;have h74:_=_:=hI 74 (by simp);have h76:_=_:=hI 76 (by simp);have h81:_=_:=hI 81 (by simp);have hw:=HWC.out;simp only [execOp,Act.eval,h74,h76,h81];go_simp;try exact tq
     case s20=>
      refine fun hs hlen=>zG [70,82] [] fun ac W hT hI hO=>?_;have h70:_=_:=hI 70 (by simp);have h82:_=_:=hI 82 (by simp);obtain rfl:hs=[]:=Qh hlen;replace hT:Turned zN wr W:=hT;show Brings _ (fun vv w'=>CompS (fun y W=>MK N bb mb gr gs R S ((w.heap.size+1,.cells #[.string op,.int .i64 a,.int .i64 (j:Int),.int .i64 (c:Int),.int .i64 n,.string name] 139 (0,0)) :: (w.heap.size,.cells #[.int .i64 x.kind,.int .i64 x.n,.string x.name,.slice x.at_.1 x.args.length x.at_.2] 27 (0,0)) :: bx) (y :: ts) w1 ⟨st.m+j,st.l,Tm.putAt st.rs c (Tm.news st.m j),st.ss⟩ W) (.mk 2 0 name () (Tm.news st.m j)) E (fun W=>MK N bb mb gr gs R S bx ts w1 ⟨st.m+j,l2,Tm.putAt st.rs c (Tm.news st.m j),st.ss⟩ W) wr [vv] w') _;simp only [execOp,Act.eval,h70,h82];go_simp;show Calls Try.prog 37 _ W _
      (with_reducible refine (HCP.out W hT).mono ?_)
      rintro e w' ⟨y,rfl,hb,T',hmk⟩
      exact ⟨_,rfl,hT.trans T',y,LT.val_eq y,hb,hmk⟩
     case s21=>
      refine fun hs hlen=>zG [66,68,83] [] fun ac W hT hI hO=>?_;have h66:_=_:=hI 66 (by simp);have h68:_=_:=hI 68 (by simp);have h83:hs[0]? = some (ac.tmps.getD 83 undef):=hI 83 (by simp);obtain ⟨a1,rfl⟩:=List.length_eq_one_iff.1 hlen
      have e83:a1=ac.tmps.getD 83 undef:=by simpa using h83
      obtain ⟨hT1,y,y1,y2,y3⟩:=hT;rw [e83] at y1;show Brings _ (fun vv w'=>CompS (fun y W=>MK N bb mb gr gs R S ((w.heap.size+1,.cells #[.string op,.int .i64 a,.int .i64 (j:Int),.int .i64 (c:Int),.int .i64 n,.string name] 139 (0,0)) :: (w.heap.size,.cells #[.int .i64 x.kind,.int .i64 x.n,.string x.name,.slice x.at_.1 x.args.length x.at_.2] 27 (0,0)) :: bx) (y :: ts) w1 ⟨st.m+j,st.l,Tm.putAt st.rs c (Tm.news st.m j),st.ss⟩ W) (.mk 2 0 name () (Tm.news st.m j)) E (fun W=>MK N bb mb gr gs R S bx ts w1 ⟨st.m+j,l2,Tm.putAt st.rs c (Tm.news st.m j),st.ss⟩ W) wr [a1,vv] w') _;simp only [execOp,Act.eval,h66,h68,y1];go_simp;show Calls Try.prog 88 _ W _
      (with_reducible refine (HST.out y W y2 y3).mono ?_)
      rintro e w' ⟨rfl,hq⟩
      exact ⟨_,rfl,rfl,hq⟩
     case s22=>refine fun hs hle=>zG [] [] fun ac W hT hI hO=>?_;have hle:hs.length≤2:=hle;simp only [execOp,Act.eval];go_simp;try exact tq
     case s23=>
      refine fun hs hle=>zG [84] [] fun ac W hT hI hO=>?_;have hle:hs.length≤2:=hle;have h84:hs[1]? = some (ac.tmps.getD 84 undef):=hI 84 (by simp);have e84:=CompS.val hs W hT h84;simp only [execOp,Act.eval,e84];go_simp
      try exact tq
    case hQ=>
     intro hs vs w5 hlen hR hV;have q6:vs 6 = .bool true:=hV 6 (by simp);have q7:vs 7 = .int .i64 E:=hV 7 (by simp);simp only [Qq,List.foldl_nil,Qk,Qs,Qr,q6,q7];obtain ⟨a1,a2,rfl⟩:=list2' hlen;have HQ5:=hid hR.2;clear hlen hR hV q6 q7
     go_wp2_with fail
     go_ret2
     rw [HCM.out];have h5:=HQ5.out;rw [HL2.out] at h5
     by_cases hE:E=0
     · subst hE
       rw [if_pos rfl] at h5 ⊢;exact ⟨rfl,h5⟩
     · rw [if_neg hE] at h5 ⊢
       exact ⟨true,⟨st.m+j,st.l,Tm.putAt st.rs c (Tm.news st.m j),st.ss⟩,rfl,fun _=>hE,rfl,⟨[],rfl⟩,h5⟩
end
end Go.Proofs.Ytoihjobdfjajfaa
namespace Go.Proofs.Ytoihjobdfjajfaa
open Go.RowKit Go.Maps
def aggM (u:LT):Value:=.agg #[.int .i64 u.kind,.int .i64 u.n,.string u.name,.slice u.at_.1 u.args.length u.at_.2]
section
variable {N bb mb gr gs R S:Nat} {bx bx':List (Nat × Obj)} {ts ts':List LT} {w1 W W' w0:World} {st st':Tm.MS} {x t:LT}
theorem MK.setBox {B:Nat} {c0 c1 c2 c3 a b c d:Value} (h:MK N bb mb gr gs R S ((B,.cells #[c0,c1,c2,c3] 27 (0,0)) :: bx) ts w1 st W) (hB:∀ e∈bx,e.1≠B) (hN:w1.heap.size≤B) :
 MK N bb mb gr gs R S ((B,.cells #[a,b,c,d] 27 (0,0)) :: bx) ts w1 st ((((W.setCell ⟨B,0,none⟩ a).setCell ⟨B,1,none⟩ b).setCell ⟨B,2,none⟩ c).setCell ⟨B,3,none⟩ d):=by
 obtain ⟨q,l,O,rs,ss,h1,h2,h3,h4,h5,h6,⟨r1,r2,r3⟩,⟨s1,s2,s3⟩,h9,h10,h11,h12⟩:=h
 have Tq:Turned (fun k=>k=B) W ((((W.setCell ⟨B,0,none⟩ a).setCell ⟨B,1,none⟩ b).setCell ⟨B,2,none⟩ c).setCell ⟨B,3,none⟩ d):=
  ((((Turned.refl (fun k=>k=B) W).setCell (p:=⟨B,0,none⟩) (.inr rfl) _).setCell (p:=⟨B,1,none⟩) (.inr rfl) _).setCell (p:=⟨B,2,none⟩) (.inr rfl) _).setCell (p:=⟨B,3,none⟩) (.inr rfl) _
 obtain ⟨k1,k2,k3,k4,k5,k6⟩:=h11 _ (Qe ..);simp only [] at k1 k2 k3 k4 k5 k6
 have up:∀ {y:LT},y.In q W→y.In q _:=fun {y} hy=>LT.In.turned Tq (fun k _ hk e=>k6 (e ▸ hk)) (fun _ _ q=>q) y hy
 refine ⟨q,l,O,rs,ss,h1,h2,h3.turned Tq (fun k hk e=>⟨fun c=>k2 (e ▸ c),fun c=>k6 (e ▸ c)⟩),h4,h5.step Tq (fun k hk e=>by omega),(Tq.block mb (zL h6) (fun e=>k3 e.symm)).trans h6,⟨r1.turned Tq (fun k hk e=>by simp [Value.ownBlock] at hk;exact k4 (e.symm.trans hk.symm)),r2,fun y hy=>up (r3 y hy)⟩,⟨s1.turned Tq (fun k hk e=>by simp [Value.ownBlock] at hk;exact k5 (e.symm.trans hk.symm)),s2,fun y hy=>up (s3 y hy)⟩,h9,h10,fun e he=>?_,fun y hy=>up (h12 y hy)⟩
 rcases Qw.1 he with rfl | he
 · exact ⟨set4 k1,k2,k3,k4,k5,k6⟩
 · obtain ⟨j1,j2⟩:=h11 e (Qb _ he)
   exact ⟨(Tq.block _ (zL j1) (hB e he)).trans j1,j2⟩
theorem MK.wsize (h:MK N bb mb gr gs R S bx ts w1 st W):w1.heap.size≤W.heap.size:=h.old.size
theorem MK.walk (hN:N=w1.heap.size) (h:MK N bb mb gr gs R S bx ts w1 st W) (ht:t∈ts) (hg:∀ z∈t.bare.flat,goodOneB z=true) :
 Calls Try.prog 90 #[.pointer (some ⟨bb,0,none⟩),.agg #[.int .i64 t.kind,.int .i64 t.n,.string t.name,.slice t.at_.1 t.args.length t.at_.2]] W fun e w'=>∃ u:LT,e = .returned (aggM u)∧u.bare=Tm.walkT st.l t.bare∧Turned zN W w'∧MK N bb mb gr gs R S bx (u :: ts) w1 st w':=by
 have hk:=h;obtain ⟨q,l,O,rs,ss,h1,h2,h3,h4,h5,h6,⟨r1,r2,r3⟩,⟨s1,s2,s3⟩,h9,h10,h11,h12⟩:=h;have:=walkO90 h3 (h12 t ht) hg;rw [LT.val_eq,h2] at this;refine this.mono ?_
 rintro e w' ⟨u,rfl,g1,g2,T⟩
 refine ⟨u,by rw [LT.val_eq];rfl,g2,T,?_⟩;have hk':=hk.turned0 T;exact ⟨q,l,O,rs,ss,h1,h2,h3.turned0 T,h4,h5.trans T,(T.bt h6),⟨r1.turned0 T,r2,fun x hx=>(r3 x hx).turned0 T⟩,⟨s1.turned0 T,s2,fun x hx=>(s3 x hx).turned0 T⟩,h9,h10,fun b hb=>⟨(T.bt (h11 b hb).1),(h11 b hb).2⟩,fun x hx=>(Qw.1 hx).elim (fun e=>e ▸ g1) (fun hx=>(h12 x hx).turned0 T)⟩
structure WkR (mk:List (Nat × Obj)→List LT→World→Prop) (w0:World) (Q:Tm Unit) (hs:Hist) (W:World):Prop where
 t:Turned zN w0 W
 it:∃ (bs:List (Nat × Obj)) (us:List LT),mk bs us W∧(∀ v,(12,v)∈hs→∃ u∈us,v=aggM u∧u.bare=Q)∧((∀ v,(13,v)∉hs)→bs=[])∧∀ v,(13,v)∈hs→∃ B c0 c1 c2 c3,v=ptr B∧w0.heap.size≤B∧bs=[(B,.cells #[c0,c1,c2,c3] 27 (0,0))]∧∀ q,(14,q)∈hs→(12,.agg #[c0,c1,c2,c3])∈hs
def MKx (N bb mb gr gs R S:Nat) (bx:List (Nat × Obj)) (ts:List LT) (w1:World) (st:Tm.MS) (bs:List (Nat × Obj)) (us:List LT) (W:World):Prop:=MK N bb mb gr gs R S (bs++bx) (us++ts) w1 st W
variable {Q:Tm Unit} {hs:Hist}
theorem WkR.start (h:MK N bb mb gr gs R S bx ts w1 st w0) (T:Turned zN w0 W):WkR (MKx N bb mb gr gs R S bx ts w1 st) w0 Q [] W:=
 ⟨T,[],[],h.turned0 T,fun v h=>(Ql h).elim,fun _=>rfl,fun v h=>(Ql h).elim⟩
theorem WkR.turned0 (h:WkR (MKx N bb mb gr gs R S bx ts w1 st) w0 Q hs W) (T:Turned zN W W'):WkR (MKx N bb mb gr gs R S bx ts w1 st) w0 Q hs W':=by
 obtain ⟨t,bs,us,h1,h2⟩:=h;exact ⟨t.trans T,bs,us,MK.turned0 h1 T,h2⟩
theorem WkR.called (hN:N=w1.heap.size) (h:WkR (MKx N bb mb gr gs R S bx ts w1 st) w0 (Tm.walkT st.l t.bare) hs W) (ht:t∈ts) (hg:∀ z∈t.bare.flat,goodOneB z=true) (hno:∀ v,(12,v)∉hs) (hst:∀ q,(14,q)∉hs) :
 Calls Try.prog 90 #[.pointer (some ⟨bb,0,none⟩),.agg #[.int .i64 t.kind,.int .i64 t.n,.string t.name,.slice t.at_.1 t.args.length t.at_.2]] W fun e w'=>∃ v,e = .returned v∧WkR (MKx N bb mb gr gs R S bx ts w1 st) w0 (Tm.walkT st.l t.bare) (hs++[(12,v)]) w':=by
 obtain ⟨T,bs,us,h1,h2,h3,h4⟩:=h;refine (MK.walk hN (show MK _ _ _ _ _ _ _ _ _ _ _ _ from h1) (Qj _ ht) hg).mono ?_
 rintro e w' ⟨u,rfl,g1,T',g2⟩
 refine ⟨_,rfl,T.trans T',bs,u :: us,g2,fun v hv=>?_,fun hn=>h3 (fun v hv=>hn v (Qc _ hv)),fun v hv=>?_⟩
 · rcases mem_snoc hv with hv | ⟨_,e⟩
   · exact absurd hv (hno v)
   · exact ⟨u,Qe ..,e,g1⟩
 · rcases mem_snoc hv with hv | ⟨e,_⟩
   · obtain ⟨B,c0,c1,c2,c3,k1,k2,k3,k4⟩:=h4 v hv
     refine ⟨B,c0,c1,c2,c3,k1,k2,k3,fun q hq=>?_⟩
     rcases mem_snoc hq with hq | ⟨e,_⟩
     · exact absurd hq (hst q)
     · cases e
   · cases e
theorem WkR.laid {c0 c1 c2 c3:Value} (h:WkR (MKx N bb mb gr gs R S bx ts w1 st) w0 Q hs W) (hno:∀ v,(13,v)∉hs) (hst:∀ q,(14,q)∉hs):WkR (MKx N bb mb gr gs R S bx ts w1 st) w0 Q (hs++[(13,ptr W.heap.size)]) (W.alloc (.cells #[c0,c1,c2,c3] 27)):=by
 obtain ⟨T,bs,us,h1,h2,h3,h4⟩:=h;obtain rfl:=h3 hno;refine ⟨T.trans ((Turned.refl _ W).alloc _),[(W.heap.size,.cells #[c0,c1,c2,c3] 27 (0,0))],us,MK.box h1 _,fun v hv=>?_,fun hn=>absurd (Qj _ (List.mem_singleton.2 rfl)) (hn (ptr W.heap.size)),fun v hv=>?_⟩
 · rcases mem_snoc hv with hv | ⟨e,_⟩
   · exact h2 v hv
   · cases e
 · rcases mem_snoc hv with hv | ⟨_,e⟩
   · exact absurd hv (hno v)
   · refine ⟨W.heap.size,c0,c1,c2,c3,e,T.size,rfl,fun q hq=>?_⟩
     rcases mem_snoc hq with hq | ⟨e,_⟩
     · exact absurd hq (hst q)
     · cases e
theorem WkR.cell {v:Value} (h:WkR (MKx N bb mb gr gs R S bx ts w1 st) w0 Q hs W) (h9:(13,v)∈hs):∃ B c0 c1 c2 c3,v = .pointer (some ⟨B,0,none⟩)∧W.heap[B]? = some (.cells #[c0,c1,c2,c3] 27 (0,0)):=by
 obtain ⟨T,bs,us,h1,h2,h3,h4⟩:=h;obtain ⟨B,c0,c1,c2,c3,k1,k2,rfl,k4⟩:=h4 v h9;exact ⟨B,c0,c1,c2,c3,k1,MK.boxes h1 _ (Qe ..)⟩
theorem WkR.val {v:Value} (h:WkR (MKx N bb mb gr gs R S bx ts w1 st) w0 Q hs W) (h9:(12,v)∈hs):∃ u:LT,v = .agg #[.int .i64 u.kind,.int .i64 u.n,.string u.name,.slice u.at_.1 u.args.length u.at_.2]:=by
 obtain ⟨T,bs,us,h1,h2,h3,h4⟩:=h;obtain ⟨u,_,e,_⟩:=h2 v h9;exact ⟨u,e⟩
theorem WkR.stored {B:Nat} {u:LT} {q:Value} (h:WkR (MKx N bb mb gr gs R S bx ts w1 st) w0 Q hs W) (hw0:w1.heap.size≤w0.heap.size) (hbx:∀ e∈bx,e.1 < w0.heap.size) (h13:(13,ptr B)∈hs) (h12:(12,.agg #[.int .i64 u.kind,.int .i64 u.n,.string u.name,.slice u.at_.1 u.args.length u.at_.2])∈hs) :
 WkR (MKx N bb mb gr gs R S bx ts w1 st) w0 Q (hs++[(14,q)]) ((((W.setCell ⟨B,0,none⟩ (.int .i64 u.kind)).setCell ⟨B,1,none⟩ (.int .i64 u.n)).setCell ⟨B,2,none⟩ (.string u.name)).setCell ⟨B,3,none⟩ (.slice u.at_.1 u.args.length u.at_.2)):=by
 obtain ⟨T,bs,us,h1,h2,h3,h4⟩:=h;obtain ⟨B',c0,c1,c2,c3,k1,k2,rfl,k4⟩:=h4 _ h13;obtain rfl:=ptr_inj k1;have Ts:=turned_store4 W B (.int .i64 u.kind) (.int .i64 u.n) (.string u.name) (.slice u.at_.1 u.args.length u.at_.2);have hs1:=MK.setBox (a:=.int .i64 u.kind) (b:=.int .i64 u.n) (c:=.string u.name) (d:=.slice u.at_.1 u.args.length u.at_.2) (show MK N bb mb gr gs R S ((B,.cells #[c0,c1,c2,c3] 27 (0,0)) :: bx) (us++ts) w1 st W from h1) (fun e he=>by have:=hbx e he;omega) (by omega);refine ⟨T.step Ts (fun i hi e=>by omega),[(B,.cells #[.int .i64 u.kind,.int .i64 u.n,.string u.name,.slice u.at_.1 u.args.length u.at_.2] 27 (0,0))],us,hs1,fun v hv=>?_,fun hn=>absurd (Qc _ h13) (hn _),fun v hv=>?_⟩
 · rcases mem_snoc hv with hv | ⟨e,_⟩
   · exact h2 v hv
   · cases e
 · rcases mem_snoc hv with hv | ⟨e,_⟩
   · obtain ⟨B2,_,_,_,_,e1,_,e2,_⟩:=h4 _ hv
     have e3:B=B2:=by injection e2 with e2;injection e2
     exact ⟨B,_,_,_,_,by rw [e1,e3],k2,rfl,fun q _=>Qc _ h12⟩
   · cases e
theorem WkR.done {v:Value} (h:WkR (MKx N bb mb gr gs R S bx ts w1 st) w0 Q hs W) (hall:∀ i∈[12,13,14],∃ v,(i,v)∈hs) (h13:(13,v)∈hs) :
 ∃ B,∃ u:LT,v = .pointer (some ⟨B,0,none⟩)∧u.bare=Q∧MK N bb mb gr gs R S ((B,.cells #[.int .i64 u.kind,.int .i64 u.n,.string u.name,.slice u.at_.1 u.args.length u.at_.2] 27 (0,0)) :: bx) (u :: ts) w1 st W:=by
 obtain ⟨T,bs,us,h1,h2,h3,h4⟩:=h;obtain ⟨B,c0,c1,c2,c3,k1,k2,rfl,k4⟩:=h4 _ h13;obtain ⟨q,hq⟩:=hall 14 (by simp);obtain ⟨u,hu,e,hb⟩:=h2 _ (k4 q hq)
 have e1:c0 = .int .i64 u.kind∧c1 = .int .i64 u.n∧c2 = .string u.name∧c3 = .slice u.at_.1 u.args.length u.at_.2:=by
  unfold aggM at e;simpa using e
 obtain ⟨rfl,rfl,rfl,rfl⟩:=e1;refine ⟨B,u,k1,hb,MK.sub h1 (fun b h=>h) (fun x hx=>?_)⟩
 rcases Qw.1 hx with rfl | hx
 · exact Qc _ hu
 · exact Qj _ hx
end
end Go.Proofs.Ytoihjobdfjajfaa
namespace Go.Proofs.Ytoihjobdfjajfaa
open Lib (hid)
open Go.RowKit Go.Maps
theorem MRQ.mono {mk mk':Tm.MS→World→Prop} {st:Tm.MS} {r:Tm.MR} {e:Ending} {w:World} (hm:∀ s W,mk s W→mk' s W) (h:MRQ mk st r e w):MRQ mk' st r e w:=by
 cases r with
 | go s=>exact ⟨h.1,hm _ _ h.2⟩
 | stop E m=>obtain ⟨b,s2,h1,h2,h3,h4,h5⟩:=h;exact ⟨b,s2,h1,h2,h3,h4,hm _ _ h5⟩
theorem MRQ.turned0 {mk:Tm.MS→World→Prop} {st:Tm.MS} {r:Tm.MR} {e:Ending} {w w':World} (hm:∀ s W W',mk s W→Turned zN W W'→mk s W') (h:MRQ mk st r e w) (T:Turned zN w w'):MRQ mk st r e w':=by
 cases r with
 | go s=>exact ⟨h.1,hm _ _ _ h.2 T⟩
 | stop E m=>obtain ⟨b,s2,h1,h2,h3,h4,h5⟩:=h;exact ⟨b,s2,h1,h2,h3,h4,hm _ _ _ h5 T⟩
theorem MRQ.shape {mk:Tm.MS→World→Prop} {st:Tm.MS} {r:Tm.MR} {e:Ending} {w:World} (h:MRQ mk st r e w):∃ (b:Bool) (E:Int),e = .returned (.tuple #[.bool b,.int .i64 E]):=by
 cases r with
 | go s=>exact ⟨_,_,h.1⟩
 | stop E m=>obtain ⟨b,s2,h1,_⟩:=h;exact ⟨_,_,h1⟩
theorem bothR_stop {m:Nat} {l tr:Tm.Trail} {x y:Tm Unit} {ok:Bool} {c e:Int} (h:bothR m l x y=(ok,c,e,tr)) (hn:¬ (ok=true∧e=0)):ok=false∧tr=l:=by
 unfold bothR at h
 split at h
 · split at h <;> injection h with h1 h <;> injection h with h2 h <;> injection h with h3 h <;> subst h1 h3 h
   · exact absurd ⟨rfl,rfl⟩ hn
   · exact ⟨rfl,rfl⟩
   · exact ⟨rfl,rfl⟩
 · injection h with h1 h
   injection h with h2 h
   injection h with h3 h
   subst h1 h;exact ⟨rfl,rfl⟩
def OneM (V:Value) (Q:World→Prop) (w0:World):List Value→World→Prop
 | [],W=>Turned zN w0 W
 | [a],W=>a=V∧Q W
 | _,_=>False
section
variable {V:Value} {Q:World→Prop} {w0:World}
theorem OneM.turned0 (hQ:∀ W W',Q W→Turned zN W W'→Q W'):∀ (hs:List Value) (w w':World),OneM V Q w0 hs w→Turned zN w w'→OneM V Q w0 hs w'
 | [],_,_,h,T=>Turned.trans h T
 | [_],_,_,h,T=>⟨h.1,hQ _ _ h.2 T⟩
 | _ :: _ :: _,_,_,h,_=>h.elim
theorem OneM.early:∀ (hs:List Value) (W:World),hs.length≤0→OneM V Q w0 hs W→Turned zN w0 W
 | [],_,_,h=>h
theorem OneM.val:∀ (hs:List Value) (W:World) {x:Value},OneM V Q w0 hs W→hs[0]? = some x→x=V
 | [],_,_,_,e=>by simp at e
 | [_],_,_,h,e=>by simp at e;rw [←e];exact h.1
 | _ :: _ :: _,_,_,h,_=>h.elim
end
def TieS (t:LT) (b:Bool) (E:Int) (mk:Tm.MS→World→Prop) (st:Tm.MS) (MR:Tm.MR) (w0:World):List Value→World→Prop
 | [],W=>Turned zN w0 W
 | [v],W=>Turned zN w0 W∧v = .agg #[.int .i64 t.kind,.int .i64 t.n,.string t.name,.slice t.at_.1 t.args.length t.at_.2]
 | [_,v],W=>v = .tuple #[.bool b,.int .i64 E]∧MRQ mk st MR (.returned (.tuple #[.bool b,.int .i64 E])) W
 | _,_=>False
section
variable {t:LT} {b:Bool} {E:Int} {mk:Tm.MS→World→Prop} {st:Tm.MS} {MR:Tm.MR} {w0:World}
theorem TieS.turned0 (hm:∀ s W W',mk s W→Turned zN W W'→mk s W'):∀ (hs:List Value) (w w':World),TieS t b E mk st MR w0 hs w→Turned zN w w'→TieS t b E mk st MR w0 hs w'
 | [],_,_,h,T=>Turned.trans h T
 | [_],_,_,h,T=>⟨h.1.trans T,h.2⟩
 | [_,_],_,_,h,T=>⟨h.1,h.2.turned0 hm T⟩
 | _ :: _ :: _ :: _,_,_,h,_=>h.elim
theorem TieS.early:∀ (hs:List Value) (W:World),hs.length≤1→TieS t b E mk st MR w0 hs W→Turned zN w0 W
 | [],_,_,h=>h
 | [_],_,_,h=>h.1
 | _ :: _ :: _,_,h,_=>absurd h (by simp)
theorem TieS.val:∀ (hs:List Value) (W:World) {x:Value},TieS t b E mk st MR w0 hs W→hs[1]? = some x→x = .tuple #[.bool b,.int .i64 E]
 | [],_,_,_,e=>by simp at e
 | [_],_,_,_,e=>by simp at e
 | [_,_],_,_,h,e=>by simp at e;rw [←e];exact h.1
 | _ :: _ :: _ :: _,_,_,h,_=>h.elim
end
section
variable {N bb mb gr gs R S:Nat} {bx:List (Nat × Obj)} {ts:List LT} {w1 w:World} {st st':Tm.MS} {x t:LT}
def OneOk (R S:Nat) (st:Tm.MS) (op name:ByteArray) (b c:Nat) (n:Int):Prop:=
 (op=Tm.sVar∧b < S)∨(op=Tm.sVal∧b < S∧Tm.ownB st.m (st.ss.getD b (Tm.V 0))=true)∨(op=Tm.sInt∧I64 n)∨(op=Tm.sAtom)∨(op=Tm.sComp∧1≤b∧b≤12∧c+b≤R∧st.m+b≤65536)
set_option maxRecDepth 100000 in
theorem one159 {op name:ByteArray} {a b c:Nat} {n:Int} (hN:N=w1.heap.size) (h:MK N bb mb gr gs R S bx ts w1 st w) (ha:a < R) (hR:R≤2000) (hS:S≤2000) (hs:name.size≤maxLen) (hown:Tm.ownB st.m (st.rs.getD a (Tm.V 0))=true) (hop:OneOk R S st op name b c n) :
 Calls Try.prog 159 #[.pointer (some ⟨mb,0,none⟩),.agg #[.string op,.int .i64 (a:Int),.int .i64 (b:Int),.int .i64 (c:Int),.int .i64 n,.string name]] w (MRQ (MK N bb mb gr gs R S bx ts w1) st (Tm.stepM st ⟨op,(a:Int),(b:Int),(c:Int),n,name⟩)):=by
 have hm1:MK N bb mb gr gs R S ((w.heap.size,.cells #[.string op,.int .i64 (a:Int),.int .i64 (b:Int),.int .i64 (c:Int),.int .i64 n,.string name] 139 (0,0)) :: bx) ts w1 st (w.alloc (.cells #[.string op,.int .i64 (a:Int),.int .i64 (b:Int),.int .i64 (c:Int),.int .i64 n,.string name] 139)):=h.box (.cells #[.string op,.int .i64 (a:Int),.int .i64 (b:Int),.int .i64 (c:Int),.int .i64 n,.string name] 139);obtain ⟨w2,hw2⟩:∃ z,z=w.alloc (.cells #[.string op,.int .i64 (a:Int),.int .i64 (b:Int),.int .i64 (c:Int),.int .i64 n,.string name] 139):=⟨_,rfl⟩;rw [←hw2] at hm1
 have hla:st.rs[a]? = some (st.rs.getD a (Tm.V 0)):=by
  have:=h.lens.1;rw [List.getD_eq_getElem?_getD,Qa (by omega)];rfl
 obtain ⟨r,hr,hrc,hm2⟩:=hm1.reg hla;rw [←hr] at hown;obtain ⟨MR,hMR⟩:∃ z,z=Tm.stepM st ⟨op,(a:Int),(b:Int),(c:Int),n,name⟩:=⟨_,rfl⟩;rw [←hMR];unfold Tm.stepM at hMR;simp only [Int.toNat_natCast,←hr] at hMR;have howx:Tm.ownB st.m (Tm.walkT st.l r.bare)=true:=Tm.walkT_own h.ok _ _ (Qm _) hown;have HMR:=hid hMR;have HOX:=hid howx;have HM2:=hid hm2;have HW2:=hid hw2;have HN:=hid hN;have HAR:Hid (a < R∧R≤2000):=⟨ha,hR⟩;have HOP:=hid hop;have HNS:=hid hs
 have HGO:Hid (∀ z∈r.bare.flat,goodOneB z=true):=by
  have:=(Tm.ownB_iff.1 hown).1;unfold goodB at this;simp only [Qd,Qt] at this;exact this.2.2
 have HW12:Hid (w1.heap.size≤w2.heap.size):=hm2.wsize
 have HBL:Hid (∀ e∈((w.heap.size,.cells #[.string op,.int .i64 (a:Int),.int .i64 (b:Int),.int .i64 (c:Int),.int .i64 n,.string name] 139 (0,0)) :: bx),e.1 < w2.heap.size):=fun e he=>(zL (hm2.boxes e he))
 have HBX:Hid (∀ W,Turned zN w2 W→(W.cell? ⟨mb,0,none⟩=some (.pointer (some ⟨bb,0,none⟩))∧W.cell? ⟨mb,1,none⟩=some (.slice (some ⟨gr,0,none⟩) R R)∧W.cell? ⟨mb,2,none⟩=some (.slice (some ⟨gs,0,none⟩) S S))∧(W.cell? ⟨w.heap.size,0,none⟩=some (.string op)∧W.cell? ⟨w.heap.size,1,none⟩=some (.int .i64 (a:Int))∧W.cell? ⟨w.heap.size,2,none⟩=some (.int .i64 (b:Int))∧W.cell? ⟨w.heap.size,3,none⟩=some (.int .i64 (c:Int))∧W.cell? ⟨w.heap.size,4,none⟩=some (.int .i64 n)∧W.cell? ⟨w.heap.size,5,none⟩=some (.string name))∧
  W.cell? ⟨gr,a * 4,none⟩=some (.int .i64 r.kind)∧W.cell? ⟨gr,a * 4+1,none⟩=some (.int .i64 r.n)∧W.cell? ⟨gr,a * 4+2,none⟩=some (.string r.name)∧W.cell? ⟨gr,a * 4+3,none⟩=some (.slice r.at_.1 r.args.length r.at_.2)):=fun W T=>by
  have hW:=hm2.turned0 T;obtain ⟨b0,b1,b2,_⟩:=rec3b hW.mbox;exact ⟨⟨b0,b1,b2⟩,cells6 (hW.boxes _ (Qe ..)),T.cell0 hrc.1,T.cell0 hrc.2.1,T.cell0 hrc.2.2.1,T.cell0 hrc.2.2.2⟩
 obtain ⟨⟨b0,b1,b2⟩,⟨m0,m1,m2,m3,m4,m5⟩,r0,r1,r2,r3⟩:=HBX.out w2 (Turned.refl _ _);clear h hm1 hm2 hw2 hla hr hrc hMR hown howx hN ha hR hS hs hop;go_enter Try.func159,Try.ntmps159
 go_wp2_with fail
 rw [←HW2.out]
 try go_wp2_with fail
 refine wp_region_k [10,11,12,13,14,15,16,17,18,19,20,21,22,6] [12,13,14] [(22,12),(6,13)] (fun dd vv=>(match dd with | 10=>vv = .pointer (some ⟨mb,0,none⟩) | 11=>vv = .pointer (some ⟨mb,0,none⟩) | 12=>vv = .pointer (some ⟨mb,0,none⟩) | 13=>vv = .pointer (some ⟨bb,0,none⟩) | 14=>vv = .pointer (some ⟨mb,0,none⟩) | 15=>vv = .pointer (some ⟨mb,0,none⟩) | 16=>vv = .pointer (some ⟨mb,1,none⟩) | 17=>vv = .slice (some ⟨gr,0,none⟩) R R | 18=>vv = .pointer (some ⟨w.heap.size,1,none⟩) | 19=>vv = .int .i64 (a:Int) | 20=>vv = .pointer (some ⟨gr,a * 4,none⟩) | 21=>vv = .agg #[.int .i64 r.kind,.int .i64 r.n,.string r.name,.slice r.at_.1 r.args.length r.at_.2] | _=>True:Prop)) (WkR (MKx N bb mb gr gs R S ((w.heap.size,.cells #[.string op,.int .i64 (a:Int),.int .i64 (b:Int),.int .i64 (c:Int),.int .i64 n,.string name] 139 (0,0)) :: bx) (r :: ts) w1 st) w2 (Tm.walkT st.l r.bare)) (by kernel_rfl) rfl (by kernel_rfl) (by kernel_rfl) (fun W T=>WkR.start HM2.out T) (fun hs W W' h T=>h.turned0 T) ?hs ?hQ
 case hs=>
  refine ⟨?s0,?s1,?s2,?s3,?s4,?s5,?s6,?s7,?s8,?s9,?s10,?s11,?s12,?s13,?s14,trivial⟩
  case s0=>refine fun hs hl=>zG [] [0] fun ac W hT hI hO=>?_;simp only [execOp,Act.eval,hO 0 (by simp)];go_simp;try exact tq
  case s1=>refine fun hs hl=>zG [10] [] fun ac W hT hI hO=>?_;have h10:_=_:=hI 10 (by simp);simp only [execOp,Act.eval,h10];go_simp;try exact tq
  case s2=>refine fun hs hl=>zG [11] [] fun ac W hT hI hO=>?_;have h11:_=_:=hI 11 (by simp);simp only [execOp,Act.eval,h11];go_simp;try exact tq
  case s3=>refine fun hs hl=>zG [12] [] fun ac W hT hI hO=>?_;have h12:_=_:=hI 12 (by simp);obtain ⟨⟨b0,b1,b2⟩,⟨m0,m1,m2,m3,m4,m5⟩,r0,r1,r2,r3⟩:=HBX.out W hT.t;simp only [execOp,Act.eval,h12];go_simp;try exact tq
  case s4=>refine fun hs hl=>zG [] [0] fun ac W hT hI hO=>?_;simp only [execOp,Act.eval,hO 0 (by simp)];go_simp;try exact tq
  case s5=>refine fun hs hl=>zG [14] [] fun ac W hT hI hO=>?_;have h14:_=_:=hI 14 (by simp);simp only [execOp,Act.eval,h14];go_simp;try exact tq
  case s6=>refine fun hs hl=>zG [15] [] fun ac W hT hI hO=>?_;have h15:_=_:=hI 15 (by simp);simp only [execOp,Act.eval,h15];go_simp;try exact tq
  case s7=>refine fun hs hl=>zG [16] [] fun ac W hT hI hO=>?_;have h16:_=_:=hI 16 (by simp);obtain ⟨⟨b0,b1,b2⟩,⟨m0,m1,m2,m3,m4,m5⟩,r0,r1,r2,r3⟩:=HBX.out W hT.t;simp only [execOp,Act.eval,h16];go_simp;try exact tq
  case s8=>refine fun hs hl=>zG [] [3] fun ac W hT hI hO=>?_;simp only [execOp,Act.eval,hO 3 (by simp)];go_simp;try exact tq
  case s9=>refine fun hs hl=>zG [18] [] fun ac W hT hI hO=>?_;have h18:_=_:=hI 18 (by simp);obtain ⟨⟨b0,b1,b2⟩,⟨m0,m1,m2,m3,m4,m5⟩,r0,r1,r2,r3⟩:=HBX.out W hT.t;simp only [execOp,Act.eval,h18];go_simp;try exact tq
  case s10=>refine fun hs hl=>zG [17,19] [] fun ac W hT hI hO=>?_;have h17:_=_:=hI 17 (by simp);have h19:_=_:=hI 19 (by simp);have haR:=HAR.out;simp only [execOp,Act.eval,h17,h19];go_simp;try exact tq
  case s11=>refine fun hs hl=>zG [20] [] fun ac W hT hI hO=>?_;have h20:_=_:=hI 20 (by simp);obtain ⟨⟨b0,b1,b2⟩,⟨m0,m1,m2,m3,m4,m5⟩,r0,r1,r2,r3⟩:=HBX.out W hT.t;simp only [execOp,Act.eval,h20];go_simp;try exact tq
  case s12=>
   refine fun hs hno hl=>zG [13,21] [] fun ac W hT hI hO=>?_;have h13:_=_:=hI 13 (by simp);have h21:_=_:=hI 21 (by simp);show Brings _ (fun vv w'=>WkR (MKx N bb mb gr gs R S ((w.heap.size,.cells #[.string op,.int .i64 (a:Int),.int .i64 (b:Int),.int .i64 (c:Int),.int .i64 n,.string name] 139 (0,0)) :: bx) (r :: ts) w1 st) w2 (Tm.walkT st.l r.bare) (hs++[(12,vv)]) w') _;simp only [execOp,Act.eval,h13,h21];go_simp;show Calls Try.prog 90 _ W _
   (with_reducible refine (hT.called HN.out (Qe ..) HGO.out hno (fun q=>hl 14 15 q (by kernel_rfl))).mono ?_)
   rintro e w' ⟨u,rfl,g⟩
   exact ⟨_,rfl,g⟩
  case s13=>
   refine fun hs hno hl=>zG [] [] fun ac W hT hI hO=>?_;show Brings _ (fun vv w'=>WkR (MKx N bb mb gr gs R S ((w.heap.size,.cells #[.string op,.int .i64 (a:Int),.int .i64 (b:Int),.int .i64 (c:Int),.int .i64 n,.string name] 139 (0,0)) :: bx) (r :: ts) w1 st) w2 (Tm.walkT st.l r.bare) (hs++[(13,vv)]) w') _;simp only [execOp,Act.eval];go_simp;exact hT.laid hno (fun q=>hl 14 15 q (by kernel_rfl))
  case s14=>
   refine fun hs hno hl=>zG [6,22] [] fun ac W hT hI hO=>?_;have h6:(13,ac.tmps.getD 6 undef)∈hs:=hI 6 (by simp);have h22:(12,ac.tmps.getD 22 undef)∈hs:=hI 22 (by simp);obtain ⟨B,a0,a1,a2,a3,eB,hB⟩:=hT.cell h6;obtain ⟨u,eA⟩:=hT.val h22;have h22':=h22;rw [eA] at h22';obtain ⟨d0,d1,d2,d3,f0,f1,f2,f3⟩:=cells4 hB;show Brings _ (fun vv w'=>WkR (MKx N bb mb gr gs R S ((w.heap.size,.cells #[.string op,.int .i64 (a:Int),.int .i64 (b:Int),.int .i64 (c:Int),.int .i64 n,.string name] 139 (0,0)) :: bx) (r :: ts) w1 st) w2 (Tm.walkT st.l r.bare) (hs++[(14,vv)]) w') _;simp only [execOp,Act.eval,eB,eA];go_simp;rw [eB] at h6;exact hT.stored HW12.out HBL.out h6 h22'
 case hQ=>
  intro hs vs w5 hall huniq hR hV;have q6:(13,vs 6)∈hs:=hV 6 (by simp);obtain ⟨B,u,hB,hub,hmk⟩:=hR.done hall q6;simp only [Qq,List.foldl_nil,Qk,Qs,Qr,hB];have HM5:Hid (MK N bb mb gr gs R S ((B,.cells #[.int .i64 u.kind,.int .i64 u.n,.string u.name,.slice u.at_.1 u.args.length u.at_.2] 27 (0,0)) :: (w.heap.size,.cells #[.string op,.int .i64 (a:Int),.int .i64 (b:Int),.int .i64 (c:Int),.int .i64 n,.string name] 139 (0,0)) :: bx) (u :: r :: ts) w1 st w5):=hmk;have HUB:=hid hub;clear hall huniq hR hV q6 hB hmk hub
  have HC5:Hid (∀ W,Turned zN w5 W→(W.cell? ⟨mb,0,none⟩=some (.pointer (some ⟨bb,0,none⟩))∧W.cell? ⟨mb,1,none⟩=some (.slice (some ⟨gr,0,none⟩) R R)∧W.cell? ⟨mb,2,none⟩=some (.slice (some ⟨gs,0,none⟩) S S))∧(W.cell? ⟨w.heap.size,0,none⟩=some (.string op)∧W.cell? ⟨w.heap.size,1,none⟩=some (.int .i64 (a:Int))∧W.cell? ⟨w.heap.size,2,none⟩=some (.int .i64 (b:Int))∧W.cell? ⟨w.heap.size,3,none⟩=some (.int .i64 (c:Int))∧W.cell? ⟨w.heap.size,4,none⟩=some (.int .i64 n)∧W.cell? ⟨w.heap.size,5,none⟩=some (.string name))∧
   W.cell? ⟨B,0,none⟩=some (.int .i64 u.kind)∧W.cell? ⟨B,1,none⟩=some (.int .i64 u.n)∧W.cell? ⟨B,2,none⟩=some (.string u.name)∧W.cell? ⟨B,3,none⟩=some (.slice u.at_.1 u.args.length u.at_.2)):=fun W T=>by
   have hW:=HM5.out.turned0 T;obtain ⟨b0,b1,b2,_⟩:=rec3b hW.mbox;obtain ⟨e0,e1,e2,e3,_⟩:=cells4 (hW.boxes _ (Qe ..));exact ⟨⟨b0,b1,b2⟩,cells6 (hW.boxes _ (Qb _ (Qe ..))),e0,e1,e2,e3⟩
  have gu:goodB u=true:=by rw [←goodB_bare,HUB.out];exact (Tm.ownB_iff.1 HOX.out).1
  have HSU:Hid (slim u):=good_slim gu
  have hsub:∀ s W,MK N bb mb gr gs R S ((B,.cells #[.int .i64 u.kind,.int .i64 u.n,.string u.name,.slice u.at_.1 u.args.length u.at_.2] 27 (0,0)) :: (w.heap.size,.cells #[.string op,.int .i64 (a:Int),.int .i64 (b:Int),.int .i64 (c:Int),.int .i64 n,.string name] 139 (0,0)) :: bx) (u :: r :: ts) w1 s W→MK N bb mb gr gs R S bx ts w1 s W:=fun s W h=>h.sub (fun b h=>Qb _ (Qb _ h)) (fun x h=>Qb _ (Qb _ h))
  have HSB:=hid hsub;clear gu hsub;obtain ⟨⟨b0,b1,b2⟩,⟨m0,m1,m2,m3,m4,m5⟩,r0,r1,r2,r3⟩:=HC5.out w5 (Turned.refl _ _);have hop:=HOP.out;rw [←HUB.out] at HMR
  rcases hop with ⟨rfl,hbS⟩ | ⟨rfl,hbS,hos⟩ | ⟨rfl,h64⟩ | rfl | ⟨rfl,hb1,hb12,hcR,hmb⟩
  · have o0:=op_Var_Var
    have HE:Hid (MR = .go ⟨st.m,st.l,st.rs,st.ss.set b u.bare⟩):=by show _=_;rw [HMR.out,if_pos rfl]
    have hms:=(HM5.out.turned0 ((Turned.refl (fun _=>False) w5).drew)).setSlot HN.out (i:=b) hbS;have HMS:=hid hms;obtain ⟨e0,e1,e2,e3,⟨s0,s1,s2,s3⟩,f0,f1,f2,f3⟩:=HM5.out.slotAt hbS;clear hms
    go_wp2_with fail
    refine region_tail 8 (by kernel_rfl) (by kernel_rfl) ?_;simp only [List.take_succ_cons,List.take_zero,List.drop_succ_cons,List.drop_zero]
    repeat still_step
    refine wpStill_nil ?_
    go_wp2_with fail
    go_ret2
    rw [HE.out];exact ⟨rfl,HSB.out _ _ HMS.out⟩
  · have o0:=op_Val_Var
    have o1:=op_Val_Val
    have hlb:st.ss[b]? = some (st.ss.getD b (Tm.V 0)):=by
     have:=HM5.out.lens.2;rw [List.getD_eq_getElem?_getD,Qa (by omega)];rfl
    obtain ⟨s,hsb,hsc,hms⟩:=HM5.out.slot hlb;rw [←hsb] at hos
    have gs0:goodB s=true:=by rw [←goodB_bare];exact (Tm.ownB_iff.1 hos).1
    have HSS:Hid (slim s):=good_slim gs0;obtain ⟨Q,hQ⟩:∃ z,z=bothR st.m st.l s.bare u.bare:=⟨_,rfl⟩;obtain ⟨rok,rc,re,rtr⟩:=Q
    have hval:MR=(if rok=true∧re=0 then .go ⟨st.m,rtr,st.rs,st.ss⟩ else .stop re st.m):=by
     rw [HMR.out,if_neg (by decide),if_pos rfl];unfold Tm.valM;rw [←hsb,←hQ]
    have HVAL:=hid hval;have HQR:=hid hQ.symm
    have hboth:∀ W,Turned zN w5 W→Calls Try.prog 110 #[.pointer (some ⟨bb,0,none⟩),.agg #[.int .i64 s.kind,.int .i64 s.n,.string s.name,.slice s.at_.1 s.args.length s.at_.2],.agg #[.int .i64 u.kind,.int .i64 u.n,.string u.name,.slice u.at_.1 u.args.length u.at_.2]] W fun E w'=>E = .returned (.tuple #[.bool rok,.int .i64 rc,.int .i64 re])∧MK N bb mb gr gs R S bx ts w1 ⟨st.m,rtr,st.rs,st.ss⟩ w':=fun W T=>by
     obtain ⟨q,O,l,h3,hl,hq,hts,hk⟩:=MK.call HN.out (hms.turned0 T);refine (bothVal h3 (hts s (Qe ..)) HSS.out (hts u (Qb _ (Qe ..))) HSU.out (show bothR st.m (bt l) s.bare u.bare=(rok,rc,re,rtr) by rw [hl];exact HQR.out)).mono ?_
     rintro E w' ⟨rfl,l2,hl2,ha⟩
     have:=hk _ l2 w' ha;rw [hl2] at this;exact ⟨rfl,this.sub (fun b h=>Qb _ (Qb _ h)) (fun x h=>Qb _ (Qb _ (Qb _ h)))⟩
    have HBO:=hid hboth
    have HSC:Hid (∀ W,Turned zN w5 W→W.cell? ⟨gs,b * 4,none⟩=some (.int .i64 s.kind)∧W.cell? ⟨gs,b * 4+1,none⟩=some (.int .i64 s.n)∧W.cell? ⟨gs,b * 4+2,none⟩=some (.string s.name)∧W.cell? ⟨gs,b * 4+3,none⟩=some (.slice s.at_.1 s.args.length s.at_.2)):=fun W T=>⟨T.cell0 hsc.1,T.cell0 hsc.2.1,T.cell0 hsc.2.2.1,T.cell0 hsc.2.2.2⟩
    have HBS:=hid hbS;clear hsc hlb hsb hms hos gs0 hQ hval hboth
    go_wp2_with fail
    refine wp_region_hsW [38,39,40,41,42,43,44,45,46,47,48,49,50,51,37,52,53,54,7,8,9] [13] [0,0,0,0,0,0,0,0,0,0,0,0,0,1,1,1,1,1,1,1,1] [51] (fun dd vv=>(match dd with | 38=>vv = .pointer (some ⟨mb,0,none⟩) | 39=>vv = .pointer (some ⟨mb,0,none⟩) | 40=>vv = .pointer (some ⟨mb,0,none⟩) | 41=>vv = .pointer (some ⟨bb,0,none⟩) | 42=>vv = .pointer (some ⟨mb,0,none⟩) | 43=>vv = .pointer (some ⟨mb,0,none⟩) | 44=>vv = .pointer (some ⟨mb,2,none⟩) | 45=>vv = .slice (some ⟨gs,0,none⟩) S S | 46=>vv = .pointer (some ⟨w.heap.size,2,none⟩) | 47=>vv = .int .i64 (b:Int) | 48=>vv = .pointer (some ⟨gs,b * 4,none⟩) | 49=>vv = .agg #[.int .i64 s.kind,.int .i64 s.n,.string s.name,.slice s.at_.1 s.args.length s.at_.2] | 50=>vv = .agg #[.int .i64 u.kind,.int .i64 u.n,.string u.name,.slice u.at_.1 u.args.length u.at_.2] | 37=>vv = .tuple #[.bool rok,.int .i64 rc,.int .i64 re] | 52=>vv = .bool rok | 53=>vv = .int .i64 rc | 54=>vv = .int .i64 re | 7=>vv = .bool rok | 8=>vv = .int .i64 rc | 9=>vv = .int .i64 re | _=>True:Prop)) (OneM (.tuple #[.bool rok,.int .i64 rc,.int .i64 re]) (MK N bb mb gr gs R S bx ts w1 ⟨st.m,rtr,st.rs,st.ss⟩) w5) (by kernel_rfl) rfl (by kernel_rfl) (by kernel_rfl) (by kernel_rfl) (by kernel_rfl) (fun w h=>h) (fun hs w w' h T=>OneM.turned0 (fun W W' h T=>h.turned0 T) hs w w' h T) ?hs ?hQ
    case hs=>
     refine ⟨?s0,?s1,?s2,?s3,?s4,?s5,?s6,?s7,?s8,?s9,?s10,?s11,?s12,?s13,?s14,?s15,?s16,?s17,?s18,?s19,?s20,trivial⟩
     case s0=>refine fun hs hle=>zG [] [0] fun ac W hT hI hO=>?_;have hle:hs.length≤0:=hle;simp only [execOp,Act.eval,hO 0 (by simp)];go_simp;try exact tq
     case s1=>refine fun hs hle=>zG [38] [] fun ac W hT hI hO=>?_;have hle:hs.length≤0:=hle;have h38:_=_:=hI 38 (by simp);simp only [execOp,Act.eval,h38];go_simp;try exact tq
     case s2=>refine fun hs hle=>zG [39] [] fun ac W hT hI hO=>?_;have hle:hs.length≤0:=hle;have h39:_=_:=hI 39 (by simp);simp only [execOp,Act.eval,h39];go_simp;try exact tq
     case s3=>refine fun hs hle=>zG [40] [] fun ac W hT hI hO=>?_;have hle:hs.length≤0:=hle;have h40:_=_:=hI 40 (by simp);obtain ⟨⟨b0,b1,b2⟩,⟨m0,m1,m2,m3,m4,m5⟩,r0,r1,r2,r3⟩:=HC5.out W (OneM.early hs W (by omega) hT);simp only [execOp,Act.eval,h40];go_simp;try exact tq
     case s4=>refine fun hs hle=>zG [] [0] fun ac W hT hI hO=>?_;have hle:hs.length≤0:=hle;simp only [execOp,Act.eval,hO 0 (by simp)];go_simp;try exact tq
     case s5=>refine fun hs hle=>zG [42] [] fun ac W hT hI hO=>?_;have hle:hs.length≤0:=hle;have h42:_=_:=hI 42 (by simp);simp only [execOp,Act.eval,h42];go_simp;try exact tq
     case s6=>refine fun hs hle=>zG [43] [] fun ac W hT hI hO=>?_;have hle:hs.length≤0:=hle;have h43:_=_:=hI 43 (by simp);simp only [execOp,Act.eval,h43];go_simp;try exact tq
     case s7=>refine fun hs hle=>zG [44] [] fun ac W hT hI hO=>?_;have hle:hs.length≤0:=hle;have h44:_=_:=hI 44 (by simp);obtain ⟨⟨b0,b1,b2⟩,⟨m0,m1,m2,m3,m4,m5⟩,r0,r1,r2,r3⟩:=HC5.out W (OneM.early hs W (by omega) hT);simp only [execOp,Act.eval,h44];go_simp;try exact tq
     case s8=>refine fun hs hle=>zG [] [3] fun ac W hT hI hO=>?_;have hle:hs.length≤0:=hle;simp only [execOp,Act.eval,hO 3 (by simp)];go_simp;try exact tq
     case s9=>refine fun hs hle=>zG [46] [] fun ac W hT hI hO=>?_;have hle:hs.length≤0:=hle;have h46:_=_:=hI 46 (by simp);obtain ⟨⟨b0,b1,b2⟩,⟨m0,m1,m2,m3,m4,m5⟩,r0,r1,r2,r3⟩:=HC5.out W (OneM.early hs W (by omega) hT);simp only [execOp,Act.eval,h46];go_simp;try exact tq
     case s10=>refine fun hs hle=>zG [45,47] [] fun ac W hT hI hO=>?_;have hle:hs.length≤0:=hle;have h45:_=_:=hI 45 (by simp);have h47:_=_:=hI 47 (by simp);have hbS:=HBS.out;simp only [execOp,Act.eval,h45,h47];go_simp;try exact tq
     case s11=>refine fun hs hle=>zG [48] [] fun ac W hT hI hO=>?_;have hle:hs.length≤0:=hle;have h48:_=_:=hI 48 (by simp);obtain ⟨s0,s1,s2,s3⟩:=HSC.out W (OneM.early hs W (by omega) hT);simp only [execOp,Act.eval,h48];go_simp;try exact tq
     case s12=>refine fun hs hle=>zG [] [6] fun ac W hT hI hO=>?_;have hle:hs.length≤0:=hle;obtain ⟨⟨b0,b1,b2⟩,⟨m0,m1,m2,m3,m4,m5⟩,r0,r1,r2,r3⟩:=HC5.out W (OneM.early hs W (by omega) hT);simp only [execOp,Act.eval,hO 6 (by simp)];go_simp;try exact tq
     case s13=>
      refine fun hs hlen=>zG [41,49,50] [] fun ac W hT hI hO=>?_;have h41:_=_:=hI 41 (by simp);have h49:_=_:=hI 49 (by simp);have h50:_=_:=hI 50 (by simp);obtain rfl:hs=[]:=Qh hlen;replace hT:Turned zN w5 W:=hT;show Brings _ (fun vv w'=>OneM (.tuple #[.bool rok,.int .i64 rc,.int .i64 re]) (MK N bb mb gr gs R S bx ts w1 ⟨st.m,rtr,st.rs,st.ss⟩) w5 [vv] w') _;simp only [execOp,Act.eval,h41,h49,h50];go_simp;show Calls Try.prog 110 _ W _
      (with_reducible refine (HBO.out W hT).mono ?_)
      rintro e w' ⟨rfl,hq⟩
      exact ⟨_,rfl,rfl,hq⟩
     case s14=>refine fun hs hle=>zG [51] [] fun ac W hT hI hO=>?_;have hle:hs.length≤1:=hle;have h51:hs[0]? = some (ac.tmps.getD 51 undef):=hI 51 (by simp);have ef:=OneM.val hs W hT h51;simp only [execOp,Act.eval,ef];go_simp;try exact tq
     case s15=>refine fun hs hle=>zG [37] [] fun ac W hT hI hO=>?_;have hle:hs.length≤1:=hle;have h37:_=_:=hI 37 (by simp);simp only [execOp,Act.eval,h37];go_simp;try exact tq
     case s16=>refine fun hs hle=>zG [37] [] fun ac W hT hI hO=>?_;have hle:hs.length≤1:=hle;have h37:_=_:=hI 37 (by simp);simp only [execOp,Act.eval,h37];go_simp;try exact tq
     case s17=>refine fun hs hle=>zG [37] [] fun ac W hT hI hO=>?_;have hle:hs.length≤1:=hle;have h37:_=_:=hI 37 (by simp);simp only [execOp,Act.eval,h37];go_simp;try exact tq
     case s18=>refine fun hs hle=>zG [52] [] fun ac W hT hI hO=>?_;have hle:hs.length≤1:=hle;have h52:_=_:=hI 52 (by simp);simp only [execOp,Act.eval,h52];go_simp;try exact tq
     case s19=>refine fun hs hle=>zG [53] [] fun ac W hT hI hO=>?_;have hle:hs.length≤1:=hle;have h53:_=_:=hI 53 (by simp);simp only [execOp,Act.eval,h53];go_simp;try exact tq
     case s20=>
      refine fun hs hle=>zG [54] [] fun ac W hT hI hO=>?_;have hle:hs.length≤1:=hle;have h54:_=_:=hI 54 (by simp);simp only [execOp,Act.eval,h54];go_simp
      try exact tq
    case hQ=>
     intro hs vs w6 hlen hR hV;have q7:vs 7 = .bool rok:=hV 7 (by simp);have q8:vs 8 = .int .i64 rc:=hV 8 (by simp);have q9:vs 9 = .int .i64 re:=hV 9 (by simp);simp only [Qq,List.foldl_nil,Qk,Qs,Qr,q7,q8,q9];obtain ⟨a1,rfl⟩:=List.length_eq_one_iff.1 hlen;have H6:=hid hR.2;clear hlen hR hV q7 q8 q9
     go_wp2_with fail
     go_ret2
     rw [HVAL.out]
     by_cases hg:rok=true∧re=0
     · rw [if_pos hg,hg.1,hg.2]
       exact ⟨rfl,H6.out⟩
     · rw [if_neg hg]
       obtain ⟨rfl,rfl⟩:=bothR_stop HQR.out hg;exact ⟨false,⟨st.m,st.l,st.rs,st.ss⟩,rfl,(fun e=>by cases e),rfl,⟨[],rfl⟩,H6.out⟩
  · have o0:=op_Int_Var
    have o1:=op_Int_Val;have o2:=op_Int_Int;have H64:=hid h64;clear h64
    have HMT:Hid (MR=Tm.tieM st u.bare (leaf 1 n ByteArray.empty:LT).bare):=by show _=_;rw [HMR.out,if_neg (by decide),if_neg (by decide),if_pos rfl];rfl
    obtain ⟨B1,hB1⟩:∃ z,z=tieB MR:=⟨_,rfl⟩;obtain ⟨E1,hE1⟩:∃ z,z=tieE MR:=⟨_,rfl⟩
    have htie:∀ W,Turned zN w5 W→Calls Try.prog 178 #[.pointer (some ⟨mb,0,none⟩),.agg #[.int .i64 u.kind,.int .i64 u.n,.string u.name,.slice u.at_.1 u.args.length u.at_.2],.agg #[.int .i64 1,.int .i64 n,.string ByteArray.empty,.slice none 0 0]] W fun e w'=>e = .returned (.tuple #[.bool B1,.int .i64 E1])∧MRQ (MK N bb mb gr gs R S ((B,.cells #[.int .i64 u.kind,.int .i64 u.n,.string u.name,.slice u.at_.1 u.args.length u.at_.2] 27 (0,0)) :: (w.heap.size,.cells #[.string Tm.sInt,.int .i64 (a:Int),.int .i64 (b:Int),.int .i64 (c:Int),.int .i64 n,.string name] 139 (0,0)) :: bx) (u :: r :: ts) w1) st MR (.returned (.tuple #[.bool B1,.int .i64 E1])) w':=fun W T=>by
     have:=tie178 HN.out (HM5.out.turned0 T) ((HM5.out.turned0 T).terms u (Qe ..)) HSU.out (by rw [HUB.out];exact HOX.out) (t:=leaf 1 n ByteArray.empty) (fun p w=>leafIn' (i64_lit 1 (by omega)) H64.out (by unfold maxLen;decide)) (slim_leaf _ _ _);rw [←HMT.out,←hB1,←hE1] at this;refine this.mono ?_
     rintro e w' ⟨h,rfl⟩
     exact ⟨rfl,h⟩
    have HTI:=hid htie;clear hB1 hE1 htie
    go_wp2_with fail
    refine wp_region_hsW [59,60,61,62,63,64,65,66,4,5] [4,5] [1,1,0,0,1,2,2,2,2,2] [63,64] (fun dd vv=>(match dd with | 59=>vv = .pointer (some ⟨mb,0,none⟩) | 60=>vv = .agg #[.int .i64 u.kind,.int .i64 u.n,.string u.name,.slice u.at_.1 u.args.length u.at_.2] | 61=>vv = .pointer (some ⟨w.heap.size,4,none⟩) | 62=>vv = .int .i64 n | 65=>vv = .bool B1 | 66=>vv = .int .i64 E1 | 4=>vv = .bool B1 | 5=>vv = .int .i64 E1 | _=>True:Prop)) (TieS (leaf 1 n ByteArray.empty) B1 E1 (MK N bb mb gr gs R S ((B,.cells #[.int .i64 u.kind,.int .i64 u.n,.string u.name,.slice u.at_.1 u.args.length u.at_.2] 27 (0,0)) :: (w.heap.size,.cells #[.string Tm.sInt,.int .i64 (a:Int),.int .i64 (b:Int),.int .i64 (c:Int),.int .i64 n,.string name] 139 (0,0)) :: bx) (u :: r :: ts) w1) st MR w5) (by kernel_rfl) rfl (by kernel_rfl) (by kernel_rfl) (by kernel_rfl) (by kernel_rfl) (fun w h=>h) (fun hs w w' h T=>TieS.turned0 (fun s W W' h T=>h.turned0 T) hs w w' h T) ?hs ?hQ
    case hs=>
     refine ⟨?s0,?s1,?s2,?s3,?s4,?s5,?s6,?s7,?s8,?s9,trivial⟩
     case s0=>refine fun hs hle=>zG [] [0] fun ac W hT hI hO=>?_;have hle:hs.length≤1:=hle;simp only [execOp,Act.eval,hO 0 (by simp)];go_simp;try exact tq
     case s1=>refine fun hs hle=>zG [] [6] fun ac W hT hI hO=>?_;have hle:hs.length≤1:=hle;obtain ⟨⟨b0,b1,b2⟩,⟨m0,m1,m2,m3,m4,m5⟩,r0,r1,r2,r3⟩:=HC5.out W (TieS.early hs W (by omega) hT);simp only [execOp,Act.eval,hO 6 (by simp)];go_simp;try exact tq
     case s2=>refine fun hs hle=>zG [] [3] fun ac W hT hI hO=>?_;have hle:hs.length≤0:=hle;simp only [execOp,Act.eval,hO 3 (by simp)];go_simp;try exact tq
     case s3=>refine fun hs hle=>zG [61] [] fun ac W hT hI hO=>?_;have hle:hs.length≤0:=hle;have h61:_=_:=hI 61 (by simp);obtain ⟨⟨b0,b1,b2⟩,⟨m0,m1,m2,m3,m4,m5⟩,r0,r1,r2,r3⟩:=HC5.out W (TieS.early hs W (by omega) hT);simp only [execOp,Act.eval,h61];go_simp;try exact tq
     case s4=>
      refine fun hs hlen=>zG [62] [] fun ac W hT hI hO=>?_;have h62:_=_:=hI 62 (by simp);obtain rfl:hs=[]:=Qh hlen;replace hT:Turned zN w5 W:=hT;show Brings _ (fun vv w'=>TieS (leaf 1 n ByteArray.empty) B1 E1 (MK N bb mb gr gs R S ((B,.cells #[.int .i64 u.kind,.int .i64 u.n,.string u.name,.slice u.at_.1 u.args.length u.at_.2] 27 (0,0)) :: (w.heap.size,.cells #[.string Tm.sInt,.int .i64 (a:Int),.int .i64 (b:Int),.int .i64 (c:Int),.int .i64 n,.string name] 139 (0,0)) :: bx) (u :: r :: ts) w1) st MR w5 [vv] w') _;simp only [execOp,Act.eval,h62];go_simp;show Calls Try.prog 61 _ W _
      (with_reducible refine (int61 n H64.out W).mono ?_)
      rintro e w' ⟨rfl,_,T'⟩
      exact ⟨_,rfl,hT.trans T',by rw [LT.val_eq];rfl⟩
     case s5=>
      refine fun hs hlen=>zG [59,60,63] [] fun ac W hT hI hO=>?_;have h59:_=_:=hI 59 (by simp);have h60:_=_:=hI 60 (by simp);have h63:hs[0]? = some (ac.tmps.getD 63 undef):=hI 63 (by simp);obtain ⟨a1,rfl⟩:=List.length_eq_one_iff.1 hlen
      have e63:a1=ac.tmps.getD 63 undef:=by simpa using h63
      obtain ⟨hT1,y1⟩:=hT;rw [e63] at y1;show Brings _ (fun vv w'=>TieS (leaf 1 n ByteArray.empty) B1 E1 (MK N bb mb gr gs R S ((B,.cells #[.int .i64 u.kind,.int .i64 u.n,.string u.name,.slice u.at_.1 u.args.length u.at_.2] 27 (0,0)) :: (w.heap.size,.cells #[.string Tm.sInt,.int .i64 (a:Int),.int .i64 (b:Int),.int .i64 (c:Int),.int .i64 n,.string name] 139 (0,0)) :: bx) (u :: r :: ts) w1) st MR w5 [a1,vv] w') _;simp only [execOp,Act.eval,h59,h60,y1];go_simp;show Calls Try.prog 178 _ W _;refine (HTI.out W hT1).mono ?_
      rintro e w' ⟨rfl,hq⟩
      exact ⟨_,rfl,rfl,hq⟩
     case s6=>refine fun hs hle=>zG [64] [] fun ac W hT hI hO=>?_;have hle:hs.length≤2:=hle;have h64:hs[1]? = some (ac.tmps.getD 64 undef):=hI 64 (by simp);have ef:=TieS.val hs W hT h64;simp only [execOp,Act.eval,ef];go_simp;try exact tq
     case s7=>refine fun hs hle=>zG [64] [] fun ac W hT hI hO=>?_;have hle:hs.length≤2:=hle;have h64:hs[1]? = some (ac.tmps.getD 64 undef):=hI 64 (by simp);have ef:=TieS.val hs W hT h64;simp only [execOp,Act.eval,ef];go_simp;try exact tq
     case s8=>refine fun hs hle=>zG [65] [] fun ac W hT hI hO=>?_;have hle:hs.length≤2:=hle;have h65:_=_:=hI 65 (by simp);simp only [execOp,Act.eval,h65];go_simp;try exact tq
     case s9=>
      refine fun hs hle=>zG [66] [] fun ac W hT hI hO=>?_;have hle:hs.length≤2:=hle;have h66:_=_:=hI 66 (by simp);simp only [execOp,Act.eval,h66];go_simp
      try exact tq
    case hQ=>
     intro hs vs w6 hlen hR hV;have q4:vs 4 = .bool B1:=hV 4 (by simp);have q5:vs 5 = .int .i64 E1:=hV 5 (by simp);simp only [Qq,List.foldl_nil,Qk,Qs,Qr,q4,q5];obtain ⟨a1,a2,rfl⟩:=list2' hlen;obtain ⟨rfl,hr2⟩:=hR;have HR2:=hid hr2;clear hlen hV q4 q5 hr2
     go_wp2_with fail
     go_ret2
     exact HR2.out.mono HSB.out
  · have o0:=op_Atom_Var
    have o1:=op_Atom_Val;have o2:=op_Atom_Int;have o3:=op_Atom_Atom
    have HMT:Hid (MR=Tm.tieM st u.bare (leaf 2 0 name:LT).bare):=by show _=_;rw [HMR.out,if_neg (by decide),if_neg (by decide),if_neg (by decide),if_pos rfl];rfl
    obtain ⟨B1,hB1⟩:∃ z,z=tieB MR:=⟨_,rfl⟩;obtain ⟨E1,hE1⟩:∃ z,z=tieE MR:=⟨_,rfl⟩
    have htie:∀ W,Turned zN w5 W→Calls Try.prog 178 #[.pointer (some ⟨mb,0,none⟩),.agg #[.int .i64 u.kind,.int .i64 u.n,.string u.name,.slice u.at_.1 u.args.length u.at_.2],.agg #[.int .i64 2,.int .i64 0,.string name,.slice none 0 0]] W fun e w'=>e = .returned (.tuple #[.bool B1,.int .i64 E1])∧MRQ (MK N bb mb gr gs R S ((B,.cells #[.int .i64 u.kind,.int .i64 u.n,.string u.name,.slice u.at_.1 u.args.length u.at_.2] 27 (0,0)) :: (w.heap.size,.cells #[.string Tm.sAtom,.int .i64 (a:Int),.int .i64 (b:Int),.int .i64 (c:Int),.int .i64 n,.string name] 139 (0,0)) :: bx) (u :: r :: ts) w1) st MR (.returned (.tuple #[.bool B1,.int .i64 E1])) w':=fun W T=>by
     have:=tie178 HN.out (HM5.out.turned0 T) ((HM5.out.turned0 T).terms u (Qe ..)) HSU.out (by rw [HUB.out];exact HOX.out) (t:=leaf 2 0 name) (fun p w=>leafIn' (i64_lit 2 (by omega)) (i64_lit 0 (by omega)) HNS.out) (slim_leaf _ _ _);rw [←HMT.out,←hB1,←hE1] at this;refine this.mono ?_
     rintro e w' ⟨h,rfl⟩
     exact ⟨rfl,h⟩
    have HTI:=hid htie;clear hB1 hE1 htie
    go_wp2_with fail
    refine wp_region_hsW [69,70,71,72,73,74,75,76,4,5] [4,5] [1,1,0,0,1,2,2,2,2,2] [73,74] (fun dd vv=>(match dd with | 69=>vv = .pointer (some ⟨mb,0,none⟩) | 70=>vv = .agg #[.int .i64 u.kind,.int .i64 u.n,.string u.name,.slice u.at_.1 u.args.length u.at_.2] | 71=>vv = .pointer (some ⟨w.heap.size,5,none⟩) | 72=>vv = .string name | 75=>vv = .bool B1 | 76=>vv = .int .i64 E1 | 4=>vv = .bool B1 | 5=>vv = .int .i64 E1 | _=>True:Prop)) (TieS (leaf 2 0 name) B1 E1 (MK N bb mb gr gs R S ((B,.cells #[.int .i64 u.kind,.int .i64 u.n,.string u.name,.slice u.at_.1 u.args.length u.at_.2] 27 (0,0)) :: (w.heap.size,.cells #[.string Tm.sAtom,.int .i64 (a:Int),.int .i64 (b:Int),.int .i64 (c:Int),.int .i64 n,.string name] 139 (0,0)) :: bx) (u :: r :: ts) w1) st MR w5) (by kernel_rfl) rfl (by kernel_rfl) (by kernel_rfl) (by kernel_rfl) (by kernel_rfl) (fun w h=>h) (fun hs w w' h T=>TieS.turned0 (fun s W W' h T=>h.turned0 T) hs w w' h T) ?hs ?hQ
    case hs=>
     refine ⟨?s0,?s1,?s2,?s3,?s4,?s5,?s6,?s7,?s8,?s9,trivial⟩
     case s0=>refine fun hs hle=>zG [] [0] fun ac W hT hI hO=>?_;have hle:hs.length≤1:=hle;simp only [execOp,Act.eval,hO 0 (by simp)];go_simp;try exact tq
     case s1=>refine fun hs hle=>zG [] [6] fun ac W hT hI hO=>?_;have hle:hs.length≤1:=hle;obtain ⟨⟨b0,b1,b2⟩,⟨m0,m1,m2,m3,m4,m5⟩,r0,r1,r2,r3⟩:=HC5.out W (TieS.early hs W (by omega) hT);simp only [execOp,Act.eval,hO 6 (by simp)];go_simp;try exact tq
     case s2=>refine fun hs hle=>zG [] [3] fun ac W hT hI hO=>?_;have hle:hs.length≤0:=hle;simp only [execOp,Act.eval,hO 3 (by simp)];go_simp;try exact tq
     case s3=>refine fun hs hle=>zG [71] [] fun ac W hT hI hO=>?_;have hle:hs.length≤0:=hle;have h71:_=_:=hI 71 (by simp);obtain ⟨⟨b0,b1,b2⟩,⟨m0,m1,m2,m3,m4,m5⟩,r0,r1,r2,r3⟩:=HC5.out W (TieS.early hs W (by omega) hT);simp only [execOp,Act.eval,h71];go_simp;try exact tq
     case s4=>
      refine fun hs hlen=>zG [72] [] fun ac W hT hI hO=>?_;have h72:_=_:=hI 72 (by simp);obtain rfl:hs=[]:=Qh hlen;replace hT:Turned zN w5 W:=hT;show Brings _ (fun vv w'=>TieS (leaf 2 0 name) B1 E1 (MK N bb mb gr gs R S ((B,.cells #[.int .i64 u.kind,.int .i64 u.n,.string u.name,.slice u.at_.1 u.args.length u.at_.2] 27 (0,0)) :: (w.heap.size,.cells #[.string Tm.sAtom,.int .i64 (a:Int),.int .i64 (b:Int),.int .i64 (c:Int),.int .i64 n,.string name] 139 (0,0)) :: bx) (u :: r :: ts) w1) st MR w5 [vv] w') _;simp only [execOp,Act.eval,h72];go_simp;show Calls Try.prog 63 _ W _
      (with_reducible refine (atom63 name HNS.out W).mono ?_)
      rintro e w' ⟨rfl,_,T'⟩
      exact ⟨_,rfl,hT.trans T',by rw [LT.val_eq];rfl⟩
     case s5=>
      refine fun hs hlen=>zG [69,70,73] [] fun ac W hT hI hO=>?_;have h69:_=_:=hI 69 (by simp);have h70:_=_:=hI 70 (by simp);have h73:hs[0]? = some (ac.tmps.getD 73 undef):=hI 73 (by simp);obtain ⟨a1,rfl⟩:=List.length_eq_one_iff.1 hlen
      have e63:a1=ac.tmps.getD 73 undef:=by simpa using h73
      obtain ⟨hT1,y1⟩:=hT;rw [e63] at y1;show Brings _ (fun vv w'=>TieS (leaf 2 0 name) B1 E1 (MK N bb mb gr gs R S ((B,.cells #[.int .i64 u.kind,.int .i64 u.n,.string u.name,.slice u.at_.1 u.args.length u.at_.2] 27 (0,0)) :: (w.heap.size,.cells #[.string Tm.sAtom,.int .i64 (a:Int),.int .i64 (b:Int),.int .i64 (c:Int),.int .i64 n,.string name] 139 (0,0)) :: bx) (u :: r :: ts) w1) st MR w5 [a1,vv] w') _;simp only [execOp,Act.eval,h69,h70,y1];go_simp;show Calls Try.prog 178 _ W _;refine (HTI.out W hT1).mono ?_
      rintro e w' ⟨rfl,hq⟩
      exact ⟨_,rfl,rfl,hq⟩
     case s6=>refine fun hs hle=>zG [74] [] fun ac W hT hI hO=>?_;have hle:hs.length≤2:=hle;have h74:hs[1]? = some (ac.tmps.getD 74 undef):=hI 74 (by simp);have ef:=TieS.val hs W hT h74;simp only [execOp,Act.eval,ef];go_simp;try exact tq
     case s7=>refine fun hs hle=>zG [74] [] fun ac W hT hI hO=>?_;have hle:hs.length≤2:=hle;have h74:hs[1]? = some (ac.tmps.getD 74 undef):=hI 74 (by simp);have ef:=TieS.val hs W hT h74;simp only [execOp,Act.eval,ef];go_simp;try exact tq
     case s8=>refine fun hs hle=>zG [75] [] fun ac W hT hI hO=>?_;have hle:hs.length≤2:=hle;have h75:_=_:=hI 75 (by simp);simp only [execOp,Act.eval,h75];go_simp;try exact tq
     case s9=>
      refine fun hs hle=>zG [76] [] fun ac W hT hI hO=>?_;have hle:hs.length≤2:=hle;have h76:_=_:=hI 76 (by simp);simp only [execOp,Act.eval,h76];go_simp
      try exact tq
    case hQ=>
     intro hs vs w6 hlen hR hV;have q4:vs 4 = .bool B1:=hV 4 (by simp);have q5:vs 5 = .int .i64 E1:=hV 5 (by simp);simp only [Qq,List.foldl_nil,Qk,Qs,Qr,q4,q5];obtain ⟨a1,a2,rfl⟩:=list2' hlen;obtain ⟨rfl,hr2⟩:=hR;have HR2:=hid hr2;clear hlen hV q4 q5 hr2
     go_wp2_with fail
     go_ret2
     exact HR2.out.mono HSB.out
  · have o0:=op_Comp_Var
    have o1:=op_Comp_Val;have o2:=op_Comp_Int;have o3:=op_Comp_Atom
    have hco:Calls Try.prog 179 #[.pointer (some ⟨mb,0,none⟩),.agg #[.int .i64 u.kind,.int .i64 u.n,.string u.name,.slice u.at_.1 u.args.length u.at_.2],.agg #[.string Tm.sComp,.int .i64 (a:Int),.int .i64 (b:Int),.int .i64 (c:Int),.int .i64 n,.string name]] w5 (MRQ (MK N bb mb gr gs R S ((B,.cells #[.int .i64 u.kind,.int .i64 u.n,.string u.name,.slice u.at_.1 u.args.length u.at_.2] 27 (0,0)) :: (w.heap.size,.cells #[.string Tm.sComp,.int .i64 (a:Int),.int .i64 (b:Int),.int .i64 (c:Int),.int .i64 n,.string name] 139 (0,0)) :: bx) (u :: r :: ts) w1) st MR):=by
     rw [HMR.out,if_neg (by decide),if_neg (by decide),if_neg (by decide),if_neg (by decide)]
     by_cases hk:u.kind=0
     · have hv:=Tm.ownB_var (show Tm.ownB st.m u.bare=true by rw [HUB.out];exact HOX.out) (by rw [Tm.bare_kind];exact hk)
       rw [Tm.bare_n] at hv;exact comp179b HN.out HM5.out (Qe ..) hk hb1 hb12 hcR HAR.out.2 hmb HNS.out (by unfold I64;omega)
     · exact comp179a HN.out HM5.out (Qe ..) hk hb1 hcR HAR.out.2
    have HCO:=hid hco;clear hco
    go_wp2_with (go_at_call 179;(with_reducible refine HCO.out.mono ?_);rintro e w6 h6;obtain ⟨b',E',rfl⟩:=h6.shape;have H6:=hid h6;clear h6)
    go_ret2
    exact H6.out.mono HSB.out
end
theorem enter157 (args:Array Value) (w:World):(callFunc 157 args).run Try.prog w = .ok (.enter 157 args) w:=by kernel_rfl
theorem closure157 {p O:Nat→Prop} {bb m K:Nat} {l:TL} {w:World} {x:LT} (h:BO p bb O m l w) (hx:x.In p w) (hs:slim x) (ho:Tm.ownB m x=true) (hK:w.heap[K]? = some (.cells #[.pointer (some ⟨bb,0,none⟩)] 93 (0,0))) :
 Calls Try.prog 157 #[.agg #[.int .i64 x.kind,.int .i64 x.n,.string x.name,.slice x.at_.1 x.args.length x.at_.2],.pointer (some ⟨K,0,none⟩)] w fun e w'=>e = .returned (.bool false)∧Turned zN w w':=by
 have hk0:=cell_of_row w K 0 _ 93 (0,0) hK;simp only [List.getElem?_toArray,List.getElem?_cons_zero] at hk0;have T1:Turned zN w (w.alloc (.cells #[.int .i64 x.kind,.int .i64 x.n,.string x.name,.slice x.at_.1 x.args.length x.at_.2] 27)):=(Turned.refl _ w).alloc _;have hnew:=heap_alloc_new w (.cells #[.int .i64 x.kind,.int .i64 x.n,.string x.name,.slice x.at_.1 x.args.length x.at_.2] 27)
 have hown:Calls Try.prog 144 #[.pointer (some ⟨bb,0,none⟩),.agg #[.int .i64 x.kind,.int .i64 x.n,.string x.name,.slice x.at_.1 x.args.length x.at_.2]] (w.alloc (.cells #[.int .i64 x.kind,.int .i64 x.n,.string x.name,.slice x.at_.1 x.args.length x.at_.2] 27)) fun e w'=>e = .returned (.bool true)∧Turned zN (w.alloc (.cells #[.int .i64 x.kind,.int .i64 x.n,.string x.name,.slice x.at_.1 x.args.length x.at_.2] 27)) w':=by
  obtain ⟨sb,lv,tv,B,hO⟩:=(h.turned0 T1).bi;have:=own144 B (hx.turned0 T1) hs;rw [LT.val_eq,ho] at this;exact this
 have k0:=(T1.cell0 hk0);obtain ⟨c0,c1,c2,c3,_⟩:=cells4 hnew;have HOW:=hid hown;have HT1:=hid T1;clear h hx hs ho hK T1 hnew hown;go_enter Try.func157,Try.ntmps157
 go_wp2_with (go_at_call 144;(with_reducible refine HOW.out.mono ?_);rintro e w3 ⟨rfl,T3⟩;have HT3:=hid T3;clear T3)
 go_ret;exact ⟨rfl,HT1.out.trans HT3.out⟩
theorem indexNone177 {p:Nat→Prop} {l:List LT} {a:Option Addr} {c:Nat} {cap:Value} {w:World} (h:LT.Sl p w a c l) (hcall:∀ x∈l,∀ W,Turned zN w W→Calls Try.prog 157 #[.agg #[.int .i64 x.kind,.int .i64 x.n,.string x.name,.slice x.at_.1 x.args.length x.at_.2],cap] W fun e w'=>e = .returned (.bool false)∧Turned zN W w') :
 Calls Try.prog 177 #[.slice a l.length c,.func (.func 157) #[] #[cap]] w fun e w'=>e = .returned (.int .i64 (-1))∧Turned zN w w':=by
 have hc1:=h.cap;have hm1:=h.max;unfold maxLen at hm1;have henter:=enter157;have HL:=hid h;have HC:=hid hcall;clear h hcall;go_enter Try.func177,Try.ntmps177
 go_wp2_with fail
 go_loopg [8] l.length (fun g i wr=>∃ j:Nat,Hid (j+g=l.length)∧j≤l.length∧i = .int .i64 j∧Hid (Turned zN w wr))
 case atStart=>exact ⟨0,Nat.zero_add _,Nat.zero_le _,rfl,Turned.refl _ _⟩
 case round=>
  obtain ⟨j,HG,hj,rfl,HT⟩:=hrel
  by_cases hjl:j < l.length
  · have dj:decide ((j:Int) < (l.length:Int))=true:=decide_eq_true (by omega)
    obtain ⟨x,hx⟩:∃ x:LT,l[j]? = some x:=⟨_,Qa hjl⟩;obtain ⟨b1,o1,rfl,_,k0,k1,k2,k3⟩:=(HL.out.turned0 HT.out).lies.cell hx;have HCX:=hid (HC.out x (Qf hx));clear hx
    go_wp2_with (go_at_call 157;(with_reducible refine (HCX.out wr HT.out).mono ?_);rintro e w3 ⟨rfl,T3⟩;have HT3:=hid T3;clear T3)
    go_roundg (gk - 1)
    case measure=>have:=HG.out;omega
    case rel=>exact ⟨j+1,show _=_ by have:=HG.out;omega,by omega,by go_num,HT.out.trans HT3.out⟩
  · obtain rfl:j=l.length:=by omega
    have dj:decide ((l.length:Int) < (l.length:Int))=false:=decide_eq_false (by omega)
    go_wp2_with fail
    go_ret;exact ⟨rfl,HT.out⟩
theorem containsNone158 {p:Nat→Prop} {l:List LT} {a:Option Addr} {c:Nat} {cap:Value} {w:World} (h:LT.Sl p w a c l) (hcall:∀ x∈l,∀ W,Turned zN w W→Calls Try.prog 157 #[.agg #[.int .i64 x.kind,.int .i64 x.n,.string x.name,.slice x.at_.1 x.args.length x.at_.2],cap] W fun e w'=>e = .returned (.bool false)∧Turned zN W w') :
 Calls Try.prog 158 #[.slice a l.length c,.func (.func 157) #[] #[cap]] w fun e w'=>e = .returned (.bool false)∧Turned zN w w':=by
 have hi:=indexNone177 h hcall;have HI:=hid hi;clear h hcall hi;go_enter Try.func158,Try.ntmps158
 go_wp2_with (go_at_call 177;(with_reducible refine HI.out.mono ?_);rintro e w3 ⟨rfl,T3⟩;have HT3:=hid T3;clear T3)
 go_ret;exact ⟨rfl,HT3.out⟩
end Go.Proofs.Ytoihjobdfjajfaa
namespace Go.Proofs.Ytoihjobdfjajfaa
open Go.RowKit Go.Maps
def BM (N bb:Nat) (bx:List (Nat × Obj)) (ts:List LT) (w1:World) (m:Nat) (tr:Tm.Trail) (W:World):Prop:=
 ∃ (q:Nat→Prop) (l:TL) (O:Nat→Prop),(∀ k,k < N→q k)∧bt l=tr∧BO q bb O m l W∧(∀ k,O k→N≤k)∧Turned zN w1 W∧(∀ b∈bx,W.heap[b.1]? = some b.2∧¬ O b.1∧¬ q b.1)∧∀ x∈ts,x.In q W
section
variable {N bb mb gr gs R S m:Nat} {bx bx':List (Nat × Obj)} {ts ts':List LT} {w1 w0 W W':World} {tr:Tm.Trail} {st:Tm.MS} {x:LT}
theorem BM.turned0 (h:BM N bb bx ts w1 m tr W) (T:Turned zN W W'):BM N bb bx ts w1 m tr W':=by
 obtain ⟨q,l,O,h1,h2,h3,h4,h5,h6,h7⟩:=h;exact ⟨q,l,O,h1,h2,h3.turned0 T,h4,h5.trans T,fun b hb=>⟨(T.bt (h6 b hb).1),(h6 b hb).2⟩,fun x hx=>(h7 x hx).turned0 T⟩
theorem BM.old (h:BM N bb bx ts w1 m tr W):Turned zN w1 W:=by
 obtain ⟨q,l,O,h1,h2,h3,h4,h5,h6,h7⟩:=h;exact h5
theorem BM.boxes (h:BM N bb bx ts w1 m tr W):∀ b∈bx,W.heap[b.1]? = some b.2:=by
 obtain ⟨q,l,O,h1,h2,h3,h4,h5,h6,h7⟩:=h
 exact fun b hb=>(h6 b hb).1
theorem BM.terms (h:BM N bb bx ts w1 m tr W):∀ x∈ts,x.In (fun _=>True) W:=by
 obtain ⟨q,l,O,h1,h2,h3,h4,h5,h6,h7⟩:=h
 exact fun x hx=>(h7 x hx).mono (fun _ _ _=>trivial)
theorem BM.ok (h:BM N bb bx ts w1 m tr W):Tm.okT m tr:=by
 obtain ⟨q,l,O,h1,rfl,h3,_⟩:=h;exact h3.ok
theorem BM.most (h:BM N bb bx ts w1 m tr W):m≤65536:=by
 obtain ⟨q,l,O,h1,rfl,h3,_⟩:=h;exact h3.most
theorem BM.sub (h:BM N bb bx ts w1 m tr W) (hb:∀ b∈bx',b∈bx) (ht:∀ x∈ts',x∈ts):BM N bb bx' ts' w1 m tr W:=by
 obtain ⟨q,l,O,h1,h2,h3,h4,h5,h6,h7⟩:=h;exact ⟨q,l,O,h1,h2,h3,h4,h5,fun b hb'=>h6 b (hb b hb'),fun x hx=>h7 x (ht x hx)⟩
theorem BM.box (h:BM N bb bx ts w1 m tr W) (o:Obj):BM N bb ((W.heap.size,o) :: bx) ts w1 m tr (W.alloc o):=by
 have T:=(Turned.refl (fun _=>False) W).alloc o;have h':=h.turned0 T;obtain ⟨q,l,O,h1,h2,h3,h4,h5,h6,h7⟩:=h;refine ⟨q,l,O,h1,h2,h3.turned0 T,h4,h5.trans T,fun b hb=>?_,fun x hx=>(h7 x hx).turned0 T⟩
 rcases Qw.1 hb with rfl | hb
 · exact ⟨heap_alloc_new W o,fun c=>Qy _ (h3.lt _ c),fun c=>Qy _ (h3.plt _ c)⟩
 · exact ⟨(T.bt (h6 b hb).1),(h6 b hb).2⟩
theorem BM.keepBox (h:BM N bb bx ts w1 m tr w0) (T:Turned zN w0 W) {g:Nat} {o:Obj} (hg:w0.heap.size≤g) (ho:W.heap[g]? = some o):BM N bb ((g,o) :: bx) ts w1 m tr W:=by
 have h':=h.turned0 T;obtain ⟨q,l,O,h1,h2,h3,h4,h5,h6,h7⟩:=h;refine ⟨q,l,O,h1,h2,h3.turned0 T,h4,h5.trans T,fun b hb=>?_,fun x hx=>(h7 x hx).turned0 T⟩
 rcases Qw.1 hb with rfl | hb
 · exact ⟨ho,fun c=>by have:=h3.lt _ c;simp only [] at this;omega,fun c=>by have:=h3.plt _ c;simp only [] at this;omega⟩
 · exact ⟨(T.bt (h6 b hb).1),(h6 b hb).2⟩
theorem BM.call (hN:N=w1.heap.size) (h:BM N bb bx ts w1 m tr W):∃ (q O:Nat→Prop) (l:TL),BO q bb O m l W∧bt l=tr∧(∀ k,k < N→q k)∧(∀ x∈ts,x.In q W)∧∀ m' l' w',After q bb O m' l' W w'→BM N bb bx ts w1 m' (bt l') w':=by
 obtain ⟨q,l,O,h1,h2,h3,h4,h5,h6,h7⟩:=h;refine ⟨q,O,l,h3,h2,h1,h7,fun m' l' w' ha=>?_⟩;obtain ⟨O',a1,a2,a3⟩:=ha;refine ⟨q,l',O',h1,rfl,a1,fun k hk=>?_,h5.step a3 (fun i hi e=>by have:=h4 i e;omega),fun b hb=>?_,fun x hx=>LT.In.turned a3 (fun k hk hq e=>h3.sep k hq e) (fun _ _ q=>q) _ (h7 x hx)⟩
 · rcases Nat.lt_or_ge k W.heap.size with hh | hh
   · exact h4 k (a2 k hk hh)
   · have:=h5.size;omega
 · obtain ⟨c1,c2,c3⟩:=h6 b hb
   have hlt:=(zL c1);exact ⟨(a3.block _ hlt c2).trans c1,fun e=>c2 (a2 _ e hlt),c3⟩
theorem blanks_leaf (n:Nat):∀ x∈blanks n,∀ (p:Nat→Prop) (w:World),x.In p w:=by
 intro x hx p w;obtain rfl:=List.eq_of_mem_replicate hx;exact leafIn' (i64_lit 0 (by omega)) (i64_lit 0 (by omega)) (by unfold maxLen;decide)
theorem BM.matcher (h:BM N bb bx ts w1 m tr w0) (T:Turned zN w0 W) (hw:w1.heap.size=N)
 (hmb:W.heap[mb]? = some (.cells #[.pointer (some ⟨bb,0,none⟩),.slice (some ⟨gr,0,none⟩) R R,.slice (some ⟨gs,0,none⟩) S S] 197 (0,0)))
 (hr:Row W 27 4 (.slice (some ⟨gr,0,none⟩) R R) R ((blanks R).flatMap LT.cells)) (hs:Row W 27 4 (.slice (some ⟨gs,0,none⟩) S S) S ((blanks S).flatMap LT.cells))
 (h1:w0.heap.size≤mb∧w0.heap.size≤gr∧w0.heap.size≤gs) (h2:mb≠gr∧mb≠gs∧gr≠gs) :
 MK N bb mb gr gs R S bx ts w1 ⟨m,tr,(blanks R).map Tm.bare,(blanks S).map Tm.bare⟩ W:=by
 have hsz:=h.old.size;obtain ⟨q,l,O,g1,g2,g3,g4,g5,g6,g7⟩:=h;refine ⟨q,l,O,blanks R,blanks S,g1,g2,g3.turned0 T,g4,g5.trans T,hmb,⟨hr,rfl,fun x hx=>blanks_leaf R x hx _ _⟩,⟨hs,rfl,fun x hx=>blanks_leaf S x hx _ _⟩,fun g hg=>?_,h2,fun b hb=>?_,fun x hx=>(g7 x hx).turned0 T⟩
 · have hg0:w0.heap.size≤g:=by rcases hg with rfl | rfl | rfl <;> omega
   exact ⟨by omega,fun c=>by have:=g3.lt _ c;omega,fun c=>by have:=g3.plt _ c;omega⟩
 · have hlt:=(zL (g6 b hb).1)
   exact ⟨(T.block _ hlt (fun f=>f)).trans (g6 b hb).1,(g6 b hb).2.1,by omega,by omega,by omega,(g6 b hb).2.2⟩
theorem MK.done (h:MK N bb mb gr gs R S bx ts w1 st W):∃ (ss:List LT) (cur:Array Value),ss.map Tm.bare=st.ss∧Row W 27 4 (.slice (some ⟨gs,0,none⟩) S S) S (ss.flatMap LT.cells)∧BM N bb ((gs,.cells cur 27 (0,0)) :: bx) (ss++ts) w1 st.m st.l W:=by
 obtain ⟨q,l,O,rs,ss,h1,h2,h3,h4,h5,h6,⟨r1,r2,r3⟩,⟨s1,s2,s3⟩,h9,h10,h11,h12⟩:=h;have s1':=s1
 rcases s1'.2 with ⟨he,_⟩ | ⟨g',cap',cur,he,hg,_⟩
 · cases he
 injection he with e1 _ e3
 injection e1 with e1
 injection e1 with e1
 subst e1 e3;refine ⟨ss,cur,s2,s1,q,l,O,h1,h2,h3,h4,h5,fun b hb=>?_,fun x hx=>?_⟩
 · rcases Qw.1 hb with rfl | hb
   · exact ⟨hg,(h9 gs (.inr (.inr rfl))).2.1,(h9 gs (.inr (.inr rfl))).2.2⟩
   · exact ⟨(h11 b hb).1,(h11 b hb).2.1,(h11 b hb).2.2.2.2.2⟩
 · rcases Qn.1 hx with hx | hx
   · exact s3 x hx
   · exact h12 x hx
theorem MK.drop' (h:MK N bb mb gr gs R S bx ts w1 st W):BM N bb bx ts w1 st.m st.l W:=by
 obtain ⟨ss,cur,_,_,h⟩:=h.done;exact h.sub (fun b hb=>Qb _ hb) (fun x hx=>Qj _ hx)
end
def sl (g n:Nat):Value:=.slice (some ⟨g,0,none⟩) n n
structure MtS (w0:World) (bb R S:Nat) (hs:Hist) (W:World):Prop where
 t:Turned zN w0 W
 r:∀ v,(3,v)∈hs→∃ g,v=sl g R∧w0.heap.size≤g∧Row W 27 4 (sl g R) R ((blanks R).flatMap LT.cells)
 s:∀ v,(6,v)∈hs→∃ g,v=sl g S∧w0.heap.size≤g∧Row W 27 4 (sl g S) S ((blanks S).flatMap LT.cells)
 ne:∀ g g',(3,sl g R)∈hs→(6,sl g' S)∈hs→g≠g'
 b:∀ v,(7,v)∈hs→∃ g g',(3,sl g R)∈hs∧(6,sl g' S)∈hs∧v = .agg #[.pointer (some ⟨bb,0,none⟩),sl g R,sl g' S]
 x:∀ v,(8,v)∈hs→∃ mb g g',v=ptr mb∧(3,sl g R)∈hs∧(6,sl g' S)∈hs∧w0.heap.size≤mb∧mb≠g∧mb≠g'∧W.heap[mb]? = some (.cells #[.pointer (some ⟨bb,0,none⟩),sl g R,sl g' S] 197 (0,0))
 a:∀ v,(9,v)∈hs→(8,v)∈hs
section
variable {w0 W W':World} {bb R S:Nat} {hs:Hist}
theorem sl_inj {g g' n:Nat} (h:sl g n=sl g' n):g=g':=by
 unfold sl at h
 injection h with h
 injection h with h
 injection h
theorem MtS.start (T:Turned zN w0 W):MtS w0 bb R S [] W:=
 ⟨T,fun v h=>(Ql h).elim,fun v h=>(Ql h).elim,fun g g' h=>(Ql h).elim,fun v h=>(Ql h).elim,fun v h=>(Ql h).elim,fun v h=>(Ql h).elim⟩
theorem MtS.turned0 (h:MtS w0 bb R S hs W) (T:Turned zN W W'):MtS w0 bb R S hs W':=by
 refine ⟨h.t.trans T,fun v hv=>?_,fun v hv=>?_,h.ne,h.b,fun v hv=>?_,h.a⟩
 · obtain ⟨g,h1,h2,h3⟩:=h.r v hv
   exact ⟨g,h1,h2,h3.turned0 T⟩
 · obtain ⟨g,h1,h2,h3⟩:=h.s v hv
   exact ⟨g,h1,h2,h3.turned0 T⟩
 · obtain ⟨mb,g,g',h1,h2,h3,h4,h5,h6,h7⟩:=h.x v hv
   exact ⟨mb,g,g',h1,h2,h3,h4,h5,h6,(T.bt h7)⟩
theorem MtS.regs (h:MtS w0 bb R S hs W) (hno:∀ v,(3,v)∉hs) (hR:R≤1000) :
 MtS w0 bb R S (hs++[(3,sl W.heap.size R)]) (W.alloc (.cells (madeCells zeroT.cells (R * 4)) 27)):=by
 have T:=(Turned.refl (fun _=>False) W).alloc (.cells (madeCells zeroT.cells (R * 4)) 27);have h':=h.turned0 T;refine ⟨h'.t,fun v hv=>?_,fun v hv=>?_,fun g g' hg hg'=>?_,fun v hv=>?_,fun v hv=>?_,fun v hv=>Qc _ (h.a v ((mem_snoc hv).elim id (fun e=>absurd e.1 (by decide))))⟩
 · rcases mem_snoc hv with hv | ⟨_,e⟩
   · exact absurd hv (hno v)
   · exact ⟨_,e,h.t.size,(make_blanksT R hR W).2⟩
 · rcases mem_snoc hv with hv | ⟨e,_⟩
   · exact h'.s v hv
   · cases e
 · rcases mem_snoc hg' with hg' | ⟨e,_⟩
   · obtain ⟨k,e1,_,e3⟩:=h.s _ hg'
     have:=sl_inj e1;have:=e3.lt k rfl
     rcases mem_snoc hg with hg | ⟨_,e⟩
     · exact absurd hg (hno _)
     · have:=sl_inj e
       omega
   · cases e
 · rcases mem_snoc hv with hv | ⟨e,_⟩
   · obtain ⟨g,g',h1,h2,h3⟩:=h'.b v hv
     exact ⟨g,g',Qc _ h1,Qc _ h2,h3⟩
   · cases e
 · rcases mem_snoc hv with hv | ⟨e,_⟩
   · obtain ⟨mb,g,g',h1,h2,h3,h4⟩:=h'.x v hv
     exact ⟨mb,g,g',h1,Qc _ h2,Qc _ h3,h4⟩
   · cases e
theorem MtS.slots (h:MtS w0 bb R S hs W) (hno:∀ v,(6,v)∉hs) (hS:S≤1000) :
 MtS w0 bb R S (hs++[(6,sl W.heap.size S)]) (W.alloc (.cells (madeCells zeroT.cells (S * 4)) 27)):=by
 have T:=(Turned.refl (fun _=>False) W).alloc (.cells (madeCells zeroT.cells (S * 4)) 27);have h':=h.turned0 T;refine ⟨h'.t,fun v hv=>?_,fun v hv=>?_,fun g g' hg hg'=>?_,fun v hv=>?_,fun v hv=>?_,fun v hv=>Qc _ (h.a v ((mem_snoc hv).elim id (fun e=>absurd e.1 (by decide))))⟩
 · rcases mem_snoc hv with hv | ⟨e,_⟩
   · exact h'.r v hv
   · cases e
 · rcases mem_snoc hv with hv | ⟨_,e⟩
   · exact absurd hv (hno v)
   · exact ⟨_,e,h.t.size,(make_blanksT S hS W).2⟩
 · rcases mem_snoc hg with hg | ⟨e,_⟩
   · obtain ⟨k,e1,_,e3⟩:=h.r _ hg
     have:=sl_inj e1;have:=e3.lt k rfl
     rcases mem_snoc hg' with hg' | ⟨_,e⟩
     · exact absurd hg' (hno _)
     · have:=sl_inj e
       omega
   · cases e
 · rcases mem_snoc hv with hv | ⟨e,_⟩
   · obtain ⟨g,g',h1,h2,h3⟩:=h'.b v hv
     exact ⟨g,g',Qc _ h1,Qc _ h2,h3⟩
   · cases e
 · rcases mem_snoc hv with hv | ⟨e,_⟩
   · obtain ⟨mb,g,g',h1,h2,h3,h4⟩:=h'.x v hv
     exact ⟨mb,g,g',h1,Qc _ h2,Qc _ h3,h4⟩
   · cases e
theorem MtS.built {g g':Nat} (h:MtS w0 bb R S hs W) (h3:(3,sl g R)∈hs) (h6:(6,sl g' S)∈hs):MtS w0 bb R S (hs++[(7,.agg #[.pointer (some ⟨bb,0,none⟩),sl g R,sl g' S])]) W:=by
 have ne:∀ {j:Nat} {v u:Value},j≠7→(j,v)∈hs++[(7,u)]→(j,v)∈hs:=fun hj hm=>by
  rcases mem_snoc hm with hm | ⟨e,_⟩
  · exact hm
  · exact absurd e hj
 refine ⟨h.t,fun v hv=>h.r v (ne (by decide) hv),fun v hv=>h.s v (ne (by decide) hv),fun a b ha hb=>h.ne a b (ne (by decide) ha) (ne (by decide) hb),fun v hv=>?_,fun v hv=>?_,fun v hv=>Qc _ (h.a v ((mem_snoc hv).elim id (fun e=>absurd e.1 (by decide))))⟩
 · rcases mem_snoc hv with hv | ⟨_,e⟩
   · obtain ⟨k,k',h1,h2,h3⟩:=h.b v hv
     exact ⟨k,k',Qc _ h1,Qc _ h2,h3⟩
   · exact ⟨g,g',Qc _ h3,Qc _ h6,e⟩
 · obtain ⟨mb,k,k',h1,h2,h3,h4⟩:=h.x v (ne (by decide) hv)
   exact ⟨mb,k,k',h1,Qc _ h2,Qc _ h3,h4⟩
theorem MtS.boxed {g g':Nat} (h:MtS w0 bb R S hs W) (hno:∀ v,(8,v)∉hs) (h3:(3,sl g R)∈hs) (h6:(6,sl g' S)∈hs):MtS w0 bb R S (hs++[(8,ptr W.heap.size)]) (W.alloc (.cells #[.pointer (some ⟨bb,0,none⟩),sl g R,sl g' S] 197)):=by
 have T:=(Turned.refl (fun _=>False) W).alloc (.cells #[.pointer (some ⟨bb,0,none⟩),sl g R,sl g' S] 197);have h':=h.turned0 T
 have ne:∀ {j:Nat} {v u:Value},j≠8→(j,v)∈hs++[(8,u)]→(j,v)∈hs:=fun hj hm=>by
  rcases mem_snoc hm with hm | ⟨e,_⟩
  · exact hm
  · exact absurd e hj
 refine ⟨h'.t,fun v hv=>h'.r v (ne (by decide) hv),fun v hv=>h'.s v (ne (by decide) hv),fun a b ha hb=>h.ne a b (ne (by decide) ha) (ne (by decide) hb),fun v hv=>?_,fun v hv=>?_,fun v hv=>Qc _ (h.a v ((mem_snoc hv).elim id (fun e=>absurd e.1 (by decide))))⟩
 · obtain ⟨k,k',h1,h2,h3⟩:=h.b v (ne (by decide) hv)
   exact ⟨k,k',Qc _ h1,Qc _ h2,h3⟩
 · rcases mem_snoc hv with hv | ⟨_,e⟩
   · exact absurd hv (hno v)
   · obtain ⟨a,a1,_,a3⟩:=h.r _ h3
     obtain ⟨b,b1,_,b3⟩:=h.s _ h6;have e1:=sl_inj a1;have e2:=sl_inj b1;have l1:=a3.lt a rfl;have l2:=b3.lt b rfl;exact ⟨_,g,g',e,Qc _ h3,Qc _ h6,h.t.size,by omega,by omega,heap_alloc_new W _⟩
theorem MtS.assigned {v:Value} (h:MtS w0 bb R S hs W) (h8:(8,v)∈hs):MtS w0 bb R S (hs++[(9,v)]) W:=by
 have ne:∀ {j:Nat} {v u:Value},j≠9→(j,v)∈hs++[(9,u)]→(j,v)∈hs:=fun hj hm=>by
  rcases mem_snoc hm with hm | ⟨e,_⟩
  · exact hm
  · exact absurd e hj
 refine ⟨h.t,fun v hv=>h.r v (ne (by decide) hv),fun v hv=>h.s v (ne (by decide) hv),fun a b ha hb=>h.ne a b (ne (by decide) ha) (ne (by decide) hb),fun v hv=>?_,fun v hv=>?_,fun v hv=>?_⟩
 · obtain ⟨k,k',h1,h2,h3⟩:=h.b v (ne (by decide) hv)
   exact ⟨k,k',Qc _ h1,Qc _ h2,h3⟩
 · obtain ⟨mb,k,k',h1,h2,h3,h4⟩:=h.x v (ne (by decide) hv)
   exact ⟨mb,k,k',h1,Qc _ h2,Qc _ h3,h4⟩
 · rcases mem_snoc hv with hv | ⟨_,e⟩
   · exact Qc _ (h.a v hv)
   · rw [e];exact Qc _ h8
theorem MtS.done {v:Value} (h:MtS w0 bb R S hs W) (hv9:(9,v)∈hs):∃ mb gr gs,v = .pointer (some ⟨mb,0,none⟩)∧W.heap[mb]? = some (.cells #[.pointer (some ⟨bb,0,none⟩),.slice (some ⟨gr,0,none⟩) R R,.slice (some ⟨gs,0,none⟩) S S] 197 (0,0))∧
 Row W 27 4 (.slice (some ⟨gr,0,none⟩) R R) R ((blanks R).flatMap LT.cells)∧Row W 27 4 (.slice (some ⟨gs,0,none⟩) S S) S ((blanks S).flatMap LT.cells)∧(w0.heap.size≤mb∧w0.heap.size≤gr∧w0.heap.size≤gs)∧(mb≠gr∧mb≠gs∧gr≠gs)∧Turned zN w0 W:=by
 have hv:=h.a v hv9;obtain ⟨mb,g,g',h1,h2,h3,h4,h5,h6,h7⟩:=h.x v hv;obtain ⟨a,a1,a2,a3⟩:=h.r _ h2;obtain ⟨b,b1,b2,b3⟩:=h.s _ h3;obtain rfl:=sl_inj a1;obtain rfl:=sl_inj b1;exact ⟨mb,g,g',h1,h7,a3,b3,⟨h4,a2,b2⟩,⟨h5,h6,h.ne _ _ h2 h3⟩,h.t⟩
end
theorem brings_build197 {o:Oper} {a:Act} {w:World} {F:Value→World→Prop} (x y z:Tmp) (ho:o.op=Op.build 197 #[(0,.tmp x),(1,.tmp y),(2,.tmp z)]) {bp sa sb:Option Addr} {sn sc tn tc:Nat} (hx:a.tmps.getD x undef = .pointer bp) (hy:a.tmps.getD y undef = .slice sa sn sc) (hz:a.tmps.getD z undef = .slice sb tn tc)
 (h:F (.agg #[.pointer bp,.slice sa sn sc,.slice sb tn tc]) w):Brings Try.prog F ((execOp a.eval o).run Try.prog w):=by
 have e:∀ q,a.eval (.tmp q)=a.tmps.getD q undef:=fun _=>rfl
 unfold execOp;simp only [ho,List.map_toArray,Qx,List.map_nil,e,hx,hy,hz];go_simp;exact h
theorem run_copy_zero (w:World) (ty:TypeId) (a b:Option Addr) (n m d:Nat):(Builtin.copy_ #[22,22] ty #[.slice a n m,.slice b 0 d]).run Try.prog w = .ok (.int .i64 0) w:=by
 have hl:∀ a:Addr,(loadCells a 0).run Try.prog w = .ok #[] w:=fun a=>run_loadCells_list (P:=Try.prog) w a [] (fun j v h=>by simp at h)
 have hst:∀ a:Addr,(storeCells a []).run Try.prog w = .ok () w:=fun a=>rfl
 cases a <;> cases b <;> simp [Builtin.copy_,run_underlying Try.underlying22,Builtin.lenOf,Builtin.firstCells,goInt,hl,hst]
section
variable {N bb mb gr gs R S m:Nat} {bx:List (Nat × Obj)} {ts:List LT} {w1 w W:World} {tr:Tm.Trail} {st st':Tm.MS} {x:LT}
theorem MK.mark (h:MK N bb mb gr gs R S bx ts w1 st W):Calls Try.prog 111 #[.pointer (some ⟨bb,0,none⟩)] W fun e w'=>e = .returned (.int .i64 st.l.length)∧Turned zN W w':=by
 obtain ⟨q,l,O,rs,ss,h1,h2,h3,_⟩:=h;rw [←h2,bt_length];exact markO111 h3
theorem MK.copyIn (hN:N=w1.heap.size) (h:MK N bb mb gr gs R S bx ts w1 st W) (hx:x∈ts) (hR:x.args.length≤R) :
 ∃ w',(∀ ty,(Builtin.copy_ #[22,22] ty #[.slice (some ⟨gr,0,none⟩) R R,.slice x.at_.1 x.args.length x.at_.2]).run Try.prog W = .ok (.int .i64 x.args.length) w')∧MK N bb mb gr gs R S bx ts w1 ⟨st.m,st.l,Tm.putAt st.rs 0 x.bare.args,st.ss⟩ w':=by
 rcases Nat.eq_zero_or_pos x.args.length with h0 | h0
 · have he:x.bare.args=[]:=by rw [Tm.bare_args,Tm.bares_eq,List.length_eq_zero_iff.1 h0];rfl
   refine ⟨W,fun ty=>by rw [h0];exact run_copy_zero W ty _ _ _ _ _,?_⟩;rw [he];unfold Tm.putAt;simp;exact h
 · obtain ⟨ad,w',had,hcp,hmk⟩:=h.copyArgs hN hx (c:=0) (by omega) h0
   rw [Nat.zero_mul,Nat.sub_zero] at hcp;rw [had];exact ⟨w',hcp,hmk⟩
theorem BM.undo (hN:N=w1.heap.size) (h:BM N bb bx ts w1 m tr W) (n:Nat) (hn:n≤tr.length):Calls Try.prog 101 #[.pointer (some ⟨bb,0,none⟩),.int .i64 n] W fun e w'=>e = .returned (.bool true)∧BM N bb bx ts w1 m (tr.drop (tr.length - n)) w':=by
 obtain ⟨q,O,l,h3,rfl,_,_,hk⟩:=h.call hN;rw [bt_length] at hn ⊢;refine (undoO101 h3 n hn).mono ?_
 rintro e w' ⟨rfl,ha⟩
 refine ⟨rfl,?_⟩;have:=hk _ _ w' ha
 rwa [show bt (l.drop (l.length - n))=(bt l).drop (l.length - n) from by unfold bt;rw [List.map_drop]] at this
end
def MatchQ (N bb S m:Nat) (bx:List (Nat × Obj)) (ts:List LT) (w1:World) (tr:Tm.Trail):Tm.MR→Ending→World→Prop
 | .go st',e,w'=>∃ (gs:Nat) (ss:List LT) (cur:Array Value),e = .returned (.tuple #[.slice (some ⟨gs,0,none⟩) S S,.bool true,.int .i64 0])∧ss.map Tm.bare=st'.ss∧Row w' 27 4 (.slice (some ⟨gs,0,none⟩) S S) S (ss.flatMap LT.cells)∧BM N bb ((gs,.cells cur 27 (0,0)) :: bx) (ss++ts) w1 st'.m st'.l w'
 | .stop E m',e,w'=>e = .returned (.tuple #[.slice none 0 0,.bool false,.int .i64 E])∧BM N bb bx ts w1 m' tr w'
structure RunOk (R S:Nat) (tr:Tm.Trail) (L:List Tm.Stp) (Inv:Nat→Tm.MS→Prop):Prop where
 step:∀ i s st,L[i]? = some s→Inv i st→∃ (op name:ByteArray) (a b c:Nat) (n:Int),s=⟨op,(a:Int),(b:Int),(c:Int),n,name⟩∧a < R∧name.size≤maxLen∧Tm.ownB st.m (st.rs.getD a (Tm.V 0))=true∧OneOk R S st op name b c n
 next:∀ i s st st',L[i]? = some s→Inv i st→Tm.stepM st s = .go st'→Inv (i+1) st'
 pre:∀ i st,Inv i st→∃ a,st.l=a++tr
namespace Tm
abbrev knI (n:Int):Tm Unit:=.mk 1 n ByteArray.empty () []
abbrev knF:Tm Unit:=.mk 2 0 ⟨#[102]⟩ () [V 1]
abbrev kn1:Trail:=[(0,knF)]
abbrev kn2:Trail:=[(1,knI 3),(0,knF)]
theorem kn_node (l:Trail) {t:Tm Unit} (h:¬ t.kind=0):walkT l t=t:=walkT_stop (fun c=>absurd c h)
theorem kn_free {l:Trail} {n:Int} (h:look l n=none):walkT l (V n)=V n:=walkT_stop (fun _=>h)
theorem kn_ok0:setE 2 [] 0 knF=0:=by kernel_rfl
theorem kn_ok1:okT 2 kn1:=setE_ok trivial kn_ok0
theorem kn_ok2:okT 2 kn2:=setE_ok kn_ok1 (by kernel_rfl)
theorem kn_w0:walkT kn2 (V 0)=knF:=by
 rw [walkT_step kn_ok2 (t:=V 0) (p:=knF) rfl rfl,kn_node _ (show ¬ knF.kind=0 by decide)]
theorem kn_w1:walkT kn2 (V 1)=knI 3:=by
 rw [walkT_step kn_ok2 (t:=V 1) (p:=knI 3) rfl rfl,kn_node _ (show ¬ (knI 3).kind=0 by decide)]
theorem kn_w01:walkT kn1 (V 0)=knF:=by
 rw [walkT_step kn_ok1 (t:=V 0) (p:=knF) rfl rfl,kn_node _ (show ¬ knF.kind=0 by decide)]
theorem kn_both1:bothR 2 kn1 (knI 3) (V 1)=(true,2,0,kn2):=by
 have hu:unify kn1 2000 [(knI 3,V 1)] = .ok kn2 1998:=by
  rw [unify_ok (left:=1999) (l':=kn2) (left':=1998) (by rw [kn_node kn1 (show ¬ (knI 3).kind=0 by decide),kn_free (show look kn1 1=none by kernel_rfl)];kernel_rfl)];rfl
 unfold bothR;rw [if_pos ⟨by kernel_rfl,by kernel_rfl⟩,hu];rfl
theorem kn_both2:bothR 2 kn2 (knI 4) (knI 3)=(false,1,0,kn2):=by
 have hu:unify kn2 2000 [(knI 4,knI 3)] = .no 1999:=by
  rw [unify_no (left:=1999) (q:=1999) (by rw [kn_node kn2 (show ¬ (knI 4).kind=0 by decide),kn_node kn2 (show ¬ (knI 3).kind=0 by decide)];kernel_rfl)]
 unfold bothR;rw [if_pos ⟨by kernel_rfl,by kernel_rfl⟩,hu];rfl
theorem kn_both3:(bothR 2 kn1 (V 0) (V 1)).1=false∧(bothR 2 kn1 (V 0) (V 1)).2.2.1=0:=by
 obtain ⟨q,hu⟩:∃ q,unify kn1 2000 [(V 0,V 1)] = .no q:=⟨1997,by
  rw [unify_no (left:=1999) (q:=1997) (by rw [kn_w01,kn_free (show look kn1 1=none by kernel_rfl)];kernel_rfl)]⟩
 unfold bothR;rw [if_pos ⟨by kernel_rfl,by kernel_rfl⟩,hu];exact ⟨rfl,rfl⟩
abbrev knA0:MS:=⟨1,[],[knI 3,V 0,V 0],[V 0]⟩
abbrev knA1:MS:=⟨1,[],[knI 3,V 0,V 0],[knI 3]⟩
abbrev knA2:MS:=⟨2,kn1,[knI 3,V 0,V 1],[knI 3]⟩
abbrev knA3:MS:=⟨2,kn2,[knI 3,V 0,V 1],[knI 3]⟩
abbrev knB0:MS:=⟨2,kn2,[knI 4,V 0,V 0],[V 0]⟩
abbrev knB1:MS:=⟨2,kn2,[knI 4,V 0,V 0],[knI 4]⟩
abbrev knB2:MS:=⟨2,kn2,[knI 4,V 0,V 1],[knI 4]⟩
abbrev knC0:MS:=⟨1,[],[V 0,V 0,V 0],[V 0]⟩
abbrev knC2:MS:=⟨2,kn1,[V 0,V 0,V 1],[V 0]⟩
theorem knA_0:stepM knA0 st0 = .go knA1:=by
 unfold stepM;simp only [];rw [if_pos (by rfl)];rw [show walkT knA0.l (knA0.rs.getD (st0.a).toNat (V 0))=knI 3 from kn_node _ (show ¬ (knI 3).kind=0 by decide)];rfl
theorem knB_0:stepM knB0 st0 = .go knB1:=by
 unfold stepM;simp only [];rw [if_pos (by rfl)];rw [show walkT knB0.l (knB0.rs.getD (st0.a).toNat (V 0))=knI 4 from kn_node _ (show ¬ (knI 4).kind=0 by decide)];rfl
theorem knC_0:stepM knC0 st0 = .go knC0:=by
 unfold stepM;simp only [];rw [if_pos (by rfl)];rw [show walkT knC0.l (knC0.rs.getD (st0.a).toNat (V 0))=V 0 from kn_free rfl];rfl
theorem kn_ne:¬ st1.op=sVar∧¬ st1.op=sVal∧¬ st1.op=sInt∧¬ st1.op=sAtom∧¬ st2.op=sVar:=
 ⟨of_decide_eq_false (by kernel_rfl),of_decide_eq_false (by kernel_rfl),of_decide_eq_false (by kernel_rfl),of_decide_eq_false (by kernel_rfl),of_decide_eq_false (by kernel_rfl)⟩
theorem knA_1:stepM knA1 st1 = .go knA2:=by
 obtain ⟨n1,n2,n3,n4,_⟩:=kn_ne;unfold stepM;simp only [];rw [if_neg n1,if_neg n2,if_neg n3,if_neg n4];rw [show walkT knA1.l (knA1.rs.getD (st1.a).toNat (V 0))=V 0 from kn_free rfl]
 kernel_rfl
theorem knC_1:stepM knC0 st1 = .go knC2:=by
 obtain ⟨n1,n2,n3,n4,_⟩:=kn_ne;unfold stepM;simp only [];rw [if_neg n1,if_neg n2,if_neg n3,if_neg n4];rw [show walkT knC0.l (knC0.rs.getD (st1.a).toNat (V 0))=V 0 from kn_free rfl]
 kernel_rfl
theorem knB_1:stepM knB1 st1 = .go knB2:=by
 obtain ⟨n1,n2,n3,n4,_⟩:=kn_ne;unfold stepM;simp only [];rw [if_neg n1,if_neg n2,if_neg n3,if_neg n4];rw [show walkT knB1.l (knB1.rs.getD (st1.a).toNat (V 0))=knF from kn_w0]
 kernel_rfl
theorem knA_2:stepM knA2 st2 = .go knA3:=by
 unfold stepM;simp only [];rw [if_neg kn_ne.2.2.2.2,if_pos (by rfl)];rw [show walkT knA2.l (knA2.rs.getD (st2.a).toNat (V 0))=V 1 from kn_free (by kernel_rfl)];rw [show knA2.ss.getD (st2.b).toNat (V 0)=knI 3 from rfl];unfold valM;rw [show knA2.m=2 from rfl,show knA2.l=kn1 from rfl,kn_both1];rw [if_pos ⟨rfl,rfl⟩]
theorem knB_2:stepM knB2 st2 = .stop 0 2:=by
 unfold stepM;simp only [];rw [if_neg kn_ne.2.2.2.2,if_pos (by rfl)];rw [show walkT knB2.l (knB2.rs.getD (st2.a).toNat (V 0))=knI 3 from kn_w1];rw [show knB2.ss.getD (st2.b).toNat (V 0)=knI 4 from rfl];unfold valM;rw [show knB2.m=2 from rfl,show knB2.l=kn2 from rfl,kn_both2];rw [if_neg (fun h=>by cases h.1)]
theorem knC_2:stepM knC2 st2 = .stop 0 2:=by
 unfold stepM;simp only [];rw [if_neg kn_ne.2.2.2.2,if_pos (by rfl)];rw [show walkT knC2.l (knC2.rs.getD (st2.a).toNat (V 0))=V 1 from kn_free (by kernel_rfl)];rw [show knC2.ss.getD (st2.b).toNat (V 0)=V 0 from rfl];unfold valM;rw [show knC2.m=2 from rfl,show knC2.l=kn1 from rfl];rw [if_neg (fun h=>by rw [kn_both3.1] at h;cases h.1),kn_both3.2]
theorem knA_run:runM knA0 [st0,st1,st2] = .go knA3:=by
 rw [runM,knA_0];simp only [];rw [runM,knA_1];simp only [];rw [runM,knA_2];rfl
theorem knB_run:runM knB0 [st0,st1,st2] = .stop 0 2:=by
 rw [runM,knB_0];simp only [];rw [runM,knB_1];simp only [];rw [runM,knB_2]
theorem knC_run:runM knC0 [st0,st1,st2] = .stop 0 2:=by
 rw [runM,knC_0];simp only [];rw [runM,knC_1];simp only [];rw [runM,knC_2]
end Tm
def KInv (l:List Tm.MS) (i:Nat) (st:Tm.MS):Prop:=l[i]? = some st
theorem kn_runOk {tr:Tm.Trail} {s0 s1 s2 s3:Tm.MS} (h0:Tm.stepM s0 st0 = .go s1) (h1:Tm.stepM s1 st1 = .go s2) (h2:∀ s,Tm.stepM s2 st2 = .go s→s=s3)
 (o0:Tm.ownB s0.m (s0.rs.getD 0 (Tm.V 0))=true) (o1:Tm.ownB s1.m (s1.rs.getD 1 (Tm.V 0))=true) (o2:Tm.ownB s2.m (s2.rs.getD 2 (Tm.V 0))=true) (o3:Tm.ownB s2.m (s2.ss.getD 0 (Tm.V 0))=true)
 (hm:s1.m+1≤65536) (hp:∀ s∈[s0,s1,s2,s3],∃ a,s.l=a++tr):RunOk 3 1 tr [st0,st1,st2] (KInv [s0,s1,s2,s3]):=by
 refine ⟨fun i s st hs I=>?_,fun i s st st' hs I hst=>?_,fun i st I=>hp st (Qf I)⟩
 · match i,hs,I with
   | 0,hs,I=>
    obtain rfl:st0=s:=Option.some.inj hs;obtain rfl:s0=st:=Option.some.inj I;exact ⟨_,_,0,0,0,0,rfl,by omega,by unfold maxLen;decide,o0,.inl ⟨rfl,by omega⟩⟩
   | 1,hs,I=>
    obtain rfl:st1=s:=Option.some.inj hs;obtain rfl:s1=st:=Option.some.inj I;exact ⟨_,_,1,1,2,0,rfl,by omega,by unfold maxLen;decide,o1,.inr (.inr (.inr (.inr ⟨rfl,by omega,by omega,by omega,hm⟩)))⟩
   | 2,hs,I=>
    obtain rfl:st2=s:=Option.some.inj hs;obtain rfl:s2=st:=Option.some.inj I;exact ⟨_,_,2,0,0,0,rfl,by omega,by unfold maxLen;decide,o2,.inr (.inl ⟨rfl,by omega,o3⟩)⟩
   | _+3,hs,_=>cases hs
 · match i,hs,I with
   | 0,hs,I=>
    obtain rfl:st0=s:=Option.some.inj hs;obtain rfl:s0=st:=Option.some.inj I;rw [h0] at hst
    injection hst with hst
    subst hst;rfl
   | 1,hs,I=>
    obtain rfl:st1=s:=Option.some.inj hs;obtain rfl:s1=st:=Option.some.inj I;rw [h1] at hst
    injection hst with hst
    subst hst;rfl
   | 2,hs,I=>
    obtain rfl:st2=s:=Option.some.inj hs;obtain rfl:s2=st:=Option.some.inj I;rw [h2 _ hst];rfl
   | _+3,hs,_=>cases hs
theorem knA_ok:RunOk 3 1 [] [st0,st1,st2] (KInv [Tm.knA0,Tm.knA1,Tm.knA2,Tm.knA3]):=
 kn_runOk Tm.knA_0 Tm.knA_1 (fun s h=>by rw [Tm.knA_2] at h;injection h with h;exact h.symm) (by kernel_rfl) (by kernel_rfl) (by kernel_rfl) (by kernel_rfl) (by decide) (fun s _=>⟨s.l,(List.append_nil _).symm⟩)
theorem knB_ok:RunOk 3 1 Tm.kn2 [st0,st1,st2] (KInv [Tm.knB0,Tm.knB1,Tm.knB2,Tm.knB2]):=
 kn_runOk Tm.knB_0 Tm.knB_1 (fun s h=>by rw [Tm.knB_2] at h;cases h) (by kernel_rfl) (by kernel_rfl) (by kernel_rfl) (by kernel_rfl) (by decide) (fun s hs=>⟨[],by
  simp only [Qw,Ql,or_false] at hs
  rcases hs with rfl | rfl | rfl | rfl <;> rfl⟩)
theorem knC_ok:RunOk 3 1 [] [st0,st1,st2] (KInv [Tm.knC0,Tm.knC0,Tm.knC2,Tm.knC2]):=
 kn_runOk Tm.knC_0 Tm.knC_1 (fun s h=>by rw [Tm.knC_2] at h;cases h) (by kernel_rfl) (by kernel_rfl) (by kernel_rfl) (by kernel_rfl) (by decide) (fun s _=>⟨s.l,(List.append_nil _).symm⟩)
end Go.Proofs.Ytoihjobdfjajfaa
namespace Go.Proofs.Ytoihjobdfjajfaa
open Lib (hid)
open Go.RowKit Go.Maps
theorem closureAny157 {p O:Nat→Prop} {bb m K:Nat} {l:TL} {w:World} {x:LT} {b:Bool} (h:BO p bb O m l w) (hx:x.In p w) (hs:slim x) (ho:Tm.ownB m x=b) (hK:w.heap[K]? = some (.cells #[.pointer (some ⟨bb,0,none⟩)] 93 (0,0))) :
 Calls Try.prog 157 #[.agg #[.int .i64 x.kind,.int .i64 x.n,.string x.name,.slice x.at_.1 x.args.length x.at_.2],.pointer (some ⟨K,0,none⟩)] w fun e w'=>e = .returned (.bool (!b))∧Turned zN w w':=by
 have hk0:=cell_of_row w K 0 _ 93 (0,0) hK;simp only [List.getElem?_toArray,List.getElem?_cons_zero] at hk0;have T1:Turned zN w (w.alloc (.cells #[.int .i64 x.kind,.int .i64 x.n,.string x.name,.slice x.at_.1 x.args.length x.at_.2] 27)):=(Turned.refl _ w).alloc _;have hnew:=heap_alloc_new w (.cells #[.int .i64 x.kind,.int .i64 x.n,.string x.name,.slice x.at_.1 x.args.length x.at_.2] 27)
 have hown:Calls Try.prog 144 #[.pointer (some ⟨bb,0,none⟩),.agg #[.int .i64 x.kind,.int .i64 x.n,.string x.name,.slice x.at_.1 x.args.length x.at_.2]] (w.alloc (.cells #[.int .i64 x.kind,.int .i64 x.n,.string x.name,.slice x.at_.1 x.args.length x.at_.2] 27)) fun e w'=>e = .returned (.bool b)∧Turned zN (w.alloc (.cells #[.int .i64 x.kind,.int .i64 x.n,.string x.name,.slice x.at_.1 x.args.length x.at_.2] 27)) w':=by
  obtain ⟨sb,lv,tv,B,hO⟩:=(h.turned0 T1).bi;have:=own144 B (hx.turned0 T1) hs;rw [LT.val_eq,ho] at this;exact this
 have k0:=(T1.cell0 hk0);obtain ⟨c0,c1,c2,c3,_⟩:=cells4 hnew;have HOW:=hid hown;have HT1:=hid T1;clear h hx hs ho hK T1 hnew hown;go_enter Try.func157,Try.ntmps157
 go_wp2_with (go_at_call 144;(with_reducible refine HOW.out.mono ?_);rintro e w3 ⟨rfl,T3⟩;have HT3:=hid T3;clear T3)
 go_ret;exact ⟨rfl,HT1.out.trans HT3.out⟩
theorem indexSome177 {p:Nat→Prop} {l:List LT} {a:Option Addr} {c:Nat} {cap:Value} {w:World} (B:LT→Bool) (h:LT.Sl p w a c l) (hcall:∀ x∈l,∀ W,Turned zN w W→Calls Try.prog 157 #[.agg #[.int .i64 x.kind,.int .i64 x.n,.string x.name,.slice x.at_.1 x.args.length x.at_.2],cap] W fun e w'=>e = .returned (.bool (B x))∧Turned zN W w') (hB:∃ x∈l,B x=true) :
 Calls Try.prog 177 #[.slice a l.length c,.func (.func 157) #[] #[cap]] w fun e w'=>∃ k:Nat,e = .returned (.int .i64 (k:Int))∧Turned zN w w':=by
 have hc1:=h.cap;have hm1:=h.max;unfold maxLen at hm1;have henter:=enter157;have HL:=hid h;have HC:=hid hcall;have HBX:=hid hB;clear h hcall hB;go_enter Try.func177,Try.ntmps177
 go_wp2_with fail
 go_loopg [8] l.length (fun g i wr=>∃ j:Nat,Hid (j+g=l.length)∧j≤l.length∧i = .int .i64 j∧Hid (∀ x∈l.take j,B x=false)∧Hid (Turned zN w wr))
 case atStart=>exact ⟨0,Nat.zero_add _,Nat.zero_le _,rfl,(fun x hx=>by cases hx),Turned.refl _ _⟩
 case round=>
  obtain ⟨j,HG,hj,rfl,HF,HT⟩:=hrel
  by_cases hjl:j < l.length
  · have dj:decide ((j:Int) < (l.length:Int))=true:=decide_eq_true (by omega)
    obtain ⟨x,hx⟩:∃ x:LT,l[j]? = some x:=⟨_,Qa hjl⟩;obtain ⟨b1,o1,rfl,_,k0,k1,k2,k3⟩:=(HL.out.turned0 HT.out).lies.cell hx;have HCX:=hid (HC.out x (Qf hx));have HXJ:=hid hx;clear hx;obtain ⟨bx,hbx⟩:∃ b,b=B x:=⟨_,rfl⟩;rw [←hbx] at HCX;have HBE:=hid hbx;clear hbx
    cases bx with
    | true=>
     go_wp2_with (go_at_call 157;(with_reducible refine (HCX.out wr HT.out).mono ?_);rintro e w3 ⟨rfl,T3⟩;have HT3:=hid T3;clear T3)
     go_ret;exact ⟨j,rfl,HT.out.trans HT3.out⟩
    | false=>
     go_wp2_with (go_at_call 157;(with_reducible refine (HCX.out wr HT.out).mono ?_);rintro e w3 ⟨rfl,T3⟩;have HT3:=hid T3;clear T3)
     go_roundg (gk - 1)
     case measure=>have:=HG.out;omega
     case rel=>
      refine ⟨j+1,show _=_ by have:=HG.out;omega,by omega,by go_num,fun y hy=>?_,HT.out.trans HT3.out⟩;rw [List.take_add_one,HXJ.out] at hy
      rcases Qn.1 hy with hy | hy
      · exact HF.out y hy
      · obtain rfl:y=x:=by simpa using hy
        exact HBE.out.symm
  · obtain rfl:j=l.length:=by omega
    have:=HF.out;rw [List.take_length] at this;obtain ⟨x,hx,hb⟩:=HBX.out;rw [this x hx] at hb
    cases hb
theorem containsSome158 {p:Nat→Prop} {l:List LT} {a:Option Addr} {c:Nat} {cap:Value} {w:World} (B:LT→Bool) (h:LT.Sl p w a c l) (hcall:∀ x∈l,∀ W,Turned zN w W→Calls Try.prog 157 #[.agg #[.int .i64 x.kind,.int .i64 x.n,.string x.name,.slice x.at_.1 x.args.length x.at_.2],cap] W fun e w'=>e = .returned (.bool (B x))∧Turned zN W w') (hB:∃ x∈l,B x=true) :
 Calls Try.prog 158 #[.slice a l.length c,.func (.func 157) #[] #[cap]] w fun e w'=>e = .returned (.bool true)∧Turned zN w w':=by
 have hi:=indexSome177 B h hcall hB;have HI:=hid hi;clear h hcall hi hB;go_enter Try.func158,Try.ntmps158
 go_wp2_with (go_at_call 177;(with_reducible refine HI.out.mono ?_);rintro e w3 ⟨k,rfl,T3⟩;have dk:decide ((0:Int)≤(k:Int))=true:=decide_eq_true (by omega);have HT3:=hid T3;clear T3)
 go_ret;exact ⟨rfl,HT3.out⟩
section
variable {N bb nL cL m:Nat} {ar sl rg:Int} {aL:Option Addr} {bx:List (Nat × Obj)} {ts:List LT} {w1 w:World} {tr:Tm.Trail} {x:LT}
set_option maxRecDepth 100000 in
theorem matchArity121 {a:Option Addr} {n c:Nat} (hne:¬ (n:Int)=ar)
 (hgood:∀ W,Turned zN w W→Calls Try.prog 95 #[.agg #[.int .i64 ar,.int .i64 sl,.int .i64 rg,.slice aL nL cL]] W fun e w'=>e = .returned (.bool true)∧Turned zN W w') :
 Calls Try.prog 121 #[.pointer (some ⟨bb,0,none⟩),.agg #[.int .i64 ar,.int .i64 sl,.int .i64 rg,.slice aL nL cL],.slice a n c] w fun e w'=>e = .returned (.tuple #[.slice none 0 0,.bool false,.int .i64 1])∧Turned zN w w':=by
 have T2:=((Turned.refl (fun _=>False) w).alloc (.cells #[.pointer (some ⟨bb,0,none⟩)] 93)).alloc (.cells #[.int .i64 ar,.int .i64 sl,.int .i64 rg,.slice aL nL cL] 104);obtain ⟨w2,hw2⟩:∃ z,z=(w.alloc (.cells #[.pointer (some ⟨bb,0,none⟩)] 93)).alloc (.cells #[.int .i64 ar,.int .i64 sl,.int .i64 rg,.slice aL nL cL] 104):=⟨_,rfl⟩
 have hnew1:w2.heap[w.heap.size]? = some (.cells #[.pointer (some ⟨bb,0,none⟩)] 93 (0,0)):=by rw [hw2];exact (((Turned.refl (fun _=>False) (w.alloc (.cells #[.pointer (some ⟨bb,0,none⟩)] 93))).alloc (.cells #[.int .i64 ar,.int .i64 sl,.int .i64 rg,.slice aL nL cL] 104)).block _ (by simp) (fun f=>f)).trans (heap_alloc_new w _)
 have hnew2:w2.heap[w.heap.size+1]? = some (.cells #[.int .i64 ar,.int .i64 sl,.int .i64 rg,.slice aL nL cL] 104 (0,0)):=by
  have:=heap_alloc_new (w.alloc (.cells #[.pointer (some ⟨bb,0,none⟩)] 93)) (.cells #[.int .i64 ar,.int .i64 sl,.int .i64 rg,.slice aL nL cL] 104);rw [show (w.alloc (.cells #[.pointer (some ⟨bb,0,none⟩)] 93)).heap.size=w.heap.size+1 by simp] at this;rw [hw2];exact this
 rw [←hw2] at T2
 have hcx:∀ W,Turned zN w2 W→(W.cell? ⟨w.heap.size+1,0,none⟩=some (.int .i64 ar)∧W.cell? ⟨w.heap.size+1,1,none⟩=some (.int .i64 sl)∧W.cell? ⟨w.heap.size+1,2,none⟩=some (.int .i64 rg)∧W.cell? ⟨w.heap.size+1,3,none⟩=some (.slice aL nL cL))∧W.cell? ⟨w.heap.size,0,none⟩=some (.pointer (some ⟨bb,0,none⟩)):=fun W T=>by
  have c1:=cells4 ((T.bt hnew2));have c2:=cell_of_row W w.heap.size 0 _ 93 (0,0) ((T.bt hnew1));exact ⟨⟨c1.1,c1.2.1,c1.2.2.1,c1.2.2.2.1⟩,c2⟩
 have hmf:∀ (fn:Fn) (first cap:Array Value) (w:World),(Instr.makeFunc fn first cap).run Try.prog w = .ok (.func fn first cap) w:=fun _ _ _ _=>rfl
 have bn:((n:Int) != ar)=true:=by simp [hne]
 have HW2:=hid hw2;have HCX:=hid hcx;have HGD:=hid hgood;have HT2:=hid T2;obtain ⟨⟨k0,k1,k2,k3⟩,j0⟩:=hcx w2 (Turned.refl _ _);clear hw2 hcx hgood T2 hnew1 hnew2 hne;go_enter Try.func121,Try.ntmps121
 go_wp2_with fail
 rw [←HW2.out]
 go_wp2_with (go_at_call 95;(with_reducible refine (HGD.out w2 HT2.out).mono ?_);rintro e w3 ⟨rfl,T3⟩;have HT3:=hid T3;clear T3;obtain ⟨⟨k0,k1,k2,k3⟩,j0⟩:=HCX.out w3 HT3.out)
 go_ret3
 exact ⟨rfl,HT2.out.trans HT3.out⟩
end
end Go.Proofs.Ytoihjobdfjajfaa
namespace Go.Proofs.Ytoihjobdfjajfaa
open Go.RowKit Go.Maps
theorem steps_at {t:LT} {i:Nat} {s:Tm.Stp} (h:(Tm.steps t.vars t.args (Tm.sizes t.args))[i]? = some s):∃ x:LT,(Tm.regs t.args)[i]? = some x∧s=Tm.stepX t.vars t.args i x:=by
 unfold Tm.steps at h;rw [Qp] at h;obtain ⟨k,hk,hs⟩:=Option.map_eq_some_iff.1 h;have hi:=(Qg.1 hk).1;rw [List.length_range] at hi;rw [List.getElem?_range hi] at hk;obtain rfl:=Option.some.inj hk;obtain ⟨x,hx⟩:∃ x,(Tm.regs t.args)[i]? = some x:=⟨_,Qa (by rw [Tm.regs_length];exact hi)⟩;refine ⟨x,hx,?_⟩;rw [←hs];unfold Tm.stepAt;rw [hx]
theorem Row.moved {w W:World} {e:TypeId} {size n:Nat} {v:Value} {xs:List Value} (h:Row w e size v n xs) (hb:∀ g o,v.ownBlock=some g→w.heap[g]? = some o→W.heap[g]? = some o):Row W e size v n xs:=by
 refine ⟨h.1,?_⟩
 rcases h.2 with h2 | ⟨g,cap,cur,rfl,hg,h2⟩
 · exact .inl h2
 · exact .inr ⟨g,cap,cur,rfl,hb g _ rfl hg,h2⟩
section
variable {N bb m:Nat} {bx:List (Nat × Obj)} {ts:List LT} {w1 w0 W:World} {tr:Tm.Trail}
theorem BM.row {e:TypeId} {size n:Nat} {v:Value} {xs:List Value} (h:BM N bb bx ts w1 m tr w0) (T:Turned zN w0 W) (hr:Row W e size v n xs) (hn:∀ k,v.ownBlock=some k→w0.heap.size≤k) :
 ∃ bx',BM N bb (bx'++bx) ts w1 m tr W∧∀ W',(∀ b∈bx'++bx,W'.heap[b.1]? = some b.2)→Row W' e size v n xs:=by
 cases hv:v.ownBlock with
 | none=>exact ⟨[],h.turned0 T,fun W' _=>hr.moved (fun g o hg=>by rw [hv] at hg;cases hg)⟩
 | some g=>
  obtain ⟨o,ho⟩:∃ o,W.heap[g]? = some o:=by
   rcases hr.2 with ⟨rfl,_⟩ | ⟨g',cap,cur,rfl,hg,_⟩
   · cases hv
   · have:g'=g:=by simpa [Value.ownBlock] using hv
     exact ⟨_,this ▸ hg⟩
  refine ⟨[(g,o)],h.keepBox T (hn g hv) ho,fun W' hW=>hr.moved (fun g' o' hg' ho'=>?_)⟩;rw [hv] at hg';obtain rfl:=Option.some.inj hg';rw [ho] at ho';obtain rfl:=Option.some.inj ho';exact hW (g,o) (Qe ..)
end
theorem blanks_V (n:Nat):(blanks n).map Tm.bare=List.replicate n (Tm.V 0):=by
 unfold blanks;rw [List.map_replicate];rfl
theorem goodHead95' {t:LT} {p:Nat→Prop} {w w':World} {lv:Value} (ht:t.In p w') (hg:goodB t=true) (hk:t.kind=2) (hr:Row w 139 6 lv (Tm.sizes t.args) ((Tm.steps t.vars t.args (Tm.sizes t.args)).flatMap stC)) :
 Calls Try.prog 95 #[.agg #[.int .i64 t.args.length,.int .i64 t.vars.length,.int .i64 (Tm.sizes t.args),lv]] w fun e w'=>e = .returned (.bool true)∧Turned zN w w':=by
 have hl:=Tm.steps_length t.vars t.args (Tm.sizes t.args);have h:=hg;unfold goodB at h;simp only [Qd,decide_eq_true_eq,Qt] at h;have hs:=h.1;rw [Tm.size_eq] at hs;have:=codeGoodT95 (ar:=t.args.length) (sl:=t.vars.length) (rg:=(Tm.sizes t.args:Int)) (lv:=lv) (Ls:=Tm.steps t.vars t.args (Tm.sizes t.args)) (w:=w) (by rw [hl];exact hr) (steps_ok ht hg (Qm _)) (by rw [hl];omega) (Tm.head_good hg hk);exact this
end Go.Proofs.Ytoihjobdfjajfaa
namespace Go.Proofs.Ytoihjobdfjajfaa
open Lib (hid)
open Go.RowKit Go.Maps
section
variable {N bb mb gr gs R S m:Nat} {bx:List (Nat × Obj)} {ts:List LT} {w1 w W:World} {tr:Tm.Trail} {st st':Tm.MS} {x:LT} {L:List Tm.Stp} {Inv:Nat→Tm.MS→Prop}
set_option maxRecDepth 100000 in
theorem match121k {aL:Option Addr} {cL:Nat} (hN:N=w1.heap.size) (h:BM N bb bx ts w1 m tr w) (hx:x∈ts) (hR:x.args.length≤R∧R≤1000) (hS:S≤1000) (hL64:L.length≤65536)
 (hrow:∀ W,Turned zN w1 W→Row W 139 6 (.slice aL L.length cL) L.length (L.flatMap stC))
 (hgood:∀ W,Turned zN w1 W→Calls Try.prog 95 #[.agg #[.int .i64 (x.args.length:Int),.int .i64 (S:Int),.int .i64 (R:Int),.slice aL L.length cL]] W fun e w'=>e = .returned (.bool true)∧Turned zN W w')
 (hown:∀ y∈x.args,Tm.ownB m y=true) (hrun:RunOk R S tr L Inv) (h0:Inv 0 ⟨m,tr,Tm.putAt ((blanks R).map Tm.bare) 0 x.bare.args,(blanks S).map Tm.bare⟩) :
 Calls Try.prog 121 #[.pointer (some ⟨bb,0,none⟩),.agg #[.int .i64 (x.args.length:Int),.int .i64 (S:Int),.int .i64 (R:Int),.slice aL L.length cL],.slice x.at_.1 x.args.length x.at_.2] w (MatchQ N bb S m bx ts w1 tr (Tm.runM ⟨m,tr,Tm.putAt ((blanks R).map Tm.bare) 0 x.bare.args,(blanks S).map Tm.bare⟩ L)):=by
 have hb2:BM N bb ((w.heap.size+1,.cells #[.int .i64 (x.args.length:Int),.int .i64 (S:Int),.int .i64 (R:Int),.slice aL L.length cL] 104 (0,0)) :: (w.heap.size,.cells #[.pointer (some ⟨bb,0,none⟩)] 93 (0,0)) :: bx) ts w1 m tr ((w.alloc (.cells #[.pointer (some ⟨bb,0,none⟩)] 93)).alloc (.cells #[.int .i64 (x.args.length:Int),.int .i64 (S:Int),.int .i64 (R:Int),.slice aL L.length cL] 104)):=by
  have:=(h.box (.cells #[.pointer (some ⟨bb,0,none⟩)] 93)).box (.cells #[.int .i64 (x.args.length:Int),.int .i64 (S:Int),.int .i64 (R:Int),.slice aL L.length cL] 104);rw [show (w.alloc (.cells #[.pointer (some ⟨bb,0,none⟩)] 93)).heap.size=w.heap.size+1 by simp] at this;exact this
 obtain ⟨w2,hw2⟩:∃ z,z=(w.alloc (.cells #[.pointer (some ⟨bb,0,none⟩)] 93)).alloc (.cells #[.int .i64 (x.args.length:Int),.int .i64 (S:Int),.int .i64 (R:Int),.slice aL L.length cL] 104):=⟨_,rfl⟩;rw [←hw2] at hb2;obtain ⟨MR,hMR⟩:∃ z,z=Tm.runM ⟨m,tr,Tm.putAt ((blanks R).map Tm.bare) 0 x.bare.args,(blanks S).map Tm.bare⟩ L:=⟨_,rfl⟩;rw [←hMR]
 have hcx:∀ W,Turned zN w2 W→(W.cell? ⟨w.heap.size+1,0,none⟩=some (.int .i64 (x.args.length:Int))∧W.cell? ⟨w.heap.size+1,1,none⟩=some (.int .i64 (S:Int))∧W.cell? ⟨w.heap.size+1,2,none⟩=some (.int .i64 (R:Int))∧W.cell? ⟨w.heap.size+1,3,none⟩=some (.slice aL L.length cL))∧W.cell? ⟨w.heap.size,0,none⟩=some (.pointer (some ⟨bb,0,none⟩)):=fun W T=>by
  have hbx:=(hb2.turned0 T).boxes;have c1:=cells4 (hbx _ (Qe ..));have c2:=cell_of_row W w.heap.size 0 _ 93 (0,0) (hbx _ (Qb _ (Qe ..)));exact ⟨⟨c1.1,c1.2.1,c1.2.2.1,c1.2.2.2.1⟩,c2⟩
 have hmf:∀ (fn:Fn) (first cap:Array Value) (w:World),(Instr.makeFunc fn first cap).run Try.prog w = .ok (.func fn first cap) w:=fun _ _ _ _=>rfl
 have hbd:∀ W,Turned zN w2 W→∀ b∈bx,W.heap[b.1]? = some b.2:=fun W T b hb=>(hb2.turned0 T).boxes b (Qb _ (Qb _ hb))
 have hxl:=(hb2.terms x hx).len
 have hxa:x.args.length≤1000:=by omega
 have hno:∀ W,Turned zN w2 W→Calls Try.prog 158 #[.slice x.at_.1 x.args.length x.at_.2,.func (.func 157) #[] #[.pointer (some ⟨w.heap.size,0,none⟩)]] W fun e w'=>e = .returned (.bool false)∧Turned zN W w':=fun W T=>by
  refine containsNone158 (((hb2.turned0 T).terms x hx).sl) (fun y hy W' T'=>?_);have hb':=hb2.turned0 (T.trans T');have hK:=hb'.boxes _ (Qb _ (Qe ..));obtain ⟨q,O,l,g1,g2,g3,g4,_⟩:=hb'.call hN;refine closure157 g1 ((LT.ins_iff _).1 (g4 x hx).args y hy) (good_slim ?_) (by rw [←ownB_bare,ownB_bare];exact hown y hy) hK;have:=hown y hy;rw [←ownB_bare] at this;rw [←goodB_bare];exact (Tm.ownB_iff.1 this).1
 have HB2:=hid hb2;have HW2:=hid hw2;have HCX:=hid hcx;have HBD:=hid hbd;have HNO:=hid hno;have HGD:=hid hgood;have HROW:=hid hrow;have HN:=hid hN;have HXT:=hid hx;have HRS:Hid (R≤1000∧S≤1000):=⟨hR.2,hS⟩;have HXR:=hid hR.1;have HRUN:=hid hrun;have HI0:=hid h0;have HMR:=hid hMR;obtain ⟨⟨k0,k1,k2,k3⟩,j0⟩:=hcx w2 (Turned.refl _ _);clear h hb2 hw2 hcx hbd hno hgood hrow hN hx hR hS hrun h0 hMR hown hxl;go_enter Try.func121,Try.ntmps121
 go_wp2_with fail
 rw [←HW2.out]
 go_wp2_with (first
  | (go_at_call 158;have HT3:=HT3;(with_reducible refine (HNO.out _ HT3.out).mono ?_);rintro e w4 ⟨rfl,T4⟩;have HT4:=hid (HT3.out.trans T4);clear T4)
  | (go_at_call 95;(with_reducible refine (HGD.out w2 HB2.out.old).mono ?_);rintro e w3 ⟨rfl,T3⟩;have HT3:=hid T3;clear T3;obtain ⟨⟨k0,k1,k2,k3⟩,j0⟩:=HCX.out w3 HT3.out))
 refine wp_region_k [36,37,38,39,40,41,42,43,44,10] [3,6,7,8,9] [(39,3),(42,6),(43,7),(44,8),(10,9)] (fun dd vv=>(match dd with | 36=>vv = .pointer (some ⟨bb,0,none⟩) | 37=>vv = .pointer (some ⟨w.heap.size+1,2,none⟩) | 38=>vv = .int .i64 (R:Int) | 40=>vv = .pointer (some ⟨w.heap.size+1,1,none⟩) | 41=>vv = .int .i64 (S:Int) | _=>True:Prop)) (MtS w4 bb R S) (by kernel_rfl) rfl (by kernel_rfl) (by kernel_rfl) (fun W T=>MtS.start T) (fun hs W W' h T=>h.turned0 T) ?hs ?hQ
 case hs=>
  refine ⟨?s0,?s1,?s2,?s3,?s4,?s5,?s6,?s7,?s8,?s9,trivial⟩
  case s0=>refine fun hs hl=>zG [] [3] fun ac W hT hI hO=>?_;obtain ⟨⟨k0,k1,k2,k3⟩,j0⟩:=HCX.out W (HT4.out.trans hT.t);simp only [execOp,Act.eval,hO 3 (by simp)];go_simp;try exact tq
  case s1=>refine fun hs hl=>zG [] [4] fun ac W hT hI hO=>?_;simp only [execOp,Act.eval,hO 4 (by simp)];go_simp;try exact tq
  case s2=>refine fun hs hl=>zG [37] [] fun ac W hT hI hO=>?_;have h37:_=_:=hI 37 (by simp);obtain ⟨⟨k0,k1,k2,k3⟩,j0⟩:=HCX.out W (HT4.out.trans hT.t);simp only [execOp,Act.eval,h37];go_simp;try exact tq
  case s3=>
   refine fun hs hno hl=>zG [38] [] fun ac W hT hI hO=>?_;have h38:_=_:=hI 38 (by simp);show Brings _ (fun vv w'=>MtS w4 bb R S (hs++[(3,vv)]) w') _;have hmk:=(make_blanksT R HRS.out.1 W).1;simp only [execOp,Act.eval,h38];go_simp;exact hT.regs hno HRS.out.1
  case s4=>refine fun hs hl=>zG [] [4] fun ac W hT hI hO=>?_;simp only [execOp,Act.eval,hO 4 (by simp)];go_simp;try exact tq
  case s5=>refine fun hs hl=>zG [40] [] fun ac W hT hI hO=>?_;have h40:_=_:=hI 40 (by simp);obtain ⟨⟨k0,k1,k2,k3⟩,j0⟩:=HCX.out W (HT4.out.trans hT.t);simp only [execOp,Act.eval,h40];go_simp;try exact tq
  case s6=>
   refine fun hs hno hl=>zG [41] [] fun ac W hT hI hO=>?_;have h41:_=_:=hI 41 (by simp);show Brings _ (fun vv w'=>MtS w4 bb R S (hs++[(6,vv)]) w') _;have hmk:=(make_blanksT S HRS.out.2 W).1;simp only [execOp,Act.eval,h41];go_simp;exact hT.slots hno HRS.out.2
  case s7=>
   refine fun hs hno hl=>zG [36,39,42] [] fun ac W hT hI hO=>?_;have h36:_=_:=hI 36 (by simp);have h39:(3,ac.tmps.getD 39 undef)∈hs:=hI 39 (by simp);have h42:(6,ac.tmps.getD 42 undef)∈hs:=hI 42 (by simp);obtain ⟨g,e39,_,_⟩:=hT.r _ h39;obtain ⟨g',e42,_,_⟩:=hT.s _ h42;rw [e39] at h39;rw [e42] at h42;unfold sl at e39 e42;show Brings _ (fun vv w'=>MtS w4 bb R S (hs++[(7,vv)]) w') _;exact brings_build197 36 39 42 rfl h36 e39 e42 (hT.built h39 h42)
  case s8=>
   refine fun hs hno hl=>zG [43] [] fun ac W hT hI hO=>?_;have h43:(7,ac.tmps.getD 43 undef)∈hs:=hI 43 (by simp);obtain ⟨g,g',a1,a2,e43⟩:=hT.b _ h43;unfold sl at e43;show Brings _ (fun vv w'=>MtS w4 bb R S (hs++[(8,vv)]) w') _;simp only [execOp,Act.eval,e43];go_simp;exact hT.boxed hno a1 a2
  case s9=>
   refine fun hs hno hl=>zG [44] [] fun ac W hT hI hO=>?_;have h44:(8,ac.tmps.getD 44 undef)∈hs:=hI 44 (by simp);obtain ⟨mb,g,g',e44,_⟩:=hT.x _ h44;have h44':=h44;rw [e44] at h44';unfold ptr at e44;show Brings _ (fun vv w'=>MtS w4 bb R S (hs++[(9,vv)]) w') _;simp only [execOp,Act.eval,e44];go_simp;exact hT.assigned h44'
 case hQ=>
  intro hs vs w5 hall huniq hR hV;have q10:(9,vs 10)∈hs:=hV 10 (by simp);obtain ⟨mb,gr,gs,hB,hmb,hrr,hss,hn1,hn2,T5⟩:=hR.done q10;simp only [Qq,List.foldl_nil,Qk,Qs,Qr,hB];have hmk5:=(HB2.out.turned0 HT4.out).matcher T5 HN.out.symm hmb hrr hss hn1 hn2;obtain ⟨w6,hcp,hmk6⟩:=hmk5.copyIn HN.out HXT.out HXR.out;have HM6:=hid hmk6;obtain ⟨b0,b1,b2,_⟩:=rec3b hmk5.mbox;have hj5:=(HCX.out w5 (HT4.out.trans T5)).2;have hj6:=cell_of_row w6 w.heap.size 0 _ 93 (0,0) (hmk6.boxes _ (Qb _ (Qe ..)));simp only [List.getElem?_toArray,List.getElem?_cons_zero] at hj6;clear hall huniq hR hV q10 hB hmb hrr hss hn1 hn2 hmk5 hmk6
  go_wp2_with (go_at_call 111;(with_reducible refine (HM6.out.mark).mono ?_);rintro e w7 ⟨rfl,T7⟩;have HM7:=hid (HM6.out.turned0 T7);clear T7;obtain ⟨k0,k1,k2,k3,_⟩:=cells4 (HM7.out.boxes _ (Qe ..)))
  go_loopg [56] L.length (fun k i wr=>∃ (j:Nat) (st:Tm.MS),Hid (j+k=L.length)∧j≤L.length∧i = .int .i64 j∧Hid (Inv j st∧MR=Tm.runM st (L.drop j))∧Hid (MK N bb mb gr gs R S ((w.heap.size+1,.cells #[.int .i64 (x.args.length:Int),.int .i64 (S:Int),.int .i64 (R:Int),.slice aL L.length cL] 104 (0,0)) :: (w.heap.size,.cells #[.pointer (some ⟨bb,0,none⟩)] 93 (0,0)) :: bx) ts w1 st wr))
  case atStart=>exact ⟨0,_,Nat.zero_add _,Nat.zero_le _,rfl,⟨HI0.out,HMR.out⟩,HM7.out⟩
  case round=>
   obtain ⟨j,st,HG,hj,rfl,HIJ,HMJ⟩:=hrel
   have hbd:=fun b hb=>HMJ.out.boxes b (Qb _ (Qb _ hb))
   by_cases hjl:j < L.length
   · have dj:decide ((j:Int) < (L.length:Int))=true:=decide_eq_true (by omega)
     obtain ⟨s,hs⟩:∃ s:Tm.Stp,L[j]? = some s:=⟨_,Qa hjl⟩;obtain ⟨op,nm,sa,sb,sc,sn,hse,hsa,hnm,hso,hop⟩:=HRUN.out.step j s st hs HIJ.out.1;have hrw:=HROW.out wr HMJ.out.old;obtain ⟨gL,capL,hgL⟩:=hrw.shape_pos (by omega)
     have haL:aL=some ⟨gL,0,none⟩:=by injection hgL
     subst haL;obtain ⟨n0,n1,n2,n3,n4,n5⟩:=step_cells hrw hs;subst hse;simp only [] at n0 n1 n2 n3 n4 n5
     have hdrop:L.drop j=⟨op,(sa:Int),(sb:Int),(sc:Int),sn,nm⟩ :: L.drop (j+1):=by
      rw [List.drop_eq_getElem_cons hjl];congr 1;have:=Qa hjl;rw [hs] at this;exact (Option.some.inj this).symm
     have hone:=fun W (T:Turned zN wr W)=>one159 (op:=op) (name:=nm) (a:=sa) (b:=sb) (c:=sc) (n:=sn) HN.out (HMJ.out.turned0 T) hsa (by have:=HRS.out.1;omega) (by have:=HRS.out.2;omega) hnm hso hop
     have HONE:=hid hone;have HS:=hid hs;have HDR:=hid hdrop;have HNX:=hid (HRUN.out.next j ⟨op,(sa:Int),(sb:Int),(sc:Int),sn,nm⟩ st);have HPR:=hid (HRUN.out.pre j st HIJ.out.1);clear hbd hrw hgL hs hsa hnm hso hop hdrop hone;obtain ⟨M,hM⟩:∃ z,z=Tm.stepM st ⟨op,(sa:Int),(sb:Int),(sc:Int),sn,nm⟩:=⟨_,rfl⟩;have HM:=hid hM
     cases M with
     | go st''=>
      have hrun:MR=Tm.runM st'' (L.drop (j+1)):=by
       rw [HIJ.out.2,HDR.out,Tm.runM,←HM.out]
      have HR:=hid hrun;clear hM hrun
      go_wp2_with (go_at_call 159;have h1:=HONE.out _ ((Turned.refl (fun _=>False) wr).alloc (.cells #[.string op,.int .i64 (sa:Int),.int .i64 (sb:Int),.int .i64 (sc:Int),.int .i64 sn,.string nm] 139));rw [←HM.out] at h1;(with_reducible refine h1.mono ?_);rintro e w8 ⟨rfl,h8⟩;have HM8:=hid h8;clear h8 h1)
      go_roundg (gk - 1)
      case measure=>have:=HG.out;omega
      case rel=>exact ⟨j+1,st'',show _=_ by have:=HG.out;omega,by omega,by go_num,⟨HNX.out st'' HS.out HIJ.out.1 HM.out.symm,HR.out⟩,HM8.out⟩
     | stop E m'=>
      have hrun:MR = .stop E m':=by
       rw [HIJ.out.2,HDR.out,Tm.runM,←HM.out]
      have HR:=hid hrun;have h1:=HONE.out _ ((Turned.refl (fun _=>False) wr).alloc (.cells #[.string op,.int .i64 (sa:Int),.int .i64 (sb:Int),.int .i64 (sc:Int),.int .i64 sn,.string nm] 139));rw [←HM.out] at h1;have H1:=hid h1;clear hM hrun h1
      go_wp2_with fail
      refine H1.out.mono ?_
      rintro e w8 ⟨b,st2,rfl,hb,hm2,⟨a1,ha1⟩,h8⟩
      obtain ⟨a2,ha2⟩:=HPR.out;have hb8:=h8.drop';have hj8:=cell_of_row w8 w.heap.size 0 _ 93 (0,0) (hb8.boxes _ (Qb _ (Qe ..)));simp only [List.getElem?_toArray,List.getElem?_cons_zero] at hj8;have hun:=hb8.undo HN.out tr.length (by rw [ha1,ha2];simp only [Qi];omega);rw [show List.drop (st2.l.length - tr.length) st2.l=tr by rw [ha1,ha2,←List.append_assoc];exact List.drop_left' (by simp only [Qi];omega),hm2] at hun;have HUN:=hid hun;have HB:=hid hb;clear hb8 h8 ha1 ha2 hun hb hm2
      cases b with
      | false=>
       go_wp2_with (go_at_call 101;(with_reducible refine HUN.out.mono ?_);rintro e w9 ⟨rfl,h9⟩;have H9:=hid h9;clear h9)
       go_ret3
       rw [HR.out];exact ⟨rfl,H9.out.sub (fun b h=>Qb _ (Qb _ h)) (fun x h=>h)⟩
      | true=>
       have bE:(E != 0)=true:=by have:=HB.out rfl;simp [this]
       go_wp2_with (go_at_call 101;(with_reducible refine HUN.out.mono ?_);rintro e w9 ⟨rfl,h9⟩;have H9:=hid h9;clear h9)
       go_ret3
       rw [HR.out];exact ⟨rfl,H9.out.sub (fun b h=>Qb _ (Qb _ h)) (fun x h=>h)⟩
   · obtain rfl:j=L.length:=by omega
     have dj:decide ((L.length:Int) < (L.length:Int))=false:=decide_eq_false (by omega)
     have hrun:MR = .go st:=by rw [HIJ.out.2,List.drop_length];rfl
     have HR:=hid hrun;obtain ⟨b0,b1,b2,_⟩:=rec3b HMJ.out.mbox;clear hbd hrun
     go_wp2_with fail
     go_ret3
     rw [HR.out];obtain ⟨ss,cur,g1,g2,g3⟩:=HMJ.out.done;refine ⟨gs,ss,cur,rfl,g1,g2,g3.sub (fun b h=>?_) (fun x h=>h)⟩
     rcases Qw.1 h with rfl | h
     · exact Qe ..
     · exact Qb _ (Qb _ (Qb _ h))
end
section
variable {N bb nL cL m:Nat} {ar sl rg:Int} {aL:Option Addr} {bx:List (Nat × Obj)} {ts:List LT} {w1 w:World} {tr:Tm.Trail} {x:LT}
set_option maxRecDepth 100000 in
theorem matchStrange121k (hN:N=w1.heap.size) (h:BM N bb bx ts w1 m tr w) (hx:x∈ts) (har:ar=(x.args.length:Int))
 (hgood:∀ W,Turned zN w1 W→Calls Try.prog 95 #[.agg #[.int .i64 ar,.int .i64 sl,.int .i64 rg,.slice aL nL cL]] W fun e w'=>e = .returned (.bool true)∧Turned zN W w')
 (hsl:∀ y∈x.args,slim y) (hstr:∃ y∈x.args,Tm.ownB m y=false) :
 Calls Try.prog 121 #[.pointer (some ⟨bb,0,none⟩),.agg #[.int .i64 ar,.int .i64 sl,.int .i64 rg,.slice aL nL cL],.slice x.at_.1 x.args.length x.at_.2] w fun e w'=>e = .returned (.tuple #[.slice none 0 0,.bool false,.int .i64 1])∧Turned zN w w':=by
 subst har;have T2:=((Turned.refl (fun _=>False) w).alloc (.cells #[.pointer (some ⟨bb,0,none⟩)] 93)).alloc (.cells #[.int .i64 (x.args.length:Int),.int .i64 sl,.int .i64 rg,.slice aL nL cL] 104)
 have hb2:BM N bb ((w.heap.size+1,.cells #[.int .i64 (x.args.length:Int),.int .i64 sl,.int .i64 rg,.slice aL nL cL] 104 (0,0)) :: (w.heap.size,.cells #[.pointer (some ⟨bb,0,none⟩)] 93 (0,0)) :: bx) ts w1 m tr ((w.alloc (.cells #[.pointer (some ⟨bb,0,none⟩)] 93)).alloc (.cells #[.int .i64 (x.args.length:Int),.int .i64 sl,.int .i64 rg,.slice aL nL cL] 104)):=by
  have:=(h.box (.cells #[.pointer (some ⟨bb,0,none⟩)] 93)).box (.cells #[.int .i64 (x.args.length:Int),.int .i64 sl,.int .i64 rg,.slice aL nL cL] 104);rw [show (w.alloc (.cells #[.pointer (some ⟨bb,0,none⟩)] 93)).heap.size=w.heap.size+1 by simp] at this;exact this
 obtain ⟨w2,hw2⟩:∃ z,z=(w.alloc (.cells #[.pointer (some ⟨bb,0,none⟩)] 93)).alloc (.cells #[.int .i64 (x.args.length:Int),.int .i64 sl,.int .i64 rg,.slice aL nL cL] 104):=⟨_,rfl⟩;rw [←hw2] at hb2 T2
 have hcx:∀ W,Turned zN w2 W→(W.cell? ⟨w.heap.size+1,0,none⟩=some (.int .i64 (x.args.length:Int))∧W.cell? ⟨w.heap.size+1,1,none⟩=some (.int .i64 sl)∧W.cell? ⟨w.heap.size+1,2,none⟩=some (.int .i64 rg)∧W.cell? ⟨w.heap.size+1,3,none⟩=some (.slice aL nL cL))∧W.cell? ⟨w.heap.size,0,none⟩=some (.pointer (some ⟨bb,0,none⟩)):=fun W T=>by
  have hbx:=(hb2.turned0 T).boxes;have c1:=cells4 (hbx _ (Qe ..));have c2:=cell_of_row W w.heap.size 0 _ 93 (0,0) (hbx _ (Qb _ (Qe ..)));exact ⟨⟨c1.1,c1.2.1,c1.2.2.1,c1.2.2.2.1⟩,c2⟩
 have hmf:∀ (fn:Fn) (first cap:Array Value) (w:World),(Instr.makeFunc fn first cap).run Try.prog w = .ok (.func fn first cap) w:=fun _ _ _ _=>rfl
 have hbd:∀ W,Turned zN w2 W→∀ b∈bx,W.heap[b.1]? = some b.2:=fun W T b hb=>(hb2.turned0 T).boxes b (Qb _ (Qb _ hb))
 have hyes:∀ W,Turned zN w2 W→Calls Try.prog 158 #[.slice x.at_.1 x.args.length x.at_.2,.func (.func 157) #[] #[.pointer (some ⟨w.heap.size,0,none⟩)]] W fun e w'=>e = .returned (.bool true)∧Turned zN W w':=fun W T=>by
  refine containsSome158 (fun y=>!Tm.ownB m y) (((hb2.turned0 T).terms x hx).sl) (fun y hy W' T'=>?_) (by obtain ⟨y,hy,e⟩:=hstr;exact ⟨y,hy,by rw [e];rfl⟩);have hb':=hb2.turned0 (T.trans T');have hK:=hb'.boxes _ (Qb _ (Qe ..));obtain ⟨q,O,l,g1,g2,g3,g4,_⟩:=hb'.call hN;exact closureAny157 g1 ((LT.ins_iff _).1 (g4 x hx).args y hy) (hsl y hy) rfl hK
 have HW2:=hid hw2;have HOL:=hid hb2.old;have HCX:=hid hcx;have HBD:=hid hbd;have HYS:=hid hyes;have HGD:=hid hgood;have HT2:=hid T2;obtain ⟨⟨k0,k1,k2,k3⟩,j0⟩:=hcx w2 (Turned.refl _ _);clear h hb2 hw2 hcx hbd hyes hgood hN hx hsl hstr T2;go_enter Try.func121,Try.ntmps121
 go_wp2_with fail
 rw [←HW2.out]
 go_wp2_with (first
  | (go_at_call 158;have HT3:=HT3;(with_reducible refine (HYS.out _ HT3.out).mono ?_);rintro e w4 ⟨rfl,T4⟩;have HT4:=hid (HT3.out.trans T4);clear T4)
  | (go_at_call 95;(with_reducible refine (HGD.out w2 HOL.out).mono ?_);rintro e w3 ⟨rfl,T3⟩;have HT3:=hid T3;clear T3;obtain ⟨⟨k0,k1,k2,k3⟩,j0⟩:=HCX.out w3 HT3.out))
 go_ret3
 exact ⟨rfl,HT2.out.trans HT4.out⟩
end
section
variable {N bb m:Nat} {bx:List (Nat × Obj)} {ts:List LT} {w1 w0 W w:World} {tr:Tm.Trail} {x:LT}
theorem BM.begin {O:Nat→Prop} (B:BO (fun k=>k < w1.heap.size) bb O m [] W) (hO:∀ k,O k→w1.heap.size≤k) (T:Turned zN w1 W):BM w1.heap.size bb [] [] w1 m [] W:=
 ⟨_,[],O,fun _ h=>h,rfl,B,hO,T,fun b hb=>(by cases hb),fun x hx=>(by cases hx)⟩
theorem BM.grow (h:BM N bb bx ts w1 m tr w0) (T:Turned zN w0 W):∃ (q:Nat→Prop) (l:TL) (O:Nat→Prop),(∀ k,k < N→q k)∧bt l=tr∧BO q bb O m l W∧(∀ k,O k→N≤k)∧Turned zN w1 W∧(∀ b∈bx,W.heap[b.1]? = some b.2∧¬ O b.1∧¬ q b.1)∧(∀ y∈ts,y.In q W)∧∀ k,w0.heap.size≤k→k < W.heap.size→q k:=by
 obtain ⟨q,l,O,h1,h2,h3,h4,h5,h6,h7⟩:=h;have h3':=h3.turned0 T;refine ⟨fun k=>q k∨(w0.heap.size≤k∧k < W.heap.size),l,O,fun k hk=>.inl (h1 k hk),h2,h3'.wide (fun k hk=>.inl hk) (fun k hk=>?_),h4,h5.trans T,fun b hb=>?_,fun y hy=>?_,fun k g1 g2=>.inr ⟨g1,g2⟩⟩
 · rcases hk with hk | hk
   · exact ⟨h3'.plt k hk,h3.sep k hk⟩
   · exact ⟨hk.2,fun c=>by have:=h3.lt k c;omega⟩
 · obtain ⟨g1,g2,g3⟩:=h6 b hb
   have hlt:=(zL g1);exact ⟨(T.block _ hlt (fun f=>f)).trans g1,g2,fun c=>c.elim g3 (fun c=>by omega)⟩
 · exact ((h7 y hy).turned0 T).mono (fun k _ hk=>.inl hk)
theorem BM.addTerm (h:BM N bb bx ts w1 m tr w0) (T:Turned zN w0 W) (hx:x.In (fun k=>w0.heap.size≤k) W):BM N bb bx (x :: ts) w1 m tr W:=by
 obtain ⟨q,l,O,h1,h2,h3,h4,h5,h6,h7,h8⟩:=h.grow T;refine ⟨q,l,O,h1,h2,h3,h4,h5,h6,fun y hy=>?_⟩
 rcases Qw.1 hy with rfl | hy
 · exact hx.mono (fun k hk hp=>h8 k hp hk)
 · exact h7 y hy
theorem BM.whole (h:BM N bb bx ts w1 m tr w0) (T:Turned zN w0 W) (hx:x.In (fun k=>w0.heap.size≤k) W) (hs:slim x) {E:Int} (hE:wholeE m tr x.bare=E) :
 Calls Try.prog 89 #[.pointer (some ⟨bb,0,none⟩),.agg #[.int .i64 x.kind,.int .i64 x.n,.string x.name,.slice x.at_.1 x.args.length x.at_.2]] W fun e w'=>∃ u:LT,e = .returned (.tuple #[.agg #[.int .i64 u.kind,.int .i64 u.n,.string u.name,.slice u.at_.1 u.args.length u.at_.2],.int .i64 E])∧u.bare=wholeT m tr x.bare∧BM N bb bx (u :: ts) w1 m tr w'∧Turned zN W w':=by
 obtain ⟨q,l,O,h1,rfl,h3,h4,h5,h6,h7⟩:=h.addTerm T hx;refine (wholeVal h3 (h7 x (Qe ..)) hs hE).mono ?_
 rintro e w' ⟨u,rfl,hu,hi,T'⟩
 have hb:BM N bb bx ts w1 m (bt l) W:=⟨q,l,O,h1,rfl,h3,h4,h5,h6,fun y hy=>h7 y (Qb _ hy)⟩;refine ⟨u,rfl,hu,?_,T'⟩;have h3':=h3.turned0 T';refine ⟨fun k=>q k∨(W.heap.size≤k∧k < w'.heap.size),l,O,fun k hk=>.inl (h1 k hk),rfl,h3'.wide (fun k hk=>.inl hk) (fun k hk=>?_),h4,h5.trans T',fun b hb=>?_,fun y hy=>?_⟩
 · rcases hk with hk | hk
   · exact ⟨h3'.plt k hk,h3.sep k hk⟩
   · exact ⟨hk.2,fun c=>by have:=h3.lt k c;omega⟩
 · obtain ⟨g1,g2,g3⟩:=h6 b hb
   have hlt:=(zL g1);exact ⟨(T'.block _ hlt (fun f=>f)).trans g1,g2,fun c=>c.elim g3 (fun c=>by omega)⟩
 · rcases Qw.1 hy with rfl | hy
   · exact hi.mono (fun k hk hp=>hp.elim .inl (fun hp=>.inr ⟨hp,hk⟩))
   · exact ((h7 y (Qb _ hy)).turned0 T').mono (fun k _ hk=>.inl hk)
theorem BM.mark (hN:N=w1.heap.size) (h:BM N bb bx ts w1 m tr W):Calls Try.prog 111 #[.pointer (some ⟨bb,0,none⟩)] W fun e w'=>e = .returned (.int .i64 tr.length)∧Turned zN W w':=by
 obtain ⟨q,O,l,g1,rfl,g3,g4,_⟩:=h.call hN;rw [bt_length];exact markO111 g1
end
section
variable {N bb:Nat} {bx:List (Nat × Obj)} {ts:List LT} {w1 w0 W:World} {aL:Option Addr} {cL:Nat}
def KArgs (a b:LT) (w0:World) (v:Value) (W:World):Prop:=∃ g:Nat,v = .slice (some ⟨g,0,none⟩) 2 2∧Turned zN w0 W∧LT.In (fun k=>w0.heap.size≤k) W (.mk 2 0 ByteArray.empty (some ⟨g,0,none⟩,2) [a,b])
theorem KArgs.turned0 {a b:LT} {v:Value} {W':World} (h:KArgs a b w0 v W) (T:Turned zN W W'):KArgs a b w0 v W':=by
 obtain ⟨g,h1,h2,h3⟩:=h;exact ⟨g,h1,h2.trans T,h3.turned0 T⟩
theorem KArgs.made {k n k' n':Int} {s s':ByteArray} (T:Turned zN w0 W) (h1:I64 k) (h2:I64 n) (h3:s.size≤maxLen) (h4:I64 k') (h5:I64 n') (h6:s'.size≤maxLen):KArgs (leaf k n s) (leaf k' n' s') w0 (.slice (some ⟨W.heap.size,0,none⟩) 2 2) (W.alloc (.cells #[.int .i64 k,.int .i64 n,.string s,.slice none 0 0,.int .i64 k',.int .i64 n',.string s',.slice none 0 0] 27)):=by
 refine ⟨W.heap.size,rfl,T.alloc _,?_⟩;have hr:=Row.made W 27 4 #[.int .i64 k,.int .i64 n,.string s,.slice none 0 0,.int .i64 k',.int .i64 n',.string s',.slice none 0 0] 2 rfl (by unfold maxLen;omega);have hs:=(LT.Sl.of_row (p:=fun k=>w0.heap.size≤k) (l:=[leaf k n s,leaf k' n' s']) hr (fun j hj=>by simp [Value.ownBlock] at hj;subst hj;exact T.size) ⟨leafIn' h1 h2 h3,leafIn' h4 h5 h6,trivial⟩).2;exact hs.in_ (i64_lit _ (by omega)) (i64_lit _ (by omega)) (by unfold maxLen;decide)
structure KCode (w1:World) (aL:Option Addr) (cL:Nat):Prop where
 row:∀ W,Turned zN w1 W→Row W 139 6 (.slice aL 3 cL) 3 ([st0,st1,st2].flatMap stC)
 good:∀ W,Turned zN w1 W→Calls Try.prog 95 #[.agg #[.int .i64 2,.int .i64 1,.int .i64 3,.slice aL 3 cL]] W fun e w'=>e = .returned (.bool true)∧Turned zN W w'
theorem knMatch {a b:LT} {g m:Nat} {tr:Tm.Trail} {l:List Tm.MS} (hN:N=w1.heap.size) (h:BM N bb bx ts w1 m tr w0) (T:Turned zN w0 W) (hc:KCode w1 aL cL) (hx:LT.In (fun k=>w0.heap.size≤k) W (.mk 2 0 ByteArray.empty (some ⟨g,0,none⟩,2) [a,b]))
 (oa:Tm.ownB m a=true) (ob:Tm.ownB m b=true) (hrun:RunOk 3 1 tr [st0,st1,st2] (KInv l)) (h0:l[0]? = some ⟨m,tr,[a.bare,b.bare,Tm.V 0],[Tm.V 0]⟩) :
 Calls Try.prog 121 #[.pointer (some ⟨bb,0,none⟩),.agg #[.int .i64 2,.int .i64 1,.int .i64 3,.slice aL 3 cL],.slice (some ⟨g,0,none⟩) 2 2] W (MatchQ N bb 1 m bx (.mk 2 0 ByteArray.empty (some ⟨g,0,none⟩,2) [a,b] :: ts) w1 tr (Tm.runM ⟨m,tr,[a.bare,b.bare,Tm.V 0],[Tm.V 0]⟩ [st0,st1,st2])):=by
 have hb:=h.addTerm T hx
 have:=match121k (R:=3) (S:=1) (L:=[st0,st1,st2]) (Inv:=KInv l) (aL:=aL) (cL:=cL) (x:=.mk 2 0 ByteArray.empty (some ⟨g,0,none⟩,2) [a,b]) hN hb (Qe ..) ⟨by show 2≤3;omega,by omega⟩ (by omega) (by show 3≤65536;omega)
  (fun W' T'=>hc.row W' T') (fun W' T'=>hc.good W' T') (fun y hy=>by
   have hy':y=a∨y=b:=by simpa [Tm.args] using hy
   rcases hy' with rfl | rfl
   · exact oa
   · exact ob) hrun (by show l[0]? = _;rw [h0];rfl)
 exact this
end
section
variable {N bb:Nat} {bx:List (Nat × Obj)} {ts:List LT} {w1 w0 W:World} {aL:Option Addr} {cL:Nat}
def KSlots (N bb:Nat) (bx:List (Nat × Obj)) (ts:List LT) (w1:World) (s:Value) (W:World):Prop:=
 ∃ (gs:Nat) (x:LT) (cur:Array Value),s = .slice (some ⟨gs,0,none⟩) 1 1∧x.bare=Tm.knI 3∧Row W 27 4 s 1 ([x].flatMap LT.cells)∧BM N bb ((gs,.cells cur 27 (0,0)) :: bx) (x :: ts) w1 2 Tm.kn2 W
def KNo (N bb:Nat) (bx:List (Nat × Obj)) (ts:List LT) (w1:World) (m:Nat) (tr:Tm.Trail) (s:Value) (W:World):Prop:=s = .slice none 0 0∧BM N bb bx ts w1 m tr W
theorem KSlots.turned0 {s:Value} {W':World} (h:KSlots N bb bx ts w1 s W) (T:Turned zN W W'):KSlots N bb bx ts w1 s W':=by
 obtain ⟨gs,x,cur,h1,h2,h3,h4⟩:=h;exact ⟨gs,x,cur,h1,h2,h3.turned0 T,h4.turned0 T⟩
theorem KNo.turned0 {m:Nat} {tr:Tm.Trail} {s:Value} {W':World} (h:KNo N bb bx ts w1 m tr s W) (T:Turned zN W W'):KNo N bb bx ts w1 m tr s W':=⟨h.1,h.2.turned0 T⟩
theorem kn_lits:I64 0∧I64 1∧I64 2∧I64 3∧I64 4∧I64 99999:=⟨i64_lit _ (by omega),i64_lit _ (by omega),i64_lit _ (by omega),i64_lit _ (by omega),i64_lit _ (by omega),by unfold I64;omega⟩
theorem knMatchA {v:Value} (hN:N=w1.heap.size) (h:BM N bb bx ts w1 1 [] w0) (hc:KCode w1 aL cL) (hx:KArgs (leaf 1 3 ByteArray.empty) (leaf 0 0 ByteArray.empty) w0 v W) :
 Calls Try.prog 121 #[.pointer (some ⟨bb,0,none⟩),.agg #[.int .i64 2,.int .i64 1,.int .i64 3,.slice aL 3 cL],v] W fun e w'=>∃ s,e = .returned (.tuple #[s,.bool true,.int .i64 0])∧KSlots N bb bx ts w1 s w':=by
 obtain ⟨g,rfl,T,hi⟩:=hx;have:=knMatch hN h T hc hi (by kernel_rfl) (by kernel_rfl) knA_ok rfl;refine this.mono ?_;intro e w' hq;have hr:Tm.runM ⟨1,[],[(leaf 1 3 ByteArray.empty:LT).bare,(leaf 0 0 ByteArray.empty:LT).bare,Tm.V 0],[Tm.V 0]⟩ [st0,st1,st2] = .go Tm.knA3:=Tm.knA_run;rw [hr] at hq;obtain ⟨gs,ss,cur,e1,e2,e3,e4⟩:=hq
 obtain ⟨x,rfl,hxb⟩:∃ x,ss=[x]∧x.bare=Tm.knI 3:=by
  cases ss with
  | nil=>cases e2
  | cons x l=>
   cases l with
   | nil=>injection e2 with e2 _;exact ⟨x,rfl,e2⟩
   | cons y l=>injection e2 with _ e2;cases e2
 exact ⟨_,e1,gs,x,cur,rfl,hxb,e3,e4.sub (fun b h=>h) (fun y hy=>by
  rcases Qw.1 hy with rfl | hy
  · exact Qc _ (List.mem_singleton.2 rfl)
  · exact Qj _ (Qb _ hy))⟩
theorem knMatchB {v:Value} (hN:N=w1.heap.size) (h:BM N bb bx ts w1 2 Tm.kn2 w0) (hc:KCode w1 aL cL) (hx:KArgs (leaf 1 4 ByteArray.empty) (leaf 0 0 ByteArray.empty) w0 v W) :
 Calls Try.prog 121 #[.pointer (some ⟨bb,0,none⟩),.agg #[.int .i64 2,.int .i64 1,.int .i64 3,.slice aL 3 cL],v] W fun e w'=>∃ s,e = .returned (.tuple #[s,.bool false,.int .i64 0])∧KNo N bb bx ts w1 2 Tm.kn2 s w':=by
 obtain ⟨g,rfl,T,hi⟩:=hx;have:=knMatch hN h T hc hi (by kernel_rfl) (by kernel_rfl) knB_ok rfl;refine this.mono ?_;intro e w' hq;have hr:Tm.runM ⟨2,Tm.kn2,[(leaf 1 4 ByteArray.empty:LT).bare,(leaf 0 0 ByteArray.empty:LT).bare,Tm.V 0],[Tm.V 0]⟩ [st0,st1,st2] = .stop 0 2:=Tm.knB_run;rw [hr] at hq;exact ⟨_,hq.1,rfl,hq.2.sub (fun b h=>h) (fun y hy=>Qb _ hy)⟩
theorem knMatchC {v:Value} (hN:N=w1.heap.size) (h:BM N bb bx ts w1 1 [] w0) (hc:KCode w1 aL cL) (hx:KArgs (leaf 0 0 ByteArray.empty) (leaf 0 0 ByteArray.empty) w0 v W) :
 Calls Try.prog 121 #[.pointer (some ⟨bb,0,none⟩),.agg #[.int .i64 2,.int .i64 1,.int .i64 3,.slice aL 3 cL],v] W fun e w'=>∃ s,e = .returned (.tuple #[s,.bool false,.int .i64 0])∧KNo N bb bx ts w1 2 [] s w':=by
 obtain ⟨g,rfl,T,hi⟩:=hx;have:=knMatch hN h T hc hi (by kernel_rfl) (by kernel_rfl) knC_ok rfl;refine this.mono ?_;intro e w' hq;have hr:Tm.runM ⟨1,[],[(leaf 0 0 ByteArray.empty:LT).bare,(leaf 0 0 ByteArray.empty:LT).bare,Tm.V 0],[Tm.V 0]⟩ [st0,st1,st2] = .stop 0 2:=Tm.knC_run;rw [hr] at hq;exact ⟨_,hq.1,rfl,hq.2.sub (fun b h=>h) (fun y hy=>Qb _ hy)⟩
theorem knMatchS {v:Value} (hN:N=w1.heap.size) (h:BM N bb bx ts w1 2 Tm.kn2 w0) (hc:KCode w1 aL cL) (hx:KArgs (leaf 1 4 ByteArray.empty) (leaf 0 99999 ByteArray.empty) w0 v W) :
 Calls Try.prog 121 #[.pointer (some ⟨bb,0,none⟩),.agg #[.int .i64 2,.int .i64 1,.int .i64 3,.slice aL 3 cL],v] W fun e w'=>∃ s,e = .returned (.tuple #[s,.bool false,.int .i64 1])∧KNo N bb bx ts w1 2 Tm.kn2 s w':=by
 obtain ⟨g,rfl,T,hi⟩:=hx;have hb:=h.addTerm T hi
 have:=matchStrange121k (ar:=2) (sl:=1) (rg:=3) (aL:=aL) (nL:=3) (cL:=cL) hN hb (Qe ..) rfl (fun W' T'=>hc.good W' T') (fun y hy=>by
  have hy':y=leaf 1 4 ByteArray.empty∨y=leaf 0 99999 ByteArray.empty:=by simpa [Tm.args] using hy
  rcases hy' with rfl | rfl <;> exact slim_leaf _ _ _) ⟨leaf 0 99999 ByteArray.empty,by simp [Tm.args],by kernel_rfl⟩
 refine this.mono ?_
 rintro e w' ⟨rfl,T'⟩
 exact ⟨_,rfl,rfl,(h.turned0 T).turned0 T'⟩
theorem knMatchN {a:Option Addr} {c:Nat} (h:BM N bb bx ts w1 2 Tm.kn2 W) (hc:KCode w1 aL cL) :
 Calls Try.prog 121 #[.pointer (some ⟨bb,0,none⟩),.agg #[.int .i64 2,.int .i64 1,.int .i64 3,.slice aL 3 cL],.slice a 1 c] W fun e w'=>∃ s,e = .returned (.tuple #[s,.bool false,.int .i64 1])∧KNo N bb bx ts w1 2 Tm.kn2 s w':=by
 refine (matchArity121 (ar:=2) (sl:=1) (rg:=3) (aL:=aL) (nL:=3) (cL:=cL) (a:=a) (n:=1) (c:=c) (by decide) (fun W' T'=>hc.good W' (h.old.trans T'))).mono ?_
 rintro e w' ⟨rfl,T'⟩
 exact ⟨_,rfl,rfl,h.turned0 T'⟩
end
end Go.Proofs.Ytoihjobdfjajfaa
namespace Go.Proofs.Ytoihjobdfjajfaa
open Go.RowKit Go.Shelf
attribute [local go_sem] Oper.semAt_some
def KpB (n₀ b3:Nat) (A B:World):Prop:=Turned (fun k=>n₀≤k∨k=b3) A B
theorem kpB_t {n₀ b3:Nat} {A B C:World} (h:KpB n₀ b3 A B) (k:KpB n₀ b3 B C):KpB n₀ b3 A C:=Turned.trans h k
theorem kpB_b {n₀ b3:Nat} {w:World} (hn:n₀≤w.heap.size) (W:World) (l:Nat) (o o':Obj) (hl:w.heap.size≤l) (h:W.heap[l]? = some o) (_:o.isCells=false) (_:o.isWalk=false):KpB n₀ b3 W (W.putObj l o'):=
 Turned.grown (Turned.refl _ W) (grownBy_putObj' W l o') (fun k e=>by cases e;exact .inr (.inl (by omega)))
theorem back_take {n q:Nat} (h:q < n):(List.range n).reverse.take (n - q)=(List.range n).reverse.take (n - (q+1))++[q]:=by
 have e:n - q=(n - (q+1))+1:=by omega
 have hx:(List.range n).reverse[n - (q+1)]? = some q:=by
  rw [List.getElem?_reverse (by rw [List.length_range];omega),List.length_range]
  have e2:n - 1 - (n - (q+1))=q:=by omega
  rw [e2,List.getElem?_range h]
 rw [e,List.take_add_one,hx];rfl
attribute [local go_sem] Oper.semAt_some
mutual
theorem LT.In.kept {p:Nat→Prop} {w w':World} (hk:∀ a v,w.cell? a=some v→w'.cell? a=some v):∀ t:LT,LT.In p w t→LT.In p w' t
 | .mk k n s e aa,h=>by
  obtain ⟨h1,h2,h3,h4,h5,h6,h7,h8⟩:=h;refine ⟨h1,h2,h3,h4,h5,h6,fun hp=>?_,LT.Ins.kept hk aa h8⟩;obtain ⟨b,o,he,hb,hc⟩:=h7 hp;exact ⟨b,o,he,hb,fun j u hu=>hk _ _ (hc j u hu)⟩
theorem LT.Ins.kept {p:Nat→Prop} {w w':World} (hk:∀ a v,w.cell? a=some v→w'.cell? a=some v):∀ l:List LT,LT.Ins p w l→LT.Ins p w' l
 | [],_=>trivial
 | x :: l,h=>⟨LT.In.kept hk x h.1,LT.Ins.kept hk l h.2⟩
end
theorem LT.Sl.kept {p:Nat→Prop} {w w':World} {a:Option Addr} {c:Nat} {l:List LT} (hk:∀ a v,w.cell? a=some v→w'.cell? a=some v) (h:LT.Sl p w a c l):LT.Sl p w' a c l:=
 ⟨h.none_,fun hp=>by obtain ⟨b,o,he,hb,hc⟩:=h.lies hp;exact ⟨b,o,he,hb,fun j u hu=>hk _ _ (hc j u hu)⟩,LT.Ins.kept hk l h.ins,h.cap,h.max⟩
theorem below_cells {w W:World} (h:Below w.heap.size w W):∀ a v,w.cell? a=some v→W.cell? a=some v:=
 fun a v hc=>(h.cell (World.block_lt_of_cell? w a hc)).trans hc
theorem keepsFrom_turned {B b3:Nat} {W W':World} (h:Turned (fun k=>k=b3) W W') {c:Array Value} {T:TypeId} {z:Nat × Nat} (hc:W.heap[b3]? = some (.cells c T z)):KeepsFrom B W W':=
 ⟨h.size,fun k o _ hk ho=>(h.block k (zL hk) (fun e=>by subst e;rw [hk] at hc;cases hc;cases ho)).trans hk⟩
theorem kpB_of {n₀ b3:Nat} {W W':World} (h:Turned (fun k=>k=b3) W W'):KpB n₀ b3 W W':=h.mono (fun _ _ e=>.inr e)
theorem kpB_of0 {n₀ b3:Nat} {W W':World} (h:Turned zN W W'):KpB n₀ b3 W W':=h.mono (fun _ _ e=>e.elim)
theorem keepsFrom_turned0 {B:Nat} {W W':World} (h:Turned zN W W'):KeepsFrom B W W':=
 ⟨h.size,fun k o _ hk ho=>(h.block k (zL hk) (fun e=>e)).trans hk⟩
end Go.Proofs.Ytoihjobdfjajfaa
namespace Go.Proofs.Ytoihjobdfjajfaa
open Go
section
variable {P:Program} {hist:List (Tmp × Nat)} {GL:Tmp→Value→Prop} {ops:Array Oper} {a0:Act} {w0:World} {Q:Exit→Act→World→Prop} {st:List Nat} {R:List (Nat × Value)→World→Prop}
theorem wpAny_region_k (dl:List Tmp) (st:List Nat) (hist:List (Tmp × Nat)) (GL:Tmp→Value→Prop) (R:List (Nat × Value)→World→Prop) (hdl:ops.toList.filterMap (·.dst)=dl) (hm:P.follows .mixedOrders=true) (hc:chkAny ops a0.tmps.size=true) (hk:chkK ops st hist=true)
 (hR0:∀ w,Turned zN w0 w→R [] w) (hRt:∀ hs w w',R hs w→Turned zN w w'→R hs w') (hs:StepsK P hist GL ops a0 st R 0 ops.toList)
 (hQ:∀ (hs:List (Nat × Value)) (vs:Tmp→Value) w,(∀ i∈st,∃ v,(i,v)∈hs)→(∀ i v v',(i,v)∈hs→(i,v')∈hs→v=v')→R hs w→(∀ s∈dl,GK hist GL hs s (vs s))→Q .normal ⟨dl.foldl (fun t d=>t.setIfInBounds d (vs d)) a0.tmps,a0.defers⟩ w):wpAny P .any ops Q ops.size (Array.replicate ops.size false) a0 { w0 with drawn:=w0.drawn+1 }:=by
 refine (k_go hc hk hRt hs ?_ _ _ _ _ [] ?_ ⟨hR0 _ ((Turned.refl _ w0).drew),fun i hi=>?_,fun i v h=>(Ql h).elim,fun i v v' h=>(Ql h).elim,fun j o ho hj=>?_⟩ ?_)
 · intro hs a w hall huniq hR hL hd hsz
   have:=hQ hs (fun d=>a.tmps.getD d undef) w hall huniq hR (fun s hs=>by
    have:=hL s;unfold Looks at this;rw [hdl,if_pos hs] at this
    exact this)
   have e:a=⟨dl.foldl (fun t d=>t.setIfInBounds d (a.tmps.getD d undef)) a0.tmps,a0.defers⟩:=by
    cases a with | mk tmps defers=>
    simp only at hd hsz this ⊢;subst hd;congr 1;apply Array.ext
    · rw [fold_size];exact hsz
    · intro i h1 h2
      have h3:i < a0.tmps.size:=by rw [←hsz];exact h1
      have hf:=fold_getD (fun d=>tmps.getD d undef) dl a0.tmps i h3;have hl:=hL i;unfold Looks at hl;rw [hdl] at hl;have e1:=getD_lt tmps i h1;have e2:=getD_lt _ i h2;rw [←e1,←e2,hf]
      by_cases hm:i∈dl
      · rw [if_pos hm]
      · rw [if_neg hm] at hl ⊢
        exact hl
   rw [e];exact this
 · rw [Array.toList_replicate,List.count_replicate_self]
   exact Qm _
 · constructor
   · intro h
     exfalso;simp only [Array.getD_eq_getD_getElem?] at h
     cases hx:(Array.replicate ops.size false)[i]? with
     | none=>rw [hx] at h;cases h
     | some b=>
      rw [hx] at h;rw [Array.getElem?_replicate] at hx
      split at hx
      · injection hx with hx;subst hx;cases h
      · cases hx
   · rintro ⟨v,h⟩;exact (Ql h).elim
 · have hlt:=(zL ho)
   simp [hlt] at hj
 · refine ⟨rfl,rfl,by simp,fun j oj d hj hd hl=>?_,fun d _=>rfl⟩
   have hlt:=(zL hj);simp [hlt] at hl
end
section
variable {P:Program} {ops:Array Oper} {Q:Exit→Act→World→Prop} {md:Region.Mode} {l n:Nat}
theorem uponIn_of {o:Oper} {a:Act} {next:Act→World→Prop} {r:Result Next} (h:o.upon P a next Q r):o.uponIn (Fence.wide.inRound l) n P a next Q r:=by
 cases r with
 | ok x w'=>
  cases x with
  | value v=>exact h
  | skip=>exact h
  | defer d=>exact h
  | enter f args=>exact ⟨fun c=>(by cases c),CallsIn.inRound l (callsIn_wide.2 h)⟩
  | row row args=>
   refine ⟨fun c=>(by cases c),fun c cs _=>?_⟩;obtain ⟨v,w'',hn,hs⟩:=h c cs;exact ⟨v,w'',hn,stepsIn_wide.2 hs⟩
  | _=>exact h.elim
 | halt x w'=>cases x <;> exact h
theorem wpOpIn_of {i:Nat} {K:Act→World→Prop} {a:Act} {w:World} (hL:¬ LetsOut Q) (hd:∀ o∈ops.toList,∀ c,o.op≠.defer c) (h:wpOp P ops Q i K a w):wpOpIn (Fence.wide.inRound l) n P ops Q i K a w:=by
 unfold wpOp at h;unfold wpOpIn
 cases ho:ops[i]? with
 | none=>rw [ho] at h;exact h
 | some o=>
  rw [ho] at h;simp only [] at h ⊢
  split
  · rename_i hw
    rw [if_pos hw] at h
    rcases h with h | h
    · refine ⟨fun _ _=>trivial,?_⟩
      rw [Oper.semAt_eq _ _ _ (hd o (Qf (by rw [Qv];exact ho)))];exact uponIn_of h
    · exact absurd h.2 hL
  · rename_i hw
    rw [if_neg hw] at h;exact ⟨fun _ _=>trivial,h⟩
theorem wpAnyIn_of (hL:¬ LetsOut Q) (hd:∀ o∈ops.toList,∀ c,o.op≠.defer c):∀ (fuel:Nat) (listed:Array Bool) (a:Act) (w:World),wpAny P md ops Q fuel listed a w→wpAnyIn (Fence.wide.inRound l) n P md ops Q fuel listed a w:=by
 intro fuel
 induction fuel with
 | zero=>exact fun listed a w h=>h
 | succ fuel ih=>
  intro listed a w h;exact ⟨h.1,fun i hi=>wpOpIn_mono (fun a w h=>ih _ a w h) (wpOpIn_of hL hd (h.2 i hi))⟩
def noDefer (ops:Array Oper):Bool:=ops.toList.all fun o=>match o.op with | .defer _=>false | _=>true
theorem noDefer_iff (h:noDefer ops=true):∀ o∈ops.toList,∀ c,o.op≠.defer c:=by
 intro o ho c e;unfold noDefer at h;have:=Qt.1 h o ho;rw [e] at this
 cases this
theorem wpIn_region_of {id:Nat} {a0:Act} {w0:World} (hm:P.follows .mixedOrders=true) (hd:noDefer ops=true) (h:wpAny P .any ops (fun e a w=>e = .normal∧Q .normal a w) ops.size (Array.replicate ops.size false) a0 { w0 with drawn:=w0.drawn+1 }):(Code.region id ops true).wpIn (Fence.wide.inRound l) n P Q a0 w0:=by
 refine Code.wpIn_mono (Q:=fun e a w=>e = .normal∧Q .normal a w) (fun e a w hq=>?_) (wpIn_region_any hm (wpAnyIn_of (show ¬ LetsOut (fun e a w=>e=Exit.normal∧Q .normal a w) from fun ⟨a,w,e,_⟩=>by cases e) (noDefer_iff hd) _ _ _ _ h));obtain ⟨rfl,hq⟩:=hq;exact hq
end
theorem wpIn_region_k {P:Program} {ops:Array Oper} {a0:Act} {w0:World} {Q:Exit→Act→World→Prop} {l n:Nat}
 {id:Nat} (dl:List Tmp) (st:List Nat) (hist:List (Tmp × Nat)) (GL:Tmp→Value→Prop) (R:List (Nat × Value)→World→Prop) (hdl:ops.toList.filterMap (·.dst)=dl) (hm:P.follows .mixedOrders=true) (hc:chkAny ops a0.tmps.size=true) (hk:chkK ops st hist=true)
 (hR0:∀ w,Turned zN w0 w→R [] w) (hRt:∀ hs w w',R hs w→Turned zN w w'→R hs w') (hs:StepsK P hist GL ops a0 st R 0 ops.toList)
 (hQ:∀ (hs:List (Nat × Value)) (vs:Tmp→Value) w,(∀ i∈st,∃ v,(i,v)∈hs)→(∀ i v v',(i,v)∈hs→(i,v')∈hs→v=v')→R hs w→(∀ s∈dl,GK hist GL hs s (vs s))→Q .normal ⟨dl.foldl (fun t d=>t.setIfInBounds d (vs d)) a0.tmps,a0.defers⟩ w) (hnd:noDefer ops=true):(Code.region id ops true).wpIn (Fence.wide.inRound l) n P Q a0 w0:=
 wpIn_region_of hm hnd (wpAny_region_k dl st hist GL R hdl hm hc hk hR0 hRt hs (fun hs vs w h1 h2 h3 h4=>⟨rfl,hQ hs vs w h1 h2 h3 h4⟩))
end Go.Proofs.Ytoihjobdfjajfaa
namespace Go.Proofs.Ytoihjobdfjajfaa
open Lib (hid)
open Go.RowKit Go.Shelf
attribute [local go_sem] Oper.semAt_some
def noS:Tm.Stp:=⟨ByteArray.empty,0,0,0,0,ByteArray.empty⟩
def idx (n q:Nat):Nat:=min q (n - 1)
theorem idx_lt {n q:Nat} (h:0 < n):idx n q < n:=by unfold idx;omega
theorem idx_of {n q:Nat} (h:q < n):idx n q=q:=by unfold idx;omega
def stW (s:Tm.Stp):Value:=.agg #[.string s.op,.int .i64 s.a,.int .i64 s.b,.int .i64 s.c,.int .i64 s.n,.string s.name]
set_option maxRecDepth 100000 in
theorem bk169 (F:Fence) (n:Nat) (hf:F.fn 169) (hro:F.round=none) (hn:1≤n) (lp Bn n₀ b3:Nat) {a:Option Addr} {c:Nat} {l:List Tm.Stp} (J Jx:List Nat→World→Prop)
 (hY:∀ (pre:List Nat) (x:Nat) W,J pre W→pre.length < l.length→YieldAt F (n - 1) Try.prog lp #[.int .i64 (idx l.length x),stW (l.getD (idx l.length x) noS)] W fun e W'=>
  (e = .returned (.bool true)∧J (pre++[x]) W'∧KpB n₀ b3 W W')∨(e = .returned (.bool false)∧Jx (pre++[x]) W'))
 (W:World) (hBn:W.cell? ⟨Bn,0,none⟩=some (.slice a l.length c)) (hBl:Bn < n₀∧Bn≠b3) (hL:Row W 139 6 (.slice a l.length c) l.length (l.flatMap stC)) (hown:∀ k,(Value.slice a l.length c).ownBlock=some k→k < n₀∧k≠b3) (hc1:l.length≤c) (hc2:c≤maxLen) (h0:J [] W) :
 CallsIn F n Try.prog 169 #[.func (.yield lp) #[] #[],.pointer (some ⟨Bn,0,none⟩)] W fun e W'=>(∃ v,e = .returned v)∧
  ((∃ ys,ys=(List.range l.length).reverse∧J ys W')∨(∃ pre,True∧Jx pre W')):=by
 unfold maxLen at hc2;refine callsIn_of_wp Try.func169 rfl hf ?_ hro;simp only [Try.ntmps169,List.size_toArray,QB,List.length_nil,Nat.reduceAdd,Nat.reduceSub,Array.replicate_succ,Array.replicate_zero,List.push_toArray,List.append_toArray,List.nil_append,List.cons_append];gi_wp2
 gi_loopw [3] (fun i wr=>∃ r:Nat,r≤l.length∧i = .int .i64 ((r:Int) - 1)∧Hid (J ((List.range l.length).reverse.take (l.length - r)) wr∧wr.cell? ⟨Bn,0,none⟩=some (.slice a l.length c)∧Row wr 139 6 (.slice a l.length c) l.length (l.flatMap stC)))
  (fun i wr=>match i with | .int _ k=>(k+1).toNat | _=>0)
 case atStart=>
  exact ⟨l.length,Qm _,rfl,by rw [Nat.sub_self];exact h0,hBn,hL⟩
 case round=>
  obtain ⟨r,hr,rfl,HR⟩:=hrel;obtain ⟨HJ,hb,hs⟩:=HR.out
  cases r with
  | zero=>
   have hneg:decide ((0:Int)≤((0:Nat):Int) - 1)=false:=by decide
   gi_wp2;go_end0;refine ⟨⟨_,rfl⟩,.inl ⟨_,rfl,?_⟩⟩;rw [Nat.sub_zero,show ((List.range l.length).reverse.take l.length)=(List.range l.length).reverse from List.take_of_length_le (by rw [List.length_reverse,List.length_range];omega)] at HJ;exact HJ
  | succ q=>
   have e:(((q+1:Nat)):Int) - 1=(q:Int):=by omega
   rw [e]
   have hql:q < l.length:=by omega
   have hx:l[q]? = some l[q]:=Qa hql;obtain ⟨x,hxe⟩:∃ x,x=l[q]:=⟨_,rfl⟩;rw [←hxe] at hx;clear hxe e;obtain ⟨b,q2,hbq⟩:=hs.shape_pos (by omega)
   have ha:a=some ⟨b,0,none⟩:=by injection hbq
   subst ha;obtain ⟨c0,c1,c2,c3,c4,c5⟩:=step_cells hs hx
   have hlen:((List.range l.length).reverse.take (l.length - (q+1))).length < l.length:=by rw [List.length_take,List.length_reverse,List.length_range];omega
   obtain ⟨fn,tmps,assign,body,hy,hR⟩:=hY _ q wr HJ hlen
   have hg:l.getD q noS=x:=by rw [List.getD_eq_getElem?_getD,hx];rfl
   rw [idx_of hql,hg] at hy;unfold stW at hy;have HX:=hid hx;have HS:=hid hs;clear hx hlen hg HR hs hbq;gi_wp2;refine hR.mono ?_
   rintro e W3 (⟨rfl,hJ3,hk3⟩ | ⟨rfl,hJx3⟩)
   · gi_wp2
     go_roundw
     case rel=>
      refine ⟨q,by omega,by go_num,?_,?_,?_⟩
      · rw [back_take hql];exact hJ3
      · exact Turned.cell hk3 hb (fun h=>h.elim (fun h1=>by have h2:n₀≤Bn:=h1;omega) hBl.2)
      · exact HS.out.turned hk3 (fun k hp h=>h.elim (fun h1=>by have:=(hown k hp).1;omega) (hown k hp).2)
     case measure=>simp
   · gi_wp2
     refine bodyPost_ret (results_none rfl _ _ _) rfl ?_;exact ⟨⟨_,rfl⟩,.inr ⟨_,trivial,hJx3⟩⟩
theorem back148 (F:Fence) (n:Nat) (h5:F.fn 148) (hro:F.round=none) (a:Option Addr) (m c:Nat) (w:World) :
 CallsIn F n Try.prog 148 #[.slice a m c] w fun e w'=>e = .returned (.func (.func 169) #[] #[.pointer (some ⟨w.heap.size,0,none⟩)])∧w'=w.alloc (.cells #[.slice a m c] 102):=by
 have hmf:∀ (fn:Fn) (first cap:Array Value) (w:World),(Instr.makeFunc fn first cap).run Try.prog w = .ok (.func fn first cap) w:=fun _ _ _ _=>rfl
 refine callsIn_of_wp Try.func148 rfl h5 ?_ hro;simp only [Try.ntmps148,List.size_toArray,QB,List.length_nil,Nat.reduceAdd,Nat.reduceSub,Array.replicate_succ,Array.replicate_zero,List.push_toArray,List.append_toArray,List.nil_append,List.cons_append];gi_wp2;go_ret;exact ⟨rfl,rfl⟩
theorem row_below {w W:World} {e:TypeId} {size n:Nat} {v:Value} {xs:List Value} (h:Row w e size v n xs) (T:Below w.heap.size w W):Row W e size v n xs:=
 h.moved (fun g o hg ho=>by
  have hl:=(zL ho)
  exact (T.block g hl).trans ho)
theorem back_stops169 (F:Fence) (n:Nat) (h6:F.fn 169) (hro:F.round=none) (hn:1≤n) (Bn n₀ b3:Nat) {a:Option Addr} {c:Nat} {l:List Tm.Stp} (w:World) (hBn:Bn < w.heap.size) (hB:Bn < n₀∧Bn≠b3)
 (hc:w.cell? ⟨Bn,0,none⟩=some (.slice a l.length c)) (hL:Row w 139 6 (.slice a l.length c) l.length (l.flatMap stC)) (hown:∀ k,(Value.slice a l.length c).ownBlock=some k→k < n₀∧k≠b3) (hc1:l.length≤c) (hc2:c≤maxLen) :
 SeqStopsK F n Try.prog 169 #[.pointer (some ⟨Bn,0,none⟩)] (fun q:Nat=>#[Value.int .i64 (idx l.length q),stW (l.getD (idx l.length q) noS)]) (KpB n₀ b3) (fun ys=>ys=(List.range l.length).reverse) (fun _=>True) l.length w:=
 fun lp J Jx W hW _ _ hY h0=>bk169 F n h6 hro hn lp Bn n₀ b3 J Jx hY W (below_cells hW _ _ hc) hB (row_below hL hW) hown hc1 hc2 h0
end Go.Proofs.Ytoihjobdfjajfaa
namespace Go.Proofs.Ytoihjobdfjajfaa
open Go.RowKit Go.Maps
structure WalkD (p:Nat→Prop) (l:Tm.Trail) (t:LT) (w0:World) (x:LT):Prop where
 inn:x.In p w0
 ones:∀ z∈x.bare.flat,goodOneB z=true
 on:Tm.walkT l x.bare=Tm.walkT l t.bare
theorem WalkD.step {p:Nat→Prop} {m:Nat} {l:Tm.Trail} {w:World} {t x y:LT} {b:Tm Unit} (ho:Tm.okT m l) (h:WalkD p l t w x) (hk:x.kind=0) (hl:Tm.look l x.n=some b) (hy:y.In p w) (hb:y.bare=b):WalkD p l t w y∧Tm.walkG l y.bare < Tm.walkG l x.bare:=by
 subst hb;have hm:=Tm.okT_mem ho (Tm.look_mem hl);rw [←Tm.bare_n x] at hl
 have hk':x.bare.kind=0:=by rw [Tm.bare_kind];exact hk
 exact ⟨⟨hy,Tm.good_ones' hm.2.2.1,by rw [←Tm.walkT_step ho hk' hl];exact h.on⟩,Tm.walkG_lt ho hk' hl⟩
theorem WalkD.done {p:Nat→Prop} {l:Tm.Trail} {w:World} {t x:LT} (h:WalkD p l t w x) (hk:x.kind=0→x.n∉Tm.dom l):x.bare=Tm.walkT l t.bare:=by
 rw [←h.on,Tm.walkT_stop (fun e=>?_)];rw [Tm.bare_kind] at e;rw [Tm.bare_n];exact Tm.look_none.2 (hk e)
theorem DO.alloc {p O:Nat→Prop} {wb m:Nat} {l:Tm.Trail} {w w':World} (h:DO p wb O m l w) (T:Turned zN w w'):¬ O w'.heap.size∧¬ p w'.heap.size:=
 ⟨fun o=>by have:=h.lt _ o;have:=T.size;omega,fun o=>by have:=h.plt _ o;have:=T.size;omega⟩
structure MakD (p:Nat→Prop) (σ:Tm Unit→Tm Unit) (G K:Nat) (t:LT) (w3:World) (j:Nat) (us:List LT) (W:World):Prop where
 len:us.length=t.args.length
 bares:(us.take j).map Tm.bare=(t.args.take j).map fun x=>σ x.bare
 row:Row W 41 4 (.slice (some ⟨G,0,none⟩) t.args.length t.args.length) t.args.length (us.flatMap LT.cells)
 ins:LT.Ins (fun k=>p k∨G+1≤k) W us
 turned:Turned (fun k=>k=G∨k=K) w3 W
theorem MakD.put {p:Nat→Prop} {σ:Tm Unit→Tm Unit} {G K:Nat} {t x u:LT} {w3 W W7:World} {j:Nat} {us:List LT} (h:MakD p σ G K t w3 j us W) (hp:∀ k,p k→k < G∧k≠K) (hKG:K < G) (hG:G < W.heap.size) (hx:t.args[j]? = some x) (hb:u.bare=σ x.bare) (hu:u.In (fun k=>p k∨W.heap.size≤k) W7) (hT:Turned (fun k=>k=K) W W7) :
 MakD p σ G K t w3 (j+1) (us.set j u) ((((W7.setCell ⟨G,j * 4,none⟩ (.int .i64 u.kind)).setCell ⟨G,j * 4+1,none⟩ (.int .i64 u.n)).setCell ⟨G,j * 4+2,none⟩ (.string u.name)).setCell ⟨G,j * 4+3,none⟩ (.slice u.at_.1 u.args.length u.at_.2)):=by
 have hjl:j < t.args.length:=(Qg.1 hx).1
 have hju:j < us.length:=by rw [h.len];exact hjl
 have Tq:Turned (fun k=>k=G) W7 ((((W7.setCell ⟨G,j * 4,none⟩ (.int .i64 u.kind)).setCell ⟨G,j * 4+1,none⟩ (.int .i64 u.n)).setCell ⟨G,j * 4+2,none⟩ (.string u.name)).setCell ⟨G,j * 4+3,none⟩ (.slice u.at_.1 u.args.length u.at_.2)):=
  ((((Turned.refl (fun k=>k=G) W7).setCell (p:=⟨G,j * 4,none⟩) (.inr rfl) _).setCell (p:=⟨G,j * 4+1,none⟩) (.inr rfl) _).setCell (p:=⟨G,j * 4+2,none⟩) (.inr rfl) _).setCell (p:=⟨G,j * 4+3,none⟩) (.inr rfl) _
 refine ⟨by rw [List.length_set];exact h.len,?_,?_,?_,(h.turned.trans (hT.mono (fun _ _ e=>.inr e))).trans (Tq.mono (fun _ _ e=>.inl e))⟩
 · have e1:(us.set j u).take (j+1)=us.take j++[u]:=by
    rw [List.take_add_one,List.take_set,List.getElem?_set_self hju];rw [List.set_eq_of_length_le (by rw [List.length_take];omega)];rfl
   have e2:t.args.take (j+1)=t.args.take j++[x]:=by rw [List.take_add_one,hx];rfl
   rw [e1,e2,List.map_append,List.map_append,h.bares];simp [hb]
 · have hr:=h.row.turned hT (fun k hk e=>by simp [Value.ownBlock] at hk;omega)
   have r1:=hr.setAt (off:=j * 4) (by omega) (.int .i64 u.kind);have r2:=r1.setAt (off:=j * 4+1) (by omega) (.int .i64 u.n);have r3:=r2.setAt (off:=j * 4+2) (by omega) (.string u.name);have r4:=r3.setAt (off:=j * 4+3) (by omega) (.slice u.at_.1 u.args.length u.at_.2);rw [flat_set hju] at r4;exact r4
 · rw [LT.ins_iff]
   intro y hy
   have keep:∀ z:LT,z.In (fun k=>p k∨G+1≤k) W7→z.In (fun k=>p k∨G+1≤k) _:=fun z hz=>LT.In.turned Tq (fun k _ hk e=>by
    rcases hk with hk | hk
    · have:=hp k hk;omega
    · omega) (fun _ _ hk=>hk) z hz
   refine keep y ?_
   rcases List.mem_or_eq_of_mem_set hy with hy | rfl
   · exact LT.In.turned hT (fun k _ hk e=>by
      rcases hk with hk | hk
      · exact (hp k hk).2 e
      · omega) (fun _ _ hk=>hk) y ((LT.ins_iff _).1 h.ins y hy)
   · exact hu.mono (fun k _ hk=>hk.elim .inl (fun hk=>.inr (by omega)))
def WhQ (p:Nat→Prop) (l:Tm.Trail) (C:Nat) (t:LT) (s d:Nat) (w:World) (e:Ending) (w':World):Prop:=
 ∃ (u:LT) (L':Int),e = .returned (.tuple #[.agg #[.int .i64 u.kind,.int .i64 u.n,.string u.name,.slice u.at_.1 u.args.length u.at_.2],.bool (Tm.makeOk s d (Tm.img l t.bare))])∧(Tm.makeOk s d (Tm.img l t.bare)=true→u.bare=Tm.img l t.bare∧L'+((s+(Tm.img l t.bare).size:Nat):Int)=2000)∧
  w'.heap[C]? = some (.cells #[.int .i64 L'] 3 (0,0))∧u.In (fun k=>p k∨w.heap.size≤k) w'∧Turned (fun k=>k=C) w w'
theorem WhQ.no {p:Nat→Prop} {l:Tm.Trail} {C:Nat} {t x:LT} {s d:Nat} {w w':World} {L':Int} (hno:Tm.makeOk s d (Tm.img l t.bare)=false) (hC:w'.heap[C]? = some (.cells #[.int .i64 L'] 3 (0,0))) (hx:x.In p w') (T:Turned (fun k=>k=C) w w') :
 WhQ p l C t s d w (.returned (.tuple #[.agg #[.int .i64 x.kind,.int .i64 x.n,.string x.name,.slice x.at_.1 x.args.length x.at_.2],.bool false])) w':=
 ⟨x,L',by rw [hno],(fun e=>by rw [hno] at e;cases e),hC,hx.mono (fun _ _ h=>.inl h),T⟩
theorem WhQ.yes {p:Nat→Prop} {l:Tm.Trail} {C:Nat} {t u:LT} {s d:Nat} {w w':World} {L':Int} (hok:Tm.makeOk s d (Tm.img l t.bare)=true) (hb:u.bare=Tm.img l t.bare) (hC:w'.heap[C]? = some (.cells #[.int .i64 L'] 3 (0,0))) (hL:L'+((s+(Tm.img l t.bare).size:Nat):Int)=2000) (hu:u.In (fun k=>p k∨w.heap.size≤k) w') (T:Turned (fun k=>k=C) w w') :
 WhQ p l C t s d w (.returned (.tuple #[.agg #[.int .i64 u.kind,.int .i64 u.n,.string u.name,.slice u.at_.1 u.args.length u.at_.2],.bool true])) w':=
 ⟨u,L',by rw [hok],fun _=>⟨hb,hL⟩,hC,hu,T⟩
theorem turned_store4g (W:World) (G j:Nat) (a b c d:Value):Turned (fun k=>k=G) W ((((W.setCell ⟨G,j * 4,none⟩ a).setCell ⟨G,j * 4+1,none⟩ b).setCell ⟨G,j * 4+2,none⟩ c).setCell ⟨G,j * 4+3,none⟩ d):=
 ((((Turned.refl (fun k=>k=G) W).setCell (p:=⟨G,j * 4,none⟩) (.inr rfl) _).setCell (p:=⟨G,j * 4+1,none⟩) (.inr rfl) _).setCell (p:=⟨G,j * 4+2,none⟩) (.inr rfl) _).setCell (p:=⟨G,j * 4+3,none⟩) (.inr rfl) _
theorem BM.fresh {N bb m:Nat} {bx:List (Nat × Obj)} {ts:List LT} {w1 W:World} {tr:Tm.Trail} (hN:N=w1.heap.size) (h:BM N bb bx ts w1 m tr W) (hm:m < 65536) :
 Calls Try.prog 87 #[.pointer (some ⟨bb,0,none⟩)] W fun e w'=>e = .returned (.tuple #[.agg #[.int .i64 0,.int .i64 (m:Int),.string ByteArray.empty,.slice none 0 0],.bool true])∧BM N bb bx ts w1 (m+1) tr w':=by
 obtain ⟨q,O,l,h3,rfl,_,_,hk⟩:=h.call hN;refine (freshO87 h3 hm).mono ?_
 rintro e w' ⟨rfl,ha⟩
 exact ⟨rfl,hk _ _ w' ha⟩
theorem vars_le (t:LT):t.vars.length≤t.size:=by
 have h1:=addVar_le t.flat [];rw [Tm.flat_length] at h1;simp at h1;unfold Tm.vars;omega
end Go.Proofs.Ytoihjobdfjajfaa

/- Merged texts: MB5, CB5, BX2, CB6, CB7, CB7T, CB8, CB8T, CB9, CB11, MB6, MB7, CB10, CB12, MC1, DW0, DW1, DW2, DW3, DW4, DW5, DA1, DB7, DB8, DL2, DB9. -/
import Derived.Test.YtoihjobdfjajfaaCm4
import Derived.Deep.LoopGhost
set_option linter.unusedVariables false
set_option linter.unusedSimpArgs false
open List renaming getElem?_eq_getElem → Qa, mem_cons_of_mem → Qb, mem_append_left → Qc, mem_cons_self → Qe, mem_of_getElem? → Qf, getElem?_eq_some_iff → Qg, eq_nil_of_length_eq_zero → Qh, length_append → Qi, mem_append_right → Qj, setIfInBounds_toArray → Qk, not_mem_nil → Ql, mem_append → Qn, getElem?_map → Qp, foldl_cons → Qq, set_cons_succ → Qr, set_cons_zero → Qs, all_eq_true → Qt, length_map → Qu, mem_cons → Qw, map_cons → Qx, length_cons → QB
open Bool renaming and_eq_true → Qd
open Nat renaming le_refl → Qm, lt_of_lt_of_le → Qo, lt_irrefl → Qy, lt_of_le_of_lt → Qz, le_trans → QA
open Array renaming getElem?_toList → Qv, getElem?_eq_some_iff → QC
set_option maxHeartbeats 12800000
namespace Go.Proofs.Ytoihjobdfjajfaa
namespace Tm
theorem stepM_m {st st':MS} {s:Stp} (h:stepM st s = .go st'):st'.m=st.m∨(¬ s.op=sVar∧¬ s.op=sVal∧¬ s.op=sInt∧¬ s.op=sAtom∧st'.m=st.m+s.b.toNat):=by
 unfold stepM at h;simp only [] at h
 split at h
 · injection h with h;subst h;exact .inl rfl
 split at h
 · unfold valM at h
   split at h
   · injection h with h;subst h;exact .inl rfl
   · cases h
 split at h
 · unfold tieM at h
   split at h
   · split at h
     · injection h with h;subst h;exact .inl rfl
     · cases h
   · split at h
     · injection h with h;subst h;exact .inl rfl
     · cases h
 split at h
 · unfold tieM at h
   split at h
   · split at h
     · injection h with h;subst h;exact .inl rfl
     · cases h
   · split at h
     · injection h with h;subst h;exact .inl rfl
     · cases h
 · rename_i n1 n2 n3 n4
   unfold compM at h
   split at h
   · split at h
     · split at h
       · injection h with h;subst h;exact .inr ⟨n1,n2,n3,n4,rfl⟩
       · cases h
     · cases h
   · split at h
     · injection h with h;subst h;exact .inl rfl
     · cases h
end Tm
open Go.RowKit Go.Maps
def HInv (t:LT) (tr:Tm.Trail) (i:Nat) (st:Tm.MS):Prop:=i≤Tm.sizes t.args∧Tm.MInv t i st∧(∃ a,st.l=a++tr)∧st.m+(Tm.sizes t.args - Tm.cb t.args i)≤65536
theorem steps_at {t:LT} {i:Nat} {s:Tm.Stp} (h:(Tm.steps t.vars t.args (Tm.sizes t.args))[i]? = some s):∃ x:LT,(Tm.regs t.args)[i]? = some x∧s=Tm.stepX t.vars t.args i x:=by
 unfold Tm.steps at h;rw [Qp] at h;obtain ⟨k,hk,hs⟩:=Option.map_eq_some_iff.1 h;have hi:=(Qg.1 hk).1;rw [List.length_range] at hi;rw [List.getElem?_range hi] at hk;obtain rfl:=Option.some.inj hk;obtain ⟨x,hx⟩:∃ x,(Tm.regs t.args)[i]? = some x:=⟨_,Qa (by rw [Tm.regs_length];exact hi)⟩;refine ⟨x,hx,?_⟩;rw [←hs];unfold Tm.stepAt;rw [hx]
theorem runOk_head {t:LT} {tr:Tm.Trail} (hg:goodB t=true) (h64:∀ x∈Tm.regs t.args,I64 x.n∧x.name.size≤maxLen):RunOk (Tm.sizes t.args) t.vars.length tr (Tm.steps t.vars t.args (Tm.sizes t.args)) (HInv t tr):=by
 refine ⟨fun i s st hs I=>?_,fun i s st st' hs I hst=>?_,fun i st I=>I.2.2.1⟩
 · obtain ⟨x,hx,rfl⟩:=steps_at hs
   obtain ⟨c1,c2,c3,c4⟩:=Tm.cb_next hx;obtain ⟨I1,I2,I3,I4⟩:=I
   have hmem:x∈t.flat:=by rw [Tm.flat_eq];exact Qb _ (Tm.regs_flats x (Qf hx))
   have hone:goodOneB x=true:=by
    unfold goodB at hg;simp only [Qd,decide_eq_true_eq,Qt] at hg;exact hg.2.2 x hmem
   have hil:i < Tm.sizes t.args:=by have:=(Qg.1 hx).1;rwa [Tm.regs_length] at this
   have hown:Tm.ownB st.m (st.rs.getD i (Tm.V 0))=true:=by
    have:=I2.rl;rw [List.getD_eq_getElem?_getD,Qa (by omega)];exact I2.own i _ c2 (Qa (by omega))
   obtain ⟨g1,g2⟩:=h64 x (Qf hx)
   have he:ByteArray.empty.size≤maxLen:=by unfold maxLen;decide
   unfold Tm.stepX
   by_cases h0:x.kind=0
   · rw [if_pos h0]
     have hv:x.n∈t.vars:=(Tm.mem_fold _ _ _).2 (.inr ⟨_,hmem,h0,rfl⟩);have hp:=Tm.posOf_mem hv;have hpl:=(Qg.1 hp).1
     by_cases hm:x.n∈Tm.met t.args i
     · rw [if_pos hm]
       refine ⟨Tm.sVal,ByteArray.empty,i,Tm.posOf t.vars x.n,0,0,rfl,hil,he,hown,.inr (.inl ⟨rfl,hpl,?_⟩)⟩;have:=I2.sl;rw [List.getD_eq_getElem?_getD,Qa (by omega)];exact I2.slots _ hm _ (Qa (by omega))
     · rw [if_neg hm]
       exact ⟨Tm.sVar,ByteArray.empty,i,Tm.posOf t.vars x.n,0,0,rfl,hil,he,hown,.inl ⟨rfl,hpl⟩⟩
   · rw [if_neg h0]
     by_cases h1:x.kind=1
     · rw [if_pos h1]
       exact ⟨Tm.sInt,ByteArray.empty,i,0,0,x.n,rfl,hil,he,hown,.inr (.inr (.inl ⟨rfl,g1⟩))⟩
     · rw [if_neg h1]
       by_cases ha:x.args.length=0
       · rw [if_pos ha]
         exact ⟨Tm.sAtom,x.name,i,0,0,0,rfl,hil,g2,hown,.inr (.inr (.inr (.inl rfl)))⟩
       · rw [if_neg ha]
         refine ⟨Tm.sComp,x.name,i,x.args.length,Tm.cb t.args i,0,rfl,hil,g2,hown,.inr (.inr (.inr (.inr ⟨rfl,by omega,?_,c3,by omega⟩)))⟩;exact good_slim hg x hmem
 · obtain ⟨x,hx,rfl⟩:=steps_at hs
   obtain ⟨c1,c2,c3,c4⟩:=Tm.cb_next hx;obtain ⟨I1,I2,⟨a1,ha1⟩,I4⟩:=I
   have hil:i < Tm.sizes t.args:=by have:=(Qg.1 hx).1;rwa [Tm.regs_length] at this
   have hn:=Tm.step_head hg hx I2;rw [hst] at hn;obtain ⟨a2,ha2⟩:=hn.pre;refine ⟨by omega,hn.inv,⟨a2++a1,by rw [ha2,ha1,List.append_assoc]⟩,?_⟩
   have hm:st'.m≤st.m+x.args.length:=by
    rcases Tm.stepM_m hst with e | ⟨n1,n2,n3,n4,e⟩
    · omega
    · unfold Tm.stepX at n1 n2 n3 n4 e
      by_cases h0:x.kind=0
      · rw [if_pos h0] at n1 n2
        by_cases hm:x.n∈Tm.met t.args i
        · rw [if_pos hm] at n2;exact absurd rfl n2
        · rw [if_neg hm] at n1;exact absurd rfl n1
      · rw [if_neg h0] at n3 n4 e
        by_cases h1:x.kind=1
        · rw [if_pos h1] at n3;exact absurd rfl n3
        · rw [if_neg h1] at n4 e
          by_cases ha:x.args.length=0
          · rw [if_pos ha] at n4;exact absurd rfl n4
          · rw [if_neg ha] at e
            simp only [Int.toNat_natCast] at e;omega
   omega
end Go.Proofs.Ytoihjobdfjajfaa
namespace Go.Proofs.Ytoihjobdfjajfaa
open Lib (hid)
open Go.RowKit Go.Maps
open Tm (Stp sVar sVal sInt sAtom sComp)
theorem three_boxes (w:World) (a b c:Obj):Turned zN w (((w.alloc a).alloc b).alloc c)∧(((w.alloc a).alloc b).alloc c).heap[w.heap.size]? = some a∧(((w.alloc a).alloc b).alloc c).heap[w.heap.size+1]? = some b∧(((w.alloc a).alloc b).alloc c).heap[w.heap.size+1+1]? = some c:=by
 have h:=twoBox w a b;have T:=(Turned.refl (fun _=>False) ((w.alloc a).alloc b)).alloc c;have hn:=heap_alloc_new ((w.alloc a).alloc b) c;rw [h.2.1] at hn;exact ⟨h.1.trans T,(T.block _ (by have:=h.2.1;omega) (fun f=>f)).trans h.2.2.1,(T.block _ (by have:=h.2.1;omega) (fun f=>f)).trans h.2.2.2,hn⟩
theorem cells2 {w:World} {bb:Nat} {a b:Value} {T:TypeId} (h:w.heap[bb]? = some (.cells #[a,b] T (0,0))):w.cell? ⟨bb,0,none⟩=some a∧w.cell? ⟨bb,1,none⟩=some b:=
 ⟨by rw [cell_of_row w bb 0 _ T (0,0) h];rfl,by rw [cell_of_row w bb 1 _ T (0,0) h];rfl⟩
set_option maxRecDepth 100000 in
theorem one_compT {kb mb:Nat} {k ar sl rg i:Int} {lv:Value} {s:Stp} {w:World} (hb:w.heap[kb]? = some (.cells #[.int .i64 k,.map (some mb)] 178 (0,0))) (hk:0≤k∧k≤30000) (hb8:1≤s.b∧s.b≤8) (hs:stOk s) (hop:s.op=sComp) (h1:s.a=i) (h3:s.c=k) (h4:s.n=0) :
 Calls Try.prog 149 #[.pointer (some ⟨kb,0,none⟩),.agg #[.int .i64 ar,.int .i64 sl,.int .i64 rg,lv],.int .i64 i,.agg #[.string s.op,.int .i64 s.a,.int .i64 s.b,.int .i64 s.c,.int .i64 s.n,.string s.name]] w fun e w'=>e = .returned (.bool (goodNameB s.name))∧w'.heap[kb]? = some (.cells #[.int .i64 (k+s.b),.map (some mb)] 178 (0,0))∧Turned (fun q=>q=kb) w w':=by
 have hnm:=hs.2.2.2.2.2;have o0:=op_Comp_Var;have o1:=op_Comp_Val;have o2:=op_Comp_Int;have o3:=op_Comp_Atom;have o4:=op_Comp_Comp;have d1:decide (s.b < 1)=false:=decide_eq_false (by omega);have d2:decide (8 < s.b)=false:=decide_eq_false (by omega);have hkl:=(zL hb);obtain ⟨T0,z0,z1,z2⟩:=three_boxes w (.cells #[.int .i64 ar,.int .i64 sl,.int .i64 rg,lv] 104) (.cells #[.string sComp,.int .i64 i,.int .i64 s.b,.int .i64 k,.int .i64 0,.string s.name] 139) (.cells #[.string sComp,.int .i64 i,.int .i64 0,.int .i64 0,.int .i64 0,.string ⟨#[]⟩] 139);have H9:=hid z2;have H7:=hid (fun W (T:Turned (fun q=>q=w.heap.size+1+1) (((w.alloc (.cells #[.int .i64 ar,.int .i64 sl,.int .i64 rg,lv] 104)).alloc (.cells #[.string sComp,.int .i64 i,.int .i64 s.b,.int .i64 k,.int .i64 0,.string s.name] 139)).alloc (.cells #[.string sComp,.int .i64 i,.int .i64 0,.int .i64 0,.int .i64 0,.string ⟨#[]⟩] 139)) W)=>(T.block _ (zL z1) (by omega)).trans z1);have HK:=hid (fun W (T:Turned (fun q=>q=w.heap.size+1+1) (((w.alloc (.cells #[.int .i64 ar,.int .i64 sl,.int .i64 rg,lv] 104)).alloc (.cells #[.string sComp,.int .i64 i,.int .i64 s.b,.int .i64 k,.int .i64 0,.string s.name] 139)).alloc (.cells #[.string sComp,.int .i64 i,.int .i64 0,.int .i64 0,.int .i64 0,.string ⟨#[]⟩] 139)) W)=>(T.block kb (Qo hkl T0.size) (by omega)).trans ((T0.block kb hkl (fun f=>f)).trans hb));have HT0:=hid T0;have HKL:=hid hkl;have HKB:=hid hk;have HB8:=hid hb8;rw [hop,h1,h3,h4];clear T0 z0 z1 z2 hb hkl hk hs hb8;go_enter Try.func149,Try.ntmps149
 go_wp2_with fail
 refine wp_region_k [63,64,65,66,67,68,69,70,71,72,73] [9,11,13] [] (fun dd vv=>(match dd with | 63=>vv = .pointer (some ⟨w.heap.size+1,5,none⟩) | 64=>vv = .string s.name | 65=>vv = .pointer (some ⟨w.heap.size+1,2,none⟩) | 66=>vv = .int .i64 s.b | 67=>vv = .pointer (some ⟨kb,0,none⟩) | 68=>vv = .pointer (some ⟨kb,0,none⟩) | 69=>vv = .pointer (some ⟨kb,0,none⟩) | 70=>vv = .int .i64 k | 71=>vv = .pointer (some ⟨w.heap.size+1+1,5,none⟩) | 72=>vv = .pointer (some ⟨w.heap.size+1+1,2,none⟩) | 73=>vv = .pointer (some ⟨w.heap.size+1+1,3,none⟩) | _=>True:Prop)) (BoxR (w.heap.size+1+1) 139 [.string sComp,.int .i64 i,.int .i64 0,.int .i64 0,.int .i64 0,.string ⟨#[]⟩] [.string sComp,.int .i64 i,.int .i64 s.b,.int .i64 k,.int .i64 0,.string s.name] [(9,5),(11,2),(13,3)] (((w.alloc (.cells #[.int .i64 ar,.int .i64 sl,.int .i64 rg,lv] 104)).alloc (.cells #[.string sComp,.int .i64 i,.int .i64 s.b,.int .i64 k,.int .i64 0,.string s.name] 139)).alloc (.cells #[.string sComp,.int .i64 i,.int .i64 0,.int .i64 0,.int .i64 0,.string ⟨#[]⟩] 139))) (by kernel_rfl) rfl (by kernel_rfl) (by kernel_rfl) (fun w h=>BoxR.start H9.out h) (fun hs w w' h ht=>h.turned0 ht) ?hs ?hQ
 case hs=>
  refine ⟨?s0,?s1,?s2,?s3,?s4,?s5,?s6,?s7,?s8,?s9,?s10,?s11,?s12,?s13,trivial⟩
  case s0=>refine fun hs hl=>zG [] [7] fun ac W hT hI hO=>?_;simp only [execOp,Act.eval,hO 7 (by simp)];go_simp;try exact tq
  case s1=>refine fun hs hl=>zG [63] [] fun ac W hT hI hO=>?_;have h63:_=_:=hI 63 (by simp);obtain ⟨e0,e1,e2,e3,e4,e5⟩:=cells6 (H7.out W hT.t);simp only [execOp,Act.eval,h63];go_simp;try exact tq
  case s2=>refine fun hs hl=>zG [] [7] fun ac W hT hI hO=>?_;simp only [execOp,Act.eval,hO 7 (by simp)];go_simp;try exact tq
  case s3=>refine fun hs hl=>zG [65] [] fun ac W hT hI hO=>?_;have h65:_=_:=hI 65 (by simp);obtain ⟨e0,e1,e2,e3,e4,e5⟩:=cells6 (H7.out W hT.t);simp only [execOp,Act.eval,h65];go_simp;try exact tq
  case s4=>refine fun hs hl=>zG [] [0] fun ac W hT hI hO=>?_;simp only [execOp,Act.eval,hO 0 (by simp)];go_simp;try exact tq
  case s5=>refine fun hs hl=>zG [67] [] fun ac W hT hI hO=>?_;have h67:_=_:=hI 67 (by simp);simp only [execOp,Act.eval,h67];go_simp;try exact tq
  case s6=>refine fun hs hl=>zG [68] [] fun ac W hT hI hO=>?_;have h68:_=_:=hI 68 (by simp);simp only [execOp,Act.eval,h68];go_simp;try exact tq
  case s7=>refine fun hs hl=>zG [69] [] fun ac W hT hI hO=>?_;have h69:_=_:=hI 69 (by simp);obtain ⟨k0,k1⟩:=cells2 (HK.out W hT.t);simp only [execOp,Act.eval,h69];go_simp;try exact tq
  case s8=>refine fun hs hl=>zG [] [9] fun ac W hT hI hO=>?_;simp only [execOp,Act.eval,hO 9 (by simp)];go_simp;try exact tq
  case s9=>
   refine fun hs hno hl=>zG [71,64] [] fun ac W hT hI hO=>?_;have h71:_=_:=hI 71 (by simp);have h64:_=_:=hI 64 (by simp);show Brings _ (fun vv w'=>BoxR (w.heap.size+1+1) 139 [.string sComp,.int .i64 i,.int .i64 0,.int .i64 0,.int .i64 0,.string ⟨#[]⟩] [.string sComp,.int .i64 i,.int .i64 s.b,.int .i64 k,.int .i64 0,.string s.name] [(9,5),(11,2),(13,3)] (((w.alloc (.cells #[.int .i64 ar,.int .i64 sl,.int .i64 rg,lv] 104)).alloc (.cells #[.string sComp,.int .i64 i,.int .i64 s.b,.int .i64 k,.int .i64 0,.string s.name] 139)).alloc (.cells #[.string sComp,.int .i64 i,.int .i64 0,.int .i64 0,.int .i64 0,.string ⟨#[]⟩] 139)) (hs++[(9,vv)]) w') _;obtain ⟨⟨z,hz⟩,hf⟩:=hT.at (c:=5) (by simp);simp only [execOp,Act.eval,h71,h64];go_simp;exact hT.store (by kernel_rfl) (by simp) (by simp) rfl
  case s10=>refine fun hs hl=>zG [] [9] fun ac W hT hI hO=>?_;simp only [execOp,Act.eval,hO 9 (by simp)];go_simp;try exact tq
  case s11=>
   refine fun hs hno hl=>zG [72,66] [] fun ac W hT hI hO=>?_;have h72:_=_:=hI 72 (by simp);have h66:_=_:=hI 66 (by simp);show Brings _ (fun vv w'=>BoxR (w.heap.size+1+1) 139 [.string sComp,.int .i64 i,.int .i64 0,.int .i64 0,.int .i64 0,.string ⟨#[]⟩] [.string sComp,.int .i64 i,.int .i64 s.b,.int .i64 k,.int .i64 0,.string s.name] [(9,5),(11,2),(13,3)] (((w.alloc (.cells #[.int .i64 ar,.int .i64 sl,.int .i64 rg,lv] 104)).alloc (.cells #[.string sComp,.int .i64 i,.int .i64 s.b,.int .i64 k,.int .i64 0,.string s.name] 139)).alloc (.cells #[.string sComp,.int .i64 i,.int .i64 0,.int .i64 0,.int .i64 0,.string ⟨#[]⟩] 139)) (hs++[(11,vv)]) w') _;obtain ⟨⟨z,hz⟩,hf⟩:=hT.at (c:=2) (by simp);simp only [execOp,Act.eval,h72,h66];go_simp;exact hT.store (by kernel_rfl) (by simp) (by simp) rfl
  case s12=>refine fun hs hl=>zG [] [9] fun ac W hT hI hO=>?_;simp only [execOp,Act.eval,hO 9 (by simp)];go_simp;try exact tq
  case s13=>
   refine fun hs hno hl=>zG [73,70] [] fun ac W hT hI hO=>?_;have h73:_=_:=hI 73 (by simp);have h70:_=_:=hI 70 (by simp);show Brings _ (fun vv w'=>BoxR (w.heap.size+1+1) 139 [.string sComp,.int .i64 i,.int .i64 0,.int .i64 0,.int .i64 0,.string ⟨#[]⟩] [.string sComp,.int .i64 i,.int .i64 s.b,.int .i64 k,.int .i64 0,.string s.name] [(9,5),(11,2),(13,3)] (((w.alloc (.cells #[.int .i64 ar,.int .i64 sl,.int .i64 rg,lv] 104)).alloc (.cells #[.string sComp,.int .i64 i,.int .i64 s.b,.int .i64 k,.int .i64 0,.string s.name] 139)).alloc (.cells #[.string sComp,.int .i64 i,.int .i64 0,.int .i64 0,.int .i64 0,.string ⟨#[]⟩] 139)) (hs++[(13,vv)]) w') _;obtain ⟨⟨z,hz⟩,hf⟩:=hT.at (c:=3) (by simp);simp only [execOp,Act.eval,h73,h70];go_simp;exact hT.store (by kernel_rfl) (by simp) (by simp) rfl
 case hQ=>
  intro hs3 vs3 w3 hall huniq hR hV;simp only [Qq,List.foldl_nil,Qk,Qs,Qr];have hnew:=hR.done rfl (by intro a ha;simp only [Qw,Ql,or_false] at ha;rcases ha with rfl | rfl | rfl <;> exact hall _ (by simp)) (by intro c hc hn;simp only [QB,List.length_nil] at hc;simp only [Qx,List.map_nil,Qw,Ql,or_false,not_or] at hn;have hcs:c=0∨c=1∨c=2∨c=3∨c=4∨c=5:=(by omega);rcases hcs with rfl | rfl | rfl | rfl | rfl | rfl <;> first | rfl | omega);have H93:=hid hnew;have H73:=hid (H7.out w3 hR.t);have HK3:=hid (HK.out w3 hR.t);have HT3:=hid hR.t;obtain ⟨e0,e1,e2,e3,e4,e5⟩:=cells6 H73.out;clear hR hV hall huniq hnew
  go_wp2_with fail
  clear e0 e1 e2 e3 e4 e5;have HS7:=hid (fun W (T:Turned (fun q=>q=kb) w3 W)=>(T.block _ (zL H73.out) (by have:=HKL.out;omega)).trans H73.out);refine wp_region_k [82,83,84,85,86,87,88,89,90] [9] [] (fun dd vv=>(match dd with | 82=>vv = .pointer (some ⟨kb,0,none⟩) | 83=>vv = .pointer (some ⟨kb,0,none⟩) | 84=>vv = .pointer (some ⟨kb,0,none⟩) | 85=>vv = .int .i64 k | 86=>vv = .pointer (some ⟨w.heap.size+1,2,none⟩) | 87=>vv = .int .i64 s.b | 88=>vv = .int .i64 (k+s.b) | 89=>vv = .pointer (some ⟨kb,0,none⟩) | 90=>vv = .pointer (some ⟨kb,0,none⟩) | _=>True:Prop)) (BoxR (kb) 178 [.int .i64 k,.map (some mb)] [.int .i64 (k+s.b),.map (some mb)] [(9,0)] w3) (by kernel_rfl) rfl (by kernel_rfl) (by kernel_rfl) (fun w h=>BoxR.start HK3.out h) (fun hs w w' h ht=>h.turned0 ht) ?hs ?hQ
  case hs=>
   refine ⟨?s0,?s1,?s2,?s3,?s4,?s5,?s6,?s7,?s8,?s9,trivial⟩
   case s0=>refine fun hs hl=>zG [] [0] fun ac W hT hI hO=>?_;simp only [execOp,Act.eval,hO 0 (by simp)];go_simp;try exact tq
   case s1=>refine fun hs hl=>zG [82] [] fun ac W hT hI hO=>?_;have h82:_=_:=hI 82 (by simp);simp only [execOp,Act.eval,h82];go_simp;try exact tq
   case s2=>refine fun hs hl=>zG [83] [] fun ac W hT hI hO=>?_;have h83:_=_:=hI 83 (by simp);simp only [execOp,Act.eval,h83];go_simp;try exact tq
   case s3=>
    refine fun hs hl=>zG [84] [] fun ac W hT hI hO=>?_;have h84:_=_:=hI 84 (by simp);have k0:=hT.old (c:=0) rfl (fun j hj v=>by simp only [Qw,Ql,or_false,Prod.mk.injEq] at hj;obtain ⟨rfl,_⟩:=hj;exact hl 9 30 v (by kernel_rfl));simp only [execOp,Act.eval,h84];go_simp
    try exact tq
   case s4=>refine fun hs hl=>zG [] [7] fun ac W hT hI hO=>?_;simp only [execOp,Act.eval,hO 7 (by simp)];go_simp;try exact tq
   case s5=>refine fun hs hl=>zG [86] [] fun ac W hT hI hO=>?_;have h86:_=_:=hI 86 (by simp);obtain ⟨e0,e1,e2,e3,e4,e5⟩:=cells6 (HS7.out W hT.t);simp only [execOp,Act.eval,h86];go_simp;try exact tq
   case s6=>refine fun hs hl=>zG [85,87] [] fun ac W hT hI hO=>?_;have h85:_=_:=hI 85 (by simp);have h87:_=_:=hI 87 (by simp);have hw:IntKind.i64.wrap (k+s.b)=k+s.b:=wrapI (by have:=HKB.out;have:=HB8.out;omega) (by have:=HKB.out;have:=HB8.out;omega);simp only [execOp,Act.eval,h85,h87];go_simp;try exact tq
   case s7=>refine fun hs hl=>zG [82] [] fun ac W hT hI hO=>?_;have h82:_=_:=hI 82 (by simp);simp only [execOp,Act.eval,h82];go_simp;try exact tq
   case s8=>refine fun hs hl=>zG [89] [] fun ac W hT hI hO=>?_;have h89:_=_:=hI 89 (by simp);simp only [execOp,Act.eval,h89];go_simp;try exact tq
   case s9=>
    refine fun hs hno hl=>zG [90,88] [] fun ac W hT hI hO=>?_;have h90:_=_:=hI 90 (by simp);have h88:_=_:=hI 88 (by simp);show Brings _ (fun vv w'=>BoxR (kb) 178 [.int .i64 k,.map (some mb)] [.int .i64 (k+s.b),.map (some mb)] [(9,0)] w3 (hs++[(9,vv)]) w') _;obtain ⟨⟨z,hz⟩,hf⟩:=hT.at (c:=0) (by simp);simp only [execOp,Act.eval,h90,h88];go_simp;exact hT.store (by kernel_rfl) (by simp) (by simp) rfl
  case hQ=>
   intro hs4 vs4 w4 hall huniq hR hV;simp only [Qq,List.foldl_nil,Qk,Qs,Qr];have hnew:=hR.done rfl (by intro a ha;simp only [Qw,Ql,or_false] at ha;rcases ha with rfl <;> exact hall _ (by simp)) (by intro c hc hn;simp only [QB,List.length_nil] at hc;simp only [Qx,List.map_nil,Qw,Ql,or_false,not_or] at hn;have hcs:c=0∨c=1∨c=2∨c=3∨c=4∨c=5:=(by omega);rcases hcs with rfl | rfl | rfl | rfl | rfl | rfl <;> first | rfl | omega);have H74:=hid ((hR.t.block _ (zL H73.out) (by have:=HKL.out;omega)).trans H73.out);have H94:=hid ((hR.t.block _ (zL H93.out) (by have:=HKL.out;omega)).trans H93.out);have HK4:=hid hnew;have HT4:=hid hR.t;clear hR hV hall huniq hnew;obtain ⟨a0,a1,a2,a3,a4,a5⟩:=cells6 H74.out;obtain ⟨b0,b1,b2,b3,b4,b5⟩:=cells6 H94.out;obtain ⟨B,hB⟩:∃ B,B=goodNameB s.name:=⟨_,rfl⟩;have HB:=hid hB;clear hB
   go_wp2_with (first
    | (go_at_call 63;(with_reducible refine (atomOnly s.name hnm _).mono ?_);rintro e W1 ⟨rfl,T1⟩)
    | (go_at_call 38;(with_reducible refine (goodAtom s.name hnm _).mono ?_);rintro e W2 ⟨rfl,T2⟩;rw [←HB.out]))
   go_ret;refine ⟨by rw [←HB.out];rfl,((T1.trans T2).block kb (zL HK4.out) (fun f=>f)).trans HK4.out,?_⟩;have hz:=HKL.out;have T7:=HT0.out.step HT3.out (fun q hq e=>by omega);exact ((T7.mono (fun _ _ f=>f.elim)).trans HT4.out).trans ((T1.trans T2).mono (fun _ _ f=>f.elim))
end Go.Proofs.Ytoihjobdfjajfaa
namespace Go.Proofs.Ytoihjobdfjajfaa
open Go.RowKit Go.Maps
structure MapR (kt:TypeId) (mb op n n':Nat) (f f':Int→Option Value) (w0:World) (hs:Hist) (W:World):Prop where
 t:Turned (fun k=>k=mb) w0 W
 old:(∀ v,(op,v)∉hs)→IMap Try.prog kt W mb n f
 new:∀ v,(op,v)∈hs→IMap Try.prog kt W mb n' f'
section
variable {kt:TypeId} {mb op n n':Nat} {f f':Int→Option Value} {w0 W W':World} {hs:Hist}
theorem MapR.start (h:IMap Try.prog kt w0 mb n f) (T:Turned zN w0 W):MapR kt mb op n n' f f' w0 [] W:=
 ⟨T.mono (fun _ _ f=>f.elim),fun _=>h.turned T (fun f=>f),fun v hm=>(Ql hm).elim⟩
theorem MapR.turned0 (h:MapR kt mb op n n' f f' w0 hs W) (T:Turned zN W W'):MapR kt mb op n n' f f' w0 hs W':=
 ⟨h.t.trans (T.mono (fun _ _ f=>f.elim)),fun hn=>(h.old hn).turned T (fun f=>f),fun v hv=>(h.new v hv).turned T (fun f=>f)⟩
theorem MapR.put (h:MapR kt mb op n n' f f' w0 hs W) {x:Value} (T:Turned (· = mb) W W') (hm:IMap Try.prog kt W' mb n' f'):MapR kt mb op n n' f f' w0 (hs++[(op,x)]) W':=
 ⟨h.t.step T (fun i hi e=>e),fun hn=>absurd (Qj _ (List.mem_singleton.2 rfl)) (hn x),fun v hv=>hm⟩
end
end Go.Proofs.Ytoihjobdfjajfaa
namespace Go.Proofs.Ytoihjobdfjajfaa
open Lib (hid)
open Go.RowKit Go.Maps
open Tm (Stp sVar sVal sInt sAtom sComp)
theorem law3:Keyed Try.prog 3:=int_keyed Try.underlying3
theorem key3 {n:Int} (h:I64 n):Go.keyOf Try.prog 3 (.int .i64 n)=some (kI n):=keyOf_int_mk Try.underlying3 h.wf
theorem hadLook {w:World} {mb n:Nat} {had:List Int} {b:Int} (h:IMap Try.prog 3 w mb n (hadF had)) (h64:I64 b):(Instr.lookup 145 (.map (some mb)) (.int .i64 b) false).run Try.prog w = .ok (.bool (decide (b∈had))) w:=by
 rw [h.look law3 Try.underlying145 (zero4 _) (key3 h64),hadF_get]
def hadN (had:List Int) (b:Int):List Int:=if b∈had then had else had++[b]
theorem hadN_len (had:List Int) (b:Int):(hadN had b).length≤had.length+1:=by
 unfold hadN;split
 · omega
 · rw [Qi];exact Qm _
theorem had_next {had:List Int} {b:Int}:upd (hadF had) b (.bool true)=hadF (hadN had b)∧(if (hadF had b).isSome then had.length else had.length+1)=(hadN had b).length:=by
 unfold hadN
 by_cases h:b∈had
 · rw [if_pos h,hadF_same h]
   refine ⟨rfl,if_pos ?_⟩;unfold hadF;rw [if_pos h];rfl
 · rw [if_neg h,hadF_put]
   refine ⟨rfl,?_⟩;rw [if_neg (by unfold hadF;rw [if_neg h];simp),Qi];rfl
set_option maxRecDepth 100000 in
theorem one_var_okT {kb mb:Nat} {k ar sl rg i:Int} {lv:Value} {had:List Int} {s:Stp} {w:World} (C:Chk kb mb k had w) (hf:had.length≤3000) (hs:stOk s) (hop:s.op=sVar) (hb0:0≤s.b) (hb:s.b < sl) (hm:s.b∉had) (h1:s.a=i) (h2:s.c=0) (h3:s.n=0) (h4:s.name=ByteArray.empty) :
 Calls Try.prog 149 #[.pointer (some ⟨kb,0,none⟩),.agg #[.int .i64 ar,.int .i64 sl,.int .i64 rg,lv],.int .i64 i,.agg #[.string s.op,.int .i64 s.a,.int .i64 s.b,.int .i64 s.c,.int .i64 s.n,.string s.name]] w fun e w'=>e = .returned (.bool (goodNameB ByteArray.empty))∧Chk kb mb k (hadN had s.b) w'∧Turned (fun q=>q=mb) w w':=by
 have hnm:=hs.2.2.2.2.2;have hb64:=hs.2.2.1;have o0:=op_Var_Var;have o1:=op_Var_Val;have o2:=op_Var_Int;have o3:=op_Var_Atom;have o4:=op_Var_Comp;have en:=empty_nil;have d1:decide (s.b < 0)=false:=decide_eq_false (by omega);have d2:decide (sl≤s.b)=false:=decide_eq_false (by omega);obtain ⟨T0,z0,z1,z2⟩:=three_boxes w (.cells #[.int .i64 ar,.int .i64 sl,.int .i64 rg,lv] 104) (.cells #[.string sVar,.int .i64 i,.int .i64 s.b,.int .i64 0,.int .i64 0,.string ByteArray.empty] 139) (.cells #[.string sVar,.int .i64 i,.int .i64 s.b,.int .i64 0,.int .i64 0,.string ⟨#[]⟩] 139);obtain ⟨W6,hW6⟩:∃ z,z=((w.alloc (.cells #[.int .i64 ar,.int .i64 sl,.int .i64 rg,lv] 104)).alloc (.cells #[.string sVar,.int .i64 i,.int .i64 s.b,.int .i64 0,.int .i64 0,.string ByteArray.empty] 139)).alloc (.cells #[.string sVar,.int .i64 i,.int .i64 s.b,.int .i64 0,.int .i64 0,.string ⟨#[]⟩] 139):=⟨_,rfl⟩;rw [←hW6] at T0 z0 z1 z2;have T6:=T0;have y0:=z0;have y1:=z1;have y2:=z2;have C6:=C.turned0 T6;have hlt:=C.lt;have HC6:=hid C6;have H5:=hid (fun W (T:Turned zN W6 W)=>(T.bt y0));have H7:=hid (fun W (T:Turned zN W6 W)=>(T.bt y1));have H9:=hid (fun W (T:Turned zN W6 W)=>(T.bt y2));have HT6:=hid T6;have HLT:=hid hlt;have HW6:=hid hW6;have HB64:=hid hb64;have HF:=hid hf;have HLK:=hid (fun W (T:Turned zN W6 W)=>(decide_eq_false hm:decide (s.b∈had)=false) ▸ hadLook (C6.turned0 T).m hb64);rw [hop,h1,h2,h3,h4];clear T0 z0 z1 z2 T6 y0 y1 y2 C6 hlt hW6 hb64 hf C hs;go_enter Try.func149,Try.ntmps149
 go_wp2_with fail
 rw [←HW6.out];refine wp_region_ssa' (G:=(fun dd vv W=>(match dd with | 22=>vv = .pointer (some ⟨w.heap.size+1,2,none⟩) | 23=>vv = .int .i64 s.b | 24=>vv = .bool false | 25=>vv = .bool false | 26=>vv = .pointer (some ⟨w.heap.size+1,2,none⟩) | 27=>vv = .int .i64 s.b | 28=>vv = .pointer (some ⟨w.heap.size,1,none⟩) | 29=>vv = .int .i64 sl | 30=>vv = .bool false | 31=>vv = .bool false | 32=>vv = .bool false | 33=>vv = .pointer (some ⟨kb,0,none⟩) | 34=>vv = .pointer (some ⟨kb,0,none⟩) | 35=>vv = .pointer (some ⟨kb,1,none⟩) | 36=>vv = .map (some mb) | 37=>vv = .pointer (some ⟨w.heap.size+1,2,none⟩) | 38=>vv = .int .i64 s.b | 39=>vv = .bool false | 40=>vv = .pointer (some ⟨w.heap.size+1,0,none⟩) | 41=>vv = .string sVar | 42=>vv = .bool false | 43=>vv = .bool false | 44=>vv = .bool false  | _=>True:Prop))) [22,23,24,25,26,27,28,29,30,31,32,33,34,35,36,37,38,39,40,41,42,43,44] (by kernel_rfl) rfl (by kernel_rfl) ?hG ?hs ?hQ
 case hG=>exact fun d v _ _ _ h=>h
 case hs=>
  refine ⟨?s0,?s1,?s2,?s3,?s4,?s5,?s6,?s7,?s8,?s9,?s10,?s11,?s12,?s13,?s14,?s15,?s16,?s17,?s18,?s19,?s20,?s21,?s22,trivial⟩
  case s0=>refine zO [] [7] fun ac W hT hI hO=>?_;simp only [execOp,Act.eval,hO 7 (by simp)];go_simp;try exact tq
  case s1=>refine zO [22] [] fun ac W hT hI hO=>?_;have h22:_=_:=hI 22 (by simp);obtain ⟨e0,e1,e2,e3,e4,e5⟩:=cells6 (H7.out W hT);simp only [execOp,Act.eval,h22];go_simp;try exact tq
  case s2=>refine zO [23] [] fun ac W hT hI hO=>?_;have h23:_=_:=hI 23 (by simp);simp only [execOp,Act.eval,h23];go_simp;try exact tq
  case s3=>refine zO [24] [] fun ac W hT hI hO=>?_;have h24:_=_:=hI 24 (by simp);simp only [execOp,Act.eval,h24];go_simp;try exact tq
  case s4=>
   refine stepOk_guard [25] [7] (by kernel_rfl) 3 false 25 rfl rfl (by simp) true false (fun _ _ h=>h) (fun hc=>?_) (fun hc=>by cases hc);intro ac W hT hI hO;simp only [execOp,Act.eval,hO 7 (by simp)];go_simp
   try exact tq
  case s5=>
   refine stepOk_guard [26,25] [] (by kernel_rfl) 3 false 25 rfl rfl (by simp) true false (fun _ _ h=>h) (fun hc=>?_) (fun hc=>by cases hc);intro ac W hT hI hO;have h26:_=_:=hI 26 (by simp);obtain ⟨e0,e1,e2,e3,e4,e5⟩:=cells6 (H7.out W hT);simp only [execOp,Act.eval,h26];go_simp
   try exact tq
  case s6=>
   refine stepOk_guard [25] [5] (by kernel_rfl) 3 false 25 rfl rfl (by simp) true false (fun _ _ h=>h) (fun hc=>?_) (fun hc=>by cases hc);intro ac W hT hI hO;simp only [execOp,Act.eval,hO 5 (by simp)];go_simp
   try exact tq
  case s7=>
   refine stepOk_guard [28,25] [] (by kernel_rfl) 3 false 25 rfl rfl (by simp) true false (fun _ _ h=>h) (fun hc=>?_) (fun hc=>by cases hc);intro ac W hT hI hO;have h28:_=_:=hI 28 (by simp);obtain ⟨k0,k1,k2,k3,_⟩:=cells4 (H5.out W hT);simp only [execOp,Act.eval,h28];go_simp
   try exact tq
  case s8=>
   refine stepOk_guard [27,29,25] [] (by kernel_rfl) 3 false 25 rfl rfl (by simp) true false (fun _ _ h=>h) (fun hc=>?_) (fun hc=>by cases hc);intro ac W hT hI hO;have h27:_=_:=hI 27 (by simp);have h29:_=_:=hI 29 (by simp);simp only [execOp,Act.eval,h27,h29];go_simp
   try exact tq
  case s9=>refine zO [25,30] [] fun ac W hT hI hO=>?_;have h25:_=_:=hI 25 (by simp);have h30:_=_:=hI 30 (by simp);simp only [execOp,Act.eval,h25,h30];go_simp;try exact tq
  case s10=>refine zO [31] [] fun ac W hT hI hO=>?_;have h31:_=_:=hI 31 (by simp);simp only [execOp,Act.eval,h31];go_simp;try exact tq
  case s11=>
   refine stepOk_guard [32] [0] (by kernel_rfl) 10 false 32 rfl rfl (by simp) true false (fun _ _ h=>h) (fun hc=>?_) (fun hc=>by cases hc);intro ac W hT hI hO;simp only [execOp,Act.eval,hO 0 (by simp)];go_simp
   try exact tq
  case s12=>
   refine stepOk_guard [33,32] [] (by kernel_rfl) 10 false 32 rfl rfl (by simp) true false (fun _ _ h=>h) (fun hc=>?_) (fun hc=>by cases hc);intro ac W hT hI hO;have h33:_=_:=hI 33 (by simp);simp only [execOp,Act.eval,h33];go_simp
   try exact tq
  case s13=>
   refine stepOk_guard [34,32] [] (by kernel_rfl) 10 false 32 rfl rfl (by simp) true false (fun _ _ h=>h) (fun hc=>?_) (fun hc=>by cases hc);intro ac W hT hI hO;have h34:_=_:=hI 34 (by simp);simp only [execOp,Act.eval,h34];go_simp
   try exact tq
  case s14=>
   refine stepOk_guard [35,32] [] (by kernel_rfl) 10 false 32 rfl rfl (by simp) true false (fun _ _ h=>h) (fun hc=>?_) (fun hc=>by cases hc);intro ac W hT hI hO;have h35:_=_:=hI 35 (by simp);obtain ⟨k0,k1⟩:=cells2 (HC6.out.turned0 hT).b;simp only [execOp,Act.eval,h35];go_simp
   try exact tq
  case s15=>
   refine stepOk_guard [32] [7] (by kernel_rfl) 10 false 32 rfl rfl (by simp) true false (fun _ _ h=>h) (fun hc=>?_) (fun hc=>by cases hc);intro ac W hT hI hO;simp only [execOp,Act.eval,hO 7 (by simp)];go_simp
   try exact tq
  case s16=>
   refine stepOk_guard [37,32] [] (by kernel_rfl) 10 false 32 rfl rfl (by simp) true false (fun _ _ h=>h) (fun hc=>?_) (fun hc=>by cases hc);intro ac W hT hI hO;have h37:_=_:=hI 37 (by simp);obtain ⟨e0,e1,e2,e3,e4,e5⟩:=cells6 (H7.out W hT);simp only [execOp,Act.eval,h37];go_simp
   try exact tq
  case s17=>
   refine stepOk_guard [36,38,32] [] (by kernel_rfl) 10 false 32 rfl rfl (by simp) true false (fun _ _ h=>h) (fun hc=>?_) (fun hc=>by cases hc);intro ac W hT hI hO;have h36:_=_:=hI 36 (by simp);have h38:_=_:=hI 38 (by simp);have hlk:=HLK.out W hT;simp only [execOp,Act.eval,h36,h38];go_simp
   try exact tq
  case s18=>
   refine stepOk_guard [32] [7] (by kernel_rfl) 10 false 32 rfl rfl (by simp) true false (fun _ _ h=>h) (fun hc=>?_) (fun hc=>by cases hc);intro ac W hT hI hO;simp only [execOp,Act.eval,hO 7 (by simp)];go_simp
   try exact tq
  case s19=>
   refine stepOk_guard [40,32] [] (by kernel_rfl) 10 false 32 rfl rfl (by simp) true false (fun _ _ h=>h) (fun hc=>?_) (fun hc=>by cases hc);intro ac W hT hI hO;have h40:_=_:=hI 40 (by simp);obtain ⟨e0,e1,e2,e3,e4,e5⟩:=cells6 (H7.out W hT);simp only [execOp,Act.eval,h40];go_simp
   try exact tq
  case s20=>
   refine stepOk_guard [41,32] [] (by kernel_rfl) 10 false 32 rfl rfl (by simp) true false (fun _ _ h=>h) (fun hc=>?_) (fun hc=>by cases hc);intro ac W hT hI hO;have h41:_=_:=hI 41 (by simp);simp only [execOp,Act.eval,h41];go_simp
   try exact tq
  case s21=>
   refine stepOk_guard [39,42,32] [] (by kernel_rfl) 10 false 32 rfl rfl (by simp) true false (fun _ _ h=>h) (fun hc=>?_) (fun hc=>by cases hc);intro ac W hT hI hO;have h39:_=_:=hI 39 (by simp);have h42:_=_:=hI 42 (by simp);simp only [execOp,Act.eval,h39,h42];go_simp
   try exact tq
  case s22=>
   refine zO [32,43] [] fun ac W hT hI hO=>?_;have h32:_=_:=hI 32 (by simp);have h43:_=_:=hI 43 (by simp);simp only [execOp,Act.eval,h32,h43];go_simp
   try exact tq
 case hQ=>
  intro vs7 W7 T7 hV;have q44:vs7 44 = .bool false:=hV 44 (by simp);simp only [Qq,List.foldl_nil,Qk,Qs,Qr,q44];have HT7:=hid T7;clear hV q44 T7
  go_wp2_with fail
  have HC7:=hid (HC6.out.turned0 HT7.out);have HM7:=hid (fun W (T:Turned (fun q=>q=mb) W7 W)=>(T.block _ (zL (H7.out W7 HT7.out)) (by have:=HLT.out;omega)).trans (H7.out W7 HT7.out));have HM9:=hid (fun W (T:Turned (fun q=>q=mb) W7 W)=>(T.block _ (zL (H9.out W7 HT7.out)) (by have:=HLT.out;omega)).trans (H9.out W7 HT7.out));have HMK:=hid (fun W (T:Turned (fun q=>q=mb) W7 W)=>(T.block _ (zL HC7.out.b) (fun e=>HC7.out.ne e)).trans HC7.out.b);refine wp_region_k [45,46,47,48,49,50] [6] [] (fun dd vv=>(match dd with | 45=>vv = .pointer (some ⟨kb,0,none⟩) | 46=>vv = .pointer (some ⟨kb,0,none⟩) | 47=>vv = .pointer (some ⟨kb,1,none⟩) | 48=>vv = .map (some mb) | 49=>vv = .pointer (some ⟨w.heap.size+1,2,none⟩) | 50=>vv = .int .i64 s.b | _=>True:Prop)) (MapR 3 mb 6 (had.length) (if (hadF had s.b).isSome then had.length else had.length+1) (hadF had) (upd (hadF had) s.b (.bool true)) W7) (by kernel_rfl) rfl (by kernel_rfl) (by kernel_rfl) (fun w h=>MapR.start HC7.out.m h) (fun hs w w' h ht=>h.turned0 ht) ?hs ?hQ
  case hs=>
   refine ⟨?s0,?s1,?s2,?s3,?s4,?s5,?s6,trivial⟩
   case s0=>refine fun hs hl=>zG [] [0] fun ac W hT hI hO=>?_;simp only [execOp,Act.eval,hO 0 (by simp)];go_simp;try exact tq
   case s1=>refine fun hs hl=>zG [45] [] fun ac W hT hI hO=>?_;have h45:_=_:=hI 45 (by simp);simp only [execOp,Act.eval,h45];go_simp;try exact tq
   case s2=>refine fun hs hl=>zG [46] [] fun ac W hT hI hO=>?_;have h46:_=_:=hI 46 (by simp);simp only [execOp,Act.eval,h46];go_simp;try exact tq
   case s3=>refine fun hs hl=>zG [47] [] fun ac W hT hI hO=>?_;have h47:_=_:=hI 47 (by simp);obtain ⟨k0,k1⟩:=cells2 (HMK.out W hT.t);simp only [execOp,Act.eval,h47];go_simp;try exact tq
   case s4=>refine fun hs hl=>zG [] [7] fun ac W hT hI hO=>?_;simp only [execOp,Act.eval,hO 7 (by simp)];go_simp;try exact tq
   case s5=>refine fun hs hl=>zG [49] [] fun ac W hT hI hO=>?_;have h49:_=_:=hI 49 (by simp);obtain ⟨e0,e1,e2,e3,e4,e5⟩:=cells6 (HM7.out W hT.t);simp only [execOp,Act.eval,h49];go_simp;try exact tq
   case s6=>
    refine fun hs hno hl=>zG [48,50] [] fun ac W hT hI hO=>?_;have h48:_=_:=hI 48 (by simp);have h50:_=_:=hI 50 (by simp);obtain ⟨w',hr,hm,T⟩:=(hT.old hno).put law3 Try.underlying145 (by unfold maxLen;have:=HF.out;omega) (v:=.bool true) (key3 HB64.out) trivial;show Brings _ (fun vv w'=>MapR 3 mb 6 (had.length) (if (hadF had s.b).isSome then had.length else had.length+1) (hadF had) (upd (hadF had) s.b (.bool true)) W7 (hs++[(6,vv)]) w') _;simp only [execOp,Act.eval,h48,h50,hr];go_simp;exact hT.put T hm
  case hQ=>
   intro hs8 vs8 W8 hall huniq hR hV;simp only [Qq,List.foldl_nil,Qk,Qs,Qr];obtain ⟨v8,hv8⟩:=hall 6 (by simp);have hmap:=hR.new v8 hv8;rw [had_next.1,had_next.2] at hmap;have HNEW:Hid (Chk kb mb k (hadN had s.b) W8):=⟨HMK.out W8 hR.t,hmap,HC7.out.ne,by have:=HF.out;have:=hadN_len had s.b;omega⟩;have HT8:=hid hR.t;obtain ⟨a0,a1,a2,a3,a4,a5⟩:=cells6 (HM7.out W8 hR.t);obtain ⟨b0,b1,b2,b3,b4,b5⟩:=cells6 (HM9.out W8 hR.t);clear hR hV hall huniq hmap hv8;obtain ⟨B,hB⟩:∃ B,B=goodNameB ByteArray.empty:=⟨_,rfl⟩;have HB:=hid hB
   have hnm0:ByteArray.empty.size≤maxLen:=by unfold maxLen;decide
   clear hB
   go_wp2_with (first
    | (go_at_call 63;(with_reducible refine (atomOnly ByteArray.empty hnm0 _).mono ?_);rintro e W9 ⟨rfl,T9⟩)
    | (go_at_call 38;(with_reducible refine (goodAtom ByteArray.empty hnm0 _).mono ?_);rintro e W10 ⟨rfl,T10⟩;rw [←HB.out]))
   go_ret;exact ⟨by rw [←HB.out];rfl,HNEW.out.turned0 (T9.trans T10),(((HT6.out.trans HT7.out).mono (fun _ _ f=>f.elim)).trans HT8.out).trans ((T9.trans T10).mono (fun _ _ f=>f.elim))⟩
set_option maxRecDepth 100000 in
theorem one_val_okT {kb mb:Nat} {k ar sl rg i:Int} {lv:Value} {had:List Int} {s:Stp} {w:World} (C:Chk kb mb k had w) (hf:had.length≤3000) (hs:stOk s) (hop:s.op=sVal) (hb0:0≤s.b) (hb:s.b < sl) (hm:s.b∈had) (h1:s.a=i) (h2:s.c=0) (h3:s.n=0) (h4:s.name=ByteArray.empty) :
 Calls Try.prog 149 #[.pointer (some ⟨kb,0,none⟩),.agg #[.int .i64 ar,.int .i64 sl,.int .i64 rg,lv],.int .i64 i,.agg #[.string s.op,.int .i64 s.a,.int .i64 s.b,.int .i64 s.c,.int .i64 s.n,.string s.name]] w fun e w'=>e = .returned (.bool (goodNameB ByteArray.empty))∧Chk kb mb k (hadN had s.b) w'∧Turned (fun q=>q=mb) w w':=by
 have hnm:=hs.2.2.2.2.2;have hb64:=hs.2.2.1;have o0:=op_Val_Var;have o1:=op_Val_Val;have o2:=op_Val_Int;have o3:=op_Val_Atom;have o4:=op_Val_Comp;have en:=empty_nil;have d1:decide (s.b < 0)=false:=decide_eq_false (by omega);have d2:decide (sl≤s.b)=false:=decide_eq_false (by omega);obtain ⟨T0,z0,z1,z2⟩:=three_boxes w (.cells #[.int .i64 ar,.int .i64 sl,.int .i64 rg,lv] 104) (.cells #[.string sVal,.int .i64 i,.int .i64 s.b,.int .i64 0,.int .i64 0,.string ByteArray.empty] 139) (.cells #[.string sVal,.int .i64 i,.int .i64 s.b,.int .i64 0,.int .i64 0,.string ⟨#[]⟩] 139);obtain ⟨W6,hW6⟩:∃ z,z=((w.alloc (.cells #[.int .i64 ar,.int .i64 sl,.int .i64 rg,lv] 104)).alloc (.cells #[.string sVal,.int .i64 i,.int .i64 s.b,.int .i64 0,.int .i64 0,.string ByteArray.empty] 139)).alloc (.cells #[.string sVal,.int .i64 i,.int .i64 s.b,.int .i64 0,.int .i64 0,.string ⟨#[]⟩] 139):=⟨_,rfl⟩;rw [←hW6] at T0 z0 z1 z2;have T6:=T0;have y0:=z0;have y1:=z1;have y2:=z2;have C6:=C.turned0 T6;have hlt:=C.lt;have HC6:=hid C6;have H5:=hid (fun W (T:Turned zN W6 W)=>(T.bt y0));have H7:=hid (fun W (T:Turned zN W6 W)=>(T.bt y1));have H9:=hid (fun W (T:Turned zN W6 W)=>(T.bt y2));have HT6:=hid T6;have HLT:=hid hlt;have HW6:=hid hW6;have HB64:=hid hb64;have HF:=hid hf;have HLK:=hid (fun W (T:Turned zN W6 W)=>(decide_eq_true hm:decide (s.b∈had)=true) ▸ hadLook (C6.turned0 T).m hb64);rw [hop,h1,h2,h3,h4];clear T0 z0 z1 z2 T6 y0 y1 y2 C6 hlt hW6 hb64 hf C hs;go_enter Try.func149,Try.ntmps149
 go_wp2_with fail
 rw [←HW6.out];refine wp_region_ssa' (G:=(fun dd vv W=>(match dd with | 22=>vv = .pointer (some ⟨w.heap.size+1,2,none⟩) | 23=>vv = .int .i64 s.b | 24=>vv = .bool false | 25=>vv = .bool false | 26=>vv = .pointer (some ⟨w.heap.size+1,2,none⟩) | 27=>vv = .int .i64 s.b | 28=>vv = .pointer (some ⟨w.heap.size,1,none⟩) | 29=>vv = .int .i64 sl | 30=>vv = .bool false | 31=>vv = .bool false | 32=>vv = .bool false | 33=>vv = .pointer (some ⟨kb,0,none⟩) | 34=>vv = .pointer (some ⟨kb,0,none⟩) | 35=>vv = .pointer (some ⟨kb,1,none⟩) | 36=>vv = .map (some mb) | 37=>vv = .pointer (some ⟨w.heap.size+1,2,none⟩) | 38=>vv = .int .i64 s.b | 39=>vv = .bool true | 40=>vv = .pointer (some ⟨w.heap.size+1,0,none⟩) | 41=>vv = .string sVal | 42=>vv = .bool true | 43=>vv = .bool false | 44=>vv = .bool false  | _=>True:Prop))) [22,23,24,25,26,27,28,29,30,31,32,33,34,35,36,37,38,39,40,41,42,43,44] (by kernel_rfl) rfl (by kernel_rfl) ?hG ?hs ?hQ
 case hG=>exact fun d v _ _ _ h=>h
 case hs=>
  refine ⟨?s0,?s1,?s2,?s3,?s4,?s5,?s6,?s7,?s8,?s9,?s10,?s11,?s12,?s13,?s14,?s15,?s16,?s17,?s18,?s19,?s20,?s21,?s22,trivial⟩
  case s0=>refine zO [] [7] fun ac W hT hI hO=>?_;simp only [execOp,Act.eval,hO 7 (by simp)];go_simp;try exact tq
  case s1=>refine zO [22] [] fun ac W hT hI hO=>?_;have h22:_=_:=hI 22 (by simp);obtain ⟨e0,e1,e2,e3,e4,e5⟩:=cells6 (H7.out W hT);simp only [execOp,Act.eval,h22];go_simp;try exact tq
  case s2=>refine zO [23] [] fun ac W hT hI hO=>?_;have h23:_=_:=hI 23 (by simp);simp only [execOp,Act.eval,h23];go_simp;try exact tq
  case s3=>refine zO [24] [] fun ac W hT hI hO=>?_;have h24:_=_:=hI 24 (by simp);simp only [execOp,Act.eval,h24];go_simp;try exact tq
  case s4=>
   refine stepOk_guard [25] [7] (by kernel_rfl) 3 false 25 rfl rfl (by simp) true false (fun _ _ h=>h) (fun hc=>?_) (fun hc=>by cases hc);intro ac W hT hI hO;simp only [execOp,Act.eval,hO 7 (by simp)];go_simp
   try exact tq
  case s5=>
   refine stepOk_guard [26,25] [] (by kernel_rfl) 3 false 25 rfl rfl (by simp) true false (fun _ _ h=>h) (fun hc=>?_) (fun hc=>by cases hc);intro ac W hT hI hO;have h26:_=_:=hI 26 (by simp);obtain ⟨e0,e1,e2,e3,e4,e5⟩:=cells6 (H7.out W hT);simp only [execOp,Act.eval,h26];go_simp
   try exact tq
  case s6=>
   refine stepOk_guard [25] [5] (by kernel_rfl) 3 false 25 rfl rfl (by simp) true false (fun _ _ h=>h) (fun hc=>?_) (fun hc=>by cases hc);intro ac W hT hI hO;simp only [execOp,Act.eval,hO 5 (by simp)];go_simp
   try exact tq
  case s7=>
   refine stepOk_guard [28,25] [] (by kernel_rfl) 3 false 25 rfl rfl (by simp) true false (fun _ _ h=>h) (fun hc=>?_) (fun hc=>by cases hc);intro ac W hT hI hO;have h28:_=_:=hI 28 (by simp);obtain ⟨k0,k1,k2,k3,_⟩:=cells4 (H5.out W hT);simp only [execOp,Act.eval,h28];go_simp
   try exact tq
  case s8=>
   refine stepOk_guard [27,29,25] [] (by kernel_rfl) 3 false 25 rfl rfl (by simp) true false (fun _ _ h=>h) (fun hc=>?_) (fun hc=>by cases hc);intro ac W hT hI hO;have h27:_=_:=hI 27 (by simp);have h29:_=_:=hI 29 (by simp);simp only [execOp,Act.eval,h27,h29];go_simp
   try exact tq
  case s9=>refine zO [25,30] [] fun ac W hT hI hO=>?_;have h25:_=_:=hI 25 (by simp);have h30:_=_:=hI 30 (by simp);simp only [execOp,Act.eval,h25,h30];go_simp;try exact tq
  case s10=>refine zO [31] [] fun ac W hT hI hO=>?_;have h31:_=_:=hI 31 (by simp);simp only [execOp,Act.eval,h31];go_simp;try exact tq
  case s11=>
   refine stepOk_guard [32] [0] (by kernel_rfl) 10 false 32 rfl rfl (by simp) true false (fun _ _ h=>h) (fun hc=>?_) (fun hc=>by cases hc);intro ac W hT hI hO;simp only [execOp,Act.eval,hO 0 (by simp)];go_simp
   try exact tq
  case s12=>
   refine stepOk_guard [33,32] [] (by kernel_rfl) 10 false 32 rfl rfl (by simp) true false (fun _ _ h=>h) (fun hc=>?_) (fun hc=>by cases hc);intro ac W hT hI hO;have h33:_=_:=hI 33 (by simp);simp only [execOp,Act.eval,h33];go_simp
   try exact tq
  case s13=>
   refine stepOk_guard [34,32] [] (by kernel_rfl) 10 false 32 rfl rfl (by simp) true false (fun _ _ h=>h) (fun hc=>?_) (fun hc=>by cases hc);intro ac W hT hI hO;have h34:_=_:=hI 34 (by simp);simp only [execOp,Act.eval,h34];go_simp
   try exact tq
  case s14=>
   refine stepOk_guard [35,32] [] (by kernel_rfl) 10 false 32 rfl rfl (by simp) true false (fun _ _ h=>h) (fun hc=>?_) (fun hc=>by cases hc);intro ac W hT hI hO;have h35:_=_:=hI 35 (by simp);obtain ⟨k0,k1⟩:=cells2 (HC6.out.turned0 hT).b;simp only [execOp,Act.eval,h35];go_simp
   try exact tq
  case s15=>
   refine stepOk_guard [32] [7] (by kernel_rfl) 10 false 32 rfl rfl (by simp) true false (fun _ _ h=>h) (fun hc=>?_) (fun hc=>by cases hc);intro ac W hT hI hO;simp only [execOp,Act.eval,hO 7 (by simp)];go_simp
   try exact tq
  case s16=>
   refine stepOk_guard [37,32] [] (by kernel_rfl) 10 false 32 rfl rfl (by simp) true false (fun _ _ h=>h) (fun hc=>?_) (fun hc=>by cases hc);intro ac W hT hI hO;have h37:_=_:=hI 37 (by simp);obtain ⟨e0,e1,e2,e3,e4,e5⟩:=cells6 (H7.out W hT);simp only [execOp,Act.eval,h37];go_simp
   try exact tq
  case s17=>
   refine stepOk_guard [36,38,32] [] (by kernel_rfl) 10 false 32 rfl rfl (by simp) true false (fun _ _ h=>h) (fun hc=>?_) (fun hc=>by cases hc);intro ac W hT hI hO;have h36:_=_:=hI 36 (by simp);have h38:_=_:=hI 38 (by simp);have hlk:=HLK.out W hT;simp only [execOp,Act.eval,h36,h38];go_simp
   try exact tq
  case s18=>
   refine stepOk_guard [32] [7] (by kernel_rfl) 10 false 32 rfl rfl (by simp) true false (fun _ _ h=>h) (fun hc=>?_) (fun hc=>by cases hc);intro ac W hT hI hO;simp only [execOp,Act.eval,hO 7 (by simp)];go_simp
   try exact tq
  case s19=>
   refine stepOk_guard [40,32] [] (by kernel_rfl) 10 false 32 rfl rfl (by simp) true false (fun _ _ h=>h) (fun hc=>?_) (fun hc=>by cases hc);intro ac W hT hI hO;have h40:_=_:=hI 40 (by simp);obtain ⟨e0,e1,e2,e3,e4,e5⟩:=cells6 (H7.out W hT);simp only [execOp,Act.eval,h40];go_simp
   try exact tq
  case s20=>
   refine stepOk_guard [41,32] [] (by kernel_rfl) 10 false 32 rfl rfl (by simp) true false (fun _ _ h=>h) (fun hc=>?_) (fun hc=>by cases hc);intro ac W hT hI hO;have h41:_=_:=hI 41 (by simp);simp only [execOp,Act.eval,h41];go_simp
   try exact tq
  case s21=>
   refine stepOk_guard [39,42,32] [] (by kernel_rfl) 10 false 32 rfl rfl (by simp) true false (fun _ _ h=>h) (fun hc=>?_) (fun hc=>by cases hc);intro ac W hT hI hO;have h39:_=_:=hI 39 (by simp);have h42:_=_:=hI 42 (by simp);simp only [execOp,Act.eval,h39,h42];go_simp
   try exact tq
  case s22=>
   refine zO [32,43] [] fun ac W hT hI hO=>?_;have h32:_=_:=hI 32 (by simp);have h43:_=_:=hI 43 (by simp);simp only [execOp,Act.eval,h32,h43];go_simp
   try exact tq
 case hQ=>
  intro vs7 W7 T7 hV;have q44:vs7 44 = .bool false:=hV 44 (by simp);simp only [Qq,List.foldl_nil,Qk,Qs,Qr,q44];have HT7:=hid T7;clear hV q44 T7
  go_wp2_with fail
  have HC7:=hid (HC6.out.turned0 HT7.out);have HM7:=hid (fun W (T:Turned (fun q=>q=mb) W7 W)=>(T.block _ (zL (H7.out W7 HT7.out)) (by have:=HLT.out;omega)).trans (H7.out W7 HT7.out));have HM9:=hid (fun W (T:Turned (fun q=>q=mb) W7 W)=>(T.block _ (zL (H9.out W7 HT7.out)) (by have:=HLT.out;omega)).trans (H9.out W7 HT7.out));have HMK:=hid (fun W (T:Turned (fun q=>q=mb) W7 W)=>(T.block _ (zL HC7.out.b) (fun e=>HC7.out.ne e)).trans HC7.out.b);refine wp_region_k [45,46,47,48,49,50] [6] [] (fun dd vv=>(match dd with | 45=>vv = .pointer (some ⟨kb,0,none⟩) | 46=>vv = .pointer (some ⟨kb,0,none⟩) | 47=>vv = .pointer (some ⟨kb,1,none⟩) | 48=>vv = .map (some mb) | 49=>vv = .pointer (some ⟨w.heap.size+1,2,none⟩) | 50=>vv = .int .i64 s.b | _=>True:Prop)) (MapR 3 mb 6 (had.length) (if (hadF had s.b).isSome then had.length else had.length+1) (hadF had) (upd (hadF had) s.b (.bool true)) W7) (by kernel_rfl) rfl (by kernel_rfl) (by kernel_rfl) (fun w h=>MapR.start HC7.out.m h) (fun hs w w' h ht=>h.turned0 ht) ?hs ?hQ
  case hs=>
   refine ⟨?s0,?s1,?s2,?s3,?s4,?s5,?s6,trivial⟩
   case s0=>refine fun hs hl=>zG [] [0] fun ac W hT hI hO=>?_;simp only [execOp,Act.eval,hO 0 (by simp)];go_simp;try exact tq
   case s1=>refine fun hs hl=>zG [45] [] fun ac W hT hI hO=>?_;have h45:_=_:=hI 45 (by simp);simp only [execOp,Act.eval,h45];go_simp;try exact tq
   case s2=>refine fun hs hl=>zG [46] [] fun ac W hT hI hO=>?_;have h46:_=_:=hI 46 (by simp);simp only [execOp,Act.eval,h46];go_simp;try exact tq
   case s3=>refine fun hs hl=>zG [47] [] fun ac W hT hI hO=>?_;have h47:_=_:=hI 47 (by simp);obtain ⟨k0,k1⟩:=cells2 (HMK.out W hT.t);simp only [execOp,Act.eval,h47];go_simp;try exact tq
   case s4=>refine fun hs hl=>zG [] [7] fun ac W hT hI hO=>?_;simp only [execOp,Act.eval,hO 7 (by simp)];go_simp;try exact tq
   case s5=>refine fun hs hl=>zG [49] [] fun ac W hT hI hO=>?_;have h49:_=_:=hI 49 (by simp);obtain ⟨e0,e1,e2,e3,e4,e5⟩:=cells6 (HM7.out W hT.t);simp only [execOp,Act.eval,h49];go_simp;try exact tq
   case s6=>
    refine fun hs hno hl=>zG [48,50] [] fun ac W hT hI hO=>?_;have h48:_=_:=hI 48 (by simp);have h50:_=_:=hI 50 (by simp);obtain ⟨w',hr,hm,T⟩:=(hT.old hno).put law3 Try.underlying145 (by unfold maxLen;have:=HF.out;omega) (v:=.bool true) (key3 HB64.out) trivial;show Brings _ (fun vv w'=>MapR 3 mb 6 (had.length) (if (hadF had s.b).isSome then had.length else had.length+1) (hadF had) (upd (hadF had) s.b (.bool true)) W7 (hs++[(6,vv)]) w') _;simp only [execOp,Act.eval,h48,h50,hr];go_simp;exact hT.put T hm
  case hQ=>
   intro hs8 vs8 W8 hall huniq hR hV;simp only [Qq,List.foldl_nil,Qk,Qs,Qr];obtain ⟨v8,hv8⟩:=hall 6 (by simp);have hmap:=hR.new v8 hv8;rw [had_next.1,had_next.2] at hmap;have HNEW:Hid (Chk kb mb k (hadN had s.b) W8):=⟨HMK.out W8 hR.t,hmap,HC7.out.ne,by have:=HF.out;have:=hadN_len had s.b;omega⟩;have HT8:=hid hR.t;obtain ⟨a0,a1,a2,a3,a4,a5⟩:=cells6 (HM7.out W8 hR.t);obtain ⟨b0,b1,b2,b3,b4,b5⟩:=cells6 (HM9.out W8 hR.t);clear hR hV hall huniq hmap hv8;obtain ⟨B,hB⟩:∃ B,B=goodNameB ByteArray.empty:=⟨_,rfl⟩;have HB:=hid hB
   have hnm0:ByteArray.empty.size≤maxLen:=by unfold maxLen;decide
   clear hB
   go_wp2_with (first
    | (go_at_call 63;(with_reducible refine (atomOnly ByteArray.empty hnm0 _).mono ?_);rintro e W9 ⟨rfl,T9⟩)
    | (go_at_call 38;(with_reducible refine (goodAtom ByteArray.empty hnm0 _).mono ?_);rintro e W10 ⟨rfl,T10⟩;rw [←HB.out]))
   go_ret;exact ⟨by rw [←HB.out];rfl,HNEW.out.turned0 (T9.trans T10),(((HT6.out.trans HT7.out).mono (fun _ _ f=>f.elim)).trans HT8.out).trans ((T9.trans T10).mono (fun _ _ f=>f.elim))⟩
end Go.Proofs.Ytoihjobdfjajfaa
namespace Go.Proofs.Ytoihjobdfjajfaa
open Go.RowKit Go.Maps
open Tm (Stp sVar sVal sInt sAtom sComp oneC runC endC goodC ne_ops)
def opOk (s:Stp):Prop:=(s.op=sVar∨s.op=sVal∨s.op=sInt∨s.op=sAtom∨s.op=sComp)∧(s.op=sComp→1≤s.b∧s.b≤8)
section
variable {sl i k:Int} {had:List Int} {s:Stp}
theorem oneC_var (h:s.op=sVar):oneC sl i k had s=if (0≤s.b∧s.b < sl∧s.b∉had)∧(stEqB s ⟨sVar,i,s.b,0,0,ByteArray.empty⟩ && goodNameB s.name)=true then some (k,hadN had s.b) else none:=by
 unfold oneC;simp only [Qd,stEqB_iff]
 by_cases h1:s.a=i∧goodNameB s.name=true
 · rw [if_pos h1,if_pos h]
   by_cases h2:0≤s.b∧s.b < sl∧s.b∉had∧s.c=0∧s.n=0∧s.name=ByteArray.empty
   · rw [if_pos h2,if_pos ⟨⟨h2.1,h2.2.1,h2.2.2.1⟩,⟨h,h1.1,trivial,h2.2.2.2⟩,h1.2⟩]
     unfold hadN;rw [if_neg h2.2.2.1]
   · rw [if_neg h2,if_neg (fun c=>h2 ⟨c.1.1,c.1.2.1,c.1.2.2,c.2.1.2.2.2⟩)]
 · rw [if_neg h1,if_neg (fun c=>h1 ⟨c.2.1.2.1,c.2.2⟩)]
theorem oneC_val (h:s.op=sVal):oneC sl i k had s=if (0≤s.b∧s.b < sl∧s.b∈had)∧(stEqB s ⟨sVal,i,s.b,0,0,ByteArray.empty⟩ && goodNameB s.name)=true then some (k,hadN had s.b) else none:=by
 unfold oneC;simp only [Qd,stEqB_iff];have hv:=ne_ops.1
 by_cases h1:s.a=i∧goodNameB s.name=true
 · rw [if_pos h1,if_neg (by rw [h];exact hv),if_pos h]
   by_cases h2:0≤s.b∧s.b < sl∧s.b∈had∧s.c=0∧s.n=0∧s.name=ByteArray.empty
   · rw [if_pos h2,if_pos ⟨⟨h2.1,h2.2.1,h2.2.2.1⟩,⟨h,h1.1,trivial,h2.2.2.2⟩,h1.2⟩]
     unfold hadN;rw [if_pos h2.2.2.1]
   · rw [if_neg h2,if_neg (fun c=>h2 ⟨c.1.1,c.1.2.1,c.1.2.2,c.2.1.2.2.2⟩)]
 · rw [if_neg h1,if_neg (fun c=>h1 ⟨c.2.1.2.1,c.2.2⟩)]
theorem oneC_int (h:s.op=sInt):oneC sl i k had s=if (stEqB s ⟨sInt,i,0,0,s.n,ByteArray.empty⟩ && goodNameB s.name)=true then some (k,had) else none:=by
 unfold oneC;simp only [Qd,stEqB_iff];obtain ⟨_,n2,n3,_⟩:=ne_ops
 by_cases h1:s.a=i∧goodNameB s.name=true
 · rw [if_pos h1,if_neg (by rw [h];exact n2),if_neg (by rw [h];exact n3),if_pos h]
   by_cases h2:s.b=0∧s.c=0∧s.name=ByteArray.empty
   · rw [if_pos h2,if_pos ⟨⟨h,h1.1,h2.1,h2.2.1,trivial,h2.2.2⟩,h1.2⟩]
   · rw [if_neg h2,if_neg (fun c=>h2 ⟨c.1.2.2.1,c.1.2.2.2.1,c.1.2.2.2.2.2⟩)]
 · rw [if_neg h1,if_neg (fun c=>h1 ⟨c.1.2.1,c.2⟩)]
theorem oneC_atom (h:s.op=sAtom):oneC sl i k had s=if (stEqB s ⟨sAtom,i,0,0,0,s.name⟩ && goodNameB s.name)=true then some (k,had) else none:=by
 unfold oneC;simp only [Qd,stEqB_iff];obtain ⟨_,_,_,n4,n5,n6,_⟩:=ne_ops
 by_cases h1:s.a=i∧goodNameB s.name=true
 · rw [if_pos h1,if_neg (by rw [h];exact n4),if_neg (by rw [h];exact n5),if_neg (by rw [h];exact n6),if_pos h]
   by_cases h2:s.b=0∧s.c=0∧s.n=0
   · rw [if_pos h2,if_pos ⟨⟨h,h1.1,h2.1,h2.2.1,h2.2.2,trivial⟩,h1.2⟩]
   · rw [if_neg h2,if_neg (fun c=>h2 ⟨c.1.2.2.1,c.1.2.2.2.1,c.1.2.2.2.2.1⟩)]
 · rw [if_neg h1,if_neg (fun c=>h1 ⟨c.1.2.1,c.2⟩)]
theorem oneC_comp (h:s.op=sComp) (hb:1≤s.b∧s.b≤8):oneC sl i k had s=if (stEqB s ⟨sComp,i,s.b,k,0,s.name⟩ && goodNameB s.name)=true then some (k+s.b,had) else none:=by
 unfold oneC;simp only [Qd,stEqB_iff];obtain ⟨_,_,_,_,_,_,n7,n8,n9,n10⟩:=ne_ops
 by_cases h1:s.a=i∧goodNameB s.name=true
 · rw [if_pos h1,if_neg (by rw [h];exact n7),if_neg (by rw [h];exact n8),if_neg (by rw [h];exact n9),if_neg (by rw [h];exact n10),if_pos h]
   by_cases h2:s.c=k∧s.n=0
   · rw [if_pos ⟨hb.1,hb.2,h2⟩,if_pos ⟨⟨h,h1.1,trivial,h2.1,h2.2,trivial⟩,h1.2⟩]
   · rw [if_neg (fun c=>h2 c.2.2),if_neg (fun c=>h2 ⟨c.1.2.2.2.1,c.1.2.2.2.2.1⟩)]
 · rw [if_neg h1,if_neg (fun c=>h1 ⟨c.1.2.1,c.2⟩)]
end
theorem one149T {kb mb:Nat} {k ar sl rg i:Int} {lv:Value} {had:List Int} {s:Stp} {w:World} {c:Int × List Int} (C:Chk kb mb k had w) (hk:0≤k∧k≤30000) (hf:had.length≤3000) (hs:stOk s) (ho:opOk s) (hr:oneC sl i k had s=some c) :
 Calls Try.prog 149 #[.pointer (some ⟨kb,0,none⟩),.agg #[.int .i64 ar,.int .i64 sl,.int .i64 rg,lv],.int .i64 i,.agg #[.string s.op,.int .i64 s.a,.int .i64 s.b,.int .i64 s.c,.int .i64 s.n,.string s.name]] w fun e w'=>e = .returned (.bool true)∧Chk kb mb c.1 c.2 w'∧Turned (fun q=>q=kb∨q=mb) w w':=by
 rcases ho.1 with h | h | h | h | h
 · rw [oneC_var h] at hr
   split at hr
   · rename_i q
     simp only [Qd,stEqB_iff] at q
     injection hr with hr
     subst hr;refine (one_var_okT (ar:=ar) (rg:=rg) (lv:=lv) C hf hs h q.1.1 q.1.2.1 q.1.2.2 q.2.1.2.1 q.2.1.2.2.2.1 q.2.1.2.2.2.2.1 q.2.1.2.2.2.2.2).mono ?_
     rintro e w' ⟨rfl,C',T⟩
     have hg:=q.2.2;rw [q.2.1.2.2.2.2.2] at hg;exact ⟨by rw [hg],C',T.mono (fun _ _ f=>.inr f)⟩
   · cases hr
 · rw [oneC_val h] at hr
   split at hr
   · rename_i q
     simp only [Qd,stEqB_iff] at q
     injection hr with hr
     subst hr;refine (one_val_okT (ar:=ar) (rg:=rg) (lv:=lv) C hf hs h q.1.1 q.1.2.1 q.1.2.2 q.2.1.2.1 q.2.1.2.2.2.1 q.2.1.2.2.2.2.1 q.2.1.2.2.2.2.2).mono ?_
     rintro e w' ⟨rfl,C',T⟩
     have hg:=q.2.2;rw [q.2.1.2.2.2.2.2] at hg;exact ⟨by rw [hg],C',T.mono (fun _ _ f=>.inr f)⟩
   · cases hr
 · rw [oneC_int h] at hr
   split at hr
   · rename_i q
     injection hr with hr
     subst hr;refine (one_int hs h).mono ?_
     rintro e w' ⟨rfl,T⟩
     exact ⟨by rw [q],C.turned0 T,T.mono (fun _ _ f=>f.elim)⟩
   · cases hr
 · rw [oneC_atom h] at hr
   split at hr
   · rename_i q
     injection hr with hr
     subst hr;refine (one_atom hs h).mono ?_
     rintro e w' ⟨rfl,T⟩
     exact ⟨by rw [q],C.turned0 T,T.mono (fun _ _ f=>f.elim)⟩
   · cases hr
 · have hb:=ho.2 h
   rw [oneC_comp h hb] at hr
   split at hr
   · rename_i q
     simp only [Qd,stEqB_iff] at q
     injection hr with hr
     subst hr;refine (one_compT (ar:=ar) (sl:=sl) (rg:=rg) (lv:=lv) C.b hk hb hs h q.1.2.1 q.1.2.2.2.1 q.1.2.2.2.2.1).mono ?_
     rintro e w' ⟨rfl,hb',T⟩
     exact ⟨by rw [q.2],⟨hb',C.m.turned T (fun e=>C.ne e.symm),C.ne,C.few⟩,T.mono (fun _ _ f=>.inl f)⟩
   · cases hr
theorem oneC_few {sl i k:Int} {had:List Int} {s:Stp} {c:Int × List Int} (ho:opOk s) (h:oneC sl i k had s=some c):c.2.length≤had.length+1∧k≤c.1∧c.1≤k+8:=by
 rcases ho.1 with q | q | q | q | q
 · rw [oneC_var q] at h
   split at h
   · injection h with h;subst h;exact ⟨hadN_len _ _,by simp only [];omega,by simp only [];omega⟩
   · cases h
 · rw [oneC_val q] at h
   split at h
   · injection h with h;subst h;exact ⟨hadN_len _ _,by simp only [];omega,by simp only [];omega⟩
   · cases h
 · rw [oneC_int q] at h
   split at h
   · injection h with h;subst h;exact ⟨by simp only [];omega,by simp only [];omega,by simp only [];omega⟩
   · cases h
 · rw [oneC_atom q] at h
   split at h
   · injection h with h;subst h;exact ⟨by simp only [];omega,by simp only [];omega,by simp only [];omega⟩
   · cases h
 · have:=ho.2 q
   rw [oneC_comp q this] at h
   split at h
   · injection h with h;subst h;exact ⟨by simp only [];omega,by simp only [];omega,by simp only [];omega⟩
   · cases h
structure GoodL (sl ar:Int) (Ls:List Stp) (kb mb:Nat) (w1:World) (j:Nat) (wr:World):Prop where
 st:∃ k had,Chk kb mb k had wr∧runC sl Ls 0 ar []=runC sl (Ls.drop j) j k had∧had.length≤j∧0≤k∧k≤8+8 * (j:Int)
 t:Turned (fun q=>q=kb∨q=mb) w1 wr
end Go.Proofs.Ytoihjobdfjajfaa
namespace Go.Proofs.Ytoihjobdfjajfaa
open Lib (hid)
open Go.RowKit Go.Maps
open Tm (Stp sVar sVal sInt sAtom sComp oneC runC endC goodC ne_ops)
set_option maxRecDepth 100000 in
theorem codeGoodT95 {ar sl rg:Int} {lv:Value} {Ls:List Stp} {w:World} (hr:Row w 139 6 lv Ls.length (Ls.flatMap stC)) (hs:∀ s∈Ls,stOk s∧opOk s) (hn:Ls.length≤100000) (hgood:goodC ar sl rg Ls=true) :
 Calls Try.prog 95 #[.agg #[.int .i64 ar,.int .i64 sl,.int .i64 rg,lv]] w fun e w'=>e = .returned (.bool true)∧Turned zN w w':=by
 obtain ⟨a,cap,rfl⟩:=hr.shape;obtain ⟨n,hn'⟩:∃ n,n=Ls.length:=⟨_,rfl⟩;rw [←hn'] at hr
 have hnI:(n:Int)=(Ls.length:Int):=by omega
 rw [←hn']
 by_cases hc:0≤ar∧ar≤8∧ar≤rg∧rg≤2000∧(Ls.length:Int)=rg
 · have hg:goodC ar sl rg Ls=endC rg sl (runC sl Ls 0 ar []):=by unfold goodC;rw [if_pos hc]
   have hB:true=endC rg sl (runC sl Ls 0 ar []):=by rw [←hg,hgood]
   clear hgood;have HB:=hid hB;obtain ⟨h0,h1,h2,h3,h4⟩:=hc;have d0:decide (ar < 0)=false:=decide_eq_false (by omega);have d1:decide (8 < ar)=false:=decide_eq_false (by omega);have d2:decide (rg < ar)=false:=decide_eq_false (by omega);have d3:decide (2000 < rg)=false:=decide_eq_false (by omega)
   have hrg:rg=(n:Int):=by omega
   subst hrg;have HR:=hid hr;have HS:=hid hs;have HN:=hid hn';have HA:=hid (And.intro h0 (And.intro h1 (And.intro h2 h3)));clear hg hB hr hs hn' h0 h1 h2 h3 h4 hnI hn;have hmm:=@run_makeMap Try.prog;go_enter Try.func95,Try.ntmps95
   go_wp2_with fail
   have hmap:=IMap.made (w.alloc (.cells #[.int .i64 ar,.int .i64 sl,.int .i64 n,.slice a n cap] 104)) Try.prog 3;have hkp:=three_boxes w (.cells #[.int .i64 ar,.int .i64 sl,.int .i64 n,.slice a n cap] 104) (.map #[] 0) (.cells #[.int .i64 ar,.map (some (w.heap.size+1))] 178);obtain ⟨w3,hw3⟩:∃ z,z=((w.alloc (.cells #[.int .i64 ar,.int .i64 sl,.int .i64 n,.slice a n cap] 104)).alloc (.map #[] 0)).alloc (.cells #[.int .i64 ar,.map (some (w.heap.size+1))] 178):=⟨_,rfl⟩
   have hC3:Chk (w.heap.size+1+1) (w.heap.size+1) ar [] w3:=by
    refine ⟨by rw [hw3];exact hkp.2.2.2,?_,by omega,Nat.zero_le _⟩;have:=hmap.alloc (.cells #[.int .i64 ar,.map (some (w.heap.size+1))] 178);rw [show (w.alloc (.cells #[.int .i64 ar,.int .i64 sl,.int .i64 n,.slice a n cap] 104)).heap.size=w.heap.size+1 from by simp] at this;rw [hw3,hadF_nil];exact this
   rw [←hw3] at hkp;have HT3:=hid hkp.1;have HC0:=hid hkp.2.1;have HL3:Hid (GoodL sl ar Ls (w.heap.size+1+1) (w.heap.size+1) w3 0 w3):=⟨⟨ar,[],hC3,rfl,Qm _,by have:=HA.out;omega,by have:=HA.out;omega⟩,Turned.refl _ _⟩;have HW3:=hid hw3;clear hmap hkp hC3;rw [←hw3];clear hw3
   go_loopg [42] n (fun q i wr=>∃ j:Nat,Hid (j+q=n)∧j≤n∧i = .int .i64 j∧Hid (GoodL sl ar Ls (w.heap.size+1+1) (w.heap.size+1) w3 j wr))
   case atStart=>exact ⟨0,Nat.zero_add _,Nat.zero_le _,rfl,HL3⟩
   case round=>
    obtain ⟨j,HG,hj,rfl,HL⟩:=hrel;obtain ⟨⟨k,had,C,hrun,hfew,hk0,hk8⟩,T⟩:=HL.out;have HCr:=hid C;have HRUN:=hid hrun;have HTr:=hid T;have HK:=hid (And.intro hfew (And.intro hk0 hk8));have HB0:=hid ((T.block _ (zL HC0.out) (by omega)).trans HC0.out);clear C hrun hfew hk0 hk8 T;have HNC:=HA.out
    by_cases hjn:j < n
    · have dj:decide ((j:Int) < (n:Int))=true:=decide_eq_true (by omega)
      obtain ⟨s,hsj⟩:∃ s,Ls[j]? = some s:=⟨_,Qa (by have:=HN.out;omega)⟩;have hsm:=HS.out s (Qf hsj);obtain ⟨g,cap',hcv⟩:=HR.out.shape_pos (by omega)
      injection hcv with e1 _ e2
      subst e1 e2;have hrw:=(HR.out.turned0 HT3.out).turned HTr.out (fun q hq e=>by have:=HR.out.lt q hq;omega);have hcells:=step_cells (i:=j) (s:=s) (by have:=hrw;rw [HN.out] at this;exact this) hsj;obtain ⟨e0,e1,e2,e3,e4,e5⟩:=hcells;have HSM:=hid hsm
      have HDROP:Hid (Ls.drop j=s :: Ls.drop (j+1)):=by
       obtain ⟨hl,he⟩:=Qg.1 hsj;show Ls.drop j=_;rw [←he];exact List.drop_eq_getElem_cons hl
      clear hsm hrw hsj;obtain ⟨r0,r1,r2,r3,_⟩:=cells4 HB0.out;obtain ⟨z0,z1⟩:=cells2 HCr.out.b;have TA:=(Turned.refl (fun _=>False) wr).alloc (.cells #[.string s.op,.int .i64 s.a,.int .i64 s.b,.int .i64 s.c,.int .i64 s.n,.string s.name] 139);obtain ⟨za0,za1⟩:=cells2 (HCr.out.turned0 TA).b;obtain ⟨ra0,ra1,ra2,ra3,_⟩:=cells4 ((TA.bt HB0.out));clear TA
      have hneg:¬ ((j:Int) < 0):=by omega
      by_cases hjk:(j:Int) < k
      · have dk:decide (k≤(j:Int))=false:=decide_eq_false (by omega)
        cases hr:oneC sl j k had s with
        | none=>
         have HR1:=hid hr;exfalso
         have hfal:true=false:=by
          rw [HB.out,HRUN.out,HDROP.out,runC,if_pos hjk,hr];rfl
         cases hfal
        | some c=>
         have HR1:=hid hr
         have HST:Hid (runC sl Ls 0 ar []=runC sl (Ls.drop (j+1)) (j+1) c.1 c.2):=by
          show _=_;rw [HRUN.out,HDROP.out,runC,if_pos hjk,hr]
         have HFEW:=hid (oneC_few HSM.out.2 hr);clear hr
         go_wp2_with (go_at_call 149;(with_reducible refine (one149T (HCr.out.turned0 ((Turned.refl _ wr).alloc _)) (by have:=HK.out;omega) (by have:=HK.out;omega) HSM.out.1 HSM.out.2 HR1.out).mono ?_);rintro e W1 ⟨rfl,C1,T1⟩;have HC1:=hid C1;have HT1:=hid ((((Turned.refl _ wr).alloc (.cells #[.string s.op,.int .i64 s.a,.int .i64 s.b,.int .i64 s.c,.int .i64 s.n,.string s.name] 139)).trans T1));clear C1 T1)
         go_roundg (gk - 1)
         case measure=>have:=HG.out;omega
         case rel=>exact ⟨j+1,show _=_ by have:=HG.out;omega,by omega,by go_num,⟨⟨c.1,c.2,HC1.out,HST.out,by have:=HK.out;have:=HFEW.out;omega,by have:=HK.out;have:=HFEW.out;omega,by have:=HK.out;have:=HFEW.out;omega⟩,HTr.out.trans HT1.out⟩⟩
      · have dk:decide (k≤(j:Int))=true:=decide_eq_true (by omega)
        exfalso
        have hfal:true=false:=by
         rw [HB.out,HRUN.out,HDROP.out,runC,if_neg hjk];rfl
        cases hfal
    · obtain rfl:j=n:=by omega
      have dj:decide ((j:Int) < (j:Int))=false:=decide_eq_false (by omega)
      have HEND:Hid (true=(decide (k=(j:Int)) && decide ((had.length:Int)=sl))):=by
       show _=_;rw [HB.out,HRUN.out,List.drop_eq_nil_of_le (by have:=HN.out;omega)];rfl
      have HLEN:=hid (fun W (T:Turned zN wr W)=>(HCr.out.turned0 T).m.len Try.underlying145);have HCK:=hid (fun W (T:Turned zN wr W)=>(HCr.out.turned0 T).b);have HCB:=hid (fun W (T:Turned zN wr W)=>(T.bt HB0.out));have HTE:=hid (HT3.out.step HTr.out (fun i hi e=>by omega))
      by_cases q1:k=(j:Int)
      · have b1:(k == (j:Int))=true:=by simp [q1]
        by_cases q2:(had.length:Int)=sl
        · have b2:((had.length:Int) == sl)=true:=by simp [q2]
          have HE2:Hid (true=true):=rfl;clear q1 q2
          go_wp2_with fail
          refine wp_region_ssa' (G:=(fun dd vv W=>(match dd with | 62=>vv = .pointer (some ⟨w.heap.size+1+1,0,none⟩) | 63=>vv = .pointer (some ⟨w.heap.size+1+1,0,none⟩) | 64=>vv = .pointer (some ⟨w.heap.size+1+1,0,none⟩) | 65=>vv = .int .i64 k | 66=>vv = .pointer (some ⟨w.heap.size,2,none⟩) | 67=>vv = .int .i64 j | 68=>vv = .bool true | 69=>vv = .bool true | 70=>vv = .pointer (some ⟨w.heap.size+1+1,0,none⟩) | 71=>vv = .pointer (some ⟨w.heap.size+1+1,0,none⟩) | 72=>vv = .pointer (some ⟨w.heap.size+1+1,1,none⟩) | 73=>vv = .map (some (w.heap.size+1)) | 74=>vv = .int .i64 had.length | 75=>vv = .pointer (some ⟨w.heap.size,1,none⟩) | 76=>vv = .int .i64 sl | 77=>vv = .bool true | 78=>vv = .bool true | 2=>vv = .bool true  | _=>True:Prop))) [62,63,64,65,66,67,68,69,70,71,72,73,74,75,76,77,78,2] (by kernel_rfl) rfl (by kernel_rfl) ?hG ?hs ?hQ
          case hG=>exact fun d v _ _ _ h=>h
          case hs=>
           refine ⟨?s0,?s1,?s2,?s3,?s4,?s5,?s6,?s7,?s8,?s9,?s10,?s11,?s12,?s13,?s14,?s15,?s16,?s17,trivial⟩
           case s0=>refine zO [] [3] fun ac W hT hI hO=>?_;simp only [execOp,Act.eval,hO 3 (by simp)];go_simp;try exact tq
           case s1=>refine zO [62] [] fun ac W hT hI hO=>?_;have h62:_=_:=hI 62 (by simp);simp only [execOp,Act.eval,h62];go_simp;try exact tq
           case s2=>refine zO [63] [] fun ac W hT hI hO=>?_;have h63:_=_:=hI 63 (by simp);simp only [execOp,Act.eval,h63];go_simp;try exact tq
           case s3=>refine zO [64] [] fun ac W hT hI hO=>?_;have h64:_=_:=hI 64 (by simp);obtain ⟨k0,k1⟩:=cells2 (HCK.out W hT);simp only [execOp,Act.eval,h64];go_simp;try exact tq
           case s4=>refine zO [] [1] fun ac W hT hI hO=>?_;simp only [execOp,Act.eval,hO 1 (by simp)];go_simp;try exact tq
           case s5=>refine zO [66] [] fun ac W hT hI hO=>?_;have h66:_=_:=hI 66 (by simp);obtain ⟨k0,k1,k2,k3,_⟩:=cells4 (HCB.out W hT);simp only [execOp,Act.eval,h66];go_simp;try exact tq
           case s6=>refine zO [65,67] [] fun ac W hT hI hO=>?_;have h65:_=_:=hI 65 (by simp);have h67:_=_:=hI 67 (by simp);simp only [execOp,Act.eval,h65,h67];go_simp;try exact tq
           case s7=>refine zO [68] [] fun ac W hT hI hO=>?_;have h68:_=_:=hI 68 (by simp);simp only [execOp,Act.eval,h68];go_simp;try exact tq
           case s8=>
            refine stepOk_guard [69] [3] (by kernel_rfl) 7 true 69 rfl rfl (by simp) true true (fun _ _ h=>h) (fun hc=>?_) (fun hc=>by cases hc);intro ac W hT hI hO;simp only [execOp,Act.eval,hO 3 (by simp)];go_simp
            try exact tq
           case s9=>
            refine stepOk_guard [70,69] [] (by kernel_rfl) 7 true 69 rfl rfl (by simp) true true (fun _ _ h=>h) (fun hc=>?_) (fun hc=>by cases hc);intro ac W hT hI hO;have h70:_=_:=hI 70 (by simp);simp only [execOp,Act.eval,h70];go_simp
            try exact tq
           case s10=>
            refine stepOk_guard [71,69] [] (by kernel_rfl) 7 true 69 rfl rfl (by simp) true true (fun _ _ h=>h) (fun hc=>?_) (fun hc=>by cases hc);intro ac W hT hI hO;have h71:_=_:=hI 71 (by simp);simp only [execOp,Act.eval,h71];go_simp
            try exact tq
           case s11=>
            refine stepOk_guard [72,69] [] (by kernel_rfl) 7 true 69 rfl rfl (by simp) true true (fun _ _ h=>h) (fun hc=>?_) (fun hc=>by cases hc);intro ac W hT hI hO;have h72:_=_:=hI 72 (by simp);obtain ⟨k0,k1⟩:=cells2 (HCK.out W hT);simp only [execOp,Act.eval,h72];go_simp
            try exact tq
           case s12=>
            refine stepOk_guard [73,69] [] (by kernel_rfl) 7 true 69 rfl rfl (by simp) true true (fun _ _ h=>h) (fun hc=>?_) (fun hc=>by cases hc);intro ac W hT hI hO;have h73:_=_:=hI 73 (by simp);have hln:=HLEN.out W hT;simp only [execOp,Act.eval,h73];go_simp
            try exact tq
           case s13=>
            refine stepOk_guard [69] [1] (by kernel_rfl) 7 true 69 rfl rfl (by simp) true true (fun _ _ h=>h) (fun hc=>?_) (fun hc=>by cases hc);intro ac W hT hI hO;simp only [execOp,Act.eval,hO 1 (by simp)];go_simp
            try exact tq
           case s14=>
            refine stepOk_guard [75,69] [] (by kernel_rfl) 7 true 69 rfl rfl (by simp) true true (fun _ _ h=>h) (fun hc=>?_) (fun hc=>by cases hc);intro ac W hT hI hO;have h75:_=_:=hI 75 (by simp);obtain ⟨k0,k1,k2,k3,_⟩:=cells4 (HCB.out W hT);simp only [execOp,Act.eval,h75];go_simp
            try exact tq
           case s15=>
            refine stepOk_guard [74,76,69] [] (by kernel_rfl) 7 true 69 rfl rfl (by simp) true true (fun _ _ h=>h) (fun hc=>?_) (fun hc=>by cases hc);intro ac W hT hI hO;have h74:_=_:=hI 74 (by simp);have h76:_=_:=hI 76 (by simp);simp only [execOp,Act.eval,h74,h76];go_simp
            try exact tq
           case s16=>refine zO [69,77] [] fun ac W hT hI hO=>?_;have h69:_=_:=hI 69 (by simp);have h77:_=_:=hI 77 (by simp);simp only [execOp,Act.eval,h69,h77];go_simp;try exact tq
           case s17=>
            refine zO [78] [] fun ac W hT hI hO=>?_;have h78:_=_:=hI 78 (by simp);simp only [execOp,Act.eval,h78];go_simp
            try exact tq
          case hQ=>
           intro vs W9 T9 hV;have q2:vs 2 = .bool true:=hV 2 (by simp);simp only [Qq,List.foldl_nil,Qk,Qs,Qr,q2];have HT9:=hid T9;clear hV q2 T9
           go_wp2_with fail
           go_ret;exact ⟨rfl,HTE.out.trans HT9.out⟩
        · exfalso
          have h:=HEND.out;rw [decide_eq_true q1,decide_eq_false q2] at h
          cases h
      · exfalso
        have h:=HEND.out;rw [decide_eq_false q1] at h
        cases h
 · exfalso
   unfold goodC at hgood;rw [if_neg (by first | exact hc | (intro c;exact hc c))] at hgood
   cases hgood
end Go.Proofs.Ytoihjobdfjajfaa
namespace Go.Proofs.Ytoihjobdfjajfaa
open Go.RowKit Go.Maps
open Tm (Stp sVar sVal sInt sAtom sComp cb met steps stepX reg)
theorem turned_cell' (W:World) (g j:Nat) (v:Value):Turned (fun k=>k=g) W (W.setCell ⟨g,j,none⟩ v):=
 (Turned.refl (fun k=>k=g) W).setCell (p:=⟨g,j,none⟩) (.inr rfl) v
def slotF (vs:List Int):Int→Option Value:=fun n=>if n∈vs then some (.int .i64 (Tm.posOf vs n)) else none
theorem slotF_nil:slotF []=fun _=>none:=by funext i;unfold slotF;simp
theorem slotF_snoc {vs:List Int} {v:Int} (h:v∉vs):upd (slotF vs) v (.int .i64 vs.length)=slotF (vs++[v]):=by
 funext n
 unfold upd slotF Tm.posOf
 by_cases e:n=v
 · subst e
   rw [if_pos rfl,if_pos (by simp),List.idxOf_append,if_neg h];simp
 · rw [if_neg e]
   by_cases hm:n∈vs
   · rw [if_pos hm,if_pos (Qc _ hm),List.idxOf_append,if_pos hm]
   · rw [if_neg hm,if_neg (by simp [hm,e])]
theorem slotF_none {vs:List Int} {v:Int} (h:v∉vs):(slotF vs v).isSome=false:=by unfold slotF;rw [if_neg h];rfl
theorem slotF_get {vs:List Int} {v:Int} (h:v∈vs):(slotF vs v).getD (.int .i64 0) = .int .i64 (Tm.posOf vs v):=by unfold slotF;rw [if_pos h];rfl
theorem zero3 (w:World):(zeroValue 3).run Try.prog w = .ok (.int .i64 0) w:=by kernel_rfl
theorem slotLook {w:World} {mb n:Nat} {vs:List Int} {v:Int} (h:IMap Try.prog 2 w mb n (slotF vs)) (hv:v∈vs) (h64:I64 v):(Instr.lookup 172 (.map (some mb)) (.int .i64 v) false).run Try.prog w = .ok (.int .i64 (Tm.posOf vs v)) w:=by
 rw [h.look law2 Try.underlying172 (zero3 _) (key2 h64),slotF_get hv]
theorem term_cells {w:World} {l:List LT} {n g cap i:Nat} {x:LT} (h:Row w 27 4 (.slice (some ⟨g,0,none⟩) n cap) n (l.flatMap LT.cells)) (hi:l[i]? = some x) :
 w.cell? ⟨g,i * 4,none⟩=some (.int .i64 x.kind)∧w.cell? ⟨g,i * 4+1,none⟩=some (.int .i64 x.n)∧w.cell? ⟨g,i * 4+2,none⟩=some (.string x.name)∧w.cell? ⟨g,i * 4+3,none⟩=some (.slice x.at_.1 x.args.length x.at_.2):=by
 have hc:=h.cells rfl;refine ⟨hc _ _ (by have:=LT.flat_at hi 0 (by omega);rw [Nat.add_zero] at this;rw [this,LT.cells_eq];rfl),hc _ _ (by rw [LT.flat_at hi 1 (by omega),LT.cells_eq];rfl),hc _ _ (by rw [LT.flat_at hi 2 (by omega),LT.cells_eq];rfl),hc _ _ (by rw [LT.flat_at hi 3 (by omega),LT.cells_eq];rfl)⟩
def metS (t:LT) (i:Nat):List Int:=(met t.args i).map fun n=>(Tm.posOf t.vars n:Int)
structure HeadI (t:LT) (cbk mb hb i:Nat) (sv:Value) (w wr:World):Prop where
 slots:IMap Try.prog 2 wr mb t.vars.length (slotF t.vars)
 had:IMap Try.prog 3 wr hb (metS t i).length (hadF (metS t i))
 regs:Row wr 27 4 sv (cb t.args i) ((reg t.args i).flatMap LT.cells)
 ins:t.In (fun k=>k < w.heap.size) wr
 code:∃ lv,wr.heap[cbk]? = some (.cells #[.int .i64 t.args.length,.int .i64 t.vars.length,.int .i64 0,lv] 104 (0,0))∧Row wr 139 6 lv i ((steps t.vars t.args i).flatMap stC)∧∀ k,lv.ownBlock=some k→w.heap.size≤k∧k≠cbk∧k≠mb∧k≠hb∧sv.ownBlock≠some k
 own:∀ k,sv.ownBlock=some k→w.heap.size≤k∧k≠cbk∧k≠mb∧k≠hb
 ne:w.heap.size≤cbk∧w.heap.size≤mb∧w.heap.size≤hb∧cbk≠mb∧cbk≠hb∧mb≠hb
 t:Turned zN w wr
theorem HeadI.turned0 {t:LT} {cbk mb hb i:Nat} {sv:Value} {w wr w':World} (h:HeadI t cbk mb hb i sv w wr) (T:Turned zN wr w'):HeadI t cbk mb hb i sv w w':=by
 obtain ⟨lv,h1,h2,h3⟩:=h.code;exact ⟨h.slots.turned T (fun f=>f),h.had.turned T (fun f=>f),h.regs.turned0 T,h.ins.turned0 T,⟨lv,(T.bt h1),h2.turned0 T,h3⟩,h.own,h.ne,h.t.trans T⟩
theorem Tm.cb_le' {α:Type} {l:List (Tm α)} {i:Nat} (h:i≤Tm.sizes l):Tm.cb l i≤Tm.sizes l:=by
 have h1:=Tm.reg_le l h;have h2:=Tm.regs_length l;unfold Tm.regs at h2;unfold Tm.cb;omega
structure HeadM (t:LT) (cbk mb hb i:Nat) (sv lv:Value) (w wr:World):Prop where
 slots:IMap Try.prog 2 wr mb t.vars.length (slotF t.vars)
 had:IMap Try.prog 3 wr hb (metS t (i+1)).length (hadF (metS t (i+1)))
 regs:Row wr 27 4 sv (cb t.args (i+1)) ((reg t.args (i+1)).flatMap LT.cells)
 ins:t.In (fun k=>k < w.heap.size) wr
 c:wr.heap[cbk]? = some (.cells #[.int .i64 t.args.length,.int .i64 t.vars.length,.int .i64 0,lv] 104 (0,0))
 row:Row wr 139 6 lv i ((steps t.vars t.args i).flatMap stC)
 lvo:∀ k,lv.ownBlock=some k→w.heap.size≤k∧k≠cbk∧k≠mb∧k≠hb∧sv.ownBlock≠some k
 own:∀ k,sv.ownBlock=some k→w.heap.size≤k∧k≠cbk∧k≠mb∧k≠hb
 ne:w.heap.size≤cbk∧w.heap.size≤mb∧w.heap.size≤hb∧cbk≠mb∧cbk≠hb∧mb≠hb
 t:Turned zN w wr
section
variable {t:LT} {cbk mb hb i:Nat} {sv sv' lv lv':Value} {w wr W W':World}
theorem HeadM.turned0 (h:HeadM t cbk mb hb i sv lv w wr) (T:Turned zN wr W):HeadM t cbk mb hb i sv lv w W:=
 ⟨h.slots.turned T (fun f=>f),h.had.turned T (fun f=>f),h.regs.turned0 T,h.ins.turned0 T,(T.bt h.c),h.row.turned0 T,h.lvo,h.own,h.ne,h.t.trans T⟩
theorem HeadI.mid (h:HeadI t cbk mb hb i sv w wr) (hc:wr.heap[cbk]? = some (.cells #[.int .i64 t.args.length,.int .i64 t.vars.length,.int .i64 0,lv] 104 (0,0))) (hl:Row wr 139 6 lv i ((steps t.vars t.args i).flatMap stC)) (hlo:∀ k,lv.ownBlock=some k→w.heap.size≤k∧k≠cbk∧k≠mb∧k≠hb∧sv.ownBlock≠some k)
 (T:Turned (fun k=>k=hb∨sv.ownBlock=some k) wr W) (hhad:IMap Try.prog 3 W hb (metS t (i+1)).length (hadF (metS t (i+1)))) (hregs:Row W 27 4 sv' (cb t.args (i+1)) ((reg t.args (i+1)).flatMap LT.cells)) (ho:sv'.ownBlock=sv.ownBlock∨∀ k,sv'.ownBlock=some k→wr.heap.size≤k):HeadM t cbk mb hb i sv' lv w W:=by
 obtain ⟨n1,n2,n3,n4,n5,n6⟩:=h.ne;have lc:=(zL hc);have lm:=h.slots.lt;have lh:=h.had.lt;refine ⟨h.slots.turned T (fun c=>c.elim n6 (fun c=>(h.own _ c).2.2.1 rfl)),hhad,hregs,?_,(T.block _ lc (fun c=>c.elim n5 (fun c=>(h.own _ c).2.1 rfl))).trans hc,hl.turned T (fun k hk c=>c.elim (fun c=>(hlo k hk).2.2.2.1 c) (fun c=>(hlo k hk).2.2.2.2 c)),fun k hk=>⟨(hlo k hk).1,(hlo k hk).2.1,(hlo k hk).2.2.1,(hlo k hk).2.2.2.1,fun c=>?_⟩,fun k hk=>?_,h.ne,h.t.step T (fun k hk c=>c.elim (fun c=>by omega) (fun c=>by have:=(h.own k c).1;omega))⟩
 · refine LT.In.turned T (fun k hk hp c=>?_) (fun k hk hp=>hp) t h.ins
   rcases c with c | c
   · omega
   · have:=(h.own k c).1;omega
 · rcases ho with ho | ho
   · exact (hlo k hk).2.2.2.2 (ho ▸ c)
   · have:=ho k c;have:=hl.lt k hk;omega
 · rcases ho with ho | ho
   · exact h.own k (ho ▸ hk)
   · have:=ho k hk
     exact ⟨by have:=h.t.size;omega,by omega,by omega,by omega⟩
theorem HeadM.next (h:HeadM t cbk mb hb i sv lv w wr) {s:Stp} (hs:steps t.vars t.args (i+1)=steps t.vars t.args i++[s]) (T:Turned (fun k=>lv.ownBlock=some k) wr W) (hr:Row W 139 6 lv' (i+1) ((steps t.vars t.args i).flatMap stC++stC s)) (ho:lv'.ownBlock=lv.ownBlock∨∀ k,lv'.ownBlock=some k→wr.heap.size≤k)
 (T':Turned (fun k=>k=cbk) W W') (hc:W'.heap[cbk]? = some (.cells #[.int .i64 t.args.length,.int .i64 t.vars.length,.int .i64 0,lv'] 104 (0,0))):HeadI t cbk mb hb (i+1) sv w W':=by
 obtain ⟨n1,n2,n3,n4,n5,n6⟩:=h.ne;have lc:=(zL h.c);have lm:=h.slots.lt;have lh:=h.had.lt
 have hlo':∀ k,lv'.ownBlock=some k→w.heap.size≤k∧k≠cbk∧k≠mb∧k≠hb∧sv.ownBlock≠some k:=by
  intro k hk
  rcases ho with ho | ho
  · exact h.lvo k (ho ▸ hk)
  · have:=ho k hk
    exact ⟨by have:=h.t.size;omega,by omega,by omega,by omega,fun c=>by have:=h.regs.lt k c;omega⟩
 have TT:Turned (fun k=>k=cbk∨lv.ownBlock=some k) wr W':=(T.mono (fun k _ c=>.inr c)).trans (T'.mono (fun k _ c=>.inl c));refine ⟨h.slots.turned TT (fun c=>c.elim (fun c=>n4 c.symm) (fun c=>(h.lvo _ c).2.2.1 rfl)),h.had.turned TT (fun c=>c.elim (fun c=>n5 c.symm) (fun c=>(h.lvo _ c).2.2.2.1 rfl)),h.regs.turned TT (fun k hk c=>c.elim (fun c=>(h.own k hk).2.1 c) (fun c=>(h.lvo k c).2.2.2.2 hk)),?_,⟨lv',hc,?_,hlo'⟩,h.own,h.ne,h.t.step TT (fun k hk c=>c.elim (fun c=>by omega) (fun c=>by have:=(h.lvo k c).1;omega))⟩
 · refine LT.In.turned TT (fun k hk hp c=>?_) (fun k hk hp=>hp) t h.ins
   rcases c with c | c
   · omega
   · have:=(h.lvo k c).1;omega
 · rw [hs,List.flatMap_append]
   have:Row W' 139 6 lv' (i+1) ((steps t.vars t.args i).flatMap stC++stC s):=hr.turned T' (fun k hk c=>(hlo' k hk).2.1 c);simpa using this
end
theorem reg_facts {t x:LT} {i:Nat} {w:World} {p:Nat→Prop} (ht:t.In p w) (hg:goodB t=true) (hi:i < Tm.sizes t.args) (hx:(reg t.args i)[i]? = some x) :
 x.In p w∧goodOneB x=true∧(Tm.regs t.args)[i]? = some x∧reg t.args (i+1)=reg t.args i++x.args∧cb t.args (i+1)=cb t.args i+x.args.length∧(x.kind=0→x.n∈t.vars)∧cb t.args i≤2000∧x.args.length≤8:=by
 obtain ⟨y,h1,h2,h3⟩:=Tm.regs_some hi
 rw [hx] at h2;injection h2 with h2;subst h2
 have hm:x∈t.flat:=by rw [Tm.flat_eq];exact Qb _ (Tm.regs_flats x (Qf h1))
 have h:=hg;unfold goodB at h;simp only [Qd,decide_eq_true_eq,Qt] at h;have hs:=h.1;rw [Tm.size_eq] at hs;have hc:=Tm.cb_le' (l:=t.args) (i:=i) (by omega);refine ⟨LT.In.flat t ht x hm,h.2.2 x hm,h1,h3,(Tm.cb_next h1).1,fun h0=>(Tm.mem_fold _ _ _).2 (.inr ⟨x,hm,h0,rfl⟩),by omega,?_⟩
 by_cases ha:x.args=[]
 · rw [ha];exact Nat.zero_le _
 · exact (Tm.one_args (h.2.2 x hm) ha).2.2
theorem vars_few {t:LT} (hg:goodB t=true):t.vars.length≤2000:=by
 have h:=hg;unfold goodB at h;simp only [Qd,decide_eq_true_eq,Qt] at h;have hs:=h.1
 have:∀ (l:List LT) (vs:List Int),(l.foldl Tm.addVar vs).length≤vs.length+l.length:=by
  intro l
  induction l with
  | nil=>intro vs;simp
  | cons y l ih=>
   intro vs;rw [Qq,QB];have:=ih (Tm.addVar vs y)
   have h2:(Tm.addVar vs y).length≤vs.length+1:=by unfold Tm.addVar;split <;> simp
   omega
 have h3:=this t.flat [];rw [Tm.flat_length] at h3;unfold Tm.vars;simp at h3;omega
theorem metS_mem {t:LT} {i:Nat} {v:Int} (hv:v∈t.vars):(Tm.posOf t.vars v:Int)∈metS t i↔v∈met t.args i:=by
 unfold metS;constructor
 · intro h
   obtain ⟨u,hu,e⟩:=List.mem_map.1 h;have e':Tm.posOf t.vars u=Tm.posOf t.vars v:=Int.ofNat.inj e
   have huv:u∈t.vars:=by
    obtain ⟨y,hy,h0,rfl⟩:=Tm.mem_met hu;exact (Tm.mem_fold _ _ _).2 (.inr ⟨_,by rw [Tm.flat_eq];exact Qb _ hy,h0,rfl⟩)
   have p1:=Tm.posOf_mem huv;have p2:=Tm.posOf_mem hv;rw [e',p2] at p1
   injection p1 with p1
   rw [p1];exact hu
 · exact fun h=>List.mem_map.2 ⟨_,h,rfl⟩
theorem metS_next {t x:LT} {i:Nat} (hx:(Tm.regs t.args)[i]? = some x):metS t (i+1)=if x.kind=0∧x.n∉met t.args i then metS t i++[(Tm.posOf t.vars x.n:Int)] else metS t i:=by
 unfold metS;rw [Tm.met_succ hx];unfold Tm.addVar
 split
 · rw [List.map_append];rfl
 · rfl
theorem metS_few {t:LT} {i:Nat} (hg:goodB t=true) (hi:i≤Tm.sizes t.args):(metS t i).length≤2000:=by
 unfold metS;rw [Qu];unfold met
 have:∀ (l:List LT) (vs:List Int),(l.foldl Tm.addVar vs).length≤vs.length+l.length:=by
  intro l
  induction l with
  | nil=>intro vs;simp
  | cons y l ih=>
   intro vs;rw [Qq,QB];have:=ih (Tm.addVar vs y)
   have h2:(Tm.addVar vs y).length≤vs.length+1:=by unfold Tm.addVar;split <;> simp
   omega
 have h3:=this ((Tm.regs t.args).take i) [];have h4:((Tm.regs t.args).take i).length≤i:=List.length_take_le _ _;have h:=hg;unfold goodB at h;simp only [Qd,decide_eq_true_eq,Qt] at h;have hs:=h.1;rw [Tm.size_eq] at hs;simp at h3;simp at h4;omega
end Go.Proofs.Ytoihjobdfjajfaa
namespace Go.Proofs.Ytoihjobdfjajfaa
open Go.RowKit Go.Maps
open Tm (Stp sVar sVal sInt sAtom sComp cb met steps stepX stepAt goodC)
theorem small_ops:sVar.size≤maxLen∧sVal.size≤maxLen∧sInt.size≤maxLen∧sAtom.size≤maxLen∧sComp.size≤maxLen:=by
 unfold maxLen;decide
theorem step_ok {t x:LT} {p:Nat→Prop} {w:World} {i:Nat} (ht:t.In p w) (hg:goodB t=true) (hx:(Tm.regs t.args)[i]? = some x):stOk (stepX t.vars t.args i x)∧opOk (stepX t.vars t.args i x):=by
 have hm:x∈t.flat:=by rw [Tm.flat_eq];exact Qb _ (Tm.regs_flats x (Qf hx))
 have hxin:=LT.In.flat t ht x hm;have h:=hg;unfold goodB at h;simp only [Qd,decide_eq_true_eq,Qt] at h;have hone:=h.2.2 x hm;have hs:=h.1;rw [Tm.size_eq] at hs
 have hi:i < Tm.sizes t.args:=by have:=(Qg.1 hx).1;rw [Tm.regs_length] at this;exact this
 have hcb:=Tm.cb_le' (l:=t.args) (i:=i) (by omega);have hvf:=vars_few hg;obtain ⟨z1,z2,z3,z4,z5⟩:=small_ops;obtain ⟨n1,n2,n3,n4,n5,n6,n7,n8,n9,n10⟩:=Tm.ne_ops
 have he:ByteArray.empty.size≤maxLen:=by unfold maxLen;decide
 unfold stepX
 by_cases h0:x.kind=0
 · have hv:x.n∈t.vars:=(Tm.mem_fold _ _ _).2 (.inr ⟨x,hm,h0,rfl⟩)
   have hp:=List.idxOf_lt_length_of_mem hv;rw [if_pos h0];refine ⟨⟨?_,by simp only [];unfold I64;omega,by simp only [];unfold I64 Tm.posOf;omega,by simp only [];unfold I64;omega,by simp only [];unfold I64;omega,he⟩,?_,fun c=>?_⟩
   · simp only [];split <;> assumption
   · simp only [];split <;> simp
   · simp only [] at c
     split at c
     · exact absurd c.symm n8
     · exact absurd c.symm n7
 · rw [if_neg h0]
   by_cases h1:x.kind=1
   · rw [if_pos h1]
     exact ⟨⟨z3,by simp only [];unfold I64;omega,by simp only [];unfold I64;omega,by simp only [];unfold I64;omega,hxin.n,he⟩,.inr (.inr (.inl rfl)),fun c=>absurd c.symm n9⟩
   · have h2:x.kind=2:=by
      by_cases h2:x.kind=2
      · exact h2
      · rw [goodOneB_3 x h0 h1 h2] at hone;cases hone
     rw [goodOneB_2 x h2] at hone;simp only [Qd,decide_eq_true_eq] at hone;rw [if_neg h1]
     by_cases ha:x.args.length=0
     · rw [if_pos ha]
       exact ⟨⟨z4,by simp only [];unfold I64;omega,by simp only [];unfold I64;omega,by simp only [];unfold I64;omega,by simp only [];unfold I64;omega,hxin.name⟩,.inr (.inr (.inr (.inl rfl))),fun c=>absurd c.symm n10⟩
     · rw [if_neg ha]
       exact ⟨⟨z5,by simp only [];unfold I64;omega,by simp only [];unfold I64;omega,by simp only [];unfold I64;omega,by simp only [];unfold I64;omega,hxin.name⟩,.inr (.inr (.inr (.inr rfl))),fun _=>⟨by simp only [];omega,by simp only [];omega⟩⟩
theorem steps_ok {t:LT} {p:Nat→Prop} {w:World} {k:Nat} (ht:t.In p w) (hg:goodB t=true) (hk:k≤Tm.sizes t.args):∀ s∈steps t.vars t.args k,stOk s∧opOk s:=by
 intro s hs;unfold steps at hs;obtain ⟨i,hi,rfl⟩:=List.mem_map.1 hs;rw [List.mem_range] at hi;obtain ⟨x,hx,_,_⟩:=Tm.regs_some (l:=t.args) (i:=i) (by omega);unfold stepAt;rw [hx];exact step_ok ht hg hx
theorem goodHead95 {t:LT} {p:Nat→Prop} {w:World} {lv:Value} (ht:t.In p w) (hg:goodB t=true) (hk:t.kind=2) (hr:Row w 139 6 lv (Tm.sizes t.args) ((steps t.vars t.args (Tm.sizes t.args)).flatMap stC)) :
 Calls Try.prog 95 #[.agg #[.int .i64 t.args.length,.int .i64 t.vars.length,.int .i64 (Tm.sizes t.args),lv]] w fun e w'=>e = .returned (.bool true)∧Turned zN w w':=by
 have hl:=Tm.steps_length t.vars t.args (Tm.sizes t.args);have h:=hg;unfold goodB at h;simp only [Qd,decide_eq_true_eq,Qt] at h;have hs:=h.1;rw [Tm.size_eq] at hs;have:=codeGoodT95 (ar:=t.args.length) (sl:=t.vars.length) (rg:=(Tm.sizes t.args:Int)) (lv:=lv) (Ls:=steps t.vars t.args (Tm.sizes t.args)) (w:=w) (by rw [hl];exact hr) (steps_ok ht hg (Qm _)) (by rw [hl];omega) (Tm.head_good hg hk);exact this
end Go.Proofs.Ytoihjobdfjajfaa
namespace Go.Proofs.Ytoihjobdfjajfaa
open Go.RowKit Go.Maps
theorem Row.moved {w W:World} {e:TypeId} {size n:Nat} {v:Value} {xs:List Value} (h:Row w e size v n xs) (hb:∀ g o,v.ownBlock=some g→w.heap[g]? = some o→W.heap[g]? = some o):Row W e size v n xs:=by
 refine ⟨h.1,?_⟩
 rcases h.2 with h2 | ⟨g,cap,cur,rfl,hg,h2⟩
 · exact .inl h2
 · exact .inr ⟨g,cap,cur,rfl,hb g _ rfl hg,h2⟩
theorem blanks_V (n:Nat):(blanks n).map Tm.bare=List.replicate n (Tm.V 0):=by
 unfold blanks;rw [List.map_replicate];rfl
theorem goodHead95' {t:LT} {p:Nat→Prop} {w w':World} {lv:Value} (ht:t.In p w') (hg:goodB t=true) (hk:t.kind=2) (hr:Row w 139 6 lv (Tm.sizes t.args) ((Tm.steps t.vars t.args (Tm.sizes t.args)).flatMap stC)) :
 Calls Try.prog 95 #[.agg #[.int .i64 t.args.length,.int .i64 t.vars.length,.int .i64 (Tm.sizes t.args),lv]] w fun e w'=>e = .returned (.bool true)∧Turned zN w w':=by
 have hl:=Tm.steps_length t.vars t.args (Tm.sizes t.args);have h:=hg;unfold goodB at h;simp only [Qd,decide_eq_true_eq,Qt] at h;have hs:=h.1;rw [Tm.size_eq] at hs;have:=codeGoodT95 (ar:=t.args.length) (sl:=t.vars.length) (rg:=(Tm.sizes t.args:Int)) (lv:=lv) (Ls:=Tm.steps t.vars t.args (Tm.sizes t.args)) (w:=w) (by rw [hl];exact hr) (steps_ok ht hg (Qm _)) (by rw [hl];omega) (Tm.head_good hg hk);exact this
end Go.Proofs.Ytoihjobdfjajfaa
namespace Go.Proofs.Ytoihjobdfjajfaa
open Lib (hid)
open Go.RowKit Go.Maps
open Tm (Stp sVar sVal sInt sAtom sComp cb met steps stepX reg)
theorem infoS:(Try.prog.info? 139).map (fun i=>(i.zero,i.size,i.bytes))=some (some (.agg #[.string ⟨#[]⟩,.int .i64 0,.int .i64 0,.int .i64 0,.int .i64 0,.string ⟨#[]⟩]),6,64):=by kernel_rfl
theorem row_ne_map {P:Program} {kt:TypeId} {w:World} {e:TypeId} {size n m b:Nat} {v:Value} {xs:List Value} {f:Int→Option Value} (h:Row w e size v n xs) (hm:IMap P kt w b m f):v.ownBlock≠some b:=by
 intro hv;obtain ⟨D,⟨es,clock,hb,_⟩,_⟩:=hm
 rcases h.2 with ⟨rfl,_⟩ | ⟨g,cap,cur,rfl,hg,_⟩
 · simp [Value.ownBlock] at hv
 · simp [Value.ownBlock] at hv
   subst hv;rw [hb] at hg
   injection hg with hg
   cases hg
set_option maxRecDepth 100000 in
theorem head93 {t:LT} {w:World} (ht:t.In (fun _=>True) w) (hg:goodB t=true) (hk:t.kind=2) :
 Calls Try.prog 93 #[.agg #[.int .i64 t.kind,.int .i64 t.n,.string t.name,.slice t.at_.1 t.args.length t.at_.2]] w fun e w'=>∃ lv:Value,e = .returned (.tuple #[.agg #[.int .i64 t.args.length,.int .i64 t.vars.length,.int .i64 (Tm.sizes t.args),lv],.int .i64 0])∧Row w' 139 6 lv (Tm.sizes t.args) ((steps t.vars t.args (Tm.sizes t.args)).flatMap stC)∧(∀ k,lv.ownBlock=some k→w.heap.size≤k)∧Turned zN w w':=by
 have hs:slim t:=good_slimB (by rw [goodB_bare];exact hg);have h2:=twoBox w (.cells #[.int .i64 t.kind,.int .i64 t.n,.string t.name,.slice t.at_.1 t.args.length t.at_.2] 27) (.cells #[.int .i64 0,.int .i64 0,.int .i64 0,.slice none 0 0] 104);obtain ⟨w2,hw2⟩:∃ z,z=(w.alloc (.cells #[.int .i64 t.kind,.int .i64 t.n,.string t.name,.slice t.at_.1 t.args.length t.at_.2] 27)).alloc (.cells #[.int .i64 0,.int .i64 0,.int .i64 0,.slice none 0 0] 104):=⟨_,rfl⟩;rw [←hw2] at h2;have HT2:=hid h2.1;have HB:=hid (fun W (T:Turned zN w2 W)=>(T.block _ (by have:=h2.2.1;omega) (fun f=>f)).trans h2.2.2.1);have HR:=hid (fun W (T:Turned zN w2 W)=>(T.block _ (by have:=h2.2.1;omega) (fun f=>f)).trans h2.2.2.2);have HX:=hid (ht.turned0 h2.1);have HW2:=hid hw2;have HSL:=hid hs;have HG:=hid hg;have HGB:=hid (show goodB t.bare=true by rw [goodB_bare];exact hg);have HZ:=hid h2.2.1;have dk:decide (t.kind≤1)=false:=decide_eq_false (by omega);have HK:=hid hk;clear h2 ht hs hw2 hg hk;have hmm:=@run_makeMap Try.prog;go_enter Try.func93,Try.ntmps93
 go_wp2_with (first
  | (go_at_call 38;rw [←HW2.out];(with_reducible refine (goodVal' HX.out HSL.out HG.out).mono ?_);rintro e w3 ⟨rfl,T3⟩;obtain ⟨b0,b1,b2,b3,_⟩:=cells4 (HB.out w3 T3);obtain ⟨bm0,bm1,bm2,bm3,_⟩:=cells4 (HB.out (w3.alloc (.map #[] 0)) (T3.trans ((Turned.refl _ w3).alloc _)));have HT3:=hid T3;clear T3)
  | (go_at_call 34;have T4:=HT3.out.trans ((Turned.refl _ w3).alloc (.map #[] 0));(with_reducible refine (varsVal (HX.out.turned0 T4) HGB.out).mono ?_);rintro e w5 ⟨va,vc,rfl,hvr,T5⟩;have HVR:=hid hvr;have HT5:=hid (T4.trans T5);have HM5:=hid ((IMap.made w3 Try.prog 2).turned T5 (fun f=>f));clear T4 T5 hvr))
 obtain ⟨n,hn⟩:∃ n,n=t.vars.length:=⟨_,rfl⟩;obtain ⟨mb,hmb⟩:∃ b,b=w3.heap.size:=⟨_,rfl⟩;rw [←hn,←hmb];have HN:=hid hn;have HF:=hid (show n≤2000 by rw [hn];exact vars_few HG.out)
 have HVR2:Hid (Row w5 2 1 (.slice va n vc) n (t.vars.map (Value.int .i64))):=by have:=HVR.out;rw [←hn] at this;exact this
 have HM52:Hid (IMap Try.prog 2 w5 mb 0 (slotF (t.vars.take 0))):=by show IMap _ _ _ _ _ _;rw [List.take_zero,slotF_nil,hmb];exact HM5.out
 have HMB:=hid (show w2.heap.size≤mb by rw [hmb];exact HT3.out.size);have HVN:=hid (row_ne_map HVR2.out HM52.out);clear hn hmb HVR HM5 b0 b1 b2 b3 bm0 bm1 bm2 bm3
 go_loopg [26] n (fun q i wr=>∃ j:Nat,Hid (j+q=n)∧j≤n∧i = .int .i64 j∧Hid (IMap Try.prog 2 wr mb j (slotF (t.vars.take j)))∧Hid (Turned (fun k=>k=mb) w5 wr))
 case atStart=>exact ⟨0,Nat.zero_add _,Nat.zero_le _,rfl,HM52,Turned.refl _ _⟩
 case round=>
  obtain ⟨j,HJ,hj,rfl,HM,HT⟩:=hrel
  by_cases hjn:j < n
  · have dj:decide ((j:Int) < (n:Int))=true:=decide_eq_true (by omega)
    have HJN:=hid hjn;have hn2:n≤2000:=HF.out;obtain ⟨v,hv⟩:∃ v,t.vars[j]? = some v:=⟨_,Qa (by have:=HN.out;omega)⟩;obtain ⟨g,cap',hcv⟩:=HVR2.out.shape_pos (by omega)
    injection hcv with e1 _ e2
    subst e1 e2;have hrw:=HVR2.out.turned HT.out (fun q hq e=>HVN.out (by rw [←e];exact hq));have hcell:=hrw.cells rfl j (.int .i64 v) (by rw [Qp,hv];rfl);have hvm:v∈t.vars:=Qf hv
    have h64:I64 v:=by
     obtain ⟨x,hx,h0,rfl⟩:=(Tm.vars_mem (t:=t.bare) v).1 (by rw [Tm.vars_bare];exact hvm);have hone:=Tm.good_ones' HGB.out x hx;rw [goodOneB_0 x h0] at hone;simp only [Qd,decide_eq_true_eq] at hone;unfold I64;omega
    have hnew:v∉t.vars.take j:=by
     intro c;obtain ⟨q,hq⟩:=List.mem_iff_getElem?.1 c;rw [List.getElem?_take] at hq
     split at hq
     · have h1:=Tm.posOf_at (Tm.vars_nodup t) hq
       have h2:=Tm.posOf_at (Tm.vars_nodup t) hv;omega
     · cases hq
    have HTK:Hid (upd (slotF (t.vars.take j)) v (.int .i64 j)=slotF (t.vars.take (j+1))):=by
     show _=_;obtain ⟨hl,he⟩:=Qg.1 hv;rw [List.take_succ_eq_append_getElem hl,he,←slotF_snoc hnew,List.length_take,Nat.min_eq_left (by omega)]
    have HNO:=hid (slotF_none hnew);have hkey:=key2 h64;clear hrw hv hvm h64 hnew
    go_wp2_with (at_mapUpdate;refine wpList_put rfl _ _ _ 172 rfl law2 Try.underlying172 rfl HM.out (by unfold maxLen;have:=HF.out;omega) rfl rfl hkey trivial ?_;intro w6 hm6 T6;have HM6:Hid (IMap Try.prog 2 w6 mb (j+1) (slotF (t.vars.take (j+1)))):=(by have q:=hm6;rw [HNO.out] at q;rw [←HTK.out];exact q);have HT6:=hid (HT.out.trans T6);clear hm6 T6)
    go_roundg (gk - 1)
    case measure=>have:=HJ.out;omega
    case rel=>exact ⟨j+1,show _=_ by have:=HJ.out;have:=HJN.out;omega,by have:=HJN.out;omega,by go_num,HM6,HT6⟩
  · obtain rfl:n=j:=by omega
    have hnv:=HN.out;clear HJ HN hj hjn;subst hnv;have dj:decide ((t.vars.length:Int) < (t.vars.length:Int))=false:=decide_eq_false (by omega);obtain ⟨wo,hwo⟩:∃ z,z=wr:=⟨_,rfl⟩;subst hwo
    have HMS:Hid (IMap Try.prog 2 wo mb t.vars.length (slotF t.vars)):=by have:=HM.out;rw [List.take_of_length_le (Qm _)] at this;exact this
    have HT6:Hid (Turned zN w2 wo):=HT5.out.step HT.out (fun i hi e=>by have:=HMB.out;omega);obtain ⟨b0,b1,b2,b3,_⟩:=cells4 (HB.out wo HT6.out)
    have hln:=fun ty=>HMS.out.len Try.underlying172 ty
    clear HM HT;have TM:=((Turned.refl (fun _=>False) wo).alloc (.cells #[.int .i64 t.args.length,.int .i64 t.vars.length,.int .i64 0,.slice none 0 0] 104)).alloc (.map #[] 0);have h7:=twoBox wo (.cells #[.int .i64 t.args.length,.int .i64 t.vars.length,.int .i64 0,.slice none 0 0] 104) (.map #[] 0);obtain ⟨w7,hw7⟩:∃ z,z=(wo.alloc (.cells #[.int .i64 t.args.length,.int .i64 t.vars.length,.int .i64 0,.slice none 0 0] 104)).alloc (.map #[] 0):=⟨_,rfl⟩
    have HHM:Hid (IMap Try.prog 3 w7 (wo.heap.size+1) 0 (fun _=>none)):=by
     have:=IMap.made (wo.alloc (.cells #[.int .i64 t.args.length,.int .i64 t.vars.length,.int .i64 0,.slice none 0 0] 104)) Try.prog 3;rw [show (wo.alloc (.cells #[.int .i64 t.args.length,.int .i64 t.vars.length,.int .i64 0,.slice none 0 0] 104)).heap.size=wo.heap.size+1 from by simp] at this;rw [hw7];exact this
    rw [←hw7] at h7 TM;obtain ⟨m0,m1,m2,m3,_⟩:=cells4 (HB.out w7 (HT6.out.trans TM));rw [hw7] at m0 m1 m2 m3;have HTM:=hid TM;have H7:=hid h7;have HW7:=hid hw7;have hcl:=clone128 (p:=fun _=>True) (LT.In.sl (HX.out.turned0 (HT6.out.trans TM))) (by have h:=HG.out;unfold goodB at h;simp only [Qd,decide_eq_true_eq,Qt] at h;have:=h.1;rw [Tm.size_eq] at this;have:=Tm.cb_le' (l:=t.args) (Nat.zero_le _);rw [Tm.cb_zero] at this;omega);have HCL:=hid hcl;clear h7 TM hw7 hcl
    go_wp2_with (go_at_call 128;rw [←HW7.out];(with_reducible refine HCL.out.mono ?_);rintro e w8 ⟨a8,c8,rfl,hr8,ho8,T8⟩;have HR8:=hid hr8;have HO8:=hid ho8;have HT8:=hid T8;clear hr8 ho8 T8)
    clear m0 m1 m2 m3 b0 b1 b2 b3 hln
    have HI0:Hid (HeadI t wo.heap.size mb (wo.heap.size+1) 0 (.slice a8 t.args.length c8) w2 w8):=by
     have hz:=H7.out.2.1;have hzo:=HT6.out.size;have h78:=HT8.out.size;have TZ:=(HT6.out.trans HTM.out).trans HT8.out;have hlm:=HMS.out.lt;refine ⟨HMS.out.turned (HTM.out.trans HT8.out) (fun f=>f),?_,HR8.out,?_,⟨.slice none 0 0,(HT8.out.block _ (by omega) (fun f=>f)).trans H7.out.2.2.1,Row.nil _ _ _,fun k hk=>by simp [Value.ownBlock] at hk⟩,fun k hk=>?_,⟨hzo,HMB.out,by omega,by omega,by omega,by omega⟩,TZ⟩
     · have:=HHM.out.turned HT8.out (fun f=>f)
       rw [←hadF_nil] at this;exact this
     · exact (HX.out.mono (fun k hk _=>hk)).turned0 TZ
     · have:=HO8.out k hk
       omega
    obtain ⟨S,hS⟩:∃ S,S=Tm.sizes t.args:=⟨_,rfl⟩;have HS:=hid hS
    have HSL2:Hid (S≤2000):=by
     have h:=HG.out;unfold goodB at h;simp only [Qd,decide_eq_true_eq,Qt] at h;have:=h.1;rw [Tm.size_eq] at this;show S≤2000;omega
    have HRB:=hid (fun W (T:Turned zN w2 W)=>HR.out W T);clear hS HR8 HO8 HHM H7 HW7
    go_loopg [9,10] S (fun q sv i wr=>∃ j:Nat,Hid (j+q=S)∧j≤S∧i = .int .i64 j∧∃ sa sc,sv = .slice sa (cb t.args j) sc∧Hid (HeadI t wo.heap.size mb (wo.heap.size+1) j sv w2 wr))
    case atStart=>exact ⟨0,Nat.zero_add _,Nat.zero_le _,rfl,a8,c8,rfl,HI0⟩
    case round=>
     obtain ⟨j,HJ,hj,rfl,sa,sc,rfl,HI⟩:=hrel
     by_cases hjn:j < S
     · have hjs:j < Tm.sizes t.args:=by have:=HS.out;omega
       have hlt:=Tm.reg_lt hjs;obtain ⟨x,hx⟩:∃ x:LT,(reg t.args j)[j]? = some x:=⟨_,Qa hlt⟩;obtain ⟨xin,xone,xreg,xnext,xcb,xvar,xfew,x8⟩:=reg_facts HI.out.ins HG.out hjs hx;have hcbj:j < cb t.args j:=hlt;have dj:decide ((j:Int) < (cb t.args j:Int))=true:=decide_eq_true (by omega)
       have hneg:¬ ((j:Int) < 0):=by omega
       obtain ⟨g,cap',hcv⟩:=HI.out.regs.shape_pos (by omega)
       injection hcv with e1 _ e2
       subst e1 e2;obtain ⟨lv,hcc,hlr,hlo⟩:=HI.out.code;obtain ⟨c0,c1,c2,c3⟩:=term_cells HI.out.regs hx;have HJN:=hid hjn;have HXI:=hid xin;have HXR:=hid xreg;have HXN:=hid xnext;have HXC:=hid xcb;have HXF:=hid (And.intro xfew x8);have HXV:=hid xvar;have HCC:=hid hcc;have HLR:=hid hlr;have HLO:=hid hlo;have HX1:=hid xone;have HST:=hid (Tm.steps_succ (vs:=t.vars) xreg);have HCBJ:=hid hcbj;have hb2:=twoBox wr (.cells #[.int .i64 x.kind,.int .i64 x.n,.string x.name,.slice x.at_.1 x.args.length x.at_.2] 27) (.cells #[.string ⟨#[]⟩,.int .i64 j,.int .i64 0,.int .i64 0,.int .i64 0,.string ⟨#[]⟩] 139);obtain ⟨W2,hW2⟩:∃ z,z=(wr.alloc (.cells #[.int .i64 x.kind,.int .i64 x.n,.string x.name,.slice x.at_.1 x.args.length x.at_.2] 27)).alloc (.cells #[.string ⟨#[]⟩,.int .i64 j,.int .i64 0,.int .i64 0,.int .i64 0,.string ⟨#[]⟩] 139):=⟨_,rfl⟩;rw [←hW2] at hb2;have HTW:=hid hb2.1;have HBX:=hid hb2.2.2.1;have HBS:=hid hb2.2.2.2;have HZ2:=hid hb2.2.1;have HW2e:=hid hW2;clear xin xreg xnext xcb xfew x8 xvar hcc hlr hlo xone hb2 hW2 hlt hjs hx hcbj;have hS2:S≤2000:=HSL2.out
       by_cases h0:x.kind=0
       · have k0:(x.kind == 0)=true:=by simp [h0]
         have HK0:=hid h0;clear h0;have HKX:=hid (fun W (T:Turned (fun k=>k=wr.heap.size+1) W2 W)=>(T.block _ (zL HBX.out) (by omega)).trans HBX.out);have HLKS:=hid (fun W (T:Turned (fun k=>k=wr.heap.size+1) W2 W)=>slotLook ((HI.out.slots.turned HTW.out (fun f=>f)).turned T (fun e=>by have:=HI.out.slots.lt;omega)) (HXV.out HK0.out) HXI.out.n)
         have HPO:Hid (Tm.posOf t.vars x.n < 2001):=by
          have h1:=List.idxOf_lt_length_of_mem (HXV.out HK0.out);have h2:=vars_few HG.out;show t.vars.idxOf x.n < 2001;omega
         go_wp2_with fail
         rw [←HW2e.out];refine wp_region_k [76,77,78,79,80,81] [5,7] [] (fun dd vv=>(match dd with | 76=>vv = .map (some mb) | 77=>vv = .pointer (some ⟨wr.heap.size,1,none⟩) | 78=>vv = .int .i64 x.n | 79=>vv = .int .i64 (Tm.posOf t.vars x.n) | 80=>vv = .pointer (some ⟨wr.heap.size+1,0,none⟩) | 81=>vv = .pointer (some ⟨wr.heap.size+1,2,none⟩) | _=>True:Prop)) (BoxR (wr.heap.size+1) 139 [.string ⟨#[]⟩,.int .i64 j,.int .i64 0,.int .i64 0,.int .i64 0,.string ⟨#[]⟩] [.string sVar,.int .i64 j,.int .i64 (Tm.posOf t.vars x.n),.int .i64 0,.int .i64 0,.string ⟨#[]⟩] [(5,0),(7,2)] W2) (by kernel_rfl) rfl (by kernel_rfl) (by kernel_rfl) (fun w h=>BoxR.start HBS.out h) (fun hs w w' h ht=>h.turned0 ht) ?hs ?hQ
         case hs=>
          refine ⟨?s0,?s1,?s2,?s3,?s4,?s5,?s6,?s7,trivial⟩
          case s0=>refine fun hs hl=>zG [] [4] fun ac W hT hI hO=>?_;simp only [execOp,Act.eval,hO 4 (by simp)];go_simp;try exact tq
          case s1=>refine fun hs hl=>zG [] [11] fun ac W hT hI hO=>?_;simp only [execOp,Act.eval,hO 11 (by simp)];go_simp;try exact tq
          case s2=>refine fun hs hl=>zG [77] [] fun ac W hT hI hO=>?_;have h77:_=_:=hI 77 (by simp);obtain ⟨x0,x1,x2,x3,_⟩:=cells4 (HKX.out W hT.t);simp only [execOp,Act.eval,h77];go_simp;try exact tq
          case s3=>refine fun hs hl=>zG [76,78] [] fun ac W hT hI hO=>?_;have h76:_=_:=hI 76 (by simp);have h78:_=_:=hI 78 (by simp);have hlk:=HLKS.out W hT.t;simp only [execOp,Act.eval,h76,h78];go_simp;try exact tq
          case s4=>refine fun hs hl=>zG [] [12] fun ac W hT hI hO=>?_;simp only [execOp,Act.eval,hO 12 (by simp)];go_simp;try exact tq
          case s5=>
           refine fun hs hno hl=>zG [80] [] fun ac W hT hI hO=>?_;have h80:_=_:=hI 80 (by simp);show Brings _ (fun vv w'=>BoxR (wr.heap.size+1) 139 [.string ⟨#[]⟩,.int .i64 j,.int .i64 0,.int .i64 0,.int .i64 0,.string ⟨#[]⟩] [.string sVar,.int .i64 j,.int .i64 (Tm.posOf t.vars x.n),.int .i64 0,.int .i64 0,.string ⟨#[]⟩] [(5,0),(7,2)] W2 (hs++[(5,vv)]) w') _;obtain ⟨⟨z,hz⟩,hf⟩:=hT.at (c:=0) (by simp);simp only [execOp,Act.eval,h80];go_simp;exact hT.store (by kernel_rfl) (by simp) (by simp) rfl
          case s6=>refine fun hs hl=>zG [] [12] fun ac W hT hI hO=>?_;simp only [execOp,Act.eval,hO 12 (by simp)];go_simp;try exact tq
          case s7=>
           refine fun hs hno hl=>zG [81,79] [] fun ac W hT hI hO=>?_;have h81:_=_:=hI 81 (by simp);have h79:_=_:=hI 79 (by simp);show Brings _ (fun vv w'=>BoxR (wr.heap.size+1) 139 [.string ⟨#[]⟩,.int .i64 j,.int .i64 0,.int .i64 0,.int .i64 0,.string ⟨#[]⟩] [.string sVar,.int .i64 j,.int .i64 (Tm.posOf t.vars x.n),.int .i64 0,.int .i64 0,.string ⟨#[]⟩] [(5,0),(7,2)] W2 (hs++[(7,vv)]) w') _;obtain ⟨⟨z,hz⟩,hf⟩:=hT.at (c:=2) (by simp);simp only [execOp,Act.eval,h81,h79];go_simp;exact hT.store (by kernel_rfl) (by simp) (by simp) rfl
         case hQ=>
          intro hs3 vs3 W3 hall huniq hR hV;simp only [Qq,List.foldl_nil,Qk,Qs,Qr];have HS3:=hid (hR.done rfl (by intro a ha;simp only [Qw,Ql,or_false] at ha;rcases ha with rfl | rfl <;> exact hall _ (by simp)) (by intro c hc hn;simp only [QB,List.length_nil] at hc;simp only [Qx,List.map_nil,Qw,Ql,or_false,not_or] at hn;have hcs:c=0∨c=1∨c=2∨c=3∨c=4∨c=5:=(by omega);rcases hcs with rfl | rfl | rfl | rfl | rfl | rfl <;> first | rfl | omega));have HT3w:=hid hR.t;have HTR:Hid (Turned zN wr W3):=HTW.out.step hR.t (fun i hi e=>by omega);obtain ⟨s0,s1,s2,s3,s4,s5⟩:=cells6 HS3.out;have hfs:=free6 HS3.out;obtain ⟨z0,z1,z2,z3,_⟩:=cells4 (HKX.out W3 hR.t);obtain ⟨q0,q1,q2,q3,g0,g1,g2,g3⟩:=cells4 ((HTR.out.bt HCC.out));clear hR hV hall huniq
          by_cases hm:x.n∈met t.args j
          · have HMT:=hid hm
            clear hm
            have hlk:(Instr.lookup 145 (.map (some (wo.heap.size+1))) (.int .i64 (Tm.posOf t.vars x.n)) false).run Try.prog W3 = .ok (.bool true) W3:=by
             rw [hadLook (HI.out.had.turned HTR.out (fun f=>f)) (by unfold I64;have:=HPO.out;omega),decide_eq_true ((metS_mem (HXV.out HK0.out)).2 HMT.out)]
            have hkey:=key3 (n:=(Tm.posOf t.vars x.n:Int)) (by unfold I64;have:=HPO.out;omega);have hn3:(metS t j).length≤2000:=metS_few HG.out (by have:=HS.out;omega);have T4:Turned zN wr (W3.setCell ⟨wr.heap.size+1,0,none⟩ (.string sVal)):=HTR.out.setCell (.inl (show wr.heap.size≤wr.heap.size+1 by omega)) _
            have HS4:Hid ((W3.setCell ⟨wr.heap.size+1,0,none⟩ (.string sVal)).heap[wr.heap.size+1]? = some (.cells #[.string sVal,.int .i64 j,.int .i64 (Tm.posOf t.vars x.n),.int .i64 0,.int .i64 0,.string ⟨#[]⟩] 139 (0,0))):=by show _=_;simpa using heap_setCell_same W3 (wr.heap.size+1) 0 _ 139 (.string sVal) HS3.out
            have HT4:=hid T4;have HHD4:=hid (HI.out.had.turned T4 (fun f=>f));clear T4
            have HA0:Hid (x.args.length=0):=by have h:=HX1.out;rw [goodOneB_0 x HK0.out] at h;simp only [Qd,decide_eq_true_eq] at h;exact h.2.2.2
            have HCBE:Hid (cb t.args (j+1)=cb t.args j):=by show _=_;rw [HXC.out,HA0.out];rfl
            have HREG:Hid (reg t.args (j+1)=reg t.args j):=by show _=_;rw [HXN.out,Qh HA0.out,List.append_nil]
            have HST2:Hid (steps t.vars t.args (j+1)=steps t.vars t.args j++[⟨sVal,j,(Tm.posOf t.vars x.n:Int),0,0,ByteArray.empty⟩]):=by
             show _=_;rw [HST.out];unfold stepX;rw [if_pos HK0.out,if_pos HMT.out]
            go_wp2_with (first
             | (at_builtin;have HMID:Hid (HeadM t wo.heap.size mb (wo.heap.size+1) j (.slice (some ⟨g,0,none⟩) (cb t.args j) sc) lv w2 W5):=HI.out.mid HCC.out HLR.out HLO.out ((HT4.out.mono (fun _ _ f=>f.elim)).trans (HT5.out.mono (fun k _ e=>.inl e))) (by rw [metS_next HXR.out,if_neg (fun c=>c.2 HMT.out)];have q:IMap Try.prog 3 W5 (wo.heap.size+1) (if (hadF (metS t j) (Tm.posOf t.vars x.n:Int)).isSome then (metS t j).length else (metS t j).length+1) (upd (hadF (metS t j)) (Tm.posOf t.vars x.n:Int) (.bool true)):=HM5.out;rw [hadF_same ((metS_mem (HXV.out HK0.out)).2 HMT.out)] at q;have e:(hadF (metS t j) (Tm.posOf t.vars x.n:Int)).isSome=true:=(by unfold hadF;rw [if_pos ((metS_mem (HXV.out HK0.out)).2 HMT.out)];rfl);rw [e] at q;exact q) (by rw [HCBE.out,HREG.out];exact HI.out.regs.turned ((HT4.out.mono (fun _ _ f=>f.elim)).trans HT5.out) (fun k hk c=>(HI.out.own k hk).2.2.2 c)) (.inl rfl);obtain ⟨i0,hi0,hz0,hz1,hz2⟩:=info_parts infoS;have HMA:=hid (HMID.out.turned0 ((Turned.refl (fun _=>False) W5).alloc (.cells #[.string sVal,.int .i64 j,.int .i64 (Tm.posOf t.vars x.n),.int .i64 0,.int .i64 0,.string ⟨#[]⟩] 139)));have HNB:=hid (World.news_of_block (heap_alloc_new W5 (.cells #[.string sVal,.int .i64 j,.int .i64 (Tm.posOf t.vars x.n),.int .i64 0,.int .i64 0,.string ⟨#[]⟩] 139)));refine append_some _ rfl _ _ 102 rfl 139 i0 _ 6 64 Try.underlying102 hi0 hz0 hz1 hz2 rfl (by decide) lv j ((steps t.vars t.args j).flatMap stC) rfl HMA.out.row ⟨W5.heap.size,0,none⟩ 1 1 (stC ⟨sVal,j,(Tm.posOf t.vars x.n:Int),0,0,ByteArray.empty⟩) rfl rfl HNB.out (stC_one _) (by omega) (by unfold maxLen;omega) (by omega) ?_;intro g9 cap9 W9 hr9 T9 ho9;have hc9:=(T9.block _ (zL HMA.out.c) (fun c=>(HMA.out.lvo _ c).2.1 rfl)).trans HMA.out.c;obtain ⟨y0,y1,y2,y3,f0,f1,f2,f3⟩:=cells4 hc9;have HR9:=hid hr9;have HT9:=hid T9;have HO9:=hid ho9;have HC9:=hid hc9;clear hr9 T9 ho9 hc9)
             | (at_mapUpdate;refine wpList_put rfl _ _ _ 145 rfl law3 Try.underlying145 rfl HHD4.out (by unfold maxLen;omega) rfl rfl hkey trivial ?_;intro W5 hm5 T5;have HM5:=hid hm5;have HT5:=hid T5;have hs5:=(T5.block _ (zL HS4.out) (fun e=>by have:=HI.out.had.lt;omega)).trans HS4.out;obtain ⟨s0,s1,s2,s3,s4,s5⟩:=cells6 hs5;have hc4:=(HT4.out.bt HCC.out);have hc5:=(T5.block _ (zL hc4) (by omega)).trans hc4;obtain ⟨q0,q1,q2,q3,g0,g1,g2,g3⟩:=cells4 hc5;clear hm5 T5 hs5 hc5 hc4))
            have HNX:Hid (HeadI t wo.heap.size mb (wo.heap.size+1) (j+1) (.slice (some ⟨g,0,none⟩) (cb t.args j) sc) w2 (W9.setCell ⟨wo.heap.size,3,none⟩ (.slice (some ⟨g9,0,none⟩) (j+1) cap9))):=HMA.out.next HST2.out HT9.out HR9.out (HO9.out.imp (fun c=>by simpa [Value.ownBlock] using c) (fun c k hk=>by simp [Value.ownBlock] at hk;omega)) (turned_cell' _ _ _ _) (by simpa using heap_setCell_same W9 wo.heap.size 3 _ 104 (.slice (some ⟨g9,0,none⟩) (j+1) cap9) HC9.out);go_roundg (gk - 1)
            case measure=>have:=HJ.out;omega
            case rel=>exact ⟨j+1,show _=_ by have:=HJ.out;omega,by omega,by go_num,some ⟨g,0,none⟩,sc,by rw [HCBE.out],HNX⟩
          · have HMT:=hid hm
            clear hm
            have hlk:(Instr.lookup 145 (.map (some (wo.heap.size+1))) (.int .i64 (Tm.posOf t.vars x.n)) false).run Try.prog W3 = .ok (.bool false) W3:=by
             rw [hadLook (HI.out.had.turned HTR.out (fun f=>f)) (by unfold I64;have:=HPO.out;omega),decide_eq_false (fun c=>HMT.out ((metS_mem (HXV.out HK0.out)).1 c))]
            have hkey:=key3 (n:=(Tm.posOf t.vars x.n:Int)) (by unfold I64;have:=HPO.out;omega);have hn3:(metS t j).length≤2000:=metS_few HG.out (by have:=HS.out;omega);have T4:Turned zN wr W3:=HTR.out;have HS4:=HS3;have HT4:=hid T4;have HHD4:=hid (HI.out.had.turned T4 (fun f=>f));clear T4
            have HA0:Hid (x.args.length=0):=by have h:=HX1.out;rw [goodOneB_0 x HK0.out] at h;simp only [Qd,decide_eq_true_eq] at h;exact h.2.2.2
            have HCBE:Hid (cb t.args (j+1)=cb t.args j):=by show _=_;rw [HXC.out,HA0.out];rfl
            have HREG:Hid (reg t.args (j+1)=reg t.args j):=by show _=_;rw [HXN.out,Qh HA0.out,List.append_nil]
            have HST2:Hid (steps t.vars t.args (j+1)=steps t.vars t.args j++[⟨sVar,j,(Tm.posOf t.vars x.n:Int),0,0,ByteArray.empty⟩]):=by
             show _=_;rw [HST.out];unfold stepX;rw [if_pos HK0.out,if_neg HMT.out]
            go_wp2_with (first
             | (at_builtin;have HMID:Hid (HeadM t wo.heap.size mb (wo.heap.size+1) j (.slice (some ⟨g,0,none⟩) (cb t.args j) sc) lv w2 W5):=HI.out.mid HCC.out HLR.out HLO.out ((HT4.out.mono (fun _ _ f=>f.elim)).trans (HT5.out.mono (fun k _ e=>.inl e))) (by rw [metS_next HXR.out,if_pos ⟨HK0.out,HMT.out⟩,Qi];have q:IMap Try.prog 3 W5 (wo.heap.size+1) (if (hadF (metS t j) (Tm.posOf t.vars x.n:Int)).isSome then (metS t j).length else (metS t j).length+1) (upd (hadF (metS t j)) (Tm.posOf t.vars x.n:Int) (.bool true)):=HM5.out;rw [hadF_put] at q;have e:(hadF (metS t j) (Tm.posOf t.vars x.n:Int)).isSome=false:=(by unfold hadF;rw [if_neg (fun c=>HMT.out ((metS_mem (HXV.out HK0.out)).1 c))];rfl);rw [e] at q;exact q) (by rw [HCBE.out,HREG.out];exact HI.out.regs.turned ((HT4.out.mono (fun _ _ f=>f.elim)).trans HT5.out) (fun k hk c=>(HI.out.own k hk).2.2.2 c)) (.inl rfl);obtain ⟨i0,hi0,hz0,hz1,hz2⟩:=info_parts infoS;have HMA:=hid (HMID.out.turned0 ((Turned.refl (fun _=>False) W5).alloc (.cells #[.string sVar,.int .i64 j,.int .i64 (Tm.posOf t.vars x.n),.int .i64 0,.int .i64 0,.string ⟨#[]⟩] 139)));have HNB:=hid (World.news_of_block (heap_alloc_new W5 (.cells #[.string sVar,.int .i64 j,.int .i64 (Tm.posOf t.vars x.n),.int .i64 0,.int .i64 0,.string ⟨#[]⟩] 139)));refine append_some _ rfl _ _ 102 rfl 139 i0 _ 6 64 Try.underlying102 hi0 hz0 hz1 hz2 rfl (by decide) lv j ((steps t.vars t.args j).flatMap stC) rfl HMA.out.row ⟨W5.heap.size,0,none⟩ 1 1 (stC ⟨sVar,j,(Tm.posOf t.vars x.n:Int),0,0,ByteArray.empty⟩) rfl rfl HNB.out (stC_one _) (by omega) (by unfold maxLen;omega) (by omega) ?_;intro g9 cap9 W9 hr9 T9 ho9;have hc9:=(T9.block _ (zL HMA.out.c) (fun c=>(HMA.out.lvo _ c).2.1 rfl)).trans HMA.out.c;obtain ⟨y0,y1,y2,y3,f0,f1,f2,f3⟩:=cells4 hc9;have HR9:=hid hr9;have HT9:=hid T9;have HO9:=hid ho9;have HC9:=hid hc9;clear hr9 T9 ho9 hc9)
             | (at_mapUpdate;refine wpList_put rfl _ _ _ 145 rfl law3 Try.underlying145 rfl HHD4.out (by unfold maxLen;omega) rfl rfl hkey trivial ?_;intro W5 hm5 T5;have HM5:=hid hm5;have HT5:=hid T5;have hs5:=(T5.block _ (zL HS4.out) (fun e=>by have:=HI.out.had.lt;omega)).trans HS4.out;obtain ⟨s0,s1,s2,s3,s4,s5⟩:=cells6 hs5;have hc4:=(HT4.out.bt HCC.out);have hc5:=(T5.block _ (zL hc4) (by omega)).trans hc4;obtain ⟨q0,q1,q2,q3,g0,g1,g2,g3⟩:=cells4 hc5;clear hm5 T5 hs5 hc5 hc4))
            have HNX:Hid (HeadI t wo.heap.size mb (wo.heap.size+1) (j+1) (.slice (some ⟨g,0,none⟩) (cb t.args j) sc) w2 (W9.setCell ⟨wo.heap.size,3,none⟩ (.slice (some ⟨g9,0,none⟩) (j+1) cap9))):=HMA.out.next HST2.out HT9.out HR9.out (HO9.out.imp (fun c=>by simpa [Value.ownBlock] using c) (fun c k hk=>by simp [Value.ownBlock] at hk;omega)) (turned_cell' _ _ _ _) (by simpa using heap_setCell_same W9 wo.heap.size 3 _ 104 (.slice (some ⟨g9,0,none⟩) (j+1) cap9) HC9.out);go_roundg (gk - 1)
            case measure=>have:=HJ.out;omega
            case rel=>exact ⟨j+1,show _=_ by have:=HJ.out;omega,by omega,by go_num,some ⟨g,0,none⟩,sc,by rw [HCBE.out],HNX⟩
       · have k0:(x.kind == 0)=false:=by simp [h0]
         have HK0:=hid h0;clear h0;have HKX:=hid (fun W (T:Turned (fun k=>k=wr.heap.size+1) W2 W)=>(T.block _ (zL HBX.out) (by omega)).trans HBX.out)
         by_cases h1:x.kind=1
         · have k1:(x.kind == 1)=true:=by simp [h1]
           have HK1:=hid h1;clear h1
           go_wp2_with fail
           rw [←HW2e.out];refine wp_region_k [94,95,96,97] [3,5] [] (fun dd vv=>(match dd with | 94=>vv = .pointer (some ⟨wr.heap.size,1,none⟩) | 95=>vv = .int .i64 x.n | 96=>vv = .pointer (some ⟨wr.heap.size+1,0,none⟩) | 97=>vv = .pointer (some ⟨wr.heap.size+1,4,none⟩) | _=>True:Prop)) (BoxR (wr.heap.size+1) 139 [.string ⟨#[]⟩,.int .i64 j,.int .i64 0,.int .i64 0,.int .i64 0,.string ⟨#[]⟩] [.string sInt,.int .i64 j,.int .i64 0,.int .i64 0,.int .i64 x.n,.string ⟨#[]⟩] [(3,0),(5,4)] W2) (by kernel_rfl) rfl (by kernel_rfl) (by kernel_rfl) (fun w h=>BoxR.start HBS.out h) (fun hs w w' h ht=>h.turned0 ht) ?hs ?hQ
           case hs=>
            refine ⟨?s0,?s1,?s2,?s3,?s4,?s5,trivial⟩
            case s0=>refine fun hs hl=>zG [] [11] fun ac W hT hI hO=>?_;simp only [execOp,Act.eval,hO 11 (by simp)];go_simp;try exact tq
            case s1=>refine fun hs hl=>zG [94] [] fun ac W hT hI hO=>?_;have h94:_=_:=hI 94 (by simp);obtain ⟨x0,x1,x2,x3,_⟩:=cells4 (HKX.out W hT.t);simp only [execOp,Act.eval,h94];go_simp;try exact tq
            case s2=>refine fun hs hl=>zG [] [12] fun ac W hT hI hO=>?_;simp only [execOp,Act.eval,hO 12 (by simp)];go_simp;try exact tq
            case s3=>
             refine fun hs hno hl=>zG [96] [] fun ac W hT hI hO=>?_;have h96:_=_:=hI 96 (by simp);show Brings _ (fun vv w'=>BoxR (wr.heap.size+1) 139 [.string ⟨#[]⟩,.int .i64 j,.int .i64 0,.int .i64 0,.int .i64 0,.string ⟨#[]⟩] [.string sInt,.int .i64 j,.int .i64 0,.int .i64 0,.int .i64 x.n,.string ⟨#[]⟩] [(3,0),(5,4)] W2 (hs++[(3,vv)]) w') _;obtain ⟨⟨z,hz⟩,hf⟩:=hT.at (c:=0) (by simp);simp only [execOp,Act.eval,h96];go_simp;exact hT.store (by kernel_rfl) (by simp) (by simp) rfl
            case s4=>refine fun hs hl=>zG [] [12] fun ac W hT hI hO=>?_;simp only [execOp,Act.eval,hO 12 (by simp)];go_simp;try exact tq
            case s5=>
             refine fun hs hno hl=>zG [97,95] [] fun ac W hT hI hO=>?_;have h97:_=_:=hI 97 (by simp);have h95:_=_:=hI 95 (by simp);show Brings _ (fun vv w'=>BoxR (wr.heap.size+1) 139 [.string ⟨#[]⟩,.int .i64 j,.int .i64 0,.int .i64 0,.int .i64 0,.string ⟨#[]⟩] [.string sInt,.int .i64 j,.int .i64 0,.int .i64 0,.int .i64 x.n,.string ⟨#[]⟩] [(3,0),(5,4)] W2 (hs++[(5,vv)]) w') _;obtain ⟨⟨z,hz⟩,hf⟩:=hT.at (c:=4) (by simp);simp only [execOp,Act.eval,h97,h95];go_simp;exact hT.store (by kernel_rfl) (by simp) (by simp) rfl
           case hQ=>
            intro hs3 vs3 W3 hall huniq hR hV;simp only [Qq,List.foldl_nil,Qk,Qs,Qr];have HS3:=hid (hR.done rfl (by intro a ha;simp only [Qw,Ql,or_false] at ha;rcases ha with rfl | rfl <;> exact hall _ (by simp)) (by intro c hc hn;simp only [QB,List.length_nil] at hc;simp only [Qx,List.map_nil,Qw,Ql,or_false,not_or] at hn;have hcs:c=0∨c=1∨c=2∨c=3∨c=4∨c=5:=(by omega);rcases hcs with rfl | rfl | rfl | rfl | rfl | rfl <;> first | rfl | omega));have HT3w:=hid hR.t;have HTR:Hid (Turned zN wr W3):=HTW.out.step hR.t (fun i hi e=>by omega);obtain ⟨s0,s1,s2,s3,s4,s5⟩:=cells6 HS3.out;have hfs:=free6 HS3.out;obtain ⟨z0,z1,z2,z3,_⟩:=cells4 (HKX.out W3 hR.t);obtain ⟨q0,q1,q2,q3,g0,g1,g2,g3⟩:=cells4 ((HTR.out.bt HCC.out));clear hR hV hall huniq
            have HA0:Hid (x.args.length=0):=by have h:=HX1.out;rw [goodOneB_1 x HK1.out] at h;simp only [Qd,decide_eq_true_eq] at h;exact h.2
            have HCBE:Hid (cb t.args (j+1)=cb t.args j):=by show _=_;rw [HXC.out,HA0.out];rfl
            have HREG:Hid (reg t.args (j+1)=reg t.args j):=by show _=_;rw [HXN.out,Qh HA0.out,List.append_nil]
            have hn3:(metS t j).length≤2000:=metS_few HG.out (by have:=HS.out;omega)
            have HST2:Hid (steps t.vars t.args (j+1)=steps t.vars t.args j++[⟨sInt,j,0,0,x.n,ByteArray.empty⟩]):=by
             show _=_;rw [HST.out];unfold stepX;rw [if_neg HK0.out,if_pos HK1.out]
            go_wp2_with (at_builtin;have HMID:Hid (HeadM t wo.heap.size mb (wo.heap.size+1) j (.slice (some ⟨g,0,none⟩) (cb t.args j) sc) lv w2 W3):=HI.out.mid HCC.out HLR.out HLO.out (HTR.out.mono (fun _ _ f=>f.elim)) (by rw [metS_next HXR.out,if_neg (fun c=>HK0.out c.1)];exact HI.out.had.turned HTR.out (fun f=>f)) (by rw [HCBE.out,HREG.out];exact HI.out.regs.turned0 HTR.out) (.inl rfl);obtain ⟨i0,hi0,hz0,hz1,hz2⟩:=info_parts infoS;have HMA:=hid (HMID.out.turned0 ((Turned.refl (fun _=>False) W3).alloc (.cells #[.string sInt,.int .i64 j,.int .i64 0,.int .i64 0,.int .i64 x.n,.string ⟨#[]⟩] 139)));have HNB:=hid (World.news_of_block (heap_alloc_new W3 (.cells #[.string sInt,.int .i64 j,.int .i64 0,.int .i64 0,.int .i64 x.n,.string ⟨#[]⟩] 139)));refine append_some _ rfl _ _ 102 rfl 139 i0 _ 6 64 Try.underlying102 hi0 hz0 hz1 hz2 rfl (by decide) lv j ((steps t.vars t.args j).flatMap stC) rfl HMA.out.row ⟨W3.heap.size,0,none⟩ 1 1 (stC ⟨sInt,j,0,0,x.n,ByteArray.empty⟩) rfl rfl HNB.out (stC_one _) (by omega) (by unfold maxLen;omega) (by omega) ?_;intro g9 cap9 W9 hr9 T9 ho9;have hc9:=(T9.block _ (zL HMA.out.c) (fun c=>(HMA.out.lvo _ c).2.1 rfl)).trans HMA.out.c;obtain ⟨y0,y1,y2,y3,f0,f1,f2,f3⟩:=cells4 hc9;have HR9:=hid hr9;have HT9:=hid T9;have HO9:=hid ho9;have HC9:=hid hc9;clear hr9 T9 ho9 hc9)
            have HNX:Hid (HeadI t wo.heap.size mb (wo.heap.size+1) (j+1) (.slice (some ⟨g,0,none⟩) (cb t.args j) sc) w2 (W9.setCell ⟨wo.heap.size,3,none⟩ (.slice (some ⟨g9,0,none⟩) (j+1) cap9))):=HMA.out.next HST2.out HT9.out HR9.out (HO9.out.imp (fun c=>by simpa [Value.ownBlock] using c) (fun c k hk=>by simp [Value.ownBlock] at hk;omega)) (turned_cell' _ _ _ _) (by simpa using heap_setCell_same W9 wo.heap.size 3 _ 104 (.slice (some ⟨g9,0,none⟩) (j+1) cap9) HC9.out);go_roundg (gk - 1)
            case measure=>have:=HJ.out;omega
            case rel=>exact ⟨j+1,show _=_ by have:=HJ.out;omega,by omega,by go_num,some ⟨g,0,none⟩,sc,by rw [HCBE.out],HNX⟩
         · have k1:(x.kind == 1)=false:=by simp [h1]
           have HK1:=hid h1;clear h1
           by_cases h2:x.args.length=0
           · have k2:((x.args.length:Int) == 0)=true:=by simp [h2]
             have HA2:=hid h2;clear h2
             go_wp2_with fail
             rw [←HW2e.out];refine wp_region_k [103,104,105,106] [3,5] [] (fun dd vv=>(match dd with | 103=>vv = .pointer (some ⟨wr.heap.size,2,none⟩) | 104=>vv = .string x.name | 105=>vv = .pointer (some ⟨wr.heap.size+1,0,none⟩) | 106=>vv = .pointer (some ⟨wr.heap.size+1,5,none⟩) | _=>True:Prop)) (BoxR (wr.heap.size+1) 139 [.string ⟨#[]⟩,.int .i64 j,.int .i64 0,.int .i64 0,.int .i64 0,.string ⟨#[]⟩] [.string sAtom,.int .i64 j,.int .i64 0,.int .i64 0,.int .i64 0,.string x.name] [(3,0),(5,5)] W2) (by kernel_rfl) rfl (by kernel_rfl) (by kernel_rfl) (fun w h=>BoxR.start HBS.out h) (fun hs w w' h ht=>h.turned0 ht) ?hs ?hQ
             case hs=>
              refine ⟨?s0,?s1,?s2,?s3,?s4,?s5,trivial⟩
              case s0=>refine fun hs hl=>zG [] [11] fun ac W hT hI hO=>?_;simp only [execOp,Act.eval,hO 11 (by simp)];go_simp;try exact tq
              case s1=>refine fun hs hl=>zG [103] [] fun ac W hT hI hO=>?_;have h103:_=_:=hI 103 (by simp);obtain ⟨x0,x1,x2,x3,_⟩:=cells4 (HKX.out W hT.t);simp only [execOp,Act.eval,h103];go_simp;try exact tq
              case s2=>refine fun hs hl=>zG [] [12] fun ac W hT hI hO=>?_;simp only [execOp,Act.eval,hO 12 (by simp)];go_simp;try exact tq
              case s3=>
               refine fun hs hno hl=>zG [105] [] fun ac W hT hI hO=>?_;have h105:_=_:=hI 105 (by simp);show Brings _ (fun vv w'=>BoxR (wr.heap.size+1) 139 [.string ⟨#[]⟩,.int .i64 j,.int .i64 0,.int .i64 0,.int .i64 0,.string ⟨#[]⟩] [.string sAtom,.int .i64 j,.int .i64 0,.int .i64 0,.int .i64 0,.string x.name] [(3,0),(5,5)] W2 (hs++[(3,vv)]) w') _;obtain ⟨⟨z,hz⟩,hf⟩:=hT.at (c:=0) (by simp);simp only [execOp,Act.eval,h105];go_simp;exact hT.store (by kernel_rfl) (by simp) (by simp) rfl
              case s4=>refine fun hs hl=>zG [] [12] fun ac W hT hI hO=>?_;simp only [execOp,Act.eval,hO 12 (by simp)];go_simp;try exact tq
              case s5=>
               refine fun hs hno hl=>zG [106,104] [] fun ac W hT hI hO=>?_;have h106:_=_:=hI 106 (by simp);have h104:_=_:=hI 104 (by simp);show Brings _ (fun vv w'=>BoxR (wr.heap.size+1) 139 [.string ⟨#[]⟩,.int .i64 j,.int .i64 0,.int .i64 0,.int .i64 0,.string ⟨#[]⟩] [.string sAtom,.int .i64 j,.int .i64 0,.int .i64 0,.int .i64 0,.string x.name] [(3,0),(5,5)] W2 (hs++[(5,vv)]) w') _;obtain ⟨⟨z,hz⟩,hf⟩:=hT.at (c:=5) (by simp);simp only [execOp,Act.eval,h106,h104];go_simp;exact hT.store (by kernel_rfl) (by simp) (by simp) rfl
             case hQ=>
              intro hs3 vs3 W3 hall huniq hR hV;simp only [Qq,List.foldl_nil,Qk,Qs,Qr];have HS3:=hid (hR.done rfl (by intro a ha;simp only [Qw,Ql,or_false] at ha;rcases ha with rfl | rfl <;> exact hall _ (by simp)) (by intro c hc hn;simp only [QB,List.length_nil] at hc;simp only [Qx,List.map_nil,Qw,Ql,or_false,not_or] at hn;have hcs:c=0∨c=1∨c=2∨c=3∨c=4∨c=5:=(by omega);rcases hcs with rfl | rfl | rfl | rfl | rfl | rfl <;> first | rfl | omega));have HT3w:=hid hR.t;have HTR:Hid (Turned zN wr W3):=HTW.out.step hR.t (fun i hi e=>by omega);obtain ⟨s0,s1,s2,s3,s4,s5⟩:=cells6 HS3.out;have hfs:=free6 HS3.out;obtain ⟨z0,z1,z2,z3,_⟩:=cells4 (HKX.out W3 hR.t);obtain ⟨q0,q1,q2,q3,g0,g1,g2,g3⟩:=cells4 ((HTR.out.bt HCC.out));clear hR hV hall huniq;have HA0:Hid (x.args.length=0):=HA2.out
              have HCBE:Hid (cb t.args (j+1)=cb t.args j):=by show _=_;rw [HXC.out,HA0.out];rfl
              have HREG:Hid (reg t.args (j+1)=reg t.args j):=by show _=_;rw [HXN.out,Qh HA0.out,List.append_nil]
              have hn3:(metS t j).length≤2000:=metS_few HG.out (by have:=HS.out;omega)
              have HST2:Hid (steps t.vars t.args (j+1)=steps t.vars t.args j++[⟨sAtom,j,0,0,0,x.name⟩]):=by
               show _=_;rw [HST.out];unfold stepX;rw [if_neg HK0.out,if_neg HK1.out,if_pos HA2.out]
              go_wp2_with (at_builtin;have HMID:Hid (HeadM t wo.heap.size mb (wo.heap.size+1) j (.slice (some ⟨g,0,none⟩) (cb t.args j) sc) lv w2 W3):=HI.out.mid HCC.out HLR.out HLO.out (HTR.out.mono (fun _ _ f=>f.elim)) (by rw [metS_next HXR.out,if_neg (fun c=>HK0.out c.1)];exact HI.out.had.turned HTR.out (fun f=>f)) (by rw [HCBE.out,HREG.out];exact HI.out.regs.turned0 HTR.out) (.inl rfl);obtain ⟨i0,hi0,hz0,hz1,hz2⟩:=info_parts infoS;have HMA:=hid (HMID.out.turned0 ((Turned.refl (fun _=>False) W3).alloc (.cells #[.string sAtom,.int .i64 j,.int .i64 0,.int .i64 0,.int .i64 0,.string x.name] 139)));have HNB:=hid (World.news_of_block (heap_alloc_new W3 (.cells #[.string sAtom,.int .i64 j,.int .i64 0,.int .i64 0,.int .i64 0,.string x.name] 139)));refine append_some _ rfl _ _ 102 rfl 139 i0 _ 6 64 Try.underlying102 hi0 hz0 hz1 hz2 rfl (by decide) lv j ((steps t.vars t.args j).flatMap stC) rfl HMA.out.row ⟨W3.heap.size,0,none⟩ 1 1 (stC ⟨sAtom,j,0,0,0,x.name⟩) rfl rfl HNB.out (stC_one _) (by omega) (by unfold maxLen;omega) (by omega) ?_;intro g9 cap9 W9 hr9 T9 ho9;have hc9:=(T9.block _ (zL HMA.out.c) (fun c=>(HMA.out.lvo _ c).2.1 rfl)).trans HMA.out.c;obtain ⟨y0,y1,y2,y3,f0,f1,f2,f3⟩:=cells4 hc9;have HR9:=hid hr9;have HT9:=hid T9;have HO9:=hid ho9;have HC9:=hid hc9;clear hr9 T9 ho9 hc9)
              have HNX:Hid (HeadI t wo.heap.size mb (wo.heap.size+1) (j+1) (.slice (some ⟨g,0,none⟩) (cb t.args j) sc) w2 (W9.setCell ⟨wo.heap.size,3,none⟩ (.slice (some ⟨g9,0,none⟩) (j+1) cap9))):=HMA.out.next HST2.out HT9.out HR9.out (HO9.out.imp (fun c=>by simpa [Value.ownBlock] using c) (fun c k hk=>by simp [Value.ownBlock] at hk;omega)) (turned_cell' _ _ _ _) (by simpa using heap_setCell_same W9 wo.heap.size 3 _ 104 (.slice (some ⟨g9,0,none⟩) (j+1) cap9) HC9.out);go_roundg (gk - 1)
              case measure=>have:=HJ.out;omega
              case rel=>exact ⟨j+1,show _=_ by have:=HJ.out;omega,by omega,by go_num,some ⟨g,0,none⟩,sc,by rw [HCBE.out],HNX⟩
           · have k2:((x.args.length:Int) == 0)=false:=by simp [h2]
             have HA2:=hid h2;clear h2
             go_wp2_with fail
             rw [←HW2e.out];refine wp_region_k [57,58,59,60,61,62,63,64,65,66,67] [8,10,12,14] [] (fun dd vv=>(match dd with | 57=>vv = .pointer (some ⟨wr.heap.size,2,none⟩) | 58=>vv = .string x.name | 59=>vv = .pointer (some ⟨wr.heap.size,3,none⟩) | 60=>vv = .slice x.at_.1 x.args.length x.at_.2 | 61=>vv = .int .i64 x.args.length | 62=>vv = .slice (some ⟨g,0,none⟩) (cb t.args j) sc | 63=>vv = .int .i64 (cb t.args j) | 64=>vv = .pointer (some ⟨wr.heap.size+1,0,none⟩) | 65=>vv = .pointer (some ⟨wr.heap.size+1,5,none⟩) | 66=>vv = .pointer (some ⟨wr.heap.size+1,2,none⟩) | 67=>vv = .pointer (some ⟨wr.heap.size+1,3,none⟩) | _=>True:Prop)) (BoxR (wr.heap.size+1) 139 [.string ⟨#[]⟩,.int .i64 j,.int .i64 0,.int .i64 0,.int .i64 0,.string ⟨#[]⟩] [.string sComp,.int .i64 j,.int .i64 x.args.length,.int .i64 (cb t.args j),.int .i64 0,.string x.name] [(8,0),(10,5),(12,2),(14,3)] W2) (by kernel_rfl) rfl (by kernel_rfl) (by kernel_rfl) (fun w h=>BoxR.start HBS.out h) (fun hs w w' h ht=>h.turned0 ht) ?hs ?hQ
             case hs=>
              refine ⟨?s0,?s1,?s2,?s3,?s4,?s5,?s6,?s7,?s8,?s9,?s10,?s11,?s12,?s13,?s14,trivial⟩
              case s0=>refine fun hs hl=>zG [] [11] fun ac W hT hI hO=>?_;simp only [execOp,Act.eval,hO 11 (by simp)];go_simp;try exact tq
              case s1=>refine fun hs hl=>zG [57] [] fun ac W hT hI hO=>?_;have h57:_=_:=hI 57 (by simp);obtain ⟨x0,x1,x2,x3,_⟩:=cells4 (HKX.out W hT.t);simp only [execOp,Act.eval,h57];go_simp;try exact tq
              case s2=>refine fun hs hl=>zG [] [11] fun ac W hT hI hO=>?_;simp only [execOp,Act.eval,hO 11 (by simp)];go_simp;try exact tq
              case s3=>refine fun hs hl=>zG [59] [] fun ac W hT hI hO=>?_;have h59:_=_:=hI 59 (by simp);obtain ⟨x0,x1,x2,x3,_⟩:=cells4 (HKX.out W hT.t);simp only [execOp,Act.eval,h59];go_simp;try exact tq
              case s4=>refine fun hs hl=>zG [60] [] fun ac W hT hI hO=>?_;have h60:_=_:=hI 60 (by simp);simp only [execOp,Act.eval,h60];go_simp;try exact tq
              case s5=>refine fun hs hl=>zG [] [9] fun ac W hT hI hO=>?_;simp only [execOp,Act.eval,hO 9 (by simp)];go_simp;try exact tq
              case s6=>refine fun hs hl=>zG [62] [] fun ac W hT hI hO=>?_;have h62:_=_:=hI 62 (by simp);simp only [execOp,Act.eval,h62];go_simp;try exact tq
              case s7=>refine fun hs hl=>zG [] [12] fun ac W hT hI hO=>?_;simp only [execOp,Act.eval,hO 12 (by simp)];go_simp;try exact tq
              case s8=>
               refine fun hs hno hl=>zG [64] [] fun ac W hT hI hO=>?_;have h64:_=_:=hI 64 (by simp);show Brings _ (fun vv w'=>BoxR (wr.heap.size+1) 139 [.string ⟨#[]⟩,.int .i64 j,.int .i64 0,.int .i64 0,.int .i64 0,.string ⟨#[]⟩] [.string sComp,.int .i64 j,.int .i64 x.args.length,.int .i64 (cb t.args j),.int .i64 0,.string x.name] [(8,0),(10,5),(12,2),(14,3)] W2 (hs++[(8,vv)]) w') _;obtain ⟨⟨z,hz⟩,hf⟩:=hT.at (c:=0) (by simp);simp only [execOp,Act.eval,h64];go_simp;exact hT.store (by kernel_rfl) (by simp) (by simp) rfl
              case s9=>refine fun hs hl=>zG [] [12] fun ac W hT hI hO=>?_;simp only [execOp,Act.eval,hO 12 (by simp)];go_simp;try exact tq
              case s10=>
               refine fun hs hno hl=>zG [65,58] [] fun ac W hT hI hO=>?_;have h65:_=_:=hI 65 (by simp);have h58:_=_:=hI 58 (by simp);show Brings _ (fun vv w'=>BoxR (wr.heap.size+1) 139 [.string ⟨#[]⟩,.int .i64 j,.int .i64 0,.int .i64 0,.int .i64 0,.string ⟨#[]⟩] [.string sComp,.int .i64 j,.int .i64 x.args.length,.int .i64 (cb t.args j),.int .i64 0,.string x.name] [(8,0),(10,5),(12,2),(14,3)] W2 (hs++[(10,vv)]) w') _;obtain ⟨⟨z,hz⟩,hf⟩:=hT.at (c:=5) (by simp);simp only [execOp,Act.eval,h65,h58];go_simp;exact hT.store (by kernel_rfl) (by simp) (by simp) rfl
              case s11=>refine fun hs hl=>zG [] [12] fun ac W hT hI hO=>?_;simp only [execOp,Act.eval,hO 12 (by simp)];go_simp;try exact tq
              case s12=>
               refine fun hs hno hl=>zG [66,61] [] fun ac W hT hI hO=>?_;have h66:_=_:=hI 66 (by simp);have h61:_=_:=hI 61 (by simp);show Brings _ (fun vv w'=>BoxR (wr.heap.size+1) 139 [.string ⟨#[]⟩,.int .i64 j,.int .i64 0,.int .i64 0,.int .i64 0,.string ⟨#[]⟩] [.string sComp,.int .i64 j,.int .i64 x.args.length,.int .i64 (cb t.args j),.int .i64 0,.string x.name] [(8,0),(10,5),(12,2),(14,3)] W2 (hs++[(12,vv)]) w') _;obtain ⟨⟨z,hz⟩,hf⟩:=hT.at (c:=2) (by simp);simp only [execOp,Act.eval,h66,h61];go_simp;exact hT.store (by kernel_rfl) (by simp) (by simp) rfl
              case s13=>refine fun hs hl=>zG [] [12] fun ac W hT hI hO=>?_;simp only [execOp,Act.eval,hO 12 (by simp)];go_simp;try exact tq
              case s14=>
               refine fun hs hno hl=>zG [67,63] [] fun ac W hT hI hO=>?_;have h67:_=_:=hI 67 (by simp);have h63:_=_:=hI 63 (by simp);show Brings _ (fun vv w'=>BoxR (wr.heap.size+1) 139 [.string ⟨#[]⟩,.int .i64 j,.int .i64 0,.int .i64 0,.int .i64 0,.string ⟨#[]⟩] [.string sComp,.int .i64 j,.int .i64 x.args.length,.int .i64 (cb t.args j),.int .i64 0,.string x.name] [(8,0),(10,5),(12,2),(14,3)] W2 (hs++[(14,vv)]) w') _;obtain ⟨⟨z,hz⟩,hf⟩:=hT.at (c:=3) (by simp);simp only [execOp,Act.eval,h67,h63];go_simp;exact hT.store (by kernel_rfl) (by simp) (by simp) rfl
             case hQ=>
              intro hs3 vs3 W3 hall huniq hR hV;simp only [Qq,List.foldl_nil,Qk,Qs,Qr];have HS3:=hid (hR.done rfl (by intro a ha;simp only [Qw,Ql,or_false] at ha;rcases ha with rfl | rfl | rfl | rfl <;> exact hall _ (by simp)) (by intro c hc hn;simp only [QB,List.length_nil] at hc;simp only [Qx,List.map_nil,Qw,Ql,or_false,not_or] at hn;have hcs:c=0∨c=1∨c=2∨c=3∨c=4∨c=5:=(by omega);rcases hcs with rfl | rfl | rfl | rfl | rfl | rfl <;> first | rfl | omega));have HT3w:=hid hR.t;have HTR:Hid (Turned zN wr W3):=HTW.out.step hR.t (fun i hi e=>by omega);obtain ⟨s0,s1,s2,s3,s4,s5⟩:=cells6 HS3.out;have hfs:=free6 HS3.out;obtain ⟨z0,z1,z2,z3,_⟩:=cells4 (HKX.out W3 hR.t);obtain ⟨q0,q1,q2,q3,g0,g1,g2,g3⟩:=cells4 ((HTR.out.bt HCC.out));clear hR hV hall huniq;have hn3:(metS t j).length≤2000:=metS_few HG.out (by have:=HS.out;omega)
              have hpos:0 < x.args.length:=by have:=HA2.out;omega
              obtain ⟨bb,bo,hat,_,hnews⟩:=(LT.In.lies (HXI.out.turned0 HTR.out)) hpos;obtain ⟨i1,hi1,hy0,hy1,hy2⟩:=info_parts infoT;rw [hat] at z3;have hx8:=HXF.out;have HNW:=hid hnews;have HRG:=hid (HI.out.regs.turned0 HTR.out);clear hnews
              have HST2:Hid (steps t.vars t.args (j+1)=steps t.vars t.args j++[⟨sComp,j,(x.args.length:Int),(cb t.args j:Int),0,x.name⟩]):=by
               show _=_;rw [HST.out];unfold stepX;rw [if_neg HK0.out,if_neg HK1.out,if_neg HA2.out]
              go_wp2_with (first
               | (at_builtin;have HMID:Hid (HeadM t wo.heap.size mb (wo.heap.size+1) j (.slice (some ⟨g7,0,none⟩) (cb t.args j+x.args.length) cap7) lv w2 W7):=HI.out.mid HCC.out HLR.out HLO.out ((HTR.out.mono (fun _ _ f=>f.elim)).trans (HT7.out.mono (fun k _ e=>.inr e))) (by rw [metS_next HXR.out,if_neg (fun c=>HK0.out c.1)];exact (HI.out.had.turned HTR.out (fun f=>f)).turned HT7.out (fun c=>(HI.out.own _ c).2.2.2 rfl)) (by rw [HXC.out,HXN.out,List.flatMap_append];exact HR7.out) (HO7.out.imp (fun c=>by simpa [Value.ownBlock] using c) (fun c k hk=>by simp [Value.ownBlock] at hk;have:=HTR.out.size;omega));obtain ⟨i0,hi0,hz0,hz1,hz2⟩:=info_parts infoS;have HMA:=hid (HMID.out.turned0 ((Turned.refl (fun _=>False) W7).alloc (.cells #[.string sComp,.int .i64 j,.int .i64 x.args.length,.int .i64 (cb t.args j),.int .i64 0,.string x.name] 139)));have HNB:=hid (World.news_of_block (heap_alloc_new W7 (.cells #[.string sComp,.int .i64 j,.int .i64 x.args.length,.int .i64 (cb t.args j),.int .i64 0,.string x.name] 139)));refine append_some _ rfl _ _ 102 rfl 139 i0 _ 6 64 Try.underlying102 hi0 hz0 hz1 hz2 rfl (by decide) lv j ((steps t.vars t.args j).flatMap stC) rfl HMA.out.row ⟨W7.heap.size,0,none⟩ 1 1 (stC ⟨sComp,j,(x.args.length:Int),(cb t.args j:Int),0,x.name⟩) rfl rfl HNB.out (stC_one _) (by omega) (by unfold maxLen;omega) (by omega) ?_;intro g9 cap9 W9 hr9 T9 ho9;have hc9:=(T9.block _ (zL HMA.out.c) (fun c=>(HMA.out.lvo _ c).2.1 rfl)).trans HMA.out.c;obtain ⟨y0,y1,y2,y3,f0,f1,f2,f3⟩:=cells4 hc9;have HR9:=hid hr9;have HT9:=hid T9;have HO9:=hid ho9;have HC9:=hid hc9;clear hr9 T9 ho9 hc9)
               | (at_builtin;refine append_some _ rfl _ _ 22 rfl 27 i1 zeroT 4 56 Try.underlying22 hi1 hy0 hy1 hy2 rfl (by decide) (.slice (some ⟨g,0,none⟩) (cb t.args j) sc) (cb t.args j) ((reg t.args j).flatMap LT.cells) rfl HRG.out ⟨bb,bo,none⟩ x.args.length x.at_.2 (x.args.flatMap LT.cells) rfl (LT.flat_length _) (fun j u hu=>by rw [Addr.add_lit];exact HNW.out j u hu) (LT.flat_one _) hpos (by unfold maxLen;omega) (by omega) ?_;intro g7 cap7 W7 hr7 T7 ho7;have HR7:=hid hr7;have HT7:=hid T7;have HO7:=hid ho7;have hs7:=(T7.block _ (zL HS3.out) (fun c=>by have:=HI.out.regs.lt _ c;omega)).trans HS3.out;obtain ⟨s0,s1,s2,s3,s4,s5⟩:=cells6 hs7;have hc7:=(T7.block _ (Qo (zL HCC.out) HTR.out.size) (fun c=>(HI.out.own _ c).2.1 rfl)).trans ((HTR.out.bt HCC.out));obtain ⟨q0,q1,q2,q3,g0,g1,g2,g3⟩:=cells4 hc7;clear hr7 T7 ho7 hs7 hc7))
              have HNX:Hid (HeadI t wo.heap.size mb (wo.heap.size+1) (j+1) (.slice (some ⟨g7,0,none⟩) (cb t.args j+x.args.length) cap7) w2 (W9.setCell ⟨wo.heap.size,3,none⟩ (.slice (some ⟨g9,0,none⟩) (j+1) cap9))):=HMA.out.next HST2.out HT9.out HR9.out (HO9.out.imp (fun c=>by simpa [Value.ownBlock] using c) (fun c k hk=>by simp [Value.ownBlock] at hk;omega)) (turned_cell' _ _ _ _) (by simpa using heap_setCell_same W9 wo.heap.size 3 _ 104 (.slice (some ⟨g9,0,none⟩) (j+1) cap9) HC9.out);go_roundg (gk - 1)
              case measure=>have:=HJ.out;omega
              case rel=>exact ⟨j+1,show _=_ by have:=HJ.out;omega,by omega,by go_num,some ⟨g7,0,none⟩,cap7,by rw [HXC.out],HNX⟩
     · obtain rfl:S=j:=by omega
       have hcb:cb t.args S=S:=by rw [HS.out];exact Tm.cb_end _
       have dj:decide ((S:Int) < (cb t.args S:Int))=false:=decide_eq_false (by omega);have dj2:decide (S < cb t.args S)=false:=decide_eq_false (by omega)
       have dj3:¬ S < cb t.args S:=by omega
       obtain ⟨lv,hcc,hlr,hlo⟩:=HI.out.code;obtain ⟨la,lc,rfl⟩:=hlr.shape;have T1:Turned (fun k=>k=wo.heap.size) wr (wr.setCell ⟨wo.heap.size,2,none⟩ (.int .i64 (cb t.args S))):=turned_cell' _ _ _ _
       have hc1:(wr.setCell ⟨wo.heap.size,2,none⟩ (.int .i64 (cb t.args S))).heap[wo.heap.size]? = some (.cells #[.int .i64 t.args.length,.int .i64 t.vars.length,.int .i64 (cb t.args S),.slice la S lc] 104 (0,0)):=by simpa using heap_setCell_same wr wo.heap.size 2 _ 104 (.int .i64 (cb t.args S)) hcc
       have T2w:Turned zN w2 (wr.setCell ⟨wo.heap.size,2,none⟩ (.int .i64 (cb t.args S))):=HI.out.t.step T1 (fun i hi e=>by have:=HI.out.ne.1;omega);have hrow:=hlr.turned T1 (fun k hk e=>(hlo k hk).2.1 e);obtain ⟨W1,hW1⟩:∃ z,z=wr.setCell ⟨wo.heap.size,2,none⟩ (.int .i64 (cb t.args S)):=⟨_,rfl⟩;rw [←hW1] at hc1 T2w hrow;obtain ⟨q0,q1,q2,q3,g0,g1,g2,g3⟩:=cells4 hcc;obtain ⟨r0,r1,r2,r3,f0,f1,f2,f3⟩:=cells4 (HRB.out W1 T2w);obtain ⟨p0,p1,p2,p3,_⟩:=cells4 hc1;rw [hW1] at p0 p1 p2 p3 r0 r1 r2 r3 f0 f1 f2 f3;have HRR:=hid (HRB.out W1 T2w);have HROW:=hid hrow;have HLO:=hid hlo;have HT2w:=hid T2w;have HCBE:=hid hcb;have HW1:=hid hW1;clear hcc hlr hlo T1 hc1 T2w hrow hW1 hcb
       go_wp2_with fail
       rw [←HW1.out];have hz:=HZ.out;refine bodyPost_ret (results_cell_tmp1 Try.results93 _ _ (w.heap.size+1) 104 _ (0,0) _ rfl (set4 (a':=.int .i64 t.args.length) (b':=.int .i64 t.vars.length) (c':=.int .i64 (cb t.args S)) (d':=.slice la S lc) HRR.out) Try.underlying104 rfl (by kernel_rfl)) rfl ⟨.slice la S lc,by rw [HCBE.out,HS.out];rfl,?_,fun k hk=>by have:=(HLO.out k hk).1;omega,(HT2.out.trans HT2w.out).step (turned_store4 W1 (w.heap.size+1) _ _ _ _) (fun i hi e=>by omega)⟩;have hq:=HROW.out.turned (turned_store4 W1 (w.heap.size+1) (.int .i64 t.args.length) (.int .i64 t.vars.length) (.int .i64 (cb t.args S)) (.slice la S lc)) (fun k hk e=>by have:=(HLO.out k hk).1;omega);rw [←HS.out];exact hq
end Go.Proofs.Ytoihjobdfjajfaa
namespace Go.Proofs.Ytoihjobdfjajfaa
open Lib (hid)
open Go.RowKit Go.Maps
open Tm (Stp sVar sVal sInt sAtom sComp cb met steps stepX stepAt goodC)
abbrev hdT (a:Option Addr) (c:Nat) (a':Option Addr) (c':Nat):LT:=.mk 2 0 ⟨#[112]⟩ (a,c) [leaf 0 9 ByteArray.empty,.mk 2 0 ⟨#[102]⟩ (a',c') [leaf 0 9 ByteArray.empty]]
abbrev st0:Stp:=⟨⟨#[118,97,114]⟩,0,0,0,0,⟨#[]⟩⟩
abbrev st1:Stp:=⟨⟨#[99,111,109,112]⟩,1,1,2,0,⟨#[102]⟩⟩
abbrev st2:Stp:=⟨⟨#[118,97,108]⟩,2,0,0,0,⟨#[]⟩⟩
section
variable {a a':Option Addr} {c c':Nat} {w:World}
theorem hd_good:goodB (hdT a c a' c')=true:=by kernel_rfl
theorem hd_vars:(hdT a c a' c').vars.length=1:=by kernel_rfl
theorem hd_sizes:Tm.sizes (hdT a c a' c').args=3:=by kernel_rfl
theorem hd_steps:steps (hdT a c a' c').vars (hdT a c a' c').args 3=[st0,st1,st2]:=by kernel_rfl
theorem hdHead (h:(hdT a c a' c').In (fun _=>True) w):Calls Try.prog 93 #[.agg #[.int .i64 2,.int .i64 0,.string ⟨#[112]⟩,.slice a 2 c]] w fun e w'=>∃ lv:Value,e = .returned (.tuple #[.agg #[.int .i64 2,.int .i64 1,.int .i64 3,lv],.int .i64 0])∧Row w' 139 6 lv 3 ([st0,st1,st2].flatMap stC)∧(∀ k,lv.ownBlock=some k→w.heap.size≤k)∧Turned zN w w':=by
 have:=head93 h hd_good rfl;rw [hd_vars,hd_sizes,hd_steps] at this;exact this
theorem hdGood {lv:Value} {w':World} (h:(hdT a c a' c').In (fun _=>True) w') (hr:Row w' 139 6 lv 3 ([st0,st1,st2].flatMap stC)):Calls Try.prog 95 #[.agg #[.int .i64 2,.int .i64 1,.int .i64 3,lv]] w' fun e w2=>e = .returned (.bool true)∧Turned zN w' w2:=by
 have:=goodHead95 (lv:=lv) h hd_good rfl (by rw [hd_sizes,hd_steps];exact hr);rw [hd_vars,hd_sizes] at this;exact this
end
theorem lit_ops:((⟨#[118,97,114]⟩:ByteArray).toList == [118,97,114])=true∧((⟨#[118,97,108]⟩:ByteArray).toList == [118,97,108])=true∧((⟨#[99,111,109,112]⟩:ByteArray).toList == [99,111,109,112])=true∧((⟨#[102]⟩:ByteArray).toList == [102])=true∧((⟨#[]⟩:ByteArray).toList == [])=true:=by
 refine ⟨?_,?_,?_,?_,?_⟩ <;> (rw [ByteArray.toList_eq];rfl)
set_option maxRecDepth 100000 in
theorem awake91 (w:World):Calls Try.prog 91 #[] w fun e w'=>e = .returned (.bool true)∧Turned zN w w':=by
 obtain ⟨l0,l1,l2,l3,l4⟩:=lit_ops;go_enter Try.func91,Try.ntmps91
 go_wp2_with (first
  | (go_at_call 95;have HC6:=HC6;(refine (hdGood HI6.out HR6.out).mono ?_);rintro e w7 ⟨rfl,T7⟩;have HT7:=hid T7;clear T7)
  | (go_at_call 93;refine (hdHead i4).mono ?_;rintro e w5 ⟨lv,rfl,hr5,ho5,T5⟩;obtain ⟨g5,cap5,rfl⟩:=hr5.shape_pos (by omega);have TA:=(Turned.refl (fun _=>False) w5).alloc (.cells #[.int .i64 2,.int .i64 1,.int .i64 3,.slice (some ⟨g5,0,none⟩) 3 cap5] 104);have HR6:=hid (hr5.turned0 TA);have HI6:=hid ((i4.turned0 T5).turned0 TA);obtain ⟨a0,a1,a2,a3,a4,a5⟩:=step_cells (L:=[st0,st1,st2]) (i:=0) (s:=st0) HR6.out rfl;obtain ⟨b0,b1,b2,b3,b4,b5⟩:=step_cells (L:=[st0,st1,st2]) (i:=1) (s:=st1) HR6.out rfl;obtain ⟨d0,d1,d2,d3,d4,d5⟩:=step_cells (L:=[st0,st1,st2]) (i:=2) (s:=st2) HR6.out rfl;simp only [Nat.zero_mul,Nat.one_mul,Nat.zero_add,Nat.reduceMul,Nat.reduceAdd] at a0 a1 a2 a3 a4 a5 b0 b1 b2 b3 b4 b5 d0 d1 d2 d3 d4 d5;have HT6:=hid ((((T1.trans T2).trans T3).trans T4).trans (T5.trans TA));have HC6:=HT6;clear T1 T2 T3 T4 T5 TA hr5 ho5 i1 i2 i3 i4)
  | (go_at_call 37;have:=T3;refine (compV ⟨#[112]⟩ (by unfold maxLen;decide) 2 (by decide) rfl (sl_made (l:=[leaf 0 9 ByteArray.empty,.mk 2 0 ⟨#[102]⟩ (a3,c3) [leaf 0 9 ByteArray.empty]]) ⟨i1.turned0 (T2.trans T3),i3,trivial⟩ 2 (by decide) rfl _ rfl)).mono ?_;rintro e w4 ⟨a4,c4,rfl,i4,T4'⟩;have T4:=((Turned.refl (fun _=>False) w3).alloc _).trans T4';clear T4')
  | (go_at_call 37;have:=T2;refine (compV ⟨#[102]⟩ (by unfold maxLen;decide) 1 (by decide) rfl (sl_made (l:=[leaf 0 9 ByteArray.empty]) ⟨i2,trivial⟩ 1 (by decide) rfl _ rfl)).mono ?_;rintro e w3 ⟨a3,c3,rfl,i3,T3'⟩;have T3:=((Turned.refl (fun _=>False) w2).alloc _).trans T3';clear T3')
  | (go_at_call 62;have:=T1;refine (varV 9 (i64_lit _ (by omega)) _).mono ?_;rintro e w2 ⟨rfl,i2,T2⟩)
  | (go_at_call 62;refine (varV 9 (i64_lit _ (by omega)) _).mono ?_;rintro e w1 ⟨rfl,i1,T1⟩))
 go_ret;exact ⟨rfl,HT6.out.trans HT7.out⟩
end Go.Proofs.Ytoihjobdfjajfaa
namespace Go.Proofs.Ytoihjobdfjajfaa
open Go.RowKit Go.Maps
theorem deepVal92 (k:Nat) (t:LT) (W:World) (n:Int) (hn:n=(k:Int)) (hk:k≤1000) {p:Nat→Prop} (h:t.In p W):Calls Try.prog 92 #[.agg #[.int .i64 t.kind,.int .i64 t.n,.string t.name,.slice t.at_.1 t.args.length t.at_.2],.int .i64 n] W fun e w'=>e = .returned (.bool (deepB k t))∧Turned zN W w':=by
 subst hn;have:=deep92 p k t W hk h;rw [LT.val_eq] at this;exact this
theorem vars_le (t:LT):t.vars.length≤t.size:=by
 have h1:=addVar_le t.flat [];rw [Tm.flat_length] at h1;simp at h1;unfold Tm.vars;omega
theorem row_slice {w:World} {ty:TypeId} {size n:Nat} {v:Value} {xs:List Value} (h:Row w ty size v n xs):∃ a c,v = .slice a n c:=by
 rcases h.2 with ⟨rfl,rfl⟩ | ⟨g,cap,cur,rfl,_⟩
 · exact ⟨_,_,rfl⟩
 · exact ⟨_,_,rfl⟩
theorem sizeV35 {p:Nat→Prop} {t:LT} {w:World} {d:Int} (ht:t.In p w) (hs:slim t) (hd:((min t.size 2001:Nat):Int)=d):Calls Try.prog 35 #[.agg #[.int .i64 t.kind,.int .i64 t.n,.string t.name,.slice t.at_.1 t.args.length t.at_.2]] w fun e w'=>e = .returned (.int .i64 d)∧Turned zN w w':=by
 have h:=size35 ht hs;rw [LT.val_eq,hd] at h;exact h
end Go.Proofs.Ytoihjobdfjajfaa
namespace Go.Proofs.Ytoihjobdfjajfaa
namespace Tm
theorem hasL_false {M:Nat} {n:Int} (l:List (Tm Unit)):∀ {c:Nat},c≤M→(hasL M n c l).1=false→(hasL M n c l).2≤M:=by
 induction l with
 | nil=>intro c h _;exact h
 | cons x l ih=>
  intro c h hf;simp only [hasL] at hf ⊢
  split at hf
  · cases hf
  · rename_i h1
    rw [if_neg h1];exact ih (by omega) hf
theorem hasL_arg {M:Nat} {n:Int} {f:Tm Unit→Tm Unit} {l:List (Tm Unit)} {j c:Nat} {x:Tm Unit} (hx:l[j]? = some x) (R:Bool × Nat) (h:hasL M n c (flats ((l.drop j).map f))=R) :
 ((hasL M n c (f x).flat).1=true→R=hasL M n c (f x).flat)∧((hasL M n c (f x).flat).1=false→hasL M n (hasL M n c (f x).flat).2 (flats ((l.drop (j+1)).map f))=R):=by
 have hj:=(Qg.1 hx)
 have e:l.drop j=x :: l.drop (j+1):=by
  obtain ⟨h1,h2⟩:=hj;rw [List.drop_eq_getElem_cons h1,h2]
 rw [e,Qx,flats,hasL_append] at h;constructor
 · intro h1;rw [if_pos h1] at h;exact h.symm
 · intro h1;rw [if_neg (by rw [h1];exact Bool.false_ne_true)] at h;exact h
theorem hasL_end {M:Nat} {n:Int} {f:Tm Unit→Tm Unit} {l:List (Tm Unit)} {j c:Nat} (hj:l.length≤j) (R:Bool × Nat) (h:hasL M n c (flats ((l.drop j).map f))=R):R=(false,c):=by
 rw [List.drop_eq_nil_of_le hj] at h;exact h.symm
theorem hasL_walked_var {m M:Nat} {l:Trail} {n:Int} {t x:Tm Unit} {c:Nat} (hl:okT m l) (h:Walked m l t x) (hk:x.kind=0):hasL M n c (img l t).flat=(decide (M < c+1∨x.n=n),c+1):=by
 rw [h.flat_var hl hk];simp only [hasL]
 by_cases h1:M < c+1∨x.n=n
 · rw [if_pos (h1.imp id (fun e=>⟨hk,e⟩)),decide_eq_true h1]
 · rw [if_neg (fun c=>h1 (c.imp id (fun e=>e.2))),decide_eq_false h1]
theorem hasL_walked_node {m M:Nat} {l:Trail} {n:Int} {t x:Tm Unit} {c:Nat} (hl:okT m l) (h:Walked m l t x) (hk:¬ x.kind=0) :
 (M < c+1→hasL M n c (img l t).flat=(true,c+1))∧(c+1≤M→hasL M n (c+1) (flats ((x.args.drop 0).map (img l)))=hasL M n c (img l t).flat):=by
 obtain ⟨h1,h2⟩:=h.flat_node hl hk;rw [h1];simp only [hasL,List.drop_zero];constructor
 · intro hc;rw [if_pos (.inl hc)]
 · intro hc;rw [if_neg (fun e=>e.elim (fun e=>by omega) (fun e=>h2 e.1))]
end Tm
end Go.Proofs.Ytoihjobdfjajfaa
namespace Go.Proofs.Ytoihjobdfjajfaa
open Lib (hid)
open Go.RowKit Go.Maps
theorem DO.parts {p O:Nat→Prop} {wb m:Nat} {l:Tm.Trail} {w:World} (h:DO p wb O m l w) :
 ∃ (ta ia ra:Option Addr) (tc ic rc:Nat) (us:List LT) (is:List Bool),DB p wb (.slice ta m tc) (.slice ia m ic) (.slice ra l.length rc) us is (Tm.dom l).reverse w∧DT m l us is (Tm.dom l).reverse∧us.length=m∧is.length=m∧(∀ k,ownD wb (.slice ta m tc) (.slice ia m ic) (.slice ra l.length rc) k→O k):=by
 obtain ⟨tv,iv,rv,us,is,tr,D,R,hO⟩:=h.db;obtain ⟨ta,tc,rfl⟩:=D.row.shape;obtain ⟨ia,ic,rfl⟩:=D.bools.shape;obtain ⟨ra,rc,rfl⟩:=D.trail.shape;have h1:=R.len;have h2:is.length=m:=D.same.trans h1;have h3:=R.tr;subst h3
 have h4:(Tm.dom l).reverse.length=l.length:=by unfold Tm.dom;rw [List.length_reverse,Qu]
 rw [h1,h2,h4] at D;rw [h1,h2,h4] at hO;exact ⟨ta,ia,ra,tc,ic,rc,us,is,D,R,h1,h2,hO⟩
structure WalkD (p:Nat→Prop) (l:Tm.Trail) (t:LT) (w0:World) (x:LT):Prop where
 inn:x.In p w0
 ones:∀ z∈x.bare.flat,goodOneB z=true
 on:Tm.walkT l x.bare=Tm.walkT l t.bare
theorem WalkD.step {p:Nat→Prop} {m:Nat} {l:Tm.Trail} {w:World} {t x y:LT} {b:Tm Unit} (ho:Tm.okT m l) (h:WalkD p l t w x) (hk:x.kind=0) (hl:Tm.look l x.n=some b) (hy:y.In p w) (hb:y.bare=b):WalkD p l t w y∧Tm.walkG l y.bare < Tm.walkG l x.bare:=by
 subst hb;have hm:=Tm.okT_mem ho (Tm.look_mem hl);rw [←Tm.bare_n x] at hl
 have hk':x.bare.kind=0:=by rw [Tm.bare_kind];exact hk
 exact ⟨⟨hy,Tm.good_ones' hm.2.2.1,by rw [←Tm.walkT_step ho hk' hl];exact h.on⟩,Tm.walkG_lt ho hk' hl⟩
theorem WalkD.done {p:Nat→Prop} {l:Tm.Trail} {w:World} {t x:LT} (h:WalkD p l t w x) (hk:x.kind=0→x.n∉Tm.dom l):x.bare=Tm.walkT l t.bare:=by
 rw [←h.on,Tm.walkT_stop (fun e=>?_)];rw [Tm.bare_kind] at e;rw [Tm.bare_n];exact Tm.look_none.2 (hk e)
def WalkDR (p:Nat→Prop) (l:Tm.Trail) (t:LT) (B:Nat) (w0:World) (k:Nat) (wr:World):Prop:=
 ∃ x:LT,Hid (Tm.walkG l x.bare=k)∧Hid (WalkD p l t w0 x)∧wr.heap[B]? = some (.cells #[.int .i64 x.kind,.int .i64 x.n,.string x.name,.slice x.at_.1 x.args.length x.at_.2] 41 (0,0))∧wr.heap[B+1]? = some (.cells #[.int .i64 0,.int .i64 0,.string ⟨#[]⟩,.slice none 0 0] 41 (0,0))∧Turned zN w0 wr
set_option maxRecDepth 100000 in
theorem walk170 {p O:Nat→Prop} {wb m:Nat} {l:Tm.Trail} {w:World} {t:LT} (h:DO p wb O m l w) (ht:t.In p w) (hg:∀ z∈t.bare.flat,goodOneB z=true) :
 Calls Try.prog 170 #[.pointer (some ⟨wb,0,none⟩),t.val] w fun e w'=>∃ x:LT,e = .returned x.val∧x.In p w'∧x.bare=Tm.walkT l t.bare∧Turned zN w w':=by
 have h2:=twoBox w (.cells #[.int .i64 t.kind,.int .i64 t.n,.string t.name,.slice t.at_.1 t.args.length t.at_.2] 41) (.cells #[.int .i64 0,.int .i64 0,.string ⟨#[]⟩,.slice none 0 0] 41);have hst:Hid (WalkD p l t w t):=⟨ht,hg,rfl⟩;obtain ⟨ta,ia,ra,tc,ic,rc,us,is,D0,R,hlu,hli,hO⟩:=h.parts;have HD0:=hid D0;have HR:=hid R;have hm65:=h.most;have H:=hid h;have H2:=hid h2;clear h ht hg h2 D0 R hO;rw [LT.val_eq];go_enter Try.func170,Try.ntmps170
 go_wp2_with fail
 revert H2;generalize ((w.alloc (.cells #[.int .i64 t.kind,.int .i64 t.n,.string t.name,.slice t.at_.1 t.args.length t.at_.2] 41)).alloc (.cells #[.int .i64 0,.int .i64 0,.string ⟨#[]⟩,.slice none 0 0] 41))=w2;intro H2
 go_loopg [] (Tm.walkG l t.bare) (fun k wr=>WalkDR p l t w.heap.size w k wr)
 case atStart=>exact ⟨t,rfl,hst,H2.out.2.2.1,H2.out.2.2.2,H2.out.1⟩
 case round=>
  obtain ⟨x,HG,HI,hb0,hb1,hT⟩:=hrel;obtain ⟨x0,x1,x2,x3,_⟩:=cells4 hb0;obtain ⟨z0,z1,z2,z3,f0,f1,f2,f3⟩:=cells4 hb1;have HB0:=hid hb0;have HB1:=hid hb1;clear hb0 hb1
  by_cases hk:x.kind=0
  · have hkx:(x.kind == 0)=true:=by simp [hk]
    have h0:0≤x.n:=by
     have:=HI.out.ones x.bare (by rw [Tm.flat_eq];exact Qe ..);rw [goodOneB_bare,goodOneB_0 x hk] at this;simp only [Qd,decide_eq_true_eq] at this;exact this.1
    have hge:decide (0≤x.n)=true:=decide_eq_true h0;have HK:=hid hk;clear hk;have D:=HD0.out.turned0 hT;have R:=HR.out;obtain ⟨b0,b1,b2,_⟩:=rec3b D.b
    by_cases hm:x.n < (m:Int)
    · have hlt:decide (x.n < (m:Int))=true:=decide_eq_true hm
      have hset:=R.set x.n.toNat (by omega);rw [Int.toNat_of_nonneg h0] at hset;have hbs:=D.bools;have hts:=D.row;rw [hli] at hbs;rw [hlu] at hts;obtain ⟨gi,ci,hie⟩:=hbs.shape_pos (by omega)
      injection hie with e1 _ e3
      subst e1 e3;have hrow:=hbs.cells rfl x.n.toNat (.bool (decide (x.n∈Tm.dom l))) (by rw [Qp,hset];rfl)
      cases hlk0:Tm.look l x.n with
      | none=>
       rw [decide_eq_false (Tm.look_none.1 hlk0)] at hrow;have hdone:=HI.out.done (fun _=>Tm.look_none.1 hlk0);have HD:=hid hdone;clear hlk0 hdone D R hset hbs hts
       go_wp2_with fail
       go_quiet (fail)
       go_wp2_with fail
       have hbq:(wr.drewN nq).heap[w.heap.size+1]? = _:=HB1.out;have hset:=set4 (a':=.int .i64 x.kind) (b':=.int .i64 x.n) (c':=.string x.name) (d':=.slice x.at_.1 x.args.length x.at_.2) hbq;have T4:=turned4 (a:=.int .i64 x.kind) (b:=.int .i64 x.n) (c:=.string x.name) (d:=.slice x.at_.1 x.args.length x.at_.2) (hT.drewN nq) (g:=w.heap.size+1) (by omega);refine bodyPost_ret (v:=.agg #[.int .i64 x.kind,.int .i64 x.n,.string x.name,.slice x.at_.1 x.args.length x.at_.2]) (results_cell_row Try.results170 _ _ (w.heap.size+1) 41 _ (0,0) _ rfl hset Try.underlying41 rfl (by kernel_rfl)) rfl ⟨x,by rw [LT.val_eq],HI.out.inn.turned0 T4,HD.out,T4⟩
      | some b=>
       rw [decide_eq_true (show x.n∈Tm.dom l from Classical.not_not.1 (fun c=>by rw [Tm.look_none.2 c] at hlk0;cases hlk0))] at hrow;obtain ⟨y,hy,hyb⟩:=R.val x.n b hlk0;have hyl:=(LT.ins_iff _).1 HD0.out.ins y (Qf hy);have HS:=hid (HI.out.step (y:=y) H.out.ok HK.out hlk0 hyl hyb);obtain ⟨gt,hgt,y0,y1,y2,y3⟩:=row_at hts hy;subst hgt;clear hlk0 hset hy hyb D R hyl hbs hts
       go_wp2_with fail
       go_quiet (fail)
       go_wp2_with fail
       refine region_tail 8 (by kernel_rfl) (by kernel_rfl) ?_;simp only [List.take_succ_cons,List.take_zero,List.drop_succ_cons,List.drop_zero]
       repeat still_step
       refine wpStill_nil ?_
       go_wp2_with fail
       have hbq:((wr.drewN nq).drew).heap[w.heap.size]? = _:=HB0.out;have hset:=set4 (a':=.int .i64 y.kind) (b':=.int .i64 y.n) (c':=.string y.name) (d':=.slice y.at_.1 y.args.length y.at_.2) hbq;have T4:=turned4 (a:=.int .i64 y.kind) (b:=.int .i64 y.n) (c:=.string y.name) (d:=.slice y.at_.1 y.args.length y.at_.2) (((hT.drewN nq)).drew) (g:=w.heap.size) (by omega);have T5:=turned_store4 ((wr.drewN nq).drew) w.heap.size (.int .i64 y.kind) (.int .i64 y.n) (.string y.name) (.slice y.at_.1 y.args.length y.at_.2);go_roundg (Tm.walkG l y.bare)
       case measure=>have:=HG.out;have:=HS.out.2;omega
       case rel=>exact ⟨y,rfl,HS.out.1,hset,(T5.block _ (zL HB1.out) (by omega)).trans HB1.out,T4⟩
    · have hlt:decide (x.n < (m:Int))=false:=decide_eq_false hm
      have hdone:=HI.out.done (fun _ e=>by
       obtain ⟨b,hb,e2⟩:=List.mem_map.1 e;have:=(Tm.okT_mem H.out.ok hb).2.1
       omega)
      have HD:=hid hdone;clear hdone D R
      go_wp2_with fail
      go_quiet (fail)
      go_wp2_with fail
      have hbq:(wr.drewN nq).heap[w.heap.size+1]? = _:=HB1.out;have hset:=set4 (a':=.int .i64 x.kind) (b':=.int .i64 x.n) (c':=.string x.name) (d':=.slice x.at_.1 x.args.length x.at_.2) hbq;have T4:=turned4 (a:=.int .i64 x.kind) (b:=.int .i64 x.n) (c:=.string x.name) (d:=.slice x.at_.1 x.args.length x.at_.2) (hT.drewN nq) (g:=w.heap.size+1) (by omega);refine bodyPost_ret (v:=.agg #[.int .i64 x.kind,.int .i64 x.n,.string x.name,.slice x.at_.1 x.args.length x.at_.2]) (results_cell_row Try.results170 _ _ (w.heap.size+1) 41 _ (0,0) _ rfl hset Try.underlying41 rfl (by kernel_rfl)) rfl ⟨x,by rw [LT.val_eq],HI.out.inn.turned0 T4,HD.out,T4⟩
  · have hkx:(x.kind == 0)=false:=by simp [hk]
    have hdone:=HI.out.done (fun e=>absurd e hk);have HD:=hid hdone;clear hk hdone
    go_wp2_with fail
    go_quiet (fail)
    go_wp2_with fail
    have hbq:(wr.drewN nq).heap[w.heap.size+1]? = _:=HB1.out;have hset:=set4 (a':=.int .i64 x.kind) (b':=.int .i64 x.n) (c':=.string x.name) (d':=.slice x.at_.1 x.args.length x.at_.2) hbq;have T4:=turned4 (a:=.int .i64 x.kind) (b:=.int .i64 x.n) (c:=.string x.name) (d:=.slice x.at_.1 x.args.length x.at_.2) (hT.drewN nq) (g:=w.heap.size+1) (by omega);refine bodyPost_ret (v:=.agg #[.int .i64 x.kind,.int .i64 x.n,.string x.name,.slice x.at_.1 x.args.length x.at_.2]) (results_cell_row Try.results170 _ _ (w.heap.size+1) 41 _ (0,0) _ rfl hset Try.underlying41 rfl (by kernel_rfl)) rfl ⟨x,by rw [LT.val_eq],HI.out.inn.turned0 T4,HD.out,T4⟩
set_option maxRecDepth 100000 in
theorem known99 {p p0 O:Nat→Prop} {wb m:Nat} {l:Tm.Trail} {w:World} {t:LT} (h:DO p wb O m l w) (ht:t.In p0 w) :
 Calls Try.prog 99 #[.pointer (some ⟨wb,0,none⟩),t.val] w fun e w'=>e = .returned (.bool (Tm.ownB m t))∧Turned zN w w':=by
 obtain ⟨bx,hbx⟩:∃ bx:Obj,bx = .cells #[.int .i64 t.kind,.int .i64 t.n,.string t.name,.slice t.at_.1 t.args.length t.at_.2] 41:=⟨_,rfl⟩;have T1:=(Turned.refl (fun _=>False) w).alloc bx
 have hc:∀ W,Turned zN (w.alloc bx) W→W.heap[w.heap.size]? = some bx:=fun W hW=>(hW.block _ (by simp) (fun f=>f)).trans (heap_alloc_new w bx)
 have hgo:=rGood45 (ht.turned0 T1)
 have hvs:=fun W (hW:Turned zN w W)=>varsV51 (ht.turned0 hW)
 rw [LT.val_eq t] at hgo hvs ⊢;obtain ⟨ta,ia,ra,tc,ic,rc,us,is,D0,R,hlu,hli,hO⟩:=h.parts;have HD0:=hid D0;have hmm:=h.most;subst hbx;have HC:=hid hc;have HT:=hid T1;clear h hc T1 ht D0 R hO
 cases hg:goodB t with
 | false=>
  have e1:Tm.ownB m t=false:=by unfold Tm.ownB;rw [hg];rfl
  rw [e1];rw [hg] at hgo;have HGO:=hid hgo;clear hgo hvs hg e1;go_enter Try.func99,Try.ntmps99
  go_wp2_with (go_at_call 45;(with_reducible refine HGO.out.mono ?_);rintro e w3 ⟨rfl,T3⟩)
  go_ret;exact ⟨rfl,HT.out.trans T3⟩
 | true=>
  have ev:varsB t=t.vars:=by unfold varsB;rw [if_pos hg]
  have e1:Tm.ownB m t=t.vars.all (fun v=>decide (v < (m:Int))):=by unfold Tm.ownB;rw [hg];rfl
  rw [e1];rw [hg] at hgo;rw [ev] at hvs;obtain ⟨vs,hv⟩:∃ z,z=t.vars:=⟨_,rfl⟩;rw [←hv] at hvs ⊢;have HGO:=hid hgo;have HVS:=hid hvs;clear hgo hvs hg ev e1 hv;go_enter Try.func99,Try.ntmps99
  go_wp2_with (first
   | (go_at_call 45;(with_reducible refine HGO.out.mono ?_);rintro e w3 ⟨rfl,T3⟩;obtain ⟨c0,c1,c2,c3,_⟩:=cells4 (HC.out _ T3))
   | (go_at_call 51;(with_reducible refine (HVS.out _ (HT.out.trans T3)).mono ?_);rintro e w4 ⟨v,rfl,hrow,T4⟩;obtain ⟨va,vc,rfl⟩:=hrow.shape;have hmx:=hrow.max;have TT:=HT.out.trans (T3.trans T4);have HROW:=hid hrow;clear hrow))
  have HTT:=hid TT;clear TT c0 c1 c2 c3 T3 T4 HGO HVS HC HT
  go_loopg [6] vs.length (fun q i wr=>OwnL vs m w4 q i wr)
  case atStart=>exact ⟨0,Nat.zero_add _,Nat.zero_le _,rfl,rfl,Turned.refl _ _⟩
  case round=>
   obtain ⟨j,HG,hj,rfl,HA,hT⟩:=hrel
   by_cases hjl:j < vs.length
   · obtain ⟨x,hx⟩:∃ x,vs[j]? = some x:=⟨_,Qa hjl⟩
     have hrw:=HROW.out.turned0 hT;obtain ⟨gv,cap,he⟩:=hrw.shape_pos (by omega)
     injection he with q1 _ q3
     subst q1 q3;have hcv:=hrw.cells rfl j (.int .i64 x) (by rw [Qp,hx];rfl);have D:=HD0.out.turned0 (HTT.out.trans hT);obtain ⟨b0,b1,b2,_⟩:=rec3b D.b;have HX:=hid hx
     by_cases hxm:x < (m:Int)
     · have hge:decide ((m:Int)≤x)=false:=decide_eq_false (by omega)
       have hst:(vs.take (j+1)).all (fun v=>decide (v < (m:Int)))=true:=by rw [all_snoc _ _ _ x hx,HA.out,decide_eq_true hxm];rfl
       have HST:=hid hst;clear hx hrw hst hxm D
       go_wp2_with fail
       go_quiet (fail)
       go_wp2_with fail
       go_roundg (gk - 1)
       case measure=>have:=HG.out;omega
       case rel=>exact ⟨j+1,show _=_ by have:=HG.out;omega,by omega,by go_num,HST.out,hT.drewN nq⟩
     · have hge:decide ((m:Int)≤x)=true:=decide_eq_true (by omega)
       have hno:vs.all (fun v=>decide (v < (m:Int)))=false:=all_no _ _ j x hx (decide_eq_false hxm);have HNO:=hid hno;clear hx hrw hno hxm D
       go_wp2_with fail
       go_quiet (fail)
       go_wp2_with fail
       go_ret;exact ⟨by rw [HNO.out];rfl,HTT.out.trans (hT.drewN nq)⟩
   · obtain rfl:j=vs.length:=by omega
     have ha:=HA.out;rw [List.take_length] at ha;have HA':=hid ha;clear ha
     go_wp2_with fail
     go_ret;exact ⟨by rw [HA'.out];rfl,HTT.out.trans hT⟩
theorem int1 {w:World} {g:Nat} {v:Value} {T:TypeId} (h:w.heap[g]? = some (.cells #[v] T (0,0))):w.cell? ⟨g,0,none⟩=some v∧w.frozen? ⟨g,0,none⟩=false:=
 ⟨cell_of_row w g 0 _ T (0,0) h,frozen_of_row w g 0 _ T h⟩
theorem int1_set {w:World} {g:Nat} {v v':Value} {T:TypeId} (h:w.heap[g]? = some (.cells #[v] T (0,0))):(w.setCell ⟨g,0,none⟩ v').heap[g]? = some (.cells #[v'] T (0,0)):=heap_setCell_same w g 0 _ T v' h
theorem after_has {w3:World} {N C:Nat} {a0 b0 c0 d0 v0:Value} (hN:w3.heap[N]? = some (.cells #[a0,b0,c0,d0] 41 (0,0))) (hC:w3.heap[C]? = some (.cells #[v0] 3 (0,0))) (hne:C≠N) (a b c d v:Value) :
 (((((w3.setCell ⟨N,0,none⟩ a).setCell ⟨N,1,none⟩ b).setCell ⟨N,2,none⟩ c).setCell ⟨N,3,none⟩ d).setCell ⟨C,0,none⟩ v).heap[N]? = some (.cells #[a,b,c,d] 41 (0,0))∧
 (((((w3.setCell ⟨N,0,none⟩ a).setCell ⟨N,1,none⟩ b).setCell ⟨N,2,none⟩ c).setCell ⟨N,3,none⟩ d).setCell ⟨C,0,none⟩ v).heap[C]? = some (.cells #[v] 3 (0,0))∧
 Turned (fun k=>k=N∨k=C) w3 (((((w3.setCell ⟨N,0,none⟩ a).setCell ⟨N,1,none⟩ b).setCell ⟨N,2,none⟩ c).setCell ⟨N,3,none⟩ d).setCell ⟨C,0,none⟩ v):=by
 have T1:=turned_store4 w3 N a b c d;have hs:=set4 (a':=a) (b':=b) (c':=c) (d':=d) hN;have hk:=(T1.block C (zL hC) hne).trans hC;revert T1 hs hk;generalize (((w3.setCell ⟨N,0,none⟩ a).setCell ⟨N,1,none⟩ b).setCell ⟨N,2,none⟩ c).setCell ⟨N,3,none⟩ d=W;intro T1 hs hk;have T2:Turned (fun k=>k=C) W (W.setCell ⟨C,0,none⟩ v):=(Turned.refl (fun k=>k=C) W).setCell (p:=⟨C,0,none⟩) (.inr rfl) v;exact ⟨(T2.block N (zL hs) (fun e=>hne e.symm)).trans hs,int1_set hk,(T1.mono (fun _ _ e=>.inl e)).trans (T2.mono (fun _ _ e=>.inr e))⟩
def HasDP (b:Bool) (r:Nat) (C:Nat) (w:World) (e:Ending) (w':World):Prop:=
 e = .returned (.bool b)∧w'.heap[C]? = some (.cells #[.int .i64 r] 3 (0,0))∧Turned (fun k=>k=C) w w'
def HasDQ (R:Bool × Nat) (C:Nat) (w:World) (e:Ending) (w':World):Prop:=HasDP R.1 R.2 C w e w'
def HasDL (x:LT) (l:Tm.Trail) (M:Nat) (n:Int) (c C B:Nat) (R:Bool × Nat) (W4:World) (k:Nat) (i:Value) (wr:World):Prop:=
 ∃ j cj:Nat,Hid (j+k=x.args.length)∧j≤x.args.length∧i = .int .i64 j∧Hid (c < cj∧cj≤M)∧Hid (Tm.hasL M n cj (Tm.flats ((x.bare.args.drop j).map (Tm.img l)))=R)∧Hid (wr.heap[C]? = some (.cells #[.int .i64 cj] 3 (0,0)))∧Hid (Turned (fun k=>k=C) W4 wr)
theorem has_back {w w2 w3 W W':World} {o:Obj} {C:Nat} (hw:w2=w.alloc o) (T3:Turned zN w2 w3) (A:Turned (fun k=>k=w.heap.size∨k=C) w3 W) (T:Turned (fun k=>k=C) W W'):Turned (fun k=>k=C) w W':=by
 have T1:Turned (fun k=>k=C) w w3:=(by rw [hw] at T3;exact ((Turned.refl (fun _=>False) w).alloc _).trans T3:Turned zN w w3).mono (fun _ _ f=>f.elim);exact (T1.step A (fun i hi e=>e.elim (fun e=>by omega) id)).trans T
set_option maxRecDepth 100000 in
theorem has150 {p O:Nat→Prop} {wb m M:Nat} {l:Tm.Trail} {n:Int} (hM:M≤100000) (k:Nat):∀ (t:LT) (c C:Nat) (w:World),M < c+k→c≤M→DO p wb O m l w→t.In p w→given m t→w.heap[C]? = some (.cells #[.int .i64 c] 3 (0,0))→¬ O C→¬ p C→
 Calls Try.prog 150 #[.pointer (some ⟨wb,0,none⟩),.int .i64 n,t.val,.int .i64 M,.pointer (some ⟨C,0,none⟩)] w (HasDQ (Tm.hasL M n c (Tm.img l t.bare).flat) C w):=by
 induction k with
 | zero=>intro t c C w h1 h2;omega
 | succ k ih=>
  intro t c C w hk hc h ht hg hC hOC hpC;have hCl:=(zL hC);obtain ⟨w2,hw2⟩:∃ z,z=w.alloc (.cells #[.int .i64 t.kind,.int .i64 t.n,.string t.name,.slice t.at_.1 t.args.length t.at_.2] 41):=⟨_,rfl⟩
  have T2:Turned zN w w2:=by rw [hw2];exact (Turned.refl _ w).alloc _
  have hb2:w2.heap[w.heap.size]? = some (.cells #[.int .i64 t.kind,.int .i64 t.n,.string t.name,.slice t.at_.1 t.args.length t.at_.2] 41 (0,0)):=by rw [hw2];exact heap_alloc_new w _
  have hwk:Calls Try.prog 170 #[.pointer (some ⟨wb,0,none⟩),t.val] w2 fun e w'=>∃ x:LT,e = .returned x.val∧x.In p w'∧x.bare=Tm.walkT l t.bare∧Turned zN w2 w':=walk170 (h.turned0 T2) (ht.turned0 T2) hg.1
  have hwd:=Tm.walked h.ok _ t.bare (Qm _) hg.1;obtain ⟨X,hX⟩:∃ z,z=Tm.walkT l t.bare:=⟨_,rfl⟩;rw [←hX] at hwk hwd
  have hgX:∀ x:LT,x.bare=X→given m x:=fun x hx=>⟨by rw [hx];exact hwd.ones,by rw [hx];exact hwd.lt hg.2⟩
  have hv1:X.kind=0→Tm.hasL M n c (Tm.img l t.bare).flat=(decide (M < c+1∨X.n=n),c+1):=fun hk=>Tm.hasL_walked_var h.ok hwd hk
  have hv2:=fun hk:¬ X.kind=0=>Tm.hasL_walked_node (M:=M) (n:=n) (c:=c) h.ok hwd hk
  obtain ⟨R,hR⟩:∃ z,z=Tm.hasL M n c (Tm.img l t.bare).flat:=⟨_,rfl⟩;rw [←hR] at hv1 hv2 ⊢
  have hNC:C≠w.heap.size:=by omega
  have hCN:w.heap.size≠C:=by omega
  rw [LT.val_eq] at hwk ⊢;have hC2:w2.heap[C]? = some (.cells #[.int .i64 c] 3 (0,0)):=(T2.block C hCl (fun f=>f)).trans hC;have HWK:=hid hwk;have HB2:=hid hb2;have HC2:=hid hC2;have HW2:=hid hw2;have HT2:=hid T2;have HGX:=hid hgX;have HH:=hid h;have HOC:=hid hOC;have HPC:=hid hpC;have HIH:=hid ih;have HK:=hid hk;have HCL:=hid hCl;have HV2:=hid hv2;clear hwk hb2 hC2 hw2 T2 hgX h ht hg hC hOC hpC ih hX hwd hR hk hv2
  by_cases hA:M < c+1
  · have d1:decide ((M:Int) < (c:Int)+1)=true:=decide_eq_true (by omega)
    have hr:R=(true,c+1):=by
     by_cases hk:X.kind=0
     · rw [hv1 hk,decide_eq_true (.inl hA)]
     · exact (HV2.out hk).1 hA
    have HRR:=hid hr;clear hr hv1 hA;go_enter Try.func150,Try.ntmps150
    go_wp2_with (go_at_call 170;rw [←HW2.out];(with_reducible refine HWK.out.mono ?_);rintro e w3 ⟨x,rfl,hxi,hxb,T3⟩;rw [LT.val_eq x];have hq:=(T3.bt HC2.out);have hbx:=(T3.bt HB2.out);obtain ⟨k0,k1⟩:=int1 hq;obtain ⟨c0,c1,c2,c3,f0,f1,f2,f3⟩:=cells4 hbx;have HAW:=hid (after_has hbx hq hNC (.int .i64 x.kind) (.int .i64 x.n) (.string x.name) (.slice x.at_.1 x.args.length x.at_.2) (.int .i64 ((c:Int)+1)));have HT3:=hid T3;clear hq hbx T3 hxi hxb)
    go_ret;obtain ⟨A1,A2,A3⟩:=HAW.out;refine ⟨by rw [HRR.out];rfl,?_,has_back HW2.out HT3.out A3 (Turned.refl _ _)⟩;rw [HRR.out];exact A2
  · have d1:decide ((M:Int) < (c:Int)+1)=false:=decide_eq_false (by omega)
    by_cases hH:X.kind=0∧X.n=n
    · have HHH:=hid hH
      have hr:R=(true,c+1):=by rw [hv1 hH.1,decide_eq_true (.inr hH.2)]
      have HRR:=hid hr;clear hr hv1 hA hH;go_enter Try.func150,Try.ntmps150
      go_wp2_with (go_at_call 170;rw [←HW2.out];(with_reducible refine HWK.out.mono ?_);rintro e w3 ⟨x,rfl,hxi,hxb,T3⟩;rw [LT.val_eq x];have hq:=(T3.bt HC2.out);have hbx:=(T3.bt HB2.out);obtain ⟨k0,k1⟩:=int1 hq;obtain ⟨c0,c1,c2,c3,f0,f1,f2,f3⟩:=cells4 hbx;have hkx:(x.kind == 0)=true:=(by rw [←Tm.bare_kind,hxb];simp [HHH.out.1]);have hnx:(x.n == n)=true:=(by rw [←Tm.bare_n,hxb];simp [HHH.out.2]);have HAW:=hid (after_has hbx hq hNC (.int .i64 x.kind) (.int .i64 x.n) (.string x.name) (.slice x.at_.1 x.args.length x.at_.2) (.int .i64 ((c:Int)+1)));have HT3:=hid T3;clear hq hbx T3 hxi hxb)
      go_ret;obtain ⟨A1,A2,A3⟩:=HAW.out;refine ⟨by rw [HRR.out];rfl,?_,has_back HW2.out HT3.out A3 (Turned.refl _ _)⟩;rw [HRR.out];exact A2
    · have hst:∀ x:LT,x.bare=X→given m x→Tm.hasL M n (c+1) (Tm.flats ((x.bare.args.drop 0).map (Tm.img l)))=R:=by
       intro x hx hgx
       by_cases hk:X.kind=0
       · have ha:=(given_var hgx (by rw [←Tm.bare_kind,hx];exact hk)).2.2.2.1
         rw [hv1 hk,decide_eq_false (fun e=>e.elim hA (fun e=>hH ⟨hk,e⟩)),Tm.bare_args,ha];rfl
       · rw [hx]
         exact (HV2.out hk).2 (by omega)
      have HST:=hid hst;have HA:=hid hA;clear hst hv1 hA HV2
      by_cases hk0:X.kind=0
      · have HKN:=hid (And.intro hk0 (show ¬ X.n=n from fun e=>hH ⟨hk0,e⟩))
        clear hk0 hH;go_enter Try.func150,Try.ntmps150
        go_wp2_with (go_at_call 170;rw [←HW2.out];(with_reducible refine HWK.out.mono ?_);rintro e w3 ⟨x,rfl,hxi,hxb,T3⟩;rw [LT.val_eq x];have hq:=(T3.bt HC2.out);have hbx:=(T3.bt HB2.out);obtain ⟨k0,k1⟩:=int1 hq;obtain ⟨c0,c1,c2,c3,f0,f1,f2,f3⟩:=cells4 hbx;have hkx:(x.kind == 0)=true:=(by rw [←Tm.bare_kind,hxb];simp [HKN.out.1]);have hnx:(x.n == n)=false:=(by rw [←Tm.bare_n,hxb];simp [HKN.out.2]);have HAW:=hid (after_has hbx hq hNC (.int .i64 x.kind) (.int .i64 x.n) (.string x.name) (.slice x.at_.1 x.args.length x.at_.2) (.int .i64 ((c:Int)+1)));have HT3:=hid T3;have HXI:=hid hxi;have HXB:=hid hxb;have HG:=hid (HGX.out x hxb);clear hq hbx T3 hxi hxb)
        obtain ⟨A1,A2,A3⟩:=HAW.out;revert A1 A2 A3;generalize (((((w3.setCell ⟨w.heap.size,0,none⟩ (.int .i64 x.kind)).setCell ⟨w.heap.size,1,none⟩ (.int .i64 x.n)).setCell ⟨w.heap.size,2,none⟩ (.string x.name)).setCell ⟨w.heap.size,3,none⟩ (.slice x.at_.1 x.args.length x.at_.2)).setCell ⟨C,0,none⟩ (.int .i64 ((c:Int)+1)))=W4;intro A1 A2 A3;have HA1:=hid A1;have HA2:=hid A2;have HA3:=hid A3
        have HDW:Hid (DO p wb O m l W4):=(HH.out.turned0 (HT2.out.trans HT3.out)).turned A3 (fun k hk e=>by
         rcases e with e | e
         · exact ⟨fun o=>by have:=HH.out.lt k o;omega,fun o=>by have:=HH.out.plt k o;omega⟩
         · exact ⟨fun o=>HOC.out (e ▸ o),fun o=>HPC.out (e ▸ o)⟩)
        have HXW:Hid (x.In p W4):=LT.In.turned A3 (fun k _ hk e=>by
         rcases e with e | e
         · have:=HH.out.plt k hk;omega
         · exact HPC.out (e ▸ hk)) (fun _ _ q=>q) _ HXI.out
        have hal:x.args.length≤8:=given_arity HG.out;clear A1 A2 A3 c0 c1 c2 c3 f0 f1 f2 f3 k0 k1 HAW HXI
        go_loopg [11] x.args.length (fun q i wr=>HasDL x l M n c C w.heap.size R W4 q i wr)
        case atStart=>exact ⟨0,c+1,Nat.zero_add _,Nat.zero_le _,rfl,show _∧_ from ⟨by omega,by have:=HA.out;omega⟩,HST.out x HXB.out HG.out,by show _=_;rw [HA2.out];rfl,Turned.refl _ _⟩
        case round=>
         obtain ⟨j,cj,HGJ,hj,rfl,HCJ,HRJ,HBJ,HTJ⟩:=hrel;have hb0:=(HTJ.out.block _ (zL HA1.out) hCN).trans HA1.out;obtain ⟨c0,c1,c2,c3,_⟩:=cells4 hb0;clear hb0
         by_cases hjl:j < x.args.length
         · obtain ⟨y,hy⟩:∃ y:LT,x.args[j]? = some y:=⟨_,Qa hjl⟩
           have hDO:DO p wb O m l wr:=HDW.out.turned HTJ.out (fun k hk e=>⟨fun o=>HOC.out (e ▸ o),fun o=>HPC.out (e ▸ o)⟩);have hxw:x.In p wr:=LT.In.turned HTJ.out (fun k _ hk e=>HPC.out (e ▸ hk)) (fun _ _ q=>q) _ HXW.out;obtain ⟨b,o,hbo,_,x0,x1,x2,x3⟩:=hxw.lies.cell hy
           have hyb:x.bare.args[j]? = some y.bare:=by rw [Tm.bare_args,Tm.bares_eq,Qp,hy];rfl
           have hs:=Tm.hasL_arg hyb R HRJ.out;have hcy:=HIH.out y cj C wr (by have:=HK.out;have:=HCJ.out.1;omega) HCJ.out.2 hDO ((LT.ins_iff _).1 hxw.args y (Qf hy)) (given_args' HG.out (Qf hy)) HBJ.out HOC.out HPC.out;obtain ⟨Ry,hRy⟩:∃ z,z=Tm.hasL M n cj (Tm.img l y.bare).flat:=⟨_,rfl⟩
           have hmf:=fun h=>Tm.hasL_false (n:=n) (Tm.img l y.bare).flat HCJ.out.2 h
           have hle:=(Tm.hasL_le M n (Tm.img l y.bare).flat cj).1;rw [←hRy] at hs hcy hmf hle;rw [LT.val_eq y] at hcy;have HCY:=hid hcy;have HS:=hid hs;have HLE:=hid (And.intro hle hmf);have hlen:=hxw.len;clear hy hDO hxw hyb hs hcy hRy hmf hle;obtain ⟨by_,cy⟩:=Ry
           cases by_ with
           | true=>
            have HCY:Hid (Calls Try.prog 150 _ wr (HasDP true cy C wr)):=hid HCY.out;rw [hbo] at c3;clear hbo
            go_wp2_with (go_at_call 150;(with_reducible refine HCY.out.mono ?_);rintro e w5 ⟨rfl,hq5,T5⟩;have HQ5:=hid hq5;have HT5:=hid T5;clear hq5 T5)
            go_ret;have hr:=HS.out.1 (by first | rfl | trivial);refine ⟨by rw [hr];rfl,by rw [hr];exact HQ5.out,has_back HW2.out HT3.out HA3.out (HTJ.out.trans HT5.out)⟩
           | false=>
            have HCY:Hid (Calls Try.prog 150 _ wr (HasDP false cy C wr)):=hid HCY.out;rw [hbo] at c3;clear hbo
            go_wp2_with (go_at_call 150;(with_reducible refine HCY.out.mono ?_);rintro e w5 ⟨rfl,hq5,T5⟩;have HQ5:=hid hq5;have HT5:=hid T5;clear hq5 T5)
            go_roundg (gk - 1)
            case measure=>have:=HGJ.out;omega
            case rel=>exact ⟨j+1,cy,show _=_ by have:=HGJ.out;omega,by omega,by go_num,show _∧_ from ⟨Qo HCJ.out.1 HLE.out.1,HLE.out.2 (by first | rfl | trivial)⟩,HS.out.2 (by first | rfl | trivial),HQ5.out,HTJ.out.trans HT5.out⟩
         · obtain rfl:j=x.args.length:=by omega
           have hr:=Tm.hasL_end (by rw [Tm.bare_args,Tm.bares_eq,Qu];exact Qm _) R HRJ.out;have HRE:=hid hr;clear hr
           go_wp2_with fail
           go_ret;exact ⟨by rw [HRE.out];rfl,by rw [HRE.out];exact HBJ.out,has_back HW2.out HT3.out HA3.out HTJ.out⟩
      · have HKN:=hid hk0
        clear hk0 hH;go_enter Try.func150,Try.ntmps150
        go_wp2_with (go_at_call 170;rw [←HW2.out];(with_reducible refine HWK.out.mono ?_);rintro e w3 ⟨x,rfl,hxi,hxb,T3⟩;rw [LT.val_eq x];have hq:=(T3.bt HC2.out);have hbx:=(T3.bt HB2.out);obtain ⟨k0,k1⟩:=int1 hq;obtain ⟨c0,c1,c2,c3,f0,f1,f2,f3⟩:=cells4 hbx;have hkx:(x.kind == 0)=false:=(by rw [←Tm.bare_kind,hxb];simp [HKN.out]);have HAW:=hid (after_has hbx hq hNC (.int .i64 x.kind) (.int .i64 x.n) (.string x.name) (.slice x.at_.1 x.args.length x.at_.2) (.int .i64 ((c:Int)+1)));have HT3:=hid T3;have HXI:=hid hxi;have HXB:=hid hxb;have HG:=hid (HGX.out x hxb);clear hq hbx T3 hxi hxb)
        obtain ⟨A1,A2,A3⟩:=HAW.out;revert A1 A2 A3;generalize (((((w3.setCell ⟨w.heap.size,0,none⟩ (.int .i64 x.kind)).setCell ⟨w.heap.size,1,none⟩ (.int .i64 x.n)).setCell ⟨w.heap.size,2,none⟩ (.string x.name)).setCell ⟨w.heap.size,3,none⟩ (.slice x.at_.1 x.args.length x.at_.2)).setCell ⟨C,0,none⟩ (.int .i64 ((c:Int)+1)))=W4;intro A1 A2 A3;have HA1:=hid A1;have HA2:=hid A2;have HA3:=hid A3
        have HDW:Hid (DO p wb O m l W4):=(HH.out.turned0 (HT2.out.trans HT3.out)).turned A3 (fun k hk e=>by
         rcases e with e | e
         · exact ⟨fun o=>by have:=HH.out.lt k o;omega,fun o=>by have:=HH.out.plt k o;omega⟩
         · exact ⟨fun o=>HOC.out (e ▸ o),fun o=>HPC.out (e ▸ o)⟩)
        have HXW:Hid (x.In p W4):=LT.In.turned A3 (fun k _ hk e=>by
         rcases e with e | e
         · have:=HH.out.plt k hk;omega
         · exact HPC.out (e ▸ hk)) (fun _ _ q=>q) _ HXI.out
        have hal:x.args.length≤8:=given_arity HG.out;clear A1 A2 A3 c0 c1 c2 c3 f0 f1 f2 f3 k0 k1 HAW HXI
        go_loopg [11] x.args.length (fun q i wr=>HasDL x l M n c C w.heap.size R W4 q i wr)
        case atStart=>exact ⟨0,c+1,Nat.zero_add _,Nat.zero_le _,rfl,show _∧_ from ⟨by omega,by have:=HA.out;omega⟩,HST.out x HXB.out HG.out,by show _=_;rw [HA2.out];rfl,Turned.refl _ _⟩
        case round=>
         obtain ⟨j,cj,HGJ,hj,rfl,HCJ,HRJ,HBJ,HTJ⟩:=hrel;have hb0:=(HTJ.out.block _ (zL HA1.out) hCN).trans HA1.out;obtain ⟨c0,c1,c2,c3,_⟩:=cells4 hb0;clear hb0
         by_cases hjl:j < x.args.length
         · obtain ⟨y,hy⟩:∃ y:LT,x.args[j]? = some y:=⟨_,Qa hjl⟩
           have hDO:DO p wb O m l wr:=HDW.out.turned HTJ.out (fun k hk e=>⟨fun o=>HOC.out (e ▸ o),fun o=>HPC.out (e ▸ o)⟩);have hxw:x.In p wr:=LT.In.turned HTJ.out (fun k _ hk e=>HPC.out (e ▸ hk)) (fun _ _ q=>q) _ HXW.out;obtain ⟨b,o,hbo,_,x0,x1,x2,x3⟩:=hxw.lies.cell hy
           have hyb:x.bare.args[j]? = some y.bare:=by rw [Tm.bare_args,Tm.bares_eq,Qp,hy];rfl
           have hs:=Tm.hasL_arg hyb R HRJ.out;have hcy:=HIH.out y cj C wr (by have:=HK.out;have:=HCJ.out.1;omega) HCJ.out.2 hDO ((LT.ins_iff _).1 hxw.args y (Qf hy)) (given_args' HG.out (Qf hy)) HBJ.out HOC.out HPC.out;obtain ⟨Ry,hRy⟩:∃ z,z=Tm.hasL M n cj (Tm.img l y.bare).flat:=⟨_,rfl⟩
           have hmf:=fun h=>Tm.hasL_false (n:=n) (Tm.img l y.bare).flat HCJ.out.2 h
           have hle:=(Tm.hasL_le M n (Tm.img l y.bare).flat cj).1;rw [←hRy] at hs hcy hmf hle;rw [LT.val_eq y] at hcy;have HCY:=hid hcy;have HS:=hid hs;have HLE:=hid (And.intro hle hmf);have hlen:=hxw.len;clear hy hDO hxw hyb hs hcy hRy hmf hle;obtain ⟨by_,cy⟩:=Ry
           cases by_ with
           | true=>
            have HCY:Hid (Calls Try.prog 150 _ wr (HasDP true cy C wr)):=hid HCY.out;rw [hbo] at c3;clear hbo
            go_wp2_with (go_at_call 150;(with_reducible refine HCY.out.mono ?_);rintro e w5 ⟨rfl,hq5,T5⟩;have HQ5:=hid hq5;have HT5:=hid T5;clear hq5 T5)
            go_ret;have hr:=HS.out.1 (by first | rfl | trivial);refine ⟨by rw [hr];rfl,by rw [hr];exact HQ5.out,has_back HW2.out HT3.out HA3.out (HTJ.out.trans HT5.out)⟩
           | false=>
            have HCY:Hid (Calls Try.prog 150 _ wr (HasDP false cy C wr)):=hid HCY.out;rw [hbo] at c3;clear hbo
            go_wp2_with (go_at_call 150;(with_reducible refine HCY.out.mono ?_);rintro e w5 ⟨rfl,hq5,T5⟩;have HQ5:=hid hq5;have HT5:=hid T5;clear hq5 T5)
            go_roundg (gk - 1)
            case measure=>have:=HGJ.out;omega
            case rel=>exact ⟨j+1,cy,show _=_ by have:=HGJ.out;omega,by omega,by go_num,show _∧_ from ⟨Qo HCJ.out.1 HLE.out.1,HLE.out.2 (by first | rfl | trivial)⟩,HS.out.2 (by first | rfl | trivial),HQ5.out,HTJ.out.trans HT5.out⟩
         · obtain rfl:j=x.args.length:=by omega
           have hr:=Tm.hasL_end (by rw [Tm.bare_args,Tm.bares_eq,Qu];exact Qm _) R HRJ.out;have HRE:=hid hr;clear hr
           go_wp2_with fail
           go_ret;exact ⟨by rw [HRE.out];rfl,by rw [HRE.out];exact HBJ.out,has_back HW2.out HT3.out HA3.out HTJ.out⟩
end Go.Proofs.Ytoihjobdfjajfaa
namespace Go.Proofs.Ytoihjobdfjajfaa
open Go.RowKit Go.Maps
theorem DO.alloc {p O:Nat→Prop} {wb m:Nat} {l:Tm.Trail} {w w':World} (h:DO p wb O m l w) (T:Turned zN w w'):¬ O w'.heap.size∧¬ p w'.heap.size:=
 ⟨fun o=>by have:=h.lt _ o;have:=T.size;omega,fun o=>by have:=h.plt _ o;have:=T.size;omega⟩
theorem has_own {w W W':World} {o:Obj} {C:Nat} (T:Turned zN w W) (hC:C=W.heap.size) (T2:Turned (fun k=>k=C) (W.alloc o) W'):Turned zN w W':=
 (T.alloc o).step T2 (fun i hi e=>by have:=T.size;omega)
end Go.Proofs.Ytoihjobdfjajfaa
namespace Go.Proofs.Ytoihjobdfjajfaa
open Lib (hid)
open Go.RowKit Go.Maps
structure MakD (p:Nat→Prop) (σ:Tm Unit→Tm Unit) (G K:Nat) (t:LT) (w3:World) (j:Nat) (us:List LT) (W:World):Prop where
 len:us.length=t.args.length
 bares:(us.take j).map Tm.bare=(t.args.take j).map fun x=>σ x.bare
 row:Row W 41 4 (.slice (some ⟨G,0,none⟩) t.args.length t.args.length) t.args.length (us.flatMap LT.cells)
 ins:LT.Ins (fun k=>p k∨G+1≤k) W us
 turned:Turned (fun k=>k=G∨k=K) w3 W
theorem MakD.put {p:Nat→Prop} {σ:Tm Unit→Tm Unit} {G K:Nat} {t x u:LT} {w3 W W7:World} {j:Nat} {us:List LT} (h:MakD p σ G K t w3 j us W) (hp:∀ k,p k→k < G∧k≠K) (hKG:K < G) (hG:G < W.heap.size) (hx:t.args[j]? = some x) (hb:u.bare=σ x.bare) (hu:u.In (fun k=>p k∨W.heap.size≤k) W7) (hT:Turned (fun k=>k=K) W W7) :
 MakD p σ G K t w3 (j+1) (us.set j u) ((((W7.setCell ⟨G,j * 4,none⟩ (.int .i64 u.kind)).setCell ⟨G,j * 4+1,none⟩ (.int .i64 u.n)).setCell ⟨G,j * 4+2,none⟩ (.string u.name)).setCell ⟨G,j * 4+3,none⟩ (.slice u.at_.1 u.args.length u.at_.2)):=by
 have hjl:j < t.args.length:=(Qg.1 hx).1
 have hju:j < us.length:=by rw [h.len];exact hjl
 have Tq:Turned (fun k=>k=G) W7 ((((W7.setCell ⟨G,j * 4,none⟩ (.int .i64 u.kind)).setCell ⟨G,j * 4+1,none⟩ (.int .i64 u.n)).setCell ⟨G,j * 4+2,none⟩ (.string u.name)).setCell ⟨G,j * 4+3,none⟩ (.slice u.at_.1 u.args.length u.at_.2)):=
  ((((Turned.refl (fun k=>k=G) W7).setCell (p:=⟨G,j * 4,none⟩) (.inr rfl) _).setCell (p:=⟨G,j * 4+1,none⟩) (.inr rfl) _).setCell (p:=⟨G,j * 4+2,none⟩) (.inr rfl) _).setCell (p:=⟨G,j * 4+3,none⟩) (.inr rfl) _
 refine ⟨by rw [List.length_set];exact h.len,?_,?_,?_,(h.turned.trans (hT.mono (fun _ _ e=>.inr e))).trans (Tq.mono (fun _ _ e=>.inl e))⟩
 · have e1:(us.set j u).take (j+1)=us.take j++[u]:=by
    rw [List.take_add_one,List.take_set,List.getElem?_set_self hju];rw [List.set_eq_of_length_le (by rw [List.length_take];omega)];rfl
   have e2:t.args.take (j+1)=t.args.take j++[x]:=by rw [List.take_add_one,hx];rfl
   rw [e1,e2,List.map_append,List.map_append,h.bares];simp [hb]
 · have hr:=h.row.turned hT (fun k hk e=>by simp [Value.ownBlock] at hk;omega)
   have r1:=hr.setAt (off:=j * 4) (by omega) (.int .i64 u.kind);have r2:=r1.setAt (off:=j * 4+1) (by omega) (.int .i64 u.n);have r3:=r2.setAt (off:=j * 4+2) (by omega) (.string u.name);have r4:=r3.setAt (off:=j * 4+3) (by omega) (.slice u.at_.1 u.args.length u.at_.2);rw [flat_set hju] at r4;exact r4
 · rw [LT.ins_iff]
   intro y hy
   have keep:∀ z:LT,z.In (fun k=>p k∨G+1≤k) W7→z.In (fun k=>p k∨G+1≤k) _:=fun z hz=>LT.In.turned Tq (fun k _ hk e=>by
    rcases hk with hk | hk
    · have:=hp k hk;omega
    · omega) (fun _ _ hk=>hk) z hz
   refine keep y ?_
   rcases List.mem_or_eq_of_mem_set hy with hy | rfl
   · exact LT.In.turned hT (fun k _ hk e=>by
      rcases hk with hk | hk
      · exact (hp k hk).2 e
      · omega) (fun _ _ hk=>hk) y ((LT.ins_iff _).1 h.ins y hy)
   · exact hu.mono (fun k _ hk=>hk.elim .inl (fun hk=>.inr (by omega)))
def WhQ (p:Nat→Prop) (l:Tm.Trail) (C:Nat) (t:LT) (s d:Nat) (w:World) (e:Ending) (w':World):Prop:=
 ∃ (u:LT) (L':Int),e = .returned (.tuple #[.agg #[.int .i64 u.kind,.int .i64 u.n,.string u.name,.slice u.at_.1 u.args.length u.at_.2],.bool (Tm.makeOk s d (Tm.img l t.bare))])∧(Tm.makeOk s d (Tm.img l t.bare)=true→u.bare=Tm.img l t.bare∧L'+((s+(Tm.img l t.bare).size:Nat):Int)=2000)∧
  w'.heap[C]? = some (.cells #[.int .i64 L'] 3 (0,0))∧u.In (fun k=>p k∨w.heap.size≤k) w'∧Turned (fun k=>k=C) w w'
theorem WhQ.no {p:Nat→Prop} {l:Tm.Trail} {C:Nat} {t x:LT} {s d:Nat} {w w':World} {L':Int} (hno:Tm.makeOk s d (Tm.img l t.bare)=false) (hC:w'.heap[C]? = some (.cells #[.int .i64 L'] 3 (0,0))) (hx:x.In p w') (T:Turned (fun k=>k=C) w w') :
 WhQ p l C t s d w (.returned (.tuple #[.agg #[.int .i64 x.kind,.int .i64 x.n,.string x.name,.slice x.at_.1 x.args.length x.at_.2],.bool false])) w':=
 ⟨x,L',by rw [hno],(fun e=>by rw [hno] at e;cases e),hC,hx.mono (fun _ _ h=>.inl h),T⟩
theorem WhQ.yes {p:Nat→Prop} {l:Tm.Trail} {C:Nat} {t u:LT} {s d:Nat} {w w':World} {L':Int} (hok:Tm.makeOk s d (Tm.img l t.bare)=true) (hb:u.bare=Tm.img l t.bare) (hC:w'.heap[C]? = some (.cells #[.int .i64 L'] 3 (0,0))) (hL:L'+((s+(Tm.img l t.bare).size:Nat):Int)=2000) (hu:u.In (fun k=>p k∨w.heap.size≤k) w') (T:Turned (fun k=>k=C) w w') :
 WhQ p l C t s d w (.returned (.tuple #[.agg #[.int .i64 u.kind,.int .i64 u.n,.string u.name,.slice u.at_.1 u.args.length u.at_.2],.bool true])) w':=
 ⟨u,L',by rw [hok],fun _=>⟨hb,hL⟩,hC,hu,T⟩
theorem wh_no {s d:Nat} {u:Tm Unit} (h:¬ s+1≤2000∨¬ d≤64):Tm.makeOk s d u=false:=by
 rw [Bool.eq_false_iff,ne_eq,Tm.makeOk_iff];intro c;have h1:=Tm.size_pos u;have h2:=Tm.depth_pos u;omega
theorem wh_back {w w2 w3 W W':World} {C:Nat} (T2:Turned zN w w2) (T3:Turned zN w2 w3) (A:Turned (fun k=>k=w.heap.size∨k=C) w3 W) (Tq:Turned (fun k=>k=w.heap.size+1) W W'):Turned (fun k=>k=C) w W':=
 (((T2.trans T3).mono (fun _ _ f=>f.elim):Turned (fun k=>k=C) w w3).step A (fun i hi e=>e.elim (fun e=>by omega) id)).step Tq (fun i hi e=>by omega)
theorem wh_in {p q:Nat→Prop} {w3 w W W':World} {C:Nat} {x:LT} (hp:∀ k,p k→k < w.heap.size∧k≠C) (A:Turned (fun k=>k=w.heap.size∨k=C) w3 W) (Tq:Turned (fun k=>k=w.heap.size+1) W W') (h:x.In p w3) (hq:∀ k,p k→q k):x.In q W':=
 LT.In.turned Tq (fun k _ hk e=>by have:=(hp k hk).1;omega) (fun k _ hk=>hq k hk) x (LT.In.turned A (fun k _ hk e=>by have:=hp k hk;omega) (fun _ _ hk=>hk) x h)
theorem turned_store4g (W:World) (G j:Nat) (a b c d:Value):Turned (fun k=>k=G) W ((((W.setCell ⟨G,j * 4,none⟩ a).setCell ⟨G,j * 4+1,none⟩ b).setCell ⟨G,j * 4+2,none⟩ c).setCell ⟨G,j * 4+3,none⟩ d):=
 ((((Turned.refl (fun k=>k=G) W).setCell (p:=⟨G,j * 4,none⟩) (.inr rfl) _).setCell (p:=⟨G,j * 4+1,none⟩) (.inr rfl) _).setCell (p:=⟨G,j * 4+2,none⟩) (.inr rfl) _).setCell (p:=⟨G,j * 4+3,none⟩) (.inr rfl) _
theorem whk_back {w W5 wr W7 W8:World} {C G N:Nat} (T5:Turned (fun k=>k=C) w W5) (TM:Turned (fun k=>k=G∨k=C) W5 wr) (T7:Turned (fun k=>k=C) wr W7) (Tq:Turned (fun k=>k=N) W7 W8) (h:w.heap.size≤G∧w.heap.size≤N):Turned (fun k=>k=C) w W8:=
 ((T5.step TM (fun i hi e=>e.elim (fun e=>by omega) id)).trans T7).step Tq (fun i hi e=>by omega)
def WhL (p:Nat→Prop) (C:Nat) (l:Tm.Trail) (x:LT) (s d G:Nat) (Y:List (Tm Unit)) (W5:World) (k:Nat) (i:Value) (wr:World):Prop:=
 ∃ (j:Nat) (us:List LT) (Lj:Int),Hid (j+k=x.args.length)∧j≤x.args.length∧i = .int .i64 j∧Hid (MakD p (Tm.img l) G C x W5 j us wr)∧Hid (wr.heap[C]? = some (.cells #[.int .i64 Lj] 3 (0,0)))∧Hid (Lj+((s+1+Tm.sizes (Y.take j):Nat):Int)=2000∧s+1+Tm.sizes (Y.take j)≤2000)∧Hid (∀ y∈Y.take j,d+1+y.depth≤65)
set_option maxRecDepth 100000 in
theorem whole152 {p O:Nat→Prop} {wb m:Nat} {l:Tm.Trail} (n:Nat):∀ (t:LT) (s d C:Nat) (L D:Int) (w:World),d+n=66→d≤65→L+(s:Int)=2000→D+(d:Int)=65→s≤2000→DO p wb O m l w→t.In p w→(∀ z∈t.bare.flat,goodOneB z=true)→w.heap[C]? = some (.cells #[.int .i64 L] 3 (0,0))→¬ O C→¬ p C→
 Calls Try.prog 152 #[.pointer (some ⟨wb,0,none⟩),t.val,.pointer (some ⟨C,0,none⟩),.int .i64 D] w (WhQ p l C t s d w):=by
 induction n with
 | zero=>intro t s d C L D w h1 h2;omega
 | succ n ih=>
  intro t s d C L D w hdn hd hLs hDd hs h ht hg hC hOC hpC;have hCl:=(zL hC);have h2:=twoBox w (.cells #[.int .i64 t.kind,.int .i64 t.n,.string t.name,.slice t.at_.1 t.args.length t.at_.2] 41) (.cells #[.int .i64 0,.int .i64 0,.string ⟨#[]⟩,.slice none 0 0] 41);obtain ⟨w2,hw2⟩:∃ z,z=(w.alloc (.cells #[.int .i64 t.kind,.int .i64 t.n,.string t.name,.slice t.at_.1 t.args.length t.at_.2] 41)).alloc (.cells #[.int .i64 0,.int .i64 0,.string ⟨#[]⟩,.slice none 0 0] 41):=⟨_,rfl⟩;rw [←hw2] at h2;have T2:=h2.1
  have hwk:Calls Try.prog 170 #[.pointer (some ⟨wb,0,none⟩),t.val] w2 fun e w'=>∃ x:LT,e = .returned x.val∧x.In p w'∧x.bare=Tm.walkT l t.bare∧Turned zN w2 w':=walk170 (h.turned0 T2) (ht.turned0 T2) hg
  have hwd:=Tm.walked h.ok _ t.bare (Qm _) hg;obtain ⟨X,hX⟩:∃ z,z=Tm.walkT l t.bare:=⟨_,rfl⟩;rw [←hX] at hwk hwd
  have hNC:C≠w.heap.size:=by omega
  have hCN:w.heap.size≠C:=by omega
  have hNC1:C≠w.heap.size+1:=by omega
  have hCN1:w.heap.size+1≠C:=by omega
  rw [LT.val_eq] at hwk ⊢;have hC2:w2.heap[C]? = some (.cells #[.int .i64 L] 3 (0,0)):=(T2.block C hCl (fun f=>f)).trans hC
  have HPP2:Hid (∀ k,p k→k < w.heap.size∧k≠C):=fun k hk=>⟨h.plt k hk,fun e=>hpC (e ▸ hk)⟩
  have HPP:Hid (∀ k,p k→k < w.heap.size∧k≠C):=fun k hk=>⟨h.plt k hk,fun e=>hpC (e ▸ hk)⟩
  have HWK:=hid hwk;have HB2:=hid h2.2.2;have HC2:=hid hC2;have HW2:=hid hw2;have HT2:=hid T2;have HH:=hid h;have HOC:=hid hOC;have HPC:=hid hpC;have HIH:=hid ih;have HCL:=hid hCl;have HWD:=hid hwd;have HLS:=hid (And.intro hLs (And.intro hDd (And.intro hdn (And.intro hd hs))))
  have hL0:0≤L∧L≤2000:=by omega
  have hD0:0≤D∧D≤65:=by omega
  clear hwk h2 hC2 hw2 T2 h ht hg hC hOC hpC ih hX hwd hLs hDd hdn hd hs
  by_cases hA:1≤L
  · have d1:decide (L - 1 < 0)=false:=decide_eq_false (by omega)
    by_cases hD:1≤D
    · have d2:decide (D < 1)=false:=decide_eq_false (by omega)
      obtain ⟨q,hq⟩:∃ z,z=X.args.length:=⟨_,rfl⟩
      by_cases hL:q=0
      · have HLM:=hid (leaf_make (s:=s) (d:=d) HH.out.ok HWD.out (by rw [←hq];exact hL) (by have:=HLS.out;omega) (by have:=HLS.out;omega))
        have HQ:=hid (show X.args.length=0 by rw [←hq];exact hL);clear hq hL;go_enter Try.func152,Try.ntmps152
        go_wp2_with (go_at_call 170;rw [←HW2.out];(with_reducible refine HWK.out.mono ?_);rintro e w3 ⟨x,rfl,hxi,hxb,T3⟩;rw [LT.val_eq x];have hq:=(T3.bt HC2.out);have hbx:=(T3.bt HB2.out.1);have hbz:=(T3.bt HB2.out.2);obtain ⟨k0,k1⟩:=int1 hq;obtain ⟨c0,c1,c2,c3,f0,f1,f2,f3⟩:=cells4 hbx;obtain ⟨z0,z1,z2,z3,g0,g1,g2,g3⟩:=cells4 hbz;have HAW:=hid (after_has hbx hq hNC (.int .i64 x.kind) (.int .i64 x.n) (.string x.name) (.slice x.at_.1 x.args.length x.at_.2) (.int .i64 (L - 1)));have HBZ:=hid hbz;have HT3:=hid T3;have HXI:=hid hxi;have HXB:=hid hxb;have hlx:x.args.length=X.args.length:=(Tm.bare_arity x).symm.trans (congrArg (fun z=>(Tm.args z).length) hxb);have hl0:(x.args.length == 0)=true:=(by rw [hlx,HQ.out];rfl);have hl1:((x.args.length:Int) == 0)=true:=(by rw [hlx,HQ.out];rfl);clear hlx;clear hq hbx hbz T3 hxi hxb)
        obtain ⟨A1,A2,A3⟩:=HAW.out;have hbz:=(A3.block (w.heap.size+1) (zL HBZ.out) (fun e=>by have:=HCL.out;omega)).trans HBZ.out;have hset:=set4 (a':=.int .i64 x.kind) (b':=.int .i64 x.n) (c':=.string x.name) (d':=.slice x.at_.1 x.args.length x.at_.2) hbz
        have Tq:=fun W=>turned_store4 W (w.heap.size+1) (.int .i64 x.kind) (.int .i64 x.n) (.string x.name) (.slice x.at_.1 x.args.length x.at_.2)
        refine bodyPost_ret (results_cell_tmp1 Try.results152 _ _ (w.heap.size+1) 41 _ (0,0) _ rfl hset Try.underlying41 rfl (by kernel_rfl)) rfl (WhQ.yes HLM.out.2.1 (HXB.out.trans HLM.out.1.symm) (((Tq _).block C (zL A2) (by have:=HCL.out;omega)).trans A2) (by rw [HLM.out.2.2];have:=HLS.out;omega) (wh_in HPP.out A3 (Tq _) HXI.out (fun _ h=>.inl h)) (wh_back HT2.out HT3.out A3 (Tq _)))
      · have hxa:¬ X.args=[]:=fun e=>hL (by rw [hq,e];rfl)
        have HKN:=hid (Tm.one_args (HWD.out.ones X (by rw [Tm.flat_eq];exact Qe ..)) hxa);have HAR:=hid (HWD.out.args hxa);have HQ:=hid (show 0 < X.args.length by omega);clear hq hL hxa;go_enter Try.func152,Try.ntmps152
        go_wp2_with (go_at_call 170;rw [←HW2.out];(with_reducible refine HWK.out.mono ?_);rintro e w3 ⟨x,rfl,hxi,hxb,T3⟩;rw [LT.val_eq x];have hq:=(T3.bt HC2.out);have hbx:=(T3.bt HB2.out.1);have hbz:=(T3.bt HB2.out.2);obtain ⟨k0,k1⟩:=int1 hq;obtain ⟨c0,c1,c2,c3,f0,f1,f2,f3⟩:=cells4 hbx;obtain ⟨z0,z1,z2,z3,g0,g1,g2,g3⟩:=cells4 hbz;have HAW:=hid (after_has hbx hq hNC (.int .i64 x.kind) (.int .i64 x.n) (.string x.name) (.slice x.at_.1 x.args.length x.at_.2) (.int .i64 (L - 1)));have HBZ:=hid hbz;have HT3:=hid T3;have HXI:=hid hxi;have HXB:=hid hxb;have hlx:x.args.length=X.args.length:=(Tm.bare_arity x).symm.trans (congrArg (fun z=>(Tm.args z).length) hxb);have hal8:x.args.length≤8:=(by have:=HKN.out.2.2;omega);have hl0:(x.args.length == 0)=false:=(by have:=HQ.out;exact beq_false_of_ne (by omega));have hl1:((x.args.length:Int) == 0)=false:=(by have:=HQ.out;exact beq_false_of_ne (by omega));obtain ⟨ZZ,hZZ⟩:∃ z,z=madeCells zeroR.cells (x.args.length * 4):=⟨_,rfl⟩;have hm:=make_blanks x.args.length (by omega);rw [←hZZ] at hm;have hmk:=(fun W=>(hm W).1);have HMK:=hid (fun W=>(hm W).2);clear hlx hm hZZ;clear hq hbx hbz T3 hxi hxb)
        obtain ⟨A1,A2,A3⟩:=HAW.out
        have hsz:(((((w3.setCell ⟨w.heap.size,0,none⟩ (.int .i64 x.kind)).setCell ⟨w.heap.size,1,none⟩ (.int .i64 x.n)).setCell ⟨w.heap.size,2,none⟩ (.string x.name)).setCell ⟨w.heap.size,3,none⟩ (.slice x.at_.1 x.args.length x.at_.2)).setCell ⟨C,0,none⟩ (.int .i64 (L - 1))).heap.size=w3.heap.size:=by simp [World.setCell]
        have hbz:=(A3.block (w.heap.size+1) (zL HBZ.out) (fun e=>by have:=HCL.out;omega)).trans HBZ.out;revert A1 A2 A3 hsz hbz;generalize (((((w3.setCell ⟨w.heap.size,0,none⟩ (.int .i64 x.kind)).setCell ⟨w.heap.size,1,none⟩ (.int .i64 x.n)).setCell ⟨w.heap.size,2,none⟩ (.string x.name)).setCell ⟨w.heap.size,3,none⟩ (.slice x.at_.1 x.args.length x.at_.2)).setCell ⟨C,0,none⟩ (.int .i64 (L - 1)))=W4;intro A1 A2 A3 hsz hbz;have HR0:=HMK.out W4;rw [hsz] at HR0;have TA:=(Turned.refl (fun _=>False) W4).alloc (.cells ZZ 41)
        have hds:DO p wb O m l W4:=(HH.out.turned0 (HT2.out.trans HT3.out)).turned A3 (fun k hk e=>by
         rcases e with e | e
         · exact ⟨fun o=>by have:=HH.out.lt k o;omega,fun o=>by have:=HH.out.plt k o;omega⟩
         · exact ⟨fun o=>HOC.out (e ▸ o),fun o=>HPC.out (e ▸ o)⟩)
        have hxs:x.In p W4:=LT.In.turned A3 (fun k _ hk e=>by have:=HPP.out k hk;omega) (fun _ _ q=>q) _ HXI.out;have hTw:Turned (fun k=>k=C) w W4:=((HT2.out.trans HT3.out).mono (fun _ _ f=>f.elim):Turned (fun k=>k=C) w w3).step A3 (fun i hi e=>e.elim (fun e=>by omega) id);have HH5:=And.intro (hid HR0) (And.intro (hid ((TA.bt A1))) (And.intro (hid ((TA.bt A2))) (And.intro (hid ((TA.bt hbz))) (And.intro (hid (hds.turned0 TA)) (And.intro (hid (hxs.turned0 TA)) (And.intro (hid (hTw.trans (TA.mono (fun _ _ f=>f.elim)))) (hid (show (W4.alloc (.cells ZZ 41)).heap.size=w3.heap.size+1 by simp;omega))))))))
        have hG2:w.heap.size+2≤w3.heap.size:=by have:=(zL HBZ.out);omega
        clear HR0 TA hds hxs hTw A1 A2 A3 hsz hbz HAW HBZ HXI HT3 HMK hmk c0 c1 c2 c3 f0 f1 f2 f3 z0 z1 z2 z3 g0 g1 g2 g3 k0 k1;revert HH5;generalize W4.alloc (.cells ZZ 41)=W5;obtain ⟨G,hG⟩:∃ z,z=w3.heap.size:=⟨_,rfl⟩;rw [←hG] at hG2 ⊢;intro HH5;obtain ⟨HR0,HB5,HC5,HZ5,HD5,HX5,HT5,HS5⟩:=HH5;have HGG:=hid hG2;have HGG2:Hid (C < G∧w.heap.size≤G):=hid (by have:=HCL.out;omega);clear hG hG2
        have hY:Tm.args (Tm.img l t.bare)=x.args.map (fun y=>Tm.img l y.bare):=by
         rw [HAR.out];show X.args.map (Tm.img l)=_;rw [←HXB.out,Tm.bare_args,Tm.bares_eq,List.map_map];rfl
        obtain ⟨Y,hYe⟩:∃ z,z=x.args.map (fun y=>Tm.img l y.bare):=⟨_,rfl⟩;rw [←hYe] at hY;have HY:=hid hY;have HYE:=hid hYe;clear hY hYe;have hinit:Hid (MakD p (Tm.img l) G C x W5 0 (blanks x.args.length) W5):=⟨blanks_length _,rfl,HR0.out,blanks_in _ _ _,Turned.refl _ _⟩
        go_loopg [11] x.args.length (fun q i wr=>WhL p C l x s d G Y W5 q i wr)
        case atStart=>exact ⟨0,_,L - 1,Nat.zero_add _,Nat.zero_le _,rfl,hinit,HC5.out,show _∧_ from ⟨by rw [List.take_zero];show L - 1+((s+1+0:Nat):Int)=2000;have:=HLS.out;omega,by rw [List.take_zero];show s+1+0≤2000;have:=HLS.out;omega⟩,fun y hy=>by rw [List.take_zero] at hy;cases hy⟩
        case round=>
         obtain ⟨j,us,Lj,HG,hj,rfl,HM,HCJ,HLJ,HDJ⟩:=hrel;have hb0:=(HM.out.turned.block _ (zL HB5.out) (fun e=>by have:=HGG.out;omega)).trans HB5.out;obtain ⟨c0,c1,c2,c3,_⟩:=cells4 hb0;have hbz:=(HM.out.turned.block _ (zL HZ5.out) (fun e=>by have:=HGG.out;omega)).trans HZ5.out;have HBZ:=hid hbz;have HB0:=hid hb0;clear hb0 hbz
         by_cases hjl:j < x.args.length
         · obtain ⟨y,hy⟩:∃ y:LT,x.args[j]? = some y:=⟨_,Qa hjl⟩
           have hDO:DO p wb O m l wr:=HD5.out.turned HM.out.turned (fun k hk e=>by
            have:=HGG.out
            rcases e with e | e
            · exact ⟨fun o=>by have:=HH.out.lt k o;omega,fun o=>by have:=HH.out.plt k o;omega⟩
            · exact ⟨fun o=>HOC.out (e ▸ o),fun o=>HPC.out (e ▸ o)⟩)
           have hxw:x.In p wr:=LT.In.turned HM.out.turned (fun k _ hk e=>by have:=HGG.out;have:=HPP.out k hk;omega) (fun _ _ q=>q) _ HX5.out;obtain ⟨b,o,hbo,_,x0,x1,x2,x3⟩:=hxw.lies.cell hy
           have hyY:Y[j]? = some (Tm.img l y.bare):=by rw [HYE.out,Qp,hy];rfl
           have hyg:∀ z∈y.bare.flat,goodOneB z=true:=fun z hz=>HWD.out.ones z (by
            rw [←HXB.out,Tm.flat_eq]
            exact Qb _ (mem_flats_arg (by rw [Tm.bare_args,Tm.bares_eq];exact List.mem_map_of_mem (Qf hy)) hz))
           have hcy:=HIH.out y (s+1+Tm.sizes (Y.take j)) (d+1) C Lj (D - 1) wr (by have:=HLS.out;omega) (by have:=HLS.out;omega) HLJ.out.1 (by have:=HLS.out;omega) HLJ.out.2 hDO ((LT.ins_iff _).1 hxw.args y (Qf hy)) hyg HCJ.out HOC.out HPC.out;rw [LT.val_eq y] at hcy;have HCY:=hid hcy;have HYY:=hid hyY;have HXY:=hid hy;rw [hbo] at c3;clear hy hDO hxw hyY hyg hcy hbo
           cases hok:Tm.makeOk (s+1+Tm.sizes (Y.take j)) (d+1) (Tm.img l y.bare) with
           | true=>
            have hmk:=Tm.makeOk_iff.1 hok;have HMK:=hid hmk
            have HCY2:Hid (Calls Try.prog 152 _ wr fun e w'=>∃ (u:LT) (L':Int),e = .returned (.tuple #[.agg #[.int .i64 u.kind,.int .i64 u.n,.string u.name,.slice u.at_.1 u.args.length u.at_.2],.bool true])∧(u.bare=Tm.img l y.bare∧L'+((s+1+Tm.sizes (Y.take j)+(Tm.img l y.bare).size:Nat):Int)=2000)∧w'.heap[C]? = some (.cells #[.int .i64 L'] 3 (0,0))∧u.In (fun k=>p k∨wr.heap.size≤k) w'∧Turned (fun k=>k=C) wr w'):=hid (HCY.out.mono (fun e w' h=>by
             obtain ⟨u,L',h1,h2,h3⟩:=h;rw [hok] at h1
             exact ⟨u,L',h1,h2 hok,h3⟩))
            clear hok hmk HCY
            go_wp2_with (go_at_call 152;(with_reducible refine HCY2.out.mono ?_);rintro e w7 ⟨u,L7,rfl,⟨hub,hL7⟩,hq7,hui,T7⟩;have T8:=T7.alloc (.cells #[.int .i64 u.kind,.int .i64 u.n,.string u.name,.slice u.at_.1 u.args.length u.at_.2] 41);have hI:=HM.out.put (fun k hk=>⟨by have:=(HPP2.out k hk).1;have:=HGG2.out.2;omega,(HPP2.out k hk).2⟩) HGG2.out.1 (by have:=HM.out.turned.size;have:=HS5.out;omega) HXY.out hub (hui.turned0 ((Turned.refl _ _).alloc (.cells #[.int .i64 u.kind,.int .i64 u.n,.string u.name,.slice u.at_.1 u.args.length u.at_.2] 41))) T8;have hrw:=HM.out.row.turned T8 (fun k hk e=>by simp [Value.ownBlock] at hk;have:=HGG2.out.1;omega);have f0:=hrw.free rfl (j * 4);have f1:=hrw.free rfl (j * 4+1);have f2:=hrw.free rfl (j * 4+2);have f3:=hrw.free rfl (j * 4+3);have g0:=row_some hrw (j * 4) (by omega);have g1:=row_some hrw (j * 4+1) (by omega);have g2:=row_some hrw (j * 4+2) (by omega);have g3:=row_some hrw (j * 4+3) (by omega);obtain ⟨z0,g0⟩:=g0;obtain ⟨z1,g1⟩:=g1;obtain ⟨z2,g2⟩:=g2;obtain ⟨z3,g3⟩:=g3;have hcl:=(((Turned.refl (fun _=>False) w7).alloc (.cells #[.int .i64 u.kind,.int .i64 u.n,.string u.name,.slice u.at_.1 u.args.length u.at_.2] 41)).block C (zL hq7) (fun f=>f)).trans hq7;have hnb:=heap_alloc_new w7 (.cells #[.int .i64 u.kind,.int .i64 u.n,.string u.name,.slice u.at_.1 u.args.length u.at_.2] 41);obtain ⟨y0,y1,y2,y3,_⟩:=cells4 hnb;have HI:=hid hI;have HQ7:=hid hcl;have HL7:=hid hL7;clear hI hrw hub hui hq7 hcl hL7 hnb)
            go_roundg (gk - 1)
            case measure=>have:=HG.out;omega
            case rel=>exact ⟨j+1,_,L7,show _=_ by have:=HG.out;omega,by omega,by go_num,HI,show _=_ by (have Tq:=turned_store4g (w7.alloc (.cells #[.int .i64 u.kind,.int .i64 u.n,.string u.name,.slice u.at_.1 u.args.length u.at_.2] 41)) G j (.int .i64 u.kind) (.int .i64 u.n) (.string u.name) (.slice u.at_.1 u.args.length u.at_.2);exact (Tq.block C (zL HQ7.out) (by have:=HGG2.out.1;omega)).trans HQ7.out),show _∧_ by (rw [Tm.sizes_take HYY.out];have:=HL7.out;have:=HMK.out;omega),fun z hz=>by
             rw [List.take_add_one,HYY.out] at hz
             rcases Qn.1 hz with hz | hz
             · exact HDJ.out z hz
             · simp only [Option.toList,List.mem_singleton] at hz
               rw [hz]
               exact HMK.out.2⟩
           | false=>
            have hno:Tm.makeOk s d (Tm.img l t.bare)=false:=Tm.makeOk_no (i:=j) (x:=Tm.img l y.bare) (by rw [HY.out];exact HYY.out) (by rw [HY.out];exact hok);have HNO:=hid hno
            have HCY2:Hid (Calls Try.prog 152 _ wr fun e w'=>∃ (u:LT) (L':Int),e = .returned (.tuple #[.agg #[.int .i64 u.kind,.int .i64 u.n,.string u.name,.slice u.at_.1 u.args.length u.at_.2],.bool false])∧w'.heap[C]? = some (.cells #[.int .i64 L'] 3 (0,0))∧Turned (fun k=>k=C) wr w'):=hid (HCY.out.mono (fun e w' h=>by
             obtain ⟨u,L',h1,h2,h3,_,h5⟩:=h;rw [hok] at h1
             exact ⟨u,L',h1,h3,h5⟩))
            clear hok hno HCY
            go_wp2_with (go_at_call 152;(with_reducible refine HCY2.out.mono ?_);rintro e w7 ⟨u,L7,rfl,hq7,T7⟩;have T8:=T7.alloc (.cells #[.int .i64 u.kind,.int .i64 u.n,.string u.name,.slice u.at_.1 u.args.length u.at_.2] 41);have hcl:=(((Turned.refl (fun _=>False) w7).alloc (.cells #[.int .i64 u.kind,.int .i64 u.n,.string u.name,.slice u.at_.1 u.args.length u.at_.2] 41)).block C (zL hq7) (fun f=>f)).trans hq7;have hb8:=(T8.block _ (zL HB0.out) hCN).trans HB0.out;have hz8:=(T8.block _ (zL HBZ.out) hCN1).trans HBZ.out;obtain ⟨y0,y1,y2,y3,_⟩:=cells4 hb8;obtain ⟨d0,d1,d2,d3,f0,f1,f2,f3⟩:=cells4 hz8;have HZ8:=hid hz8;have HQ7:=hid hcl;have HT8:=hid T8;clear hcl hq7 hb8 hz8 T7 T8)
            have hset:=set4 (a':=.int .i64 x.kind) (b':=.int .i64 x.n) (c':=.string x.name) (d':=.slice x.at_.1 x.args.length x.at_.2) HZ8.out
            have Tq:=fun W=>turned_store4 W (w.heap.size+1) (.int .i64 x.kind) (.int .i64 x.n) (.string x.name) (.slice x.at_.1 x.args.length x.at_.2)
            have TT:=whk_back HT5.out HM.out.turned HT8.out (Tq _) (by have:=HGG.out;omega);have hxi:x.In p _:=LT.In.turned (Tq _) (fun k _ hk e=>by have:=HPP.out k hk;omega) (fun _ _ q=>q) _ (LT.In.turned HT8.out (fun k _ hk e=>(HPP.out k hk).2 e) (fun _ _ q=>q) _ (LT.In.turned HM.out.turned (fun k _ hk e=>by have:=HGG.out;have:=HPP.out k hk;omega) (fun _ _ q=>q) _ HX5.out));refine bodyPost_ret (results_cell_tmp1 Try.results152 _ _ (w.heap.size+1) 41 _ (0,0) _ rfl hset Try.underlying41 rfl (by kernel_rfl)) rfl (WhQ.no HNO.out (((Tq _).block C (zL HQ7.out) hNC1).trans HQ7.out) hxi TT)
         · obtain rfl:j=x.args.length:=by omega
           go_wp2_with (go_at_call 160;(with_reducible refine (rComp160 _ _ _ _ _).mono ?_);rintro e w7 ⟨rfl,T7⟩;have hb1:=(T7.bt HBZ.out);obtain ⟨d0,d1,d2,d3,f0,f1,f2,f3⟩:=cells4 hb1;have HB7:=hid hb1;have HT7:=hid T7;clear hb1 T7)
           have hset:=set4 (a':=.int .i64 2) (b':=.int .i64 0) (c':=.string x.name) (d':=.slice (some ⟨G,0,none⟩) x.args.length x.args.length) HB7.out;have Tq:=turned_store4 w7 (w.heap.size+1) (.int .i64 2) (.int .i64 0) (.string x.name) (.slice (some ⟨G,0,none⟩) x.args.length x.args.length)
           have hne:∀ q,(Value.slice (some ⟨G,0,none⟩) x.args.length x.args.length).ownBlock≠some (Addr.block ⟨w.heap.size+1,q,none⟩):=fun q e=>by simp [Value.ownBlock] at e;have:=HGG.out;omega
           have hrow:=(((((HM.out.row.turned0 HT7.out).setCell (hne 0) (.int .i64 2)).setCell (hne 1) (.int .i64 0)).setCell (hne 2) (.string x.name)).setCell (hne 3) (.slice (some ⟨G,0,none⟩) x.args.length x.args.length))
           have hins:=(HM.out.ins.turned0 HT7.out).turned (q:=fun k=>p k∨w.heap.size≤k) Tq (fun k _ hk e=>by
            have:=HGG.out
            rcases hk with h | h
            · have:=(HPP.out k h).1;omega
            · omega) (fun k _ hk=>by
            have:=HGG.out
            rcases hk with h | h
            · exact .inl h
            · exact .inr (by omega))
           obtain ⟨e1,e2⟩:=LT.Sl.of_row (p:=fun k=>p k∨w.heap.size≤k) hrow (fun k hk=>.inr (by simp [Value.ownBlock] at hk;have:=HGG.out;omega)) hins;have hUL:us.length=x.args.length:=HM.out.len;have hbr:=HM.out.bares;rw [List.take_length,←hUL,List.take_length] at hbr
           have hYL:Y.length=x.args.length:=by rw [HYE.out,Qu]
           have hl2:=HLJ.out;have hd2:=HDJ.out;rw [←hYL,List.take_length] at hl2 hd2;have hok:Tm.makeOk s d (Tm.img l t.bare)=true:=Tm.makeOk_yes (by have:=HLS.out;omega) (by have:=HLS.out;omega) (by rw [HY.out];exact hl2.2) (by rw [HY.out];exact hd2)
           have hsz:(Tm.img l t.bare).size=1+Tm.sizes Y:=by rw [Tm.size_eq,HY.out]
           have hC7:=(Tq.block C (zL ((HT7.out.block C (zL HCJ.out) (fun f=>f)).trans HCJ.out)) hNC1).trans ((HT7.out.block C (zL HCJ.out) (fun f=>f)).trans HCJ.out);have TT:=whk_back HT5.out HM.out.turned (HT7.out.mono (fun _ _ f=>f.elim)) Tq (by have:=HGG.out;omega)
           have hub:(Tm.mk 2 0 x.name (some ⟨G,0,none⟩,x.args.length) us:LT).bare=Tm.img l t.bare:=by
            rw [HAR.out,Tm.bare,Tm.bares_eq,hbr,←HXB.out,Tm.bare_args,Tm.bares_eq,List.map_map,Tm.bare_name,Tm.bare_kind];rw [show x.kind=2 by have:=HKN.out.1;rw [←HXB.out,Tm.bare_kind] at this;exact this];rfl
           have hfin:=WhQ.yes (p:=p) (l:=l) (C:=C) (t:=t) (s:=s) (d:=d) (w:=w) (u:=Tm.mk 2 0 x.name (some ⟨G,0,none⟩,x.args.length) us) hok hub hC7 (by rw [hsz];have:=hl2.1;omega) (e2.in_ (i64_lit _ (by omega)) (i64_lit _ (by omega)) HX5.out.name) TT;refine bodyPost_ret (results_cell_tmp1 Try.results152 _ _ (w.heap.size+1) 41 _ (0,0) _ rfl hset Try.underlying41 rfl (by kernel_rfl)) rfl ?_;rw [show (Tm.args (Tm.mk 2 0 x.name (some ⟨G,0,none⟩,x.args.length) us:LT)).length=x.args.length from hUL] at hfin;exact hfin
    · have d2:decide (D < 1)=true:=decide_eq_true (by omega)
      have HNO:=hid (wh_no (s:=s) (d:=d) (u:=Tm.img l t.bare) (.inr (by have:=HLS.out;omega)));go_enter Try.func152,Try.ntmps152
      go_wp2_with (go_at_call 170;rw [←HW2.out];(with_reducible refine HWK.out.mono ?_);rintro e w3 ⟨x,rfl,hxi,hxb,T3⟩;rw [LT.val_eq x];have hq:=(T3.bt HC2.out);have hbx:=(T3.bt HB2.out.1);have hbz:=(T3.bt HB2.out.2);obtain ⟨k0,k1⟩:=int1 hq;obtain ⟨c0,c1,c2,c3,f0,f1,f2,f3⟩:=cells4 hbx;obtain ⟨z0,z1,z2,z3,g0,g1,g2,g3⟩:=cells4 hbz;have HAW:=hid (after_has hbx hq hNC (.int .i64 x.kind) (.int .i64 x.n) (.string x.name) (.slice x.at_.1 x.args.length x.at_.2) (.int .i64 (L - 1)));have HBZ:=hid hbz;have HT3:=hid T3;have HXI:=hid hxi;have HXB:=hid hxb;clear hq hbx hbz T3 hxi hxb)
      obtain ⟨A1,A2,A3⟩:=HAW.out;have hbz:=(A3.block (w.heap.size+1) (zL HBZ.out) (fun e=>by have:=HCL.out;omega)).trans HBZ.out;have hset:=set4 (a':=.int .i64 x.kind) (b':=.int .i64 x.n) (c':=.string x.name) (d':=.slice x.at_.1 x.args.length x.at_.2) hbz
      have Tq:=fun W=>turned_store4 W (w.heap.size+1) (.int .i64 x.kind) (.int .i64 x.n) (.string x.name) (.slice x.at_.1 x.args.length x.at_.2)
      refine bodyPost_ret (results_cell_tmp1 Try.results152 _ _ (w.heap.size+1) 41 _ (0,0) _ rfl hset Try.underlying41 rfl (by kernel_rfl)) rfl (WhQ.no HNO.out (((Tq _).block C (zL A2) (by have:=HCL.out;omega)).trans A2) (wh_in HPP.out A3 (Tq _) HXI.out (fun _ h=>h)) (wh_back HT2.out HT3.out A3 (Tq _)))
  · have d1:decide (L - 1 < 0)=true:=decide_eq_true (by omega)
    have HNO:=hid (wh_no (s:=s) (d:=d) (u:=Tm.img l t.bare) (.inl (by have:=HLS.out;omega)));go_enter Try.func152,Try.ntmps152
    go_wp2_with (go_at_call 170;rw [←HW2.out];(with_reducible refine HWK.out.mono ?_);rintro e w3 ⟨x,rfl,hxi,hxb,T3⟩;rw [LT.val_eq x];have hq:=(T3.bt HC2.out);have hbx:=(T3.bt HB2.out.1);have hbz:=(T3.bt HB2.out.2);obtain ⟨k0,k1⟩:=int1 hq;obtain ⟨c0,c1,c2,c3,f0,f1,f2,f3⟩:=cells4 hbx;obtain ⟨z0,z1,z2,z3,g0,g1,g2,g3⟩:=cells4 hbz;have HAW:=hid (after_has hbx hq hNC (.int .i64 x.kind) (.int .i64 x.n) (.string x.name) (.slice x.at_.1 x.args.length x.at_.2) (.int .i64 (L - 1)));have HBZ:=hid hbz;have HT3:=hid T3;have HXI:=hid hxi;have HXB:=hid hxb;clear hq hbx hbz T3 hxi hxb)
    obtain ⟨A1,A2,A3⟩:=HAW.out;have hbz:=(A3.block (w.heap.size+1) (zL HBZ.out) (fun e=>by have:=HCL.out;omega)).trans HBZ.out;have hset:=set4 (a':=.int .i64 x.kind) (b':=.int .i64 x.n) (c':=.string x.name) (d':=.slice x.at_.1 x.args.length x.at_.2) hbz
    have Tq:=fun W=>turned_store4 W (w.heap.size+1) (.int .i64 x.kind) (.int .i64 x.n) (.string x.name) (.slice x.at_.1 x.args.length x.at_.2)
    refine bodyPost_ret (results_cell_tmp1 Try.results152 _ _ (w.heap.size+1) 41 _ (0,0) _ rfl hset Try.underlying41 rfl (by kernel_rfl)) rfl (WhQ.no HNO.out (((Tq _).block C (zL A2) (by have:=HCL.out;omega)).trans A2) (wh_in HPP.out A3 (Tq _) HXI.out (fun _ h=>h)) (wh_back HT2.out HT3.out A3 (Tq _)))
def W105 (p:Nat→Prop) (m:Nat) (l:Tm.Trail) (t:LT) (w:World) (e:Ending) (w':World):Prop:=
 ∃ u:LT,e = .returned (.tuple #[.agg #[.int .i64 u.kind,.int .i64 u.n,.string u.name,.slice u.at_.1 u.args.length u.at_.2],.int .i64 (wholeE m l t.bare)])∧u.bare=wholeT m l t.bare∧u.In (fun k=>p k∨w.heap.size≤k) w'∧Turned zN w w'
theorem W105.no {p:Nat→Prop} {m:Nat} {l:Tm.Trail} {t:LT} {w w':World} {E:Int} (hE:wholeE m l t.bare=E) (h0:¬ E=0) (T:Turned zN w w') :
 W105 p m l t w (.returned (.tuple #[.agg #[.int .i64 0,.int .i64 0,.string ⟨#[]⟩,.slice none 0 0],.int .i64 E])) w':=
 ⟨leaf 0 0 ByteArray.empty,by rw [hE];rfl,by unfold wholeT;rw [hE,if_neg h0],leafIn' (i64_lit _ (by omega)) (i64_lit _ (by omega)) (by unfold maxLen;decide),T⟩
set_option maxRecDepth 100000 in
theorem whole105 {p O:Nat→Prop} {wb m:Nat} {l:Tm.Trail} {w:World} {t:LT} (h:DO p wb O m l w) (ht:t.In p w) :
 Calls Try.prog 105 #[.pointer (some ⟨wb,0,none⟩),t.val] w (W105 p m l t w):=by
 have h2:=twoBox w (.cells #[.int .i64 t.kind,.int .i64 t.n,.string t.name,.slice t.at_.1 t.args.length t.at_.2] 41) (.cells #[.int .i64 0,.int .i64 0,.string ⟨#[]⟩,.slice none 0 0] 41);obtain ⟨w2,hw2⟩:∃ z,z=(w.alloc (.cells #[.int .i64 t.kind,.int .i64 t.n,.string t.name,.slice t.at_.1 t.args.length t.at_.2] 41)).alloc (.cells #[.int .i64 0,.int .i64 0,.string ⟨#[]⟩,.slice none 0 0] 41):=⟨_,rfl⟩;rw [←hw2] at h2;have T2:=h2.1;have hkn:=known99 (h.turned0 T2) (ht.turned0 T2);rw [←ownB_bare] at hkn;have HH:=hid h;have HT:=hid ht;have HW2:=hid hw2;have HT2:=hid T2;have HB2:=hid h2.2.2;rw [LT.val_eq] at hkn ⊢
 cases hob:Tm.ownB m t.bare with
 | false=>
  rw [hob] at hkn
  have hE:wholeE m l t.bare=1:=by unfold wholeE;rw [hob];rfl
  have HE:=hid hE;have HKN:=hid hkn;clear hkn hob h ht hw2 T2 h2 hE;go_enter Try.func105,Try.ntmps105
  go_wp2_with (go_at_call 99;rw [←HW2.out];(with_reducible refine HKN.out.mono ?_);rintro e w3 ⟨rfl,T3⟩;have hbz:=(T3.bt HB2.out.2);obtain ⟨z0,z1,z2,z3,g0,g1,g2,g3⟩:=cells4 hbz;have HBZ:=hid hbz;have HT3:=hid T3;clear T3 hbz)
  have hset:=set4 (a':=.int .i64 0) (b':=.int .i64 0) (c':=.string ⟨#[]⟩) (d':=.slice none 0 0) HBZ.out;have T4:=turned4 (a:=.int .i64 0) (b:=.int .i64 0) (c:=.string ⟨#[]⟩) (d:=.slice none 0 0) (HT2.out.trans HT3.out) (g:=w.heap.size+1) (by omega);refine bodyPost_ret (results_cell_tmp1 Try.results105 _ _ (w.heap.size+1) 41 _ (0,0) _ rfl hset Try.underlying41 rfl (by kernel_rfl)) rfl (W105.no HE.out (by decide) T4)
 | true=>
  rw [hob] at hkn;have hgd:=Tm.good_ones' (Tm.ownB_iff.1 hob).1
  have hcl:∀ W,Turned zN w2 W→Calls Try.prog 152 #[.pointer (some ⟨wb,0,none⟩),t.val,.pointer (some ⟨W.heap.size,0,none⟩),.int .i64 64] (W.alloc (.cells #[.int .i64 2000] 3)) (WhQ p l W.heap.size t 0 1 (W.alloc (.cells #[.int .i64 2000] 3))):=fun W hW=>
   whole152 65 t 0 1 W.heap.size 2000 64 _ (by omega) (by omega) (by omega) (by omega) (by omega) (h.turned0 ((T2.trans hW).alloc _)) (ht.turned0 ((T2.trans hW).alloc _)) hgd (heap_alloc_new W _) (h.alloc (T2.trans hW)).1 (h.alloc (T2.trans hW)).2
  have hmw:=Tm.makeOk_whole l t.bare
  have hEE:wholeE m l t.bare=if Tm.makeOk 0 1 (Tm.img l t.bare)=true then 0 else 12:=by unfold wholeE;rw [if_pos hob,hmw]
  have hTT:wholeT m l t.bare=if Tm.makeOk 0 1 (Tm.img l t.bare)=true then Tm.img l t.bare else (leaf 0 0 ByteArray.empty).bare:=by
   unfold wholeT;rw [hEE]
   by_cases hk:Tm.makeOk 0 1 (Tm.img l t.bare)=true
   · rw [if_pos hk,if_pos hk,if_pos rfl]
   · rw [if_neg hk,if_neg hk,if_neg (by decide)]
  rw [LT.val_eq] at hcl
  cases hok:Tm.makeOk 0 1 (Tm.img l t.bare) with
  | false=>
   rw [hok,if_neg (by decide)] at hEE hTT
   have hcl2:∀ W,Turned zN w2 W→Calls Try.prog 152 #[.pointer (some ⟨wb,0,none⟩),.agg #[.int .i64 t.kind,.int .i64 t.n,.string t.name,.slice t.at_.1 t.args.length t.at_.2],.pointer (some ⟨W.heap.size,0,none⟩),.int .i64 64] (W.alloc (.cells #[.int .i64 2000] 3)) fun e w'=>∃ u:LT,e = .returned (.tuple #[.agg #[.int .i64 u.kind,.int .i64 u.n,.string u.name,.slice u.at_.1 u.args.length u.at_.2],.bool false])∧Turned zN w2 w':=fun W hW=>(hcl W hW).mono (fun e w' h=>by
    obtain ⟨u,L',h1,h2,h3,h4,h5⟩:=h;rw [hok] at h1
    exact ⟨u,h1,has_own hW rfl h5⟩)
   have HE:=hid hEE;have HKN:=hid hkn;have HCL:=hid hcl2;clear hkn hob h ht hw2 T2 h2 hEE hTT hcl hcl2 hok hmw hgd;go_enter Try.func105,Try.ntmps105
   go_wp2_with (first
    | (go_at_call 152;have HT3:=HT3;(with_reducible refine (HCL.out _ HT3.out).mono ?_);rintro e w4 ⟨u,rfl,T4⟩;have T5:=T4.alloc (.cells #[.int .i64 u.kind,.int .i64 u.n,.string u.name,.slice u.at_.1 u.args.length u.at_.2] 41);have hbz:=(T5.bt HB2.out.2);obtain ⟨d0,d1,d2,d3,g0,g1,g2,g3⟩:=cells4 hbz;have hnb:=heap_alloc_new w4 (.cells #[.int .i64 u.kind,.int .i64 u.n,.string u.name,.slice u.at_.1 u.args.length u.at_.2] 41);obtain ⟨y0,y1,y2,y3,_⟩:=cells4 hnb;have HBZ5:=hid hbz;have HT5:=hid T5;have HT4:=hid T4;clear T4 T5 hbz hnb)
    | (go_at_call 99;rw [←HW2.out];(with_reducible refine HKN.out.mono ?_);rintro e w3 ⟨rfl,T3⟩;have T3A:=T3.alloc (.cells #[.int .i64 2000] 3);have hb:=(T3A.bt HB2.out.1);obtain ⟨c0,c1,c2,c3,_⟩:=cells4 hb;have HT3:=hid T3;clear T3 T3A hb))
   have hset:=set4 (a':=.int .i64 0) (b':=.int .i64 0) (c':=.string ⟨#[]⟩) (d':=.slice none 0 0) HBZ5.out;have T4:=turned4 (a:=.int .i64 0) (b:=.int .i64 0) (c:=.string ⟨#[]⟩) (d:=.slice none 0 0) (HT2.out.trans HT5.out) (g:=w.heap.size+1) (by omega);refine bodyPost_ret (results_cell_tmp1 Try.results105 _ _ (w.heap.size+1) 41 _ (0,0) _ rfl hset Try.underlying41 rfl (by kernel_rfl)) rfl (W105.no HE.out (by decide) T4)
  | true=>
   rw [hok,if_pos rfl] at hEE hTT
   have hcl2:∀ W,Turned zN w2 W→Calls Try.prog 152 #[.pointer (some ⟨wb,0,none⟩),.agg #[.int .i64 t.kind,.int .i64 t.n,.string t.name,.slice t.at_.1 t.args.length t.at_.2],.pointer (some ⟨W.heap.size,0,none⟩),.int .i64 64] (W.alloc (.cells #[.int .i64 2000] 3)) fun e w'=>∃ u:LT,e = .returned (.tuple #[.agg #[.int .i64 u.kind,.int .i64 u.n,.string u.name,.slice u.at_.1 u.args.length u.at_.2],.bool true])∧u.bare=Tm.img l t.bare∧u.In (fun k=>p k∨W.heap.size≤k) w'∧Turned zN w2 w':=fun W hW=>(hcl W hW).mono (fun e w' h=>by
    obtain ⟨u,L',h1,h2,h3,h4,h5⟩:=h;rw [hok] at h1
    exact ⟨u,h1,(h2 hok).1,h4.mono (fun k _ hk=>hk.imp id (fun hk=>QA ((Turned.refl (fun _=>False) W).alloc _).size hk)),has_own hW rfl h5⟩)
   have HE:=hid hEE;have HTE:=hid hTT;have HKN:=hid hkn;have HCL:=hid hcl2;have HPL:=hid h.plt;clear hkn hob h ht hw2 T2 h2 hEE hTT hcl hcl2 hok hmw hgd;go_enter Try.func105,Try.ntmps105
   go_wp2_with (first
    | (go_at_call 152;have HT3:=HT3;(with_reducible refine (HCL.out _ HT3.out).mono ?_);rintro e w4 ⟨u,rfl,hub,hui,T4⟩;have T5:=T4.alloc (.cells #[.int .i64 u.kind,.int .i64 u.n,.string u.name,.slice u.at_.1 u.args.length u.at_.2] 41);have hbz:=(T5.bt HB2.out.2);obtain ⟨d0,d1,d2,d3,g0,g1,g2,g3⟩:=cells4 hbz;have hnb:=heap_alloc_new w4 (.cells #[.int .i64 u.kind,.int .i64 u.n,.string u.name,.slice u.at_.1 u.args.length u.at_.2] 41);obtain ⟨y0,y1,y2,y3,_⟩:=cells4 hnb;have HBZ5:=hid hbz;have HT5:=hid T5;have HT4:=hid T4;have HUB:=hid hub;have HUI:=hid hui;clear hub hui;clear T4 T5 hbz hnb)
    | (go_at_call 99;rw [←HW2.out];(with_reducible refine HKN.out.mono ?_);rintro e w3 ⟨rfl,T3⟩;have T3A:=T3.alloc (.cells #[.int .i64 2000] 3);have hb:=(T3A.bt HB2.out.1);obtain ⟨c0,c1,c2,c3,_⟩:=cells4 hb;have HT3:=hid T3;clear T3 T3A hb))
   have hset:=set4 (a':=.int .i64 u.kind) (b':=.int .i64 u.n) (c':=.string u.name) (d':=.slice u.at_.1 u.args.length u.at_.2) HBZ5.out;have T4:=turned4 (a:=.int .i64 u.kind) (b:=.int .i64 u.n) (c:=.string u.name) (d:=.slice u.at_.1 u.args.length u.at_.2) (HT2.out.trans HT5.out) (g:=w.heap.size+1) (by omega);have Tq:=turned_store4 (w4.alloc (.cells #[.int .i64 u.kind,.int .i64 u.n,.string u.name,.slice u.at_.1 u.args.length u.at_.2] 41)) (w.heap.size+1) (.int .i64 u.kind) (.int .i64 u.n) (.string u.name) (.slice u.at_.1 u.args.length u.at_.2)
   have hs3:w.heap.size+2≤w3.heap.size:=by have:=HT3.out.size;have:=(zL HB2.out.2);omega
   have hui:=LT.In.turned (q:=fun k=>p k∨w.heap.size≤k) Tq (fun k _ hk e=>by
    rcases hk with h | h
    · have:=HPL.out k h;omega
    · omega) (fun k _ hk=>hk.imp id (fun h=>by omega)) _ (HUI.out.turned0 ((Turned.refl (fun _=>False) w4).alloc (.cells #[.int .i64 u.kind,.int .i64 u.n,.string u.name,.slice u.at_.1 u.args.length u.at_.2] 41)))
   refine bodyPost_ret (results_cell_tmp1 Try.results105 _ _ (w.heap.size+1) 41 _ (0,0) _ rfl hset Try.underlying41 rfl (by kernel_rfl)) rfl ⟨u,by rw [HE.out];rfl,by rw [HUB.out,HTE.out],hui,T4⟩
end Go.Proofs.Ytoihjobdfjajfaa
namespace Go.Proofs.Ytoihjobdfjajfaa
open Go.RowKit Go.Maps
theorem wholeSlim {m:Nat} {l:Tm.Trail} {t:Tm Unit} {u:LT} (hl:Tm.okT m l) (h:u.bare=wholeT m l t):slim u:=by
 by_cases hE:wholeE m l t=0
 · obtain ⟨h1,h2⟩:=wholeE_ok hE
   have e:u.bare=Tm.img l t:=by rw [h];unfold wholeT;rw [if_pos hE]
   exact good_slimB (by rw [e];exact (Tm.ownB_iff.1 (Tm.whole_good hl h1 h2)).1)
 · have e:u.bare=(leaf 0 0 ByteArray.empty).bare:=by rw [h];unfold wholeT;rw [if_neg hE]
   exact slim_eq' e.symm (leaf_slim _ _ _)
structure SetR (jT jI gt gi m ct ci N:Nat) (t:LT) (us:List LT) (is:List Bool) (w0:World) (hs:Hist) (W:World):Prop where
 tw:Turned (fun k=>k=gt∨k=gi) w0 W
 rt:∃ u:List LT,Row W 41 4 (.slice (some ⟨gt,0,none⟩) m ct) m (u.flatMap LT.cells)∧((∀ v,(jT,v)∉hs)→u=us)∧∀ v,(jT,v)∈hs→u=us.set N t
 ri:∃ u:List Bool,Row W 4 1 (.slice (some ⟨gi,0,none⟩) m ci) m (u.map Value.bool)∧((∀ v,(jI,v)∉hs)→u=is)∧∀ v,(jI,v)∈hs→u=is.set N true
section
variable {jT jI gt gi m ct ci N:Nat} {t:LT} {us:List LT} {is:List Bool} {w0 W W':World} {hs:Hist}
theorem SetR.start (h1:Row w0 41 4 (.slice (some ⟨gt,0,none⟩) m ct) m (us.flatMap LT.cells)) (h2:Row w0 4 1 (.slice (some ⟨gi,0,none⟩) m ci) m (is.map Value.bool)) (T:Turned zN w0 W):SetR jT jI gt gi m ct ci N t us is w0 [] W:=
 ⟨T.mono (fun _ _ f=>f.elim),⟨us,h1.turned0 T,fun _=>rfl,fun v hv=>(Ql hv).elim⟩,⟨is,h2.turned0 T,fun _=>rfl,fun v hv=>(Ql hv).elim⟩⟩
theorem SetR.turned0 (h:SetR jT jI gt gi m ct ci N t us is w0 hs W) (T:Turned zN W W'):SetR jT jI gt gi m ct ci N t us is w0 hs W':=by
 obtain ⟨u,a1,a2⟩:=h.rt;obtain ⟨v,b1,b2⟩:=h.ri;exact ⟨h.tw.trans (T.mono (fun _ _ f=>f.elim)),⟨u,a1.turned0 T,a2⟩,⟨v,b1.turned0 T,b2⟩⟩
theorem SetR.cellsT (h:SetR jT jI gt gi m ct ci N t us is w0 hs W) (hN:N < m) :
 (∃ z0 z1 z2 z3,W.cell? ⟨gt,N * 4,none⟩=some z0∧W.cell? ⟨gt,N * 4+1,none⟩=some z1∧W.cell? ⟨gt,N * 4+2,none⟩=some z2∧W.cell? ⟨gt,N * 4+3,none⟩=some z3)∧
 W.frozen? ⟨gt,N * 4,none⟩=false∧W.frozen? ⟨gt,N * 4+1,none⟩=false∧W.frozen? ⟨gt,N * 4+2,none⟩=false∧W.frozen? ⟨gt,N * 4+3,none⟩=false:=by
 obtain ⟨u,a1,a2⟩:=h.rt;obtain ⟨z0,g0⟩:=row_some a1 (N * 4) (by omega);obtain ⟨z1,g1⟩:=row_some a1 (N * 4+1) (by omega);obtain ⟨z2,g2⟩:=row_some a1 (N * 4+2) (by omega);obtain ⟨z3,g3⟩:=row_some a1 (N * 4+3) (by omega);exact ⟨⟨z0,z1,z2,z3,g0,g1,g2,g3⟩,a1.free rfl (N * 4),a1.free rfl (N * 4+1),a1.free rfl (N * 4+2),a1.free rfl (N * 4+3)⟩
theorem SetR.cellI (h:SetR jT jI gt gi m ct ci N t us is w0 hs W) (hN:N < m):(∃ z,W.cell? ⟨gi,N,none⟩=some z)∧W.frozen? ⟨gi,N,none⟩=false:=by
 obtain ⟨u,a1,a2⟩:=h.ri;exact ⟨row_some a1 N (by omega),a1.free rfl N⟩
theorem SetR.storeT (h:SetR jT jI gt gi m ct ci N t us is w0 hs W) (hN:N < m) (hu:us.length=m) (hg:gt≠gi) (hj:jT≠jI) (hno:∀ v,(jT,v)∉hs) (x:Value) :
 SetR jT jI gt gi m ct ci N t us is w0 (hs++[(jT,x)]) ((((W.setCell ⟨gt,N * 4,none⟩ (.int .i64 t.kind)).setCell ⟨gt,N * 4+1,none⟩ (.int .i64 t.n)).setCell ⟨gt,N * 4+2,none⟩ (.string t.name)).setCell ⟨gt,N * 4+3,none⟩ (.slice t.at_.1 t.args.length t.at_.2)):=by
 obtain ⟨u,a1,a2,a3⟩:=h.rt;obtain ⟨v,b1,b2,b3⟩:=h.ri;obtain rfl:=a2 hno
 have Tq:Turned (fun k=>k=gt) W ((((W.setCell ⟨gt,N * 4,none⟩ (.int .i64 t.kind)).setCell ⟨gt,N * 4+1,none⟩ (.int .i64 t.n)).setCell ⟨gt,N * 4+2,none⟩ (.string t.name)).setCell ⟨gt,N * 4+3,none⟩ (.slice t.at_.1 t.args.length t.at_.2)):=
  ((((Turned.refl (fun k=>k=gt) W).setCell (p:=⟨gt,N * 4,none⟩) (.inr rfl) _).setCell (p:=⟨gt,N * 4+1,none⟩) (.inr rfl) _).setCell (p:=⟨gt,N * 4+2,none⟩) (.inr rfl) _).setCell (p:=⟨gt,N * 4+3,none⟩) (.inr rfl) _
 refine ⟨h.tw.trans (Tq.mono (fun _ _ e=>.inl e)),⟨u.set N t,?_,fun hn=>absurd (Qj _ (List.mem_singleton.2 rfl)) (hn x),fun _ _=>rfl⟩,⟨v,b1.turned Tq (fun k hk e=>by simp [Value.ownBlock] at hk;omega),fun hn=>b2 (fun y hy=>hn y (Qc _ hy)),fun y hy=>?_⟩⟩
 · have r1:=a1.setAt (off:=N * 4) (by omega) (.int .i64 t.kind)
   have r2:=r1.setAt (off:=N * 4+1) (by omega) (.int .i64 t.n);have r3:=r2.setAt (off:=N * 4+2) (by omega) (.string t.name);have r4:=r3.setAt (off:=N * 4+3) (by omega) (.slice t.at_.1 t.args.length t.at_.2);rw [flat_set (by omega)] at r4;exact r4
 · rcases mem_snoc hy with hy | ⟨e,_⟩
   · exact b3 y hy
   · exact absurd e.symm hj
theorem SetR.storeI (h:SetR jT jI gt gi m ct ci N t us is w0 hs W) (hN:N < m) (hi:is.length=m) (hg:gt≠gi) (hj:jT≠jI) (hno:∀ v,(jI,v)∉hs) (x:Value) :
 SetR jT jI gt gi m ct ci N t us is w0 (hs++[(jI,x)]) (W.setCell ⟨gi,N,none⟩ (.bool true)):=by
 obtain ⟨u,a1,a2,a3⟩:=h.rt;obtain ⟨v,b1,b2,b3⟩:=h.ri;obtain rfl:=b2 hno;have Tq:Turned (fun k=>k=gi) W (W.setCell ⟨gi,N,none⟩ (.bool true)):=(Turned.refl (fun k=>k=gi) W).setCell (p:=⟨gi,N,none⟩) (.inr rfl) _;refine ⟨h.tw.trans (Tq.mono (fun _ _ e=>.inr e)),⟨u,a1.turned Tq (fun k hk e=>by simp [Value.ownBlock] at hk;omega),fun hn=>a2 (fun y hy=>hn y (Qc _ hy)),fun y hy=>?_⟩,⟨v.set N true,?_,fun hn=>absurd (Qj _ (List.mem_singleton.2 rfl)) (hn x),fun _ _=>rfl⟩⟩
 · rcases mem_snoc hy with hy | ⟨e,_⟩
   · exact a3 y hy
   · exact absurd e hj
 · have r1:=b1.setAt (off:=N) (by omega) (.bool true)
   rw [List.map_set];exact r1
theorem SetR.done (h:SetR jT jI gt gi m ct ci N t us is w0 hs W) (h1:∃ v,(jT,v)∈hs) (h2:∃ v,(jI,v)∈hs) :
 Row W 41 4 (.slice (some ⟨gt,0,none⟩) m ct) m ((us.set N t).flatMap LT.cells)∧Row W 4 1 (.slice (some ⟨gi,0,none⟩) m ci) m ((is.set N true).map Value.bool)∧Turned (fun k=>k=gt∨k=gi) w0 W:=by
 obtain ⟨u,a1,a2,a3⟩:=h.rt;obtain ⟨v,b1,b2,b3⟩:=h.ri;obtain ⟨x,hx⟩:=h1;obtain ⟨y,hy⟩:=h2;rw [a3 x hx] at a1;rw [b3 y hy] at b1;exact ⟨a1,b1,h.tw⟩
end
end Go.Proofs.Ytoihjobdfjajfaa
namespace Go.Proofs.Ytoihjobdfjajfaa
open Lib (hid)
open Go.RowKit Go.Maps
def BindQ (p:Nat→Prop) (wb gt gi m ct ci N:Nat) (rv:Value) (us:List LT) (is:List Bool) (tr:List Int) (t:LT) (w:World) (e:Ending) (w':World):Prop:=
 e = .returned (.tuple #[])∧∃ rv',DB p wb (.slice (some ⟨gt,0,none⟩) m ct) (.slice (some ⟨gi,0,none⟩) m ci) rv' (us.set N t) (is.set N true) (tr++[(N:Int)]) w'∧Turned (fun k=>(k=gt∨k=gi)∨k=wb∨rv.ownBlock=some k) w w'∧(rv'.ownBlock=rv.ownBlock∨∀ k,rv'.ownBlock=some k→w.heap.size≤k)
set_option maxRecDepth 100000 in
theorem bind175 {p:Nat→Prop} {wb gt gi m ct ci N:Nat} {rv:Value} {us:List LT} {is:List Bool} {tr:List Int} {w:World} {t:LT} (h:DB p wb (.slice (some ⟨gt,0,none⟩) m ct) (.slice (some ⟨gi,0,none⟩) m ci) rv us is tr w) (hu:us.length=m) (hi:is.length=m) (hr:tr.length≤m) (ht:t.In p w) (hN:N < m) :
 Calls Try.prog 175 #[.pointer (some ⟨wb,0,none⟩),.int .i64 (N:Int),t.val] w (BindQ p wb gt gi m ct ci N rv us is tr t w):=by
 obtain ⟨i0,hi0,hz0,hz1,hz2⟩:=info_parts infoN3;obtain ⟨ra,rc,rfl⟩:=h.trail.shape;have hmx:=h.trail.max
 have hm65:m≤65536:=by have:=h.most;omega
 obtain ⟨w2,hw2⟩:∃ z,z=(w.alloc (.cells #[.int .i64 t.kind,.int .i64 t.n,.string t.name,.slice t.at_.1 t.args.length t.at_.2] 41)):=⟨_,rfl⟩
 have T2:Turned zN w w2:=by rw [hw2];exact (Turned.refl _ w).alloc _
 have hb2:w2.heap[w.heap.size]? = some (.cells #[.int .i64 t.kind,.int .i64 t.n,.string t.name,.slice t.at_.1 t.args.length t.at_.2] 41 (0,0)):=by rw [hw2];exact heap_alloc_new w _
 have D2:=h.turned0 T2;have hne:=h.ne;have hlt:=h.own_lt;have hgtl:gt < w.heap.size:=hlt gt (.inr (.inl rfl));have hgil:gi < w.heap.size:=hlt gi (.inr (.inr (.inl rfl)))
 have hgw:gt≠wb:=fun e=>hne.1 (by rw [e];rfl)
 have hiw:gi≠wb:=fun e=>hne.2.1 (by rw [e];rfl)
 have hgg:gt≠gi:=fun e=>(hne.2.2.2.1 gt rfl).1 (by rw [e];rfl)
 have hrt:∀ k,(Value.slice ra tr.length rc).ownBlock=some k→k≠gt∧k≠gi∧k≠wb:=fun k hk=>⟨fun e=>(hne.2.2.2.1 gt rfl).2 (e ▸ hk),fun e=>hne.2.2.2.2 gi rfl (e ▸ hk),fun e=>hne.2.2.1 (e ▸ hk)⟩
 have hR1:=D2.row;have hR2:=D2.bools;rw [hu] at hR1;rw [hi] at hR2;have HR1:=hid hR1;have HR2:=hid hR2;have HD2:=hid D2;have HUL:=hid (And.intro hu hi);have HGG:=hid hgg;have HN:=hid hN;have HIN:=hid (ht.turned0 T2);have HW2:=hid hw2;have HT2:=hid T2;have HNE:=hid (And.intro hgw (And.intro hiw hrt));have HDW:=hid (fun W (T:Turned (fun k=>k=gt∨k=gi) w2 W)=>(T.block wb (zL HD2.out.b) (fun e=>by have:=HNE.out.1;have:=HNE.out.2.1;omega)).trans HD2.out.b);have HBW:=hid (fun W (T:Turned (fun k=>k=gt∨k=gi) w2 W)=>(T.block w.heap.size (zL hb2) (fun e=>by omega)).trans hb2);have HHH:=hid h;rw [LT.val_eq];clear h ht hu hi D2 T2 hw2 hb2 hR1 hR2 hgg hgw hiw hrt hne hlt;go_enter Try.func175,Try.ntmps175
 go_wp2_with fail
 rw [←HW2.out];refine wp_region_k [6,7,8,9,10,11,12,13,14,15,16,17,18] [12,14] [] (fun dd vv=>(match dd with | 6=>vv = .pointer (some ⟨wb,0,none⟩) | 7=>vv = .pointer (some ⟨wb,0,none⟩) | 8=>vv = .pointer (some ⟨wb,0,none⟩) | 9=>vv = .slice (some ⟨gt,0,none⟩) m ct | 10=>vv = .int .i64 (N:Int) | 11=>vv = .pointer (some ⟨wb,0,none⟩) | 12=>vv = .pointer (some ⟨wb,0,none⟩) | 13=>vv = .pointer (some ⟨wb,1,none⟩) | 14=>vv = .slice (some ⟨gi,0,none⟩) m ci | 15=>vv = .int .i64 (N:Int) | 16=>vv = .agg #[.int .i64 t.kind,.int .i64 t.n,.string t.name,.slice t.at_.1 t.args.length t.at_.2] | 17=>vv = .pointer (some ⟨gt,N * 4,none⟩) | 18=>vv = .pointer (some ⟨gi,N,none⟩) | _=>True:Prop)) (SetR 12 14 gt gi m ct ci N t us is w2) (by kernel_rfl) rfl (by kernel_rfl) (by kernel_rfl) (fun w h=>SetR.start HR1.out HR2.out h) (fun hs w w' h ht=>h.turned0 ht) ?hs ?hQ
 case hs=>
  refine ⟨?s0,?s1,?s2,?s3,?s4,?s5,?s6,?s7,?s8,?s9,?s10,?s11,?s12,?s13,?s14,trivial⟩
  case s0=>refine fun hs hl=>zG [] [0] fun ac W hT hI hO=>?_;simp only [execOp,Act.eval,hO 0 (by simp)];go_simp;try exact tq
  case s1=>refine fun hs hl=>zG [6] [] fun ac W hT hI hO=>?_;have h6:_=_:=hI 6 (by simp);simp only [execOp,Act.eval,h6];go_simp;try exact tq
  case s2=>refine fun hs hl=>zG [7] [] fun ac W hT hI hO=>?_;have h7:_=_:=hI 7 (by simp);simp only [execOp,Act.eval,h7];go_simp;try exact tq
  case s3=>refine fun hs hl=>zG [8] [] fun ac W hT hI hO=>?_;have h8:_=_:=hI 8 (by simp);obtain ⟨b0,b1,b2,_⟩:=rec3b (HDW.out W hT.tw);simp only [execOp,Act.eval,h8];go_simp;try exact tq
  case s4=>refine fun hs hl=>zG [] [1] fun ac W hT hI hO=>?_;simp only [execOp,Act.eval,hO 1 (by simp)];go_simp;try exact tq
  case s5=>refine fun hs hl=>zG [] [0] fun ac W hT hI hO=>?_;simp only [execOp,Act.eval,hO 0 (by simp)];go_simp;try exact tq
  case s6=>refine fun hs hl=>zG [11] [] fun ac W hT hI hO=>?_;have h11:_=_:=hI 11 (by simp);simp only [execOp,Act.eval,h11];go_simp;try exact tq
  case s7=>refine fun hs hl=>zG [12] [] fun ac W hT hI hO=>?_;have h12:_=_:=hI 12 (by simp);simp only [execOp,Act.eval,h12];go_simp;try exact tq
  case s8=>refine fun hs hl=>zG [13] [] fun ac W hT hI hO=>?_;have h13:_=_:=hI 13 (by simp);obtain ⟨b0,b1,b2,_⟩:=rec3b (HDW.out W hT.tw);simp only [execOp,Act.eval,h13];go_simp;try exact tq
  case s9=>refine fun hs hl=>zG [] [1] fun ac W hT hI hO=>?_;simp only [execOp,Act.eval,hO 1 (by simp)];go_simp;try exact tq
  case s10=>refine fun hs hl=>zG [] [5] fun ac W hT hI hO=>?_;obtain ⟨c0,c1,c2,c3,_⟩:=cells4 (HBW.out W hT.tw);simp only [execOp,Act.eval,hO 5 (by simp)];go_simp;try exact tq
  case s11=>refine fun hs hl=>zG [9,10] [] fun ac W hT hI hO=>?_;have h9:_=_:=hI 9 (by simp);have h10:_=_:=hI 10 (by simp);simp only [execOp,Act.eval,h9,h10];go_simp;try exact tq
  case s12=>
   refine fun hs hno hl=>zG [17,16] [] fun ac W hT hI hO=>?_;have h17:_=_:=hI 17 (by simp);have h16:_=_:=hI 16 (by simp);show Brings _ (fun vv w'=>SetR 12 14 gt gi m ct ci N t us is w2 (hs++[(12,vv)]) w') _;obtain ⟨⟨z0,z1,z2,z3,z4,z5,z6,z7⟩,f0,f1,f2,f3⟩:=hT.cellsT HN.out;simp only [execOp,Act.eval,h17,h16];go_simp;exact hT.storeT HN.out HUL.out.1 HGG.out (by decide) hno _
  case s13=>refine fun hs hl=>zG [14,15] [] fun ac W hT hI hO=>?_;have h14:_=_:=hI 14 (by simp);have h15:_=_:=hI 15 (by simp);simp only [execOp,Act.eval,h14,h15];go_simp;try exact tq
  case s14=>
   refine fun hs hno hl=>zG [18] [] fun ac W hT hI hO=>?_;have h18:_=_:=hI 18 (by simp);show Brings _ (fun vv w'=>SetR 12 14 gt gi m ct ci N t us is w2 (hs++[(14,vv)]) w') _;obtain ⟨⟨z0,z4⟩,f0⟩:=hT.cellI HN.out;simp only [execOp,Act.eval,h18];go_simp;exact hT.storeI HN.out HUL.out.2 HGG.out (by decide) hno _
 case hQ=>
  intro hs vs W1 hall huniq hR hV;obtain ⟨g1,g2,T1⟩:=hR.done (hall _ (by simp)) (hall _ (by simp));simp only [Qq,List.foldl_nil,Qk,Qs,Qr];have HG1:=hid g1;have HG2:=hid g2;have HT1:=hid T1;have HBK:=hid (HDW.out W1 T1);have HRW:Hid (Row W1 2 1 (.slice ra tr.length rc) tr.length (tr.map (Value.int .i64))):=HD2.out.trail.turned T1 (fun k hk e=>by have:=HNE.out.2.2 k hk;omega)
  have HNW:Hid (¬ (Value.slice ra tr.length rc).ownBlock=some wb):=fun e=>(HNE.out.2.2 wb e).2.2 rfl
  obtain ⟨b0,b1,b2,_⟩:=rec3b HBK.out;clear hall huniq hR hV g1 g2 T1
  go_wp2_with (at_builtin;refine append_some _ rfl _ _ 24 rfl 2 i0 (.int .i64 0) 1 8 Try.underlying24 hi0 hz0 hz1 hz2 rfl (by decide) _ _ _ rfl (HRW.out.turned0 ((Turned.refl _ _).alloc _)) ⟨W1.heap.size,0,none⟩ 1 1 [.int .i64 (N:Int)] rfl rfl (news_one (heap_alloc_new W1 _)) (by simp [Value.oneCell']) (by omega) (by unfold maxLen;omega) (by omega) ?_;intro g cap w3 hrow3 T3 hg3;have T3':Turned (fun k=>(Value.slice ra tr.length rc).ownBlock=some k) W1 w3:=((Turned.refl _ W1).alloc _).trans T3;have hs3:=(T3'.block wb (zL HBK.out) HNW.out).trans HBK.out;obtain ⟨e0,e1,e2,k0,k1,k2⟩:=rec3b hs3;have HS3:=hid hs3;have HROW:=hid hrow3;have HT3:=hid T3';have HG3:Hid (some g=(Value.slice ra tr.length rc).ownBlock∨W1.heap.size≤g):=hg3.elim .inl (fun e=>.inr (by rw [e];exact ((Turned.refl (fun _=>False) W1).alloc _).size));clear hs3 hrow3 T3 T3' hg3 b0 b1 b2)
  refine bodyPost_ret (results_none rfl _ _ _) rfl ?_;refine ⟨rfl,.slice (some ⟨g,0,none⟩) (tr.length+1) cap,?_,?_,?_⟩
  · have D:=HHH.out
    have Tw3:Turned (fun k=>k=wb) w3 (w3.setCell ⟨wb,2,none⟩ (.slice (some ⟨g,0,none⟩) (tr.length+1) cap)):=(Turned.refl (fun k=>k=wb) w3).setCell (p:=⟨wb,2,none⟩) (.inr rfl) _
    have hgl:gt≠g∧gi≠g∧wb≠g:=by
     rcases HG3.out with e | e
     · have:=HNE.out.2.2 g e.symm;omega
     · have:=HT2.out.size;have:=HT1.out.size;have:=D.own_lt wb (.inl rfl);omega
    have hgw:=HNE.out.1;have hiw:=HNE.out.2.1;have hrt:=HNE.out.2.2;refine ⟨by have:=heap_setCell_same w3 wb 2 _ 113 (.slice (some ⟨g,0,none⟩) (tr.length+1) cap) HS3.out;simpa using this,?_,?_,?_,by rw [List.length_set,List.length_set];exact D.same,?_,by rw [List.length_set];exact D.most,?_,?_⟩
    · have:=(HG1.out.turned HT3.out (fun k hk e=>by simp [Value.ownBlock] at hk;have:=hrt k e;omega)).turned Tw3 (fun k hk e=>by simp [Value.ownBlock] at hk;omega)
      rw [List.length_set,HUL.out.1];exact this
    · have:=(HG2.out.turned HT3.out (fun k hk e=>by simp [Value.ownBlock] at hk;have:=hrt k e;omega)).turned Tw3 (fun k hk e=>by simp [Value.ownBlock] at hk;omega)
      rw [List.length_set,HUL.out.2];exact this
    · rw [Qi,List.map_append]
      exact HROW.out.turned Tw3 (fun k hk e=>by simp [Value.ownBlock] at hk;omega)
    · have keep:∀ z:LT,z.In p w2→z.In p (w3.setCell ⟨wb,2,none⟩ (.slice (some ⟨g,0,none⟩) (tr.length+1) cap)):=fun z hz=>
       LT.In.turned Tw3 (fun k _ hk e=>(D.sep k hk).2 (.inl e)) (fun _ _ q=>q) _ (LT.In.turned HT3.out (fun k _ hk e=>(D.sep k hk).2 (.inr (.inr (.inr e)))) (fun _ _ q=>q) _ (LT.In.turned HT1.out (fun k _ hk e=>(D.sep k hk).2 (e.elim (fun e=>.inr (.inl (by rw [e];rfl))) (fun e=>.inr (.inr (.inl (by rw [e];rfl)))))) (fun _ _ q=>q) _ hz))
      rw [LT.ins_iff];intro y hy
      rcases List.mem_or_eq_of_mem_set hy with hy | rfl
      · exact keep y ((LT.ins_iff _).1 HD2.out.ins y hy)
      · exact keep y HIN.out
    · refine ⟨by simp [Value.ownBlock];omega,by simp [Value.ownBlock];omega,by simp [Value.ownBlock];omega,fun k hk=>?_,fun k hk=>?_⟩
      · simp [Value.ownBlock] at hk ⊢;have:=HGG.out;omega
      · simp [Value.ownBlock] at hk ⊢;omega
    · intro k hk
      obtain ⟨s1,s2⟩:=D.sep k hk;have z1:=HT2.out.size;have z2:=HT1.out.size;have z3:=HT3.out.size;refine ⟨by have:=Tw3.size;omega,?_⟩
      rintro (e | e | e | e)
      · exact s2 (.inl e)
      · exact s2 (.inr (.inl e))
      · exact s2 (.inr (.inr (.inl e)))
      · simp [Value.ownBlock] at e
        rcases HG3.out with e3 | e3
        · exact s2 (.inr (.inr (.inr (by rw [←e];exact e3.symm))))
        · omega
  · exact ((((HT2.out.mono (fun _ _ f=>f.elim)).trans (HT1.out.mono (fun _ _ e=>.inl e)):Turned (fun k=>(k=gt∨k=gi)∨k=wb∨(Value.slice ra tr.length rc).ownBlock=some k) w W1).trans (HT3.out.mono (fun _ _ e=>.inr (.inr e)))).setCell (p:=⟨wb,2,none⟩) (.inr (.inr (.inl rfl))) _)
  · rcases HG3.out with e | e
    · exact .inl e
    · exact .inr (fun k hk=>by simp [Value.ownBlock] at hk;have:=HT2.out.size;have:=HT1.out.size;omega)
end Go.Proofs.Ytoihjobdfjajfaa
namespace Go.Proofs.Ytoihjobdfjajfaa
open Go.RowKit Go.Maps
theorem DT.bound {m:Nat} {l:Tm.Trail} {us:List LT} {is:List Bool} {n:Int} {N:Nat} {t:LT} (R:DT m l us is (Tm.dom l).reverse) (hn:n=(N:Int)) (hN:N < m) (hi:is.length=m) (hE:Tm.okT m ((n,t.bare) :: l)) :
 DT m ((n,t.bare) :: l) (us.set N t) (is.set N true) ((Tm.dom l).reverse++[(N:Int)]):=by
 subst hn;refine ⟨hE,by rw [List.length_set];exact R.len,fun i hi'=>?_,fun i b hb=>?_,by simp [Tm.dom]⟩
 · by_cases he:N=i
   · subst he
     rw [List.getElem?_set_self (by omega),decide_eq_true (by simp [Tm.dom])]
   · rw [List.getElem?_set_ne he,R.set i hi']
     have:((i:Int)∈Tm.dom (((N:Int),t.bare) :: l))↔((i:Int)∈Tm.dom l):=by
      simp only [Tm.dom,Qx,Qw];exact ⟨fun h=>h.elim (fun h=>by omega) id,.inr⟩
     simp only [this]
 · unfold Tm.look at hb
   by_cases he:(N:Int)=i
   · rw [if_pos he] at hb
     injection hb with hb
     subst he;refine ⟨t,?_,hb⟩;rw [Int.toNat_natCast,List.getElem?_set_self (by have:=R.len;omega)]
   · rw [if_neg he] at hb
     obtain ⟨u,hu,hb2⟩:=R.val i b hb;have h0:=(Tm.okT_mem R.ok (Tm.look_mem hb)).1;refine ⟨u,?_,hb2⟩;rw [List.getElem?_set_ne (by intro c;apply he;simp only [] at h0;omega)];exact hu
theorem bindD {p O:Nat→Prop} {wb m:Nat} {l:Tm.Trail} {w:World} {t:LT} {n:Int} (h:DO p wb O m l w) (ht:t.In p w) (hE:Tm.okT m ((n,t.bare) :: l)) :
 Calls Try.prog 175 #[.pointer (some ⟨wb,0,none⟩),.int .i64 n,t.val] w fun e w'=>e = .returned (.tuple #[])∧AfterD p wb O m ((n,t.bare) :: l) w w':=by
 obtain ⟨ta,ia,ra,tc,ic,rc,us,is,D,R,hlu,hli,hO⟩:=h.parts;have h0:0≤n:=hE.2.1;have h1:n < (m:Int):=hE.2.2.1;obtain ⟨N,rfl⟩:∃ N:Nat,n=N:=⟨n.toNat,by omega⟩;have hbs:=D.bools;have hts:=D.row;rw [hli] at hbs;rw [hlu] at hts;obtain ⟨gi,ci,hie⟩:=hbs.shape_pos (by omega);obtain ⟨gt,ct,hte⟩:=hts.shape_pos (by omega)
 injection hie with e1 _ e3
 injection hte with e4 _ e6
 subst e1 e3 e4 e6
 have hlen:(Tm.dom l).reverse.length=l.length:=by unfold Tm.dom;rw [List.length_reverse,Qu]
 refine (bind175 D hlu hli (by rw [hlen];exact Tm.okT_length h.ok) ht (by omega)).mono ?_
 rintro e w' ⟨rfl,rv',D',T,ho⟩
 refine ⟨rfl,fun k=>ownD wb (.slice (some ⟨gt,0,none⟩) m tc) (.slice (some ⟨gi,0,none⟩) m ic) rv' k∨(O k∧k < w.heap.size),⟨⟨_,_,rv',_,_,_,D',R.bound rfl (by omega) hli hE,fun k hk=>.inl hk⟩,fun k hk=>hk.elim (D'.own_lt k) (fun e=>Qo e.2 T.size),fun k hk c=>?_⟩,fun k hk hl=>?_,T.mono (fun k _ e=>hO k (by
  rcases e with (e | e) | e | e
  · exact .inr (.inl (by rw [e];rfl))
  · exact .inr (.inr (.inl (by rw [e];rfl)))
  · exact .inl e
  · exact .inr (.inr (.inr e))))⟩
 · rcases c with c | c
   · exact (D'.sep k hk).2 c
   · exact h.sep k hk c.1
 · rcases hk with hk | hk
   · rcases hk with e | e | e | e
     · exact hO k (.inl e)
     · exact hO k (.inr (.inl e))
     · exact hO k (.inr (.inr (.inl e)))
     · rcases ho with ho | ho
       · exact hO k (.inr (.inr (.inr (ho ▸ e))))
       · have:=ho k e;omega
   · exact hk.1
end Go.Proofs.Ytoihjobdfjajfaa
namespace Go.Proofs.Ytoihjobdfjajfaa
open Lib (hid)
open Go.RowKit Go.Maps
theorem dom_take {l:Tm.Trail} {n:Nat} (hn:n≤l.length):(Tm.dom l).reverse.take n=(Tm.dom (l.drop (l.length - n))).reverse:=by
 rw [List.take_reverse];unfold Tm.dom;rw [Qu,List.map_drop]
theorem DT.undone {m:Nat} {l:Tm.Trail} {us:List LT} {is is':List Bool} {n:Nat} (R:DT m l us is (Tm.dom l).reverse) (hn:n≤l.length) (hs:∀ i:Nat,i < m→is'[i]? = some (decide ((i:Int)∈(Tm.dom l).reverse.take n))) :
 DT m (l.drop (l.length - n)) us is' ((Tm.dom l).reverse.take n):=by
 refine ⟨Tm.okT_drop _ R.ok,R.len,fun i hi=>?_,fun i b hb=>?_,dom_take hn⟩
 · rw [hs i hi,dom_take hn]
   simp only [List.mem_reverse]
 · exact R.val i b (Tm.look_of_mem R.ok (b:=(i,b)) (List.mem_of_mem_drop (Tm.look_mem hb)))
def UndoLD (tr:List Int) (m n:Nat) (ia:Option Addr) (ic:Nat) (w:World) (k:Nat) (i:Value) (wr:World):Prop:=
 ∃ (j:Nat) (is':List Bool),Hid (j+k=tr.length)∧j≤tr.length∧n≤j∧i = .int .i64 j∧Hid (Row wr 4 1 (.slice ia m ic) m (is'.map Value.bool))∧Hid (is'.length=m)∧Hid (∀ i:Nat,i < m→is'[i]? = some (decide ((i:Int)∈tr.take n∨(i:Int)∈tr.drop j)))∧Hid (Turned (fun k=>(Value.slice ia m ic).ownBlock=some k) w wr)
theorem undo_step {tr:List Int} {m n j X:Nat} {is':List Bool} (hnd:tr.Nodup) (hnj:n≤j) (hx:tr[j]? = some (X:Int)) (hX:X < m) (hl:is'.length=m) (h:∀ i:Nat,i < m→is'[i]? = some (decide ((i:Int)∈tr.take n∨(i:Int)∈tr.drop j))) :
 ∀ i:Nat,i < m→(is'.set X false)[i]? = some (decide ((i:Int)∈tr.take n∨(i:Int)∈tr.drop (j+1))):=by
 intro i hi;obtain ⟨hjl,hxe⟩:=Qg.1 hx
 have hd:tr.drop j=(X:Int) :: tr.drop (j+1):=by rw [List.drop_eq_getElem_cons hjl,hxe]
 by_cases he:X=i
 · subst he
   rw [List.getElem?_set_self (by omega)];congr 1;symm;refine decide_eq_false ?_
   rintro (c | c)
   · have h1:=List.nodup_append.1 ((List.take_append_drop j tr).symm ▸ hnd)
     refine h1.2.2 (X:Int) ?_ (X:Int) (by rw [hd];exact Qe ..) rfl
     have h2:tr.take n=(tr.take j).take n:=by rw [List.take_take];congr 1;omega
     rw [h2] at c;exact List.mem_of_mem_take c
   · have h1:=List.nodup_append.1 ((List.take_append_drop j tr).symm ▸ hnd)
     have h2:=h1.2.1;rw [hd] at h2;exact (List.nodup_cons.1 h2).1 c
 · rw [List.getElem?_set_ne he,h i hi,hd]
   have:((i:Int)∈(X:Int) :: tr.drop (j+1))↔(i:Int)∈tr.drop (j+1):=by
    rw [Qw];exact ⟨fun c=>c.elim (fun c=>by omega) id,.inr⟩
   simp only [this]
set_option maxRecDepth 100000 in
theorem undoD {p O:Nat→Prop} {wb m:Nat} {l:Tm.Trail} {w:World} (h:DO p wb O m l w) (n:Nat) (hn:n≤l.length) :
 Calls Try.prog 102 #[.pointer (some ⟨wb,0,none⟩),.int .i64 n] w fun e w'=>e = .returned (.bool true)∧AfterD p wb O m (l.drop (l.length - n)) w w':=by
 obtain ⟨i0,hi0,hz0,hz1,hz2⟩:=info_parts infoN3;obtain ⟨ta,ia,ra,tc,ic,rc,us,is,D,R,hlu,hli,hO⟩:=h.parts;have hnd:(Tm.dom l).reverse.Nodup:=(List.reverse_perm (Tm.dom l)).symm.nodup (Tm.okT_nodup h.ok)
 have hlen:(Tm.dom l).reverse.length=l.length:=by unfold Tm.dom;rw [List.length_reverse,Qu]
 have hin:∀ x∈(Tm.dom l).reverse,0≤x∧x < (m:Int):=fun x hx=>by
  obtain ⟨b,hb,rfl⟩:=List.mem_map.1 (List.mem_reverse.1 hx);have:=Tm.okT_mem h.ok hb;exact ⟨this.1,this.2.1⟩
 have hlm:=Tm.okT_length h.ok;have hm65:=h.most
 have hDT:=fun is' hs=>R.undone (is':=is') hn hs
 have hset:=R.set
 have HA:Hid (∀ (is':List Bool) (v2:Value) (w':World),is'.length=m→Row w' 4 1 (.slice ia m ic) m (is'.map Value.bool)→Row w' 2 1 v2 n (((Tm.dom l).reverse.take n).map (Value.int .i64))→(∀ k,v2.ownBlock=some k→w.heap.size≤k)→w'.heap[wb]? = some (.cells #[.slice ta m tc,.slice ia m ic,v2] 113 (0,0))→Turned (fun k=>(Value.slice ia m ic).ownBlock=some k∨k=wb) w w'→(∀ i:Nat,i < m→is'[i]? = some (decide ((i:Int)∈(Tm.dom l).reverse.take n)))→AfterD p wb O m (l.drop (l.length - n)) w w'):=by
  intro is' v2 w' h1 h2 h3 h4 h5 h6 h7;have hne:=D.ne
  have hTk:(((Tm.dom l).reverse.take n).length=n):=by rw [List.length_take,hlen];omega
  have hsep:∀ k,k < w.heap.size→¬ v2.ownBlock=some k:=fun k hk e=>by have:=h4 k e;omega
  have hDB:DB p wb (.slice ta m tc) (.slice ia m ic) v2 us is' ((Tm.dom l).reverse.take n) w':=by
   have hlt:=D.own_lt;refine ⟨h5,D.row.turned h6 (fun k hk e=>?_),by rw [h1];exact h2,by rw [hTk];exact h3,by rw [h1,hlu],?_,D.most,⟨hne.1,hne.2.1,fun e=>hsep wb (hlt wb (.inl rfl)) e,fun k hk=>⟨(hne.2.2.2.1 k hk).1,hsep k (hlt k (.inr (.inl hk)))⟩,fun k hk=>hsep k (hlt k (.inr (.inr (.inl hk))))⟩,fun k hk=>?_⟩
   · rcases e with e | e
     · exact (hne.2.2.2.1 k hk).1 e
     · exact hne.1 (e ▸ hk)
   · exact LT.Ins.turned h6 (fun k _ hk e=>(D.sep k hk).2 (e.elim (fun e=>.inr (.inr (.inl e))) .inl)) (fun _ _ q=>q) _ D.ins
   · obtain ⟨s1,s2⟩:=D.sep k hk
     refine ⟨Qo s1 h6.size,?_⟩
     rintro (e | e | e | e)
     · exact s2 (.inl e)
     · exact s2 (.inr (.inl e))
     · exact s2 (.inr (.inr (.inl e)))
     · exact hsep k s1 e
  refine ⟨fun k=>ownD wb (.slice ta m tc) (.slice ia m ic) v2 k∨(O k∧k < w.heap.size),⟨⟨_,_,v2,us,is',_,hDB,hDT is' h7,fun k hk=>.inl hk⟩,fun k hk=>hk.elim (hDB.own_lt k) (fun e=>Qo e.2 h6.size),fun k hk c=>?_⟩,fun k hk hl=>?_,h6.mono (fun k _ e=>hO k (e.elim (fun e=>.inr (.inr (.inl e))) .inl))⟩
  · rcases c with c | c
    · exact (hDB.sep k hk).2 c
    · exact h.sep k hk c.1
  · rcases hk with (e | e | e | e) | hk
    · exact hO k (.inl e)
    · exact hO k (.inr (.inl e))
    · exact hO k (.inr (.inr (.inl e)))
    · exact absurd e (hsep k hl)
    · exact hk.1
 have hne:=D.ne;have hbs:=D.bools;have htr:=D.trail;rw [hli] at hbs;rw [hlen] at htr;have hmx:=htr.max;have HRB:=hid hbs;have HRT:=hid htr;have HDB:=hid D.b;have HNE:=hid hne;have hwl:=D.own_lt wb (.inl rfl);have hown:=D.own_lt;have HOW:=hid hown
 have hset2:∀ i:Nat,i < m→is[i]? = some (decide ((i:Int)∈(Tm.dom l).reverse.take n∨(i:Int)∈(Tm.dom l).reverse.drop n)):=fun i hi=>by
  rw [hset i hi]
  have:((i:Int)∈(Tm.dom l).reverse.take n∨(i:Int)∈(Tm.dom l).reverse.drop n)↔(i:Int)∈Tm.dom l:=by
   rw [←Qn,List.take_append_drop,List.mem_reverse]
  simp only [this]
 obtain ⟨tr,htre⟩:∃ z,z=(Tm.dom l).reverse:=⟨_,rfl⟩;rw [←htre] at hnd hlen hin HA HRT hset2 htr;have HND:=hid hnd;have HIN:=hid hin;have HST:=hid hset2;have HLI:=hid hli;obtain ⟨b0,b1,b2,f0,f1,f2⟩:=rec3b D.b;have d1:decide ((n:Int) < 0)=false:=decide_eq_false (by omega);have d2:decide ((l.length:Int) < (n:Int))=false:=decide_eq_false (by omega);have d3:decide (l.length < n)=false:=decide_eq_false (by omega);clear hnd hin hset2 hli hset hDT hne hbs htr hown D R hO htre h hlu;go_enter Try.func102,Try.ntmps102
 go_wp2_with fail
 clear b0 b1 b2 f0 f1 f2
 go_loopg [5] (l.length - n) (fun k i wr=>UndoLD tr m n ia ic w k i wr)
 case atStart=>exact ⟨n,is,show _=_ by omega,by omega,Qm _,rfl,HRB.out,HLI.out,HST.out,Turned.refl _ _⟩
 case round=>
  obtain ⟨j,is',HG,hj,hnj,rfl,HB,HL,HS,HT⟩:=hrel;have hwb:=(HT.out.block wb hwl (fun e=>HNE.out.2.1 e)).trans HDB.out;obtain ⟨b0,b1,b2,f0,f1,f2⟩:=rec3b hwb;have HWB:=hid hwb;clear hwb;have hrt:Row wr 2 1 (.slice ra l.length rc) l.length (tr.map (Value.int .i64)):=HRT.out.turned HT.out (fun k hk e=>HNE.out.2.2.2.2 k e hk)
  by_cases hjl:j < l.length
  · have dj:decide ((j:Int) < (l.length:Int))=true:=decide_eq_true (by omega)
    obtain ⟨x,hx⟩:∃ x,tr[j]? = some x:=⟨_,Qa (by omega)⟩;have hxm:=HIN.out x (Qf hx);obtain ⟨X,rfl⟩:∃ X:Nat,x=X:=⟨x.toNat,by omega⟩;obtain ⟨gr,cr,hre⟩:=hrt.shape_pos (by omega)
    injection hre with e1 _ e3
    subst e1 e3;have hcv:=hrt.cells rfl j (.int .i64 (X:Int)) (by rw [Qp,hx];rfl);obtain ⟨gi,ci,hie⟩:=HB.out.shape_pos (by omega)
    injection hie with e4 _ e6
    subst e4 e6;have hbd:=HB.out.turned0 ((Turned.refl (fun _=>False) wr).drew);obtain ⟨z0,g0⟩:=row_some hbd X (by omega);have g1:=hbd.free rfl X
    have hXm:X < m:=by omega
    have HX:=hid hx;have HBD:=hid hbd;clear hx hxm hrt hbd
    go_wp2_with fail
    refine region_tail 12 (by kernel_rfl) (by kernel_rfl) ?_;simp only [List.take_succ_cons,List.take_zero,List.drop_succ_cons,List.drop_zero]
    repeat still_step
    refine wpStill_nil ?_
    go_wp2_with fail
    go_roundg (gk - 1)
    case measure=>have:=HG.out;omega
    case rel=>exact ⟨j+1,is'.set X false,show _=_ by have:=HG.out;omega,by omega,by omega,by go_num,(by have:=HBD.out.setAt (off:=X) (by omega) (.bool false);rw [←List.map_set] at this;exact this),(by show _=_;rw [List.length_set];exact HL.out),undo_step HND.out hnj HX.out hXm HL.out HS.out,(HT.out.drew).setCell (p:=⟨gi,X,none⟩) (.inr rfl) _⟩
  · obtain rfl:j=l.length:=by omega
    have dj:decide ((l.length:Int) < (l.length:Int))=false:=decide_eq_false (by omega)
    have hnone:ra=none→n=0∧rc=0:=fun e=>by
     subst e
     rcases hrt.2 with ⟨e,_⟩ | ⟨g,c,cur,e,_⟩
     · injection e with _ e2 e3;exact ⟨by omega,e3⟩
     · injection e with e1 _ _;cases e1
    have hnews:∀ o:Obj,∀ ad,ra=some ad→∀ j u,((tr.take n).map (Value.int .i64))[j]? = some u→(wr.alloc o).cell? (ad.add j)=some u:=fun o ad had j u hu=>by
     subst had
     obtain ⟨g,c,hge⟩:=hrt.shape_pos (by
      rcases Nat.eq_zero_or_pos l.length with h0 | h0
      · exfalso
        have:((tr.take n).map (Value.int .i64))=[]:=Qh (by rw [Qu,List.length_take];omega);rw [this] at hu
        cases hu
      · exact h0)
     injection hge with e1 _ e3
     injection e1 with e1
     subst e1 e3
     have hu2:(tr.map (Value.int .i64))[j]? = some u:=by
      rw [List.map_take] at hu;rw [List.getElem?_take] at hu
      split at hu
      · exact hu
      · cases hu
     rw [Addr.add_lit,Nat.zero_add];exact cell_old (hrt.cells rfl j u hu2)
    have hone:∀ u∈(tr.take n).map (Value.int .i64),u.oneCell'=true:=fun u hu=>by
     obtain ⟨z,_,rfl⟩:=List.mem_map.1 hu;rfl
    have hnrc:n≤rc:=by have:=hrt.max;omega
    have hnrc2:(n:Int)≤(rc:Int):=by omega
    have HNW:=hid hnews;have HON:=hid hone
    have hTl:((tr.take n).map (Value.int .i64)).length=n * 1:=by rw [Qu,List.length_take];omega
    have hwbl:wb < wr.heap.size:=Qo hwl HT.out.size;have HSZ:=hid HT.out.size;clear hrt hnews hone
    go_wp2_with (at_builtin;refine append_any _ rfl _ _ 24 rfl 2 i0 (.int .i64 0) 1 8 Try.underlying24 hi0 hz0 hz1 hz2 rfl (by decide) _ _ _ rfl (Row.made _ 2 1 #[] 0 rfl (by simp)) ra n rc ((tr.take n).map (Value.int .i64)) rfl hnone hTl (HNW.out _) HON.out (by unfold maxLen;omega) (by omega) ?_;intro v2 w5 hrow5 T5 ho5;have hrow5:Row w5 2 1 v2 n ((tr.take n).map (Value.int .i64)):=(by simpa using hrow5);obtain ⟨va,vc,rfl⟩:=hrow5.shape;have TA:=(Turned.refl (fun _=>False) wr).alloc (.cells #[] 2);have hT5:Turned zN wr w5:=TA.step T5 (fun i hi e=>by simp [Value.ownBlock,Act.eval] at e;omega);have hwb5:=(hT5.block wb hwbl (fun f=>f)).trans HWB.out;obtain ⟨c0,c1,c2,g0,g1,g2⟩:=rec3b hwb5;have HW5:=hid hwb5;have HT5:=hid hT5;have HR5:=hid hrow5;have HO5:Hid (∀ k,(Value.slice va n vc).ownBlock=some k→wr.heap.size≤k):=hid (fun k hk=>by rcases ho5 with e | e;(rw [hk] at e;simp [Value.ownBlock,Act.eval] at e;omega);(rw [hk] at e;simp at e;omega));clear TA hT5 hwb5 hrow5 T5 ho5)
    go_ret;have Tw:Turned (fun k=>k=wb) w5 (w5.setCell ⟨wb,2,none⟩ (.slice va n vc)):=(Turned.refl (fun k=>k=wb) w5).setCell (p:=⟨wb,2,none⟩) (.inr rfl) _;refine ⟨rfl,HA.out is' (.slice va n vc) _ HL.out ((HB.out.turned0 HT5.out).turned Tw (fun k hk e=>HNE.out.2.1 (e ▸ hk))) ?_ (fun k hk=>by have:=HO5.out k hk;have:=HSZ.out;omega) (by have:=heap_setCell_same w5 wb 2 _ 113 (.slice va n vc) HW5.out;simpa using this) (((HT.out.mono (fun _ _ e=>.inl e)).trans (HT5.out.mono (fun _ _ f=>f.elim)):Turned (fun k=>(Value.slice ia m ic).ownBlock=some k∨k=wb) w w5).trans (Tw.mono (fun _ _ e=>.inr e))) ?_⟩
    · have:=HR5.out.turned Tw (fun k hk e=>by have:=HO5.out k hk;omega)
      simpa using this
    · intro i hi
      have:=HS.out i hi;rw [this,List.drop_eq_nil_of_le (by omega)];simp
end Go.Proofs.Ytoihjobdfjajfaa

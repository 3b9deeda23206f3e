/- Merged texts: MX1, Opens. -/
import Derived.Test.YtoihjobdfjajfaaCm6
import Derived.ProofKit
import Derived.Deep.Strs
import Derived.Lib.SmallJoins
set_option linter.unusedVariables false
set_option linter.unusedSimpArgs false
open List renaming getElem?_eq_getElem → Qa, mem_cons_of_mem → Qb, mem_append_left → Qc, mem_cons_self → Qe, mem_of_getElem? → Qf, getElem?_eq_some_iff → Qg, eq_nil_of_length_eq_zero → Qh, length_append → Qi, mem_append_right → Qj, setIfInBounds_toArray → Qk, not_mem_nil → Ql, mem_append → Qn, getElem?_map → Qp, foldl_cons → Qq, set_cons_succ → Qr, set_cons_zero → Qs, all_eq_true → Qt, length_map → Qu, mem_cons → Qw, map_cons → Qx, length_cons → QB
open Bool renaming and_eq_true → Qd
open Nat renaming le_refl → Qm, lt_of_lt_of_le → Qo, lt_irrefl → Qy, lt_of_le_of_lt → Qz, le_trans → QA
open Array renaming getElem?_toList → Qv, getElem?_eq_some_iff → QC
set_option maxHeartbeats 12800000
namespace Go.Proofs.Ytoihjobdfjajfaa
open Lib (hid)
open Go.RowKit Go.Maps
theorem compV37 {p:Nat→Prop} {w:World} {a:Option Addr} {c:Nat} {l:List LT} (s:ByteArray) (hs:s.size≤maxLen) (h:LT.Sl p w a c l) (hn:l.length≤65536) :
 Calls Try.prog 37 #[.string s,.slice a l.length c] w fun e w'=>∃ (a':Option Addr) (c':Nat),e = .returned (.agg #[.int .i64 2,.int .i64 0,.string s,.slice a' l.length c'])∧LT.In (fun k=>p k∨w.heap.size≤k) w' (.mk 2 0 s (a',c') l)∧Turned zN w w':=by
 refine (comp37 s hs h hn).mono ?_
 rintro e w' ⟨d,rfl,hi,ht⟩
 obtain ⟨a',c'⟩:=d;exact ⟨a',c',by rw [LT.val_eq];rfl,hi,ht⟩
theorem atomV63 (s:ByteArray) (hs:s.size≤maxLen) (w:World):Calls Try.prog 63 #[.string s] w fun e w'=>e = .returned (.agg #[.int .i64 2,.int .i64 0,.string s,.slice none 0 0])∧Turned zN w w':=
 (atom63 s hs w).mono fun e w' h=>⟨h.1,h.2.2⟩
theorem callBare (a:Option Addr) (c:Nat) (s:ByteArray) (l:List LT):(Tm.mk 2 0 s (a,c) l:LT).bare = .mk 2 0 s () (l.map Tm.bare):=by rw [Tm.bare,Tm.bares_eq]
def CallBox (B:Nat) (s:ByteArray) (l:List LT) (w0 W:World):Prop:=
 ∃ a c,W.heap[B]? = some (.cells #[.int .i64 2,.int .i64 0,.string s,.slice a l.length c] 27 (0,0))∧LT.In (fun _=>True) W (.mk 2 0 s (a,c) l)∧Turned zN w0 W
set_option maxRecDepth 100000 in
theorem codeMatchA {t:LT} {a:Option Addr} {c:Nat} {l:List LT} {w:World} (ht:t.In (fun _=>True) w) (hl:LT.Sl (fun _=>True) w a c l):Calls Try.prog 29 #[.agg #[.int .i64 t.kind,.int .i64 t.n,.string t.name,.slice t.at_.1 t.args.length t.at_.2],.slice a l.length c] w fun e w'=>e = .returned (.bool true)∧Turned zN w w':=by
 have T1:=(Turned.refl (fun _=>False) w).alloc (.cells #[.int .i64 t.kind,.int .i64 t.n,.string t.name,.slice t.at_.1 t.args.length t.at_.2] 27);obtain ⟨w2,hw2⟩:∃ z,z=w.alloc (.cells #[.int .i64 t.kind,.int .i64 t.n,.string t.name,.slice t.at_.1 t.args.length t.at_.2] 27):=⟨_,rfl⟩;have hnew:=heap_alloc_new w (.cells #[.int .i64 t.kind,.int .i64 t.n,.string t.name,.slice t.at_.1 t.args.length t.at_.2] 27);rw [←hw2] at T1 hnew
 have hcx:∀ W,Turned zN w2 W→W.cell? ⟨w.heap.size,0,none⟩=some (.int .i64 t.kind)∧W.cell? ⟨w.heap.size,1,none⟩=some (.int .i64 t.n)∧W.cell? ⟨w.heap.size,2,none⟩=some (.string t.name)∧W.cell? ⟨w.heap.size,3,none⟩=some (.slice t.at_.1 t.args.length t.at_.2):=fun W T=>by
  have c:=cells4 ((T.bt hnew));exact ⟨c.1,c.2.1,c.2.2.1,c.2.2.2.1⟩
 have HCX:=hid hcx;have HW2:=hid hw2;have HT1:=hid T1;have HTI:=hid (ht.turned0 T1);have HLI:=hid (hl.turned0 T1);have hlm:=hl.max;have hcap:=hl.cap;unfold maxLen at hlm;have hns:t.name.size≤maxLen:=(LT.In.flat t ht t (by rw [Tm.flat_eq];exact Qe ..)).name;have HNS:=hid hns;clear hcx hw2 T1 ht hl hnew hns;obtain ⟨d,hd⟩:∃ z,z=deepB 20 t:=⟨_,rfl⟩;have HD:=hid hd.symm
 cases d with
 | true=>
  clear hd;go_enter Try.func29,Try.ntmps29
  go_wp2_with (first
  | (go_at_call 92;have HT3:=HT3;(with_reducible refine (deepVal92 20 t _ 20 rfl (by omega) (HTI.out.turned0 HT3.out)).mono ?_);rintro e w4 ⟨rfl,T4⟩;rw [HD.out];have HT4:=hid (HT3.out.trans T4);clear T4;obtain ⟨k0,k1,k2,k3⟩:=HCX.out w4 HT4.out)
  | (go_at_call 91;rw [←HW2.out];(with_reducible refine (awake91 w2).mono ?_);rintro e w3 ⟨rfl,T3⟩;have HT3:=hid T3;clear T3;obtain ⟨k0,k1,k2,k3⟩:=HCX.out w3 HT3.out))
  go_ret;exact ⟨rfl,HT1.out.trans HT4.out⟩
 | false=>
 have HSL:=hid (deep_slim 20 t hd.symm);clear hd
 by_cases h8:8 < l.length
 · have b8:decide (8 < (l.length:Int))=true:=decide_eq_true (by omega)
   go_enter Try.func29,Try.ntmps29
   go_wp2_with (first
   | (go_at_call 92;have HT3:=HT3;(with_reducible refine (deepVal92 20 t _ 20 rfl (by omega) (HTI.out.turned0 HT3.out)).mono ?_);rintro e w4 ⟨rfl,T4⟩;rw [HD.out];have HT4:=hid (HT3.out.trans T4);clear T4;obtain ⟨k0,k1,k2,k3⟩:=HCX.out w4 HT4.out)
   | (go_at_call 91;rw [←HW2.out];(with_reducible refine (awake91 w2).mono ?_);rintro e w3 ⟨rfl,T3⟩;have HT3:=hid T3;clear T3;obtain ⟨k0,k1,k2,k3⟩:=HCX.out w3 HT3.out))
   go_ret;exact ⟨rfl,HT1.out.trans HT4.out⟩
 have b8:decide (8 < (l.length:Int))=false:=decide_eq_false (by omega);obtain ⟨g,hg⟩:∃ g,g=goodB t:=⟨_,rfl⟩;have HG:=hid hg.symm;clear hg
 cases g with
 | false=>
  go_enter Try.func29,Try.ntmps29
  go_wp2_with (first
  | (go_at_call 38;have HT4:=HT4;(with_reducible refine (goodVal' (HTI.out.turned0 HT4.out) HSL.out HG.out).mono ?_);rintro e w5 ⟨rfl,T5⟩;have HT5:=hid (HT4.out.trans T5);clear T5;obtain ⟨k0,k1,k2,k3⟩:=HCX.out w5 HT5.out)
  | (go_at_call 92;have HT3:=HT3;(with_reducible refine (deepVal92 20 t _ 20 rfl (by omega) (HTI.out.turned0 HT3.out)).mono ?_);rintro e w4 ⟨rfl,T4⟩;rw [HD.out];have HT4:=hid (HT3.out.trans T4);clear T4;obtain ⟨k0,k1,k2,k3⟩:=HCX.out w4 HT4.out)
  | (go_at_call 91;rw [←HW2.out];(with_reducible refine (awake91 w2).mono ?_);rintro e w3 ⟨rfl,T3⟩;have HT3:=hid T3;clear T3;obtain ⟨k0,k1,k2,k3⟩:=HCX.out w3 HT3.out))
  go_ret;exact ⟨rfl,HT1.out.trans HT5.out⟩
 | true=>
 by_cases hk:t.kind=2
 case neg=>
  have bk:(t.kind != 2)=true:=by simp [hk]
  go_enter Try.func29,Try.ntmps29
  go_wp2_with (first
  | (go_at_call 38;have HT4:=HT4;(with_reducible refine (goodVal' (HTI.out.turned0 HT4.out) HSL.out HG.out).mono ?_);rintro e w5 ⟨rfl,T5⟩;have HT5:=hid (HT4.out.trans T5);clear T5;obtain ⟨k0,k1,k2,k3⟩:=HCX.out w5 HT5.out)
  | (go_at_call 92;have HT3:=HT3;(with_reducible refine (deepVal92 20 t _ 20 rfl (by omega) (HTI.out.turned0 HT3.out)).mono ?_);rintro e w4 ⟨rfl,T4⟩;rw [HD.out];have HT4:=hid (HT3.out.trans T4);clear T4;obtain ⟨k0,k1,k2,k3⟩:=HCX.out w4 HT4.out)
  | (go_at_call 91;rw [←HW2.out];(with_reducible refine (awake91 w2).mono ?_);rintro e w3 ⟨rfl,T3⟩;have HT3:=hid T3;clear T3;obtain ⟨k0,k1,k2,k3⟩:=HCX.out w3 HT3.out))
  go_ret;exact ⟨rfl,HT1.out.trans HT5.out⟩
 have bk:(t.kind != 2)=false:=by simp [hk]
 have HK:=hid hk;clear hk
 by_cases hn:t.args.length=l.length
 case neg=>
  have bn:((t.args.length:Int) != (l.length:Int))=true:=by simp;omega
  go_enter Try.func29,Try.ntmps29
  go_wp2_with (first
  | (go_at_call 38;have HT4:=HT4;(with_reducible refine (goodVal' (HTI.out.turned0 HT4.out) HSL.out HG.out).mono ?_);rintro e w5 ⟨rfl,T5⟩;have HT5:=hid (HT4.out.trans T5);clear T5;obtain ⟨k0,k1,k2,k3⟩:=HCX.out w5 HT5.out)
  | (go_at_call 92;have HT3:=HT3;(with_reducible refine (deepVal92 20 t _ 20 rfl (by omega) (HTI.out.turned0 HT3.out)).mono ?_);rintro e w4 ⟨rfl,T4⟩;rw [HD.out];have HT4:=hid (HT3.out.trans T4);clear T4;obtain ⟨k0,k1,k2,k3⟩:=HCX.out w4 HT4.out)
  | (go_at_call 91;rw [←HW2.out];(with_reducible refine (awake91 w2).mono ?_);rintro e w3 ⟨rfl,T3⟩;have HT3:=hid T3;clear T3;obtain ⟨k0,k1,k2,k3⟩:=HCX.out w3 HT3.out))
  go_ret;exact ⟨rfl,HT1.out.trans HT5.out⟩
 have bn:((t.args.length:Int) != (l.length:Int))=false:=by simp;omega
 have HN:=hid hn;obtain ⟨sz,hsz⟩:∃ z:Int,z=((min t.size 2001:Nat):Int):=⟨_,rfl⟩;have HSZ:=hid hsz
 by_cases h100:100 < sz
 · have b100:decide (100 < sz)=true:=decide_eq_true h100
   clear hsz hn;go_enter Try.func29,Try.ntmps29
   go_wp2_with (first
   | (go_at_call 35;have HT5:=HT5;(with_reducible refine (sizeV35 (HTI.out.turned0 HT5.out) HSL.out HSZ.out.symm).mono ?_);rintro e w6 ⟨rfl,T6⟩;have HT6:=hid (HT5.out.trans T6);clear T6;obtain ⟨k0,k1,k2,k3⟩:=HCX.out w6 HT6.out)
   | (go_at_call 38;have HT4:=HT4;(with_reducible refine (goodVal' (HTI.out.turned0 HT4.out) HSL.out HG.out).mono ?_);rintro e w5 ⟨rfl,T5⟩;have HT5:=hid (HT4.out.trans T5);clear T5;obtain ⟨k0,k1,k2,k3⟩:=HCX.out w5 HT5.out)
   | (go_at_call 92;have HT3:=HT3;(with_reducible refine (deepVal92 20 t _ 20 rfl (by omega) (HTI.out.turned0 HT3.out)).mono ?_);rintro e w4 ⟨rfl,T4⟩;rw [HD.out];have HT4:=hid (HT3.out.trans T4);clear T4;obtain ⟨k0,k1,k2,k3⟩:=HCX.out w4 HT4.out)
   | (go_at_call 91;rw [←HW2.out];(with_reducible refine (awake91 w2).mono ?_);rintro e w3 ⟨rfl,T3⟩;have HT3:=hid T3;clear T3;obtain ⟨k0,k1,k2,k3⟩:=HCX.out w3 HT3.out))
   go_ret;exact ⟨rfl,HT1.out.trans HT6.out⟩
 have b100:decide (100 < sz)=false:=decide_eq_false h100
 have hts:t.size≤100:=by omega
 have HTS:=hid hts
 have hl8:l.length≤8:=by omega
 clear hsz hts h100 hn;go_enter Try.func29,Try.ntmps29
 go_wp2_with (first
 | (go_at_call 35;have HT5:=HT5;(with_reducible refine (sizeV35 (HTI.out.turned0 HT5.out) HSL.out HSZ.out.symm).mono ?_);rintro e w6 ⟨rfl,T6⟩;have HT6:=hid (HT5.out.trans T6);clear T6;obtain ⟨k0,k1,k2,k3⟩:=HCX.out w6 HT6.out)
 | (go_at_call 38;have HT4:=HT4;(with_reducible refine (goodVal' (HTI.out.turned0 HT4.out) HSL.out HG.out).mono ?_);rintro e w5 ⟨rfl,T5⟩;have HT5:=hid (HT4.out.trans T5);clear T5;obtain ⟨k0,k1,k2,k3⟩:=HCX.out w5 HT5.out)
 | (go_at_call 92;have HT3:=HT3;(with_reducible refine (deepVal92 20 t _ 20 rfl (by omega) (HTI.out.turned0 HT3.out)).mono ?_);rintro e w4 ⟨rfl,T4⟩;rw [HD.out];have HT4:=hid (HT3.out.trans T4);clear T4;obtain ⟨k0,k1,k2,k3⟩:=HCX.out w4 HT4.out)
 | (go_at_call 91;rw [←HW2.out];(with_reducible refine (awake91 w2).mono ?_);rintro e w3 ⟨rfl,T3⟩;have HT3:=hid T3;clear T3;obtain ⟨k0,k1,k2,k3⟩:=HCX.out w3 HT3.out))
 go_loopg [5] l.length (fun k i wr=>∃ j:Nat,Hid (j+k=l.length)∧j≤l.length∧i = .int .i64 (j:Int)∧Hid (∀ y∈l.take j,deepB 20 y=false)∧Hid (Turned zN w2 wr))
 case atStart=>exact ⟨0,Nat.zero_add _,Nat.zero_le _,rfl,(fun v hv=>by cases hv),HT6⟩
 case round=>
 obtain ⟨j,HJ,hj,rfl,HV,HTr⟩:=hrel
 by_cases hjl:j < l.length
 · have dj:decide ((j:Int) < (l.length:Int))=true:=decide_eq_true (by omega)
   obtain ⟨x,hx⟩:∃ x:LT,l[j]? = some x:=⟨_,Qa hjl⟩;obtain ⟨b1,o1,rfl,_,x0,x1,x2,x3⟩:=(HLI.out.turned0 HTr.out).lies.cell hx;have hxi:x.In (fun _=>True) w2:=(LT.ins_iff l).1 HLI.out.ins x (Qf hx);have HXI:=hid hxi;have HXJ:=hid hx;obtain ⟨dx,hdx⟩:∃ z,z=deepB 20 x:=⟨_,rfl⟩;have HDX:=hid hdx.symm;clear hxi hx hdx
   cases dx with
   | true=>
    go_wp2_with (go_at_call 92;(with_reducible refine (deepVal92 20 x _ 20 rfl (by omega) (HXI.out.turned0 HTr.out)).mono ?_);rintro e w7 ⟨rfl,T7⟩;rw [HDX.out];have HT7:=hid T7;clear T7)
    go_ret;exact ⟨rfl,(HT1.out.trans HTr.out).trans HT7.out⟩
   | false=>
    go_wp2_with (go_at_call 92;(with_reducible refine (deepVal92 20 x _ 20 rfl (by omega) (HXI.out.turned0 HTr.out)).mono ?_);rintro e w7 ⟨rfl,T7⟩;rw [HDX.out];have HT7:=hid T7;clear T7)
    go_roundg (gk - 1)
    case measure=>have:=HJ.out;omega
    case rel=>
     refine ⟨j+1,show _=_ by have:=HJ.out;omega,by omega,by go_num,fun u hu=>?_,HTr.out.trans HT7.out⟩;rw [List.take_add_one,HXJ.out] at hu
     rcases Qn.1 hu with hu | hu
     · exact HV.out u hu
     · obtain rfl:u=x:=by simpa using hu
       exact HDX.out
 obtain rfl:j=l.length:=by omega
 have dj:decide ((l.length:Int) < (l.length:Int))=false:=decide_eq_false (by omega)
 have HVA:Hid (∀ y∈l,deepB 20 y=false):=by have:=HV.out;rwa [List.take_length] at this
 obtain ⟨k0,k1,k2,k3⟩:=HCX.out wr HTr.out;clear HJ HV
 go_upto_if 88 with (go_at_call 37;(with_reducible refine (compV37 (p:=fun _=>True) t.name HNS.out (HLI.out.turned0 HTr.out) (by omega)).mono ?_);rintro e w7 ⟨a7,c7,rfl,hi7,T7⟩;have hb7:=heap_alloc_new w7 (.cells #[.int .i64 2,.int .i64 0,.string t.name,.slice a7 l.length c7] 27);have T7':=T7.alloc (.cells #[.int .i64 2,.int .i64 0,.string t.name,.slice a7 l.length c7] 27);obtain ⟨k0,k1,k2,k3⟩:=HCX.out _ (HTr.out.trans T7');have HI7:=hid ((hi7.mono (q:=fun _=>True) (fun _ _ _=>trivial)).turned0 ((Turned.refl _ w7).alloc (.cells #[.int .i64 2,.int .i64 0,.string t.name,.slice a7 l.length c7] 27)));have HB7:=hid hb7;have HT7:=hid T7';have HS7:=hid T7.size;clear hi7 hb7 T7 T7')
 go_cut [] (fun wx=>CallBox w7.heap.size t.name l wr wx)
 case first=>
  obtain ⟨z,hz⟩:∃ z,z=l.length:=⟨_,rfl⟩;have HZ:=hid hz
  by_cases h0:l.length=0
  · have e0:((l.length:Int) == 0)=true:=by simp [h0]
    have e0':decide ((l.length:Int)=0)=true:=by simp [h0]
    have H0:=hid h0;clear h0 hz
    go_wp2_with (go_at_call 63;(with_reducible refine (atomV63 t.name HNS.out _).mono ?_);rintro e w8 ⟨rfl,T8⟩;have hb8:=(T8.bt HB7.out);obtain ⟨y0,y1,y2,y3,f0,f1,f2,f3⟩:=cells4 hb8;have HB8:=hid hb8;have HT8:=hid (HT7.out.trans T8);clear hb8 T8)
    go_meet;have hset:=set4 (a':=.int .i64 2) (b':=.int .i64 0) (c':=.string t.name) (d':=.slice none 0 0) HB8.out;have Tq:=turned_store4 w8 w7.heap.size (.int .i64 2) (.int .i64 0) (.string t.name) (.slice none 0 0);have hle:=List.length_eq_zero_iff.1 H0.out;refine ⟨none,0,by rw [H0.out];exact hset,?_,HT8.out.step Tq (fun i hi e=>by have:=HS7.out;omega)⟩;rw [hle];exact leafIn' (i64_lit 2 (by omega)) (i64_lit 0 (by omega)) HNS.out
  · have e0:((l.length:Int) == 0)=false:=by rw [beq_eq_false_iff_ne];omega
    have e0':decide ((l.length:Int)=0)=false:=decide_eq_false (by omega);clear h0 hz
    go_wp2_with fail
    go_meet;exact ⟨a7,c7,HB7.out,HI7.out,HT7.out⟩
 case rest=>
 obtain ⟨a8,c8,hb8,hi8,T8⟩:=hcut;have HI8:=hid hi8;have HT8:=hid (HTr.out.trans T8);have HB8:=hid hb8;have HCB:=hid (fun W (T:Turned zN wc W)=>cells4 ((T.bt hb8)));obtain ⟨y0,y1,y2,y3,_⟩:=HCB.out wc (Turned.refl _ _);have hsc:slim (Tm.mk 2 0 t.name (a8,c8) l:LT):=slim_mk (by omega) (fun x hx=>deep_slim 20 x (HVA.out x hx));have HSC:=hid hsc;clear hb8 hi8 T8 hsc HB7 HI7 HT7;obtain ⟨g2,hg2⟩:∃ g,g=goodB (Tm.mk 2 0 t.name (a8,c8) l:LT):=⟨_,rfl⟩
 have hc38:∀ W,Turned zN wc W→Calls Try.prog 38 #[.agg #[.int .i64 2,.int .i64 0,.string t.name,.slice a8 l.length c8]] W fun e w'=>e = .returned (.bool g2)∧Turned zN W w':=fun W T=>by
  have h:=goodVal' (t:=(Tm.mk 2 0 t.name (a8,c8) l:LT)) (HI8.out.turned0 T) HSC.out hg2.symm;exact h
 have H38:=hid hc38;have HG2:=hid hg2.symm;clear hc38 hg2
 cases g2 with
 | false=>
  go_wp2_with (go_at_call 38;(with_reducible refine (H38.out wc (Turned.refl _ _)).mono ?_);rintro e w9 ⟨rfl,T9⟩;have HT9:=hid T9;clear T9)
  go_ret;exact ⟨rfl,(HT1.out.trans HT8.out).trans HT9.out⟩
 | true=>
 obtain ⟨sz2,hsz2⟩:∃ z:Int,z=((min (Tm.mk 2 0 t.name (a8,c8) l:LT).size 2001:Nat):Int):=⟨_,rfl⟩
 have hc35:∀ W,Turned zN wc W→Calls Try.prog 35 #[.agg #[.int .i64 2,.int .i64 0,.string t.name,.slice a8 l.length c8]] W fun e w'=>e = .returned (.int .i64 sz2)∧Turned zN W w':=fun W T=>by
  have h:=sizeV35 (t:=(Tm.mk 2 0 t.name (a8,c8) l:LT)) (HI8.out.turned0 T) HSC.out hsz2.symm;exact h
 have H35:=hid hc35;clear hc35 hsz2
 by_cases hs2:100 < sz2
 · have b200:decide (100 < sz2)=true:=decide_eq_true hs2
   clear hs2
   go_wp2_with (first
   | (go_at_call 35;(with_reducible refine (H35.out w9 HT9.out).mono ?_);rintro e w10 ⟨rfl,T10⟩;have HT10:=hid (HT9.out.trans T10);clear T10)
   | (go_at_call 38;(with_reducible refine (H38.out wc (Turned.refl _ _)).mono ?_);rintro e w9 ⟨rfl,T9⟩;have HT9:=hid T9;obtain ⟨y0,y1,y2,y3,_⟩:=HCB.out w9 T9;clear T9))
   go_ret;exact ⟨rfl,(HT1.out.trans HT8.out).trans HT10.out⟩
 have b200:decide (100 < sz2)=false:=decide_eq_false hs2;clear hs2
 go_wp2_with (first
  | (go_at_call 86;have HROW:=HROW;(with_reducible refine (newO86 (p:=fun k=>k < w10.heap.size) (w11.alloc (.cells #[.int .i64 (t.args.length:Int),.int .i64 (t.vars.length:Int),.int .i64 (Tm.sizes t.args:Int),.slice aL (Tm.sizes t.args) cL] 104)) (fun k hk=>by have:=HT11.out.size;have:=HX11.out;omega)).mono ?_);rintro e w12 ⟨bb,rfl,B12,hbb,T12⟩;have HB12:=hid (And.intro B12 T12);clear B12 hbb T12)
  | (go_at_call 93;have HT10:=HT10;(with_reducible refine (head93 (HTI.out.turned0 (HT8.out.trans HT10.out)) HG.out HK.out).mono ?_);rintro e w11 ⟨lv,rfl,hrow,hnew,T11⟩;obtain ⟨aL,cL,rfl⟩:=row_slice hrow;have HROW:=hid hrow;have HNEW:=hid hnew;have HT11:=hid T11;have HX11:Hid (w11.heap.size < (w11.alloc (.cells #[.int .i64 (t.args.length:Int),.int .i64 (t.vars.length:Int),.int .i64 (Tm.sizes t.args:Int),.slice aL (Tm.sizes t.args) cL] 104)).heap.size):=(show _ < _ by simp);clear hrow hnew T11)
  | (go_at_call 35;have HT9:=HT9;(with_reducible refine (H35.out w9 HT9.out).mono ?_);rintro e w10 ⟨rfl,T10⟩;have HT10:=hid (HT9.out.trans T10);obtain ⟨k0,k1,k2,k3⟩:=HCX.out w10 (HT8.out.trans HT10.out);clear T10)
  | (go_at_call 38;(with_reducible refine (H38.out wc (Turned.refl _ _)).mono ?_);rintro e w9 ⟨rfl,T9⟩;have HT9:=hid T9;obtain ⟨y0,y1,y2,y3,_⟩:=HCB.out w9 T9;clear T9))
 obtain ⟨bxr,hr1,hr2,hr3⟩:=HROW.out.blocks;obtain ⟨bx,hbx⟩:∃ z,z=(w11.heap.size,(.cells #[.int .i64 (t.args.length:Int),.int .i64 (t.vars.length:Int),.int .i64 (Tm.sizes t.args:Int),.slice aL (Tm.sizes t.args) cL] 104 (0,0):Obj)) :: bxr:=⟨_,rfl⟩;obtain ⟨xl,hxl⟩:∃ z:LT,z=(Tm.mk 2 0 t.name (a,c) l:LT):=⟨_,rfl⟩
 have hm0:CM w10.heap.size bb w12.heap.size 0 0 [] [] bx [xl] w10 (w12.alloc (.cells #[.slice none 0 0,.slice none 0 0,.slice none 0 0] 113)):=by
  have hs11:=HT11.out.size;refine CM.new rfl (HT11.out.alloc (.cells #[.int .i64 (t.args.length:Int),.int .i64 (t.vars.length:Int),.int .i64 (Tm.sizes t.args:Int),.slice aL (Tm.sizes t.args) cL] 104)) HB12.out.1 (fun k hk=>hk.1) HB12.out.2 (fun b hb=>?_) (fun x hx=>?_)
  · rw [hbx] at hb
    rcases Qw.1 hb with rfl | hb
    · exact ⟨heap_alloc_new w11 _,hs11⟩
    · obtain ⟨q1,q2⟩:=hr1 b hb
      exact ⟨(((Turned.refl (fun _=>False) w11).alloc (.cells #[.int .i64 (t.args.length:Int),.int .i64 (t.vars.length:Int),.int .i64 (Tm.sizes t.args:Int),.slice aL (Tm.sizes t.args) cL] 104)).bt q2),HNEW.out _ q1⟩
  · obtain rfl:=List.mem_singleton.1 hx
    rw [hxl];have h1:=(HLI.out.turned0 (HT8.out.trans HT10.out)).in_ (k:=2) (n:=0) (s:=t.name) (i64_lit 2 (by omega)) (i64_lit 0 (by omega)) HNS.out;exact h1.mono (fun k hk _=>hk)
 have HM0:=hid hm0
 have HBXR:Hid (∀ W:World,(∀ b∈bx,W.heap[b.1]? = some b.2)→Row W 139 6 (.slice aL (Tm.sizes t.args) cL) (Tm.sizes t.args) ((Tm.steps t.vars t.args (Tm.sizes t.args)).flatMap stC)):=fun W hW=>hr3 W (fun b hb=>hW b (by rw [hbx];exact Qb _ hb))
 have HBX0:Hid (∀ W:World,(∀ b∈bx,W.heap[b.1]? = some b.2)→W.cell? ⟨w11.heap.size,0,none⟩=some (.int .i64 (t.args.length:Int))∧W.cell? ⟨w11.heap.size,1,none⟩=some (.int .i64 (t.vars.length:Int))∧W.cell? ⟨w11.heap.size,2,none⟩=some (.int .i64 (Tm.sizes t.args:Int))∧W.cell? ⟨w11.heap.size,3,none⟩=some (.slice aL (Tm.sizes t.args) cL)):=fun W hW=>by
  have c:=cells4 (hW _ (by rw [hbx];exact Qe ..));exact ⟨c.1,c.2.1,c.2.2.1,c.2.2.2.1⟩
 have HXL:Hid (xl.args=l∧xl.at_=(a,c)∧xl∈[xl]):=by subst hxl;exact ⟨rfl,rfl,List.mem_singleton.2 rfl⟩
 clear hr1 hr2 hr3 hbx hxl hm0 HROW HNEW HB12
 have hc96:∀ W,Turned zN wc W→Calls Try.prog 96 #[.agg #[.int .i64 2,.int .i64 0,.string t.name,.slice a8 l.length c8]] W fun e w'=>∃ u:LT,e = .returned (.agg #[.int .i64 u.kind,.int .i64 u.n,.string u.name,.slice u.at_.1 u.args.length u.at_.2])∧u.bare=(Tm.mk 2 0 t.name (a8,c8) l:LT).bare∧u.In (fun k=>W.heap.size≤k) w'∧Turned zN W w':=fun W T=>by
  have h:=ownVal96 (t:=(Tm.mk 2 0 t.name (a8,c8) l:LT)) (HI8.out.turned0 T) HSC.out;exact h
 have H96:=hid hc96;clear hc96
 go_loopg [11] 8 (fun k i wr=>∃ j:Nat,Hid (j+k=8)∧j≤8∧i = .int .i64 (j:Int)∧Hid (CM w10.heap.size bb w12.heap.size j j [] [] bx [xl] w10 wr))
 case atStart=>exact ⟨0,Nat.zero_add _,Nat.zero_le _,rfl,HM0.out⟩
 case round=>
 obtain ⟨j,HJ,hj,rfl,HMJ⟩:=hrel
 by_cases hjl:j < 8
 · have dj:decide ((j:Int) < 8)=true:=decide_eq_true (by omega)
   go_wp2_with (first
   | (go_at_call 103;have HM13:=HM13;(with_reducible refine (HM13.out.freshD rfl (by omega)).mono ?_);rintro e w14 ⟨rfl,h14⟩;have HM14:=hid h14;clear h14)
   | (go_at_call 87;(with_reducible refine (HMJ.out.fresh rfl (by omega)).mono ?_);rintro e w13 ⟨rfl,h13⟩;have HM13:=hid h13;clear h13))
   go_roundg (gk - 1)
   case measure=>have:=HJ.out;omega
   case rel=>exact ⟨j+1,show _=_ by have:=HJ.out;omega,by omega,by go_num,HM14.out⟩
 obtain rfl:j=8:=by omega
 have dj:decide (((8:Nat):Int) < 8)=false:=by decide
 have dj':decide ((8:Int) < 8)=false:=by decide
 clear HJ;obtain ⟨y0,y1,y2,y3,_⟩:=HCB.out wr (HT10.out.trans HMJ.out.old);obtain ⟨bo,hbo⟩:∃ b,b=Tm.ownB 8 (Tm.mk 2 0 t.name (a8,c8) l:LT).bare:=⟨_,rfl⟩;have HBO:=hid hbo.symm;clear hbo
 cases bo with
 | false=>
  go_wp2_with (first
  | (go_at_call 99;have HM15:=HM15;(with_reducible refine (HM15.out.known (b:=false) (Qe ..) (by rw [HOB.out];exact HBO.out)).mono ?_);rintro e w16 ⟨rfl,T16⟩;have HM16:=hid (HM15.out.turned0 T16);obtain ⟨z0,z1,z2,z3⟩:=HBX0.out _ (HM15.out.turned0 T16).boxes;clear T16)
  | (go_at_call 96;(with_reducible refine (H96.out wr (HT10.out.trans HMJ.out.old)).mono ?_);rintro e w15 ⟨o1,rfl,hob,hoi,T15⟩;have HOB:=hid hob;have HM15:=hid (HMJ.out.keep T15 (hoi.mono (fun k _ h=>.inr h)));clear hob hoi T15))
  obtain ⟨bxD,us,hB,_⟩:=HM16.out.binds
  have hms:Calls Try.prog 121 #[.pointer (some ⟨bb,0,none⟩),.agg #[.int .i64 (t.args.length:Int),.int .i64 (t.vars.length:Int),.int .i64 (Tm.sizes t.args:Int),.slice aL (Tm.sizes t.args) cL],.slice a l.length c] w16 fun e w'=>e = .returned (.tuple #[.slice none 0 0,.bool false,.int .i64 1])∧Turned zN w16 w':=by
   have hs:=strange_arg (m:=8) (k:=2) (n:=0) (s:=t.name) (l:=l.map Tm.bare) (by rw [←callBare a8 c8 t.name l,goodB_bare];exact HG2.out) (by omega) (by rw [←callBare a8 c8 t.name l];exact HBO.out);obtain ⟨y,hy,ho⟩:=hs;obtain ⟨z,hz,rfl⟩:=List.mem_map.1 hy;have h:=matchStrange121 (x:=xl) (ar:=(t.args.length:Int)) (sl:=(t.vars.length:Int)) (rg:=(Tm.sizes t.args:Int)) (aL:=aL) (nL:=Tm.sizes t.args) (cL:=cL) rfl hB (Qj _ (Qb _ HXL.out.2.2)) (by rw [HXL.out.1,HN.out]) (fun W hW=>goodHead95' (HTI.out.turned0 (HT8.out.trans (HT10.out.trans hB.old)) |>.mono (fun _ _ _=>trivial)) HG.out HK.out (HBXR.out W (fun b hb=>hW b (Qj _ hb)))) (fun y hy=>deep_slim 20 y (HVA.out y (by rw [←HXL.out.1];exact hy))) ⟨z,by rw [HXL.out.1];exact hz,by rw [←ownB_bare];exact ho⟩;rw [HXL.out.1,HXL.out.2.1] at h;exact h
  refine hms.mono ?_
  rintro e w17 ⟨rfl,T17⟩
  have HT17:=hid T17;clear T17 hms hB
  go_wp2_with fail
  go_ret;exact ⟨rfl,(HT1.out.trans (HT8.out.trans (HT10.out.trans HM16.out.old))).trans HT17.out⟩
 | true=>
 have hc96t:∀ W,Turned zN w2 W→Calls Try.prog 96 #[.agg #[.int .i64 t.kind,.int .i64 t.n,.string t.name,.slice t.at_.1 t.args.length t.at_.2]] W fun e w'=>∃ u:LT,e = .returned (.agg #[.int .i64 u.kind,.int .i64 u.n,.string u.name,.slice u.at_.1 u.args.length u.at_.2])∧u.bare=t.bare∧u.In (fun k=>W.heap.size≤k) w'∧Turned zN W w':=fun W T=>ownVal96 (HTI.out.turned0 T) HSL.out
 have H96T:=hid hc96t
 have hvl:t.vars.length≤100:=by have h1:=vars_le t;have:=HTS.out;omega
 have hc80:∀ (W0 W:World) (o:LT),o.bare=t.bare→o.In (fun k=>W0.heap.size≤k) W→Turned zN W0 W→Calls Try.prog 80 #[.agg #[.int .i64 o.kind,.int .i64 o.n,.string o.name,.slice o.at_.1 o.args.length o.at_.2],.int .i64 8] W fun e w'=>∃ u:LT,e = .returned (.tuple #[.agg #[.int .i64 u.kind,.int .i64 u.n,.string u.name,.slice u.at_.1 u.args.length u.at_.2],.int .i64 (8+(t.vars.length:Int)),.int .i64 0])∧u.bare=Tm.fromT t.bare 8∧u.In (fun k=>W0.heap.size≤k) w'∧Turned zN W w':=fun W0 W o ho hi T=>by
  have hv:o.bare.vars.length=t.vars.length:=by rw [ho,Tm.vars_bare]
  have h:=from8 hi (by rw [ho,goodB_bare];exact HG.out) (by rw [hv];omega);rw [hv,ho] at h
  exact h.mono fun e w' ⟨u,h1,h2,h3,h4⟩=>⟨u,h1,h2,h3.mono (fun k _ hk=>hk.elim id (fun c=>QA T.size c)),h4⟩
 have H80:=hid hc80;clear hc96t hc80
 go_wp2_with (first
  | (go_at_call 80;have HO2:=HO2;(with_reducible refine (H80.out w16 w17 o2 HO2.out.1 HO2.out.2.1 HO2.out.2.2).mono ?_);rintro e w18 ⟨p,rfl,hpb,hpi,T18⟩;have HPB:=hid hpb;have HM18:=hid ((HM16.out.keep (HO2.out.2.2.trans T18) (hpi.mono (fun k _ h=>.inr h))).box (.cells #[.int .i64 p.kind,.int .i64 p.n,.string p.name,.slice p.at_.1 p.args.length p.at_.2] 41));have HB18:=hid (heap_alloc_new w18 (.cells #[.int .i64 p.kind,.int .i64 p.n,.string p.name,.slice p.at_.1 p.args.length p.at_.2] 41));have HT18:Hid (Turned zN w16 (w18.alloc (.cells #[.int .i64 p.kind,.int .i64 p.n,.string p.name,.slice p.at_.1 p.args.length p.at_.2] 41))):=(HO2.out.2.2.trans T18).alloc (.cells #[.int .i64 p.kind,.int .i64 p.n,.string p.name,.slice p.at_.1 p.args.length p.at_.2] 41);clear hpb hpi T18)
  | (go_at_call 99;have HM15:=HM15;(with_reducible refine (HM15.out.known (b:=true) (Qe ..) (by rw [HOB.out];exact HBO.out)).mono ?_);rintro e w16 ⟨rfl,T16⟩;have HM16:=hid (HM15.out.turned0 T16);obtain ⟨k0,k1,k2,k3⟩:=HCX.out w16 (HT8.out.trans (HT10.out.trans (HM15.out.turned0 T16).old));clear T16)
  | (go_at_call 96;have HM16:=HM16;(with_reducible refine (H96T.out w16 (HT8.out.trans (HT10.out.trans HM16.out.old))).mono ?_);rintro e w17 ⟨o2,rfl,hob2,hoi2,T17⟩;have HO2:=hid (And.intro hob2 (And.intro hoi2 T17));clear hob2 hoi2 T17)
  | (go_at_call 96;(with_reducible refine (H96.out wr (HT10.out.trans HMJ.out.old)).mono ?_);rintro e w15 ⟨o1,rfl,hob,hoi,T15⟩;have HOB:=hid hob;have HM15:=hid (HMJ.out.keep T15 (hoi.mono (fun k _ h=>.inr h)));clear hob hoi T15))
 go_loopg [18] t.vars.length (fun k i wr=>∃ j:Nat,Hid (j+k=t.vars.length)∧j≤t.vars.length∧i = .int .i64 (8+(j:Int))∧Hid (CM w10.heap.size bb w12.heap.size 8 (8+j) [] [] ((w18.heap.size,(.cells #[.int .i64 p.kind,.int .i64 p.n,.string p.name,.slice p.at_.1 p.args.length p.at_.2] 41 (0,0):Obj)) :: bx) (p :: o1 :: [xl]) w10 wr))
 case atStart=>exact ⟨0,Nat.zero_add _,Nat.zero_le _,rfl,HM18.out⟩
 case round=>
 obtain ⟨j,HJ,hj,rfl,HMK⟩:=hrel
 by_cases hjl:j < t.vars.length
 · have dj:decide (8+(j:Int) < 8+(t.vars.length:Int))=true:=decide_eq_true (by omega)
   have dj2:decide ((j:Int) < (t.vars.length:Int))=true:=decide_eq_true (by omega)
   go_wp2_with (go_at_call 103;(with_reducible refine (HMK.out.freshD rfl (by omega)).mono ?_);rintro e w19 ⟨rfl,h19⟩;have HM19:=hid h19;clear h19)
   go_roundg (gk - 1)
   case measure=>have:=HJ.out;omega
   case rel=>exact ⟨j+1,show _=_ by have:=HJ.out;omega,by omega,by go_num,HM19.out⟩
 obtain rfl:j=t.vars.length:=by omega
 have dj:decide (8+(t.vars.length:Int) < 8+(t.vars.length:Int))=false:=decide_eq_false (by omega);have dj2:decide ((t.vars.length:Int) < (t.vars.length:Int))=false:=decide_eq_false (by omega);clear HJ HM18;obtain ⟨ok,cc,gg,lw,hR⟩:∃ ok cc gg lw,bothR (8+t.vars.length) [] p.bare o1.bare=(ok,cc,gg,lw):=⟨_,_,_,_,rfl⟩;have HR:=hid hR;clear hR;have HC8:=hid (fun W (T:Turned zN wr W)=>(HMK.out.turned0 T).boxes _ (Qe ..))
 go_wp2_with fail
 refine wp_region_hsW [146,147,148,149,150,145,151,152,153,19,20,21] [3,4] [1,1,0,1,2,2,2,2,2,2,2,2] [149,150] (fun dd vv=>(match dd with | 146=>vv = .pointer (some ⟨w12.heap.size,0,none⟩) | 147=>vv = .agg #[.int .i64 p.kind,.int .i64 p.n,.string p.name,.slice p.at_.1 p.args.length p.at_.2] | 148=>vv = .agg #[.int .i64 2,.int .i64 0,.string t.name,.slice a8 l.length c8] | 145=>vv = .tuple #[.bool ok,.int .i64 cc,.int .i64 gg] | 151=>vv = .bool ok | 152=>vv = .int .i64 cc | 153=>vv = .int .i64 gg | 19=>vv = .bool ok | 20=>vv = .int .i64 cc | 21=>vv = .int .i64 gg | _=>True:Prop)) (TwoC o1.bare (.tuple #[.bool ok,.int .i64 cc,.int .i64 gg]) (CM w10.heap.size bb w12.heap.size 8 (8+t.vars.length) [] lw ((w18.heap.size,(.cells #[.int .i64 p.kind,.int .i64 p.n,.string p.name,.slice p.at_.1 p.args.length p.at_.2] 41 (0,0):Obj)) :: bx) (p :: o1 :: [xl]) w10) wr) (by kernel_rfl) rfl (by kernel_rfl) (by kernel_rfl) (by kernel_rfl) (by kernel_rfl) (fun w h=>h) (fun hs w w' h T=>TwoC.turned0 (fun _ _ h T=>CM.turned0 h T) hs w w' h T) ?hs ?hQ
 case hs=>
  refine ⟨?s0,?s1,?s2,?s3,?s4,?s5,?s6,?s7,?s8,?s9,?s10,?s11,trivial⟩
  case s0=>refine fun hs hle=>zG [] [10] fun ac W hT hI hO=>?_;have hle:hs.length≤1:=hle;simp only [execOp,Act.eval,hO 10 (by simp)];go_simp;try exact tq
  case s1=>refine fun hs hle=>zG [] [15] fun ac W hT hI hO=>?_;have hle:hs.length≤1:=hle;obtain ⟨c0,c1,c2,c3,_⟩:=cells4 (HC8.out W (TwoC.early hs W (by omega) hT));simp only [execOp,Act.eval,hO 15 (by simp)];go_simp;try exact tq
  case s2=>refine fun hs hle=>zG [] [6] fun ac W hT hI hO=>?_;have hle:hs.length≤0:=hle;obtain ⟨c0,c1,c2,c3,_⟩:=HCB.out W (HT10.out.trans (HMK.out.old.trans (TwoC.early hs W (by omega) hT)));simp only [execOp,Act.eval,hO 6 (by simp)];go_simp;try exact tq
  case s3=>
   refine fun hs hlen=>zG [148] [] fun ac W hT hI hO=>?_;have h148:_=_:=hI 148 (by simp);obtain rfl:hs=[]:=Qh hlen;replace hT:Turned zN wr W:=hT;show Brings _ (fun vv w'=>TwoC o1.bare (.tuple #[.bool ok,.int .i64 cc,.int .i64 gg]) (CM w10.heap.size bb w12.heap.size 8 (8+t.vars.length) [] lw ((w18.heap.size,(.cells #[.int .i64 p.kind,.int .i64 p.n,.string p.name,.slice p.at_.1 p.args.length p.at_.2] 41 (0,0):Obj)) :: bx) (p :: o1 :: [xl]) w10) wr [vv] w') _;simp only [execOp,Act.eval,h148];go_simp;show Calls Try.prog 96 _ W _
   (with_reducible refine (H96.out W (HT10.out.trans (HMK.out.old.trans hT))).mono ?_)
   rintro e w' ⟨u,rfl,g1,g2,T'⟩
   exact ⟨_,rfl,hT.trans T',u,rfl,g1.trans HOB.out.symm,g2.mono (fun k _ hk=>QA hT.size hk)⟩
  case s4=>
   refine fun hs hlen=>zG [146,147,149] [] fun ac W hT hI hO=>?_;have h146:_=_:=hI 146 (by simp);have h147:_=_:=hI 147 (by simp);have h149:hs[0]? = some (ac.tmps.getD 149 undef):=hI 149 (by simp);obtain ⟨a9,rfl⟩:=List.length_eq_one_iff.1 hlen
   have e149:a9=ac.tmps.getD 149 undef:=by simpa using h149
   obtain ⟨hT1,u,x1,x2,x3⟩:=hT;rw [e149] at x1;unfold agLT at x1;show Brings _ (fun vv w'=>TwoC o1.bare (.tuple #[.bool ok,.int .i64 cc,.int .i64 gg]) (CM w10.heap.size bb w12.heap.size 8 (8+t.vars.length) [] lw ((w18.heap.size,(.cells #[.int .i64 p.kind,.int .i64 p.n,.string p.name,.slice p.at_.1 p.args.length p.at_.2] 41 (0,0):Obj)) :: bx) (p :: o1 :: [xl]) w10) wr [a9,vv] w') _;simp only [execOp,Act.eval,h146,h147,x1];go_simp;show Calls Try.prog 117 _ W _;have hk:=HMK.out.keep hT1 (x:=u) (x3.mono (fun k _ h=>.inr h))
   (with_reducible refine (hk.both rfl (x:=p) (y:=u) (lw':=lw) (Qb _ (Qe ..)) (Qe ..) (by rw [x2];exact HR.out)).mono ?_)
   rintro e w' ⟨rfl,h'⟩
   exact ⟨_,rfl,rfl,h'.sub (fun b h=>h) (fun x h=>Qb _ h)⟩
  case s5=>refine fun hs hle=>zG [150] [] fun ac W hT hI hO=>?_;have hle:hs.length≤2:=hle;have h150:hs[1]? = some (ac.tmps.getD 150 undef):=hI 150 (by simp);have e150:=TwoC.val hs W hT h150;simp only [execOp,Act.eval,e150];go_simp;try exact tq
  case s6=>refine fun hs hle=>zG [145] [] fun ac W hT hI hO=>?_;have hle:hs.length≤2:=hle;have h145:_=_:=hI 145 (by simp);simp only [execOp,Act.eval,h145];go_simp;try exact tq
  case s7=>refine fun hs hle=>zG [145] [] fun ac W hT hI hO=>?_;have hle:hs.length≤2:=hle;have h145:_=_:=hI 145 (by simp);simp only [execOp,Act.eval,h145];go_simp;try exact tq
  case s8=>refine fun hs hle=>zG [145] [] fun ac W hT hI hO=>?_;have hle:hs.length≤2:=hle;have h145:_=_:=hI 145 (by simp);simp only [execOp,Act.eval,h145];go_simp;try exact tq
  case s9=>refine fun hs hle=>zG [151] [] fun ac W hT hI hO=>?_;have hle:hs.length≤2:=hle;have h151:_=_:=hI 151 (by simp);simp only [execOp,Act.eval,h151];go_simp;try exact tq
  case s10=>refine fun hs hle=>zG [152] [] fun ac W hT hI hO=>?_;have hle:hs.length≤2:=hle;have h152:_=_:=hI 152 (by simp);simp only [execOp,Act.eval,h152];go_simp;try exact tq
  case s11=>
   refine fun hs hle=>zG [153] [] fun ac W hT hI hO=>?_;have hle:hs.length≤2:=hle;have h153:_=_:=hI 153 (by simp);simp only [execOp,Act.eval,h153];go_simp
   try exact tq
 case hQ=>
  intro hs vs w30 hlen hR hV;have q19:vs 19 = .bool ok:=hV 19 (by simp);have q20:vs 20 = .int .i64 cc:=hV 20 (by simp);have q21:vs 21 = .int .i64 gg:=hV 21 (by simp);simp only [Qq,List.foldl_nil,Qk,Qs,Qr,q19,q20,q21];have HM30:=hid (TwoC.end_ hs w30 hR hlen);obtain ⟨z0,z1,z2,z3⟩:=HBX0.out w30 (fun b hb=>(TwoC.end_ hs w30 hR hlen).boxes b (Qb _ hb));clear hlen hR hV q19 q20 q21
  go_wp2_with fail
  obtain ⟨M,hM⟩:∃ M,M=Tm.matchR t 8 (l.map Tm.bare):=⟨_,rfl⟩;have HMM:=hid hM;obtain ⟨bxD,us,hB,hback⟩:=HM30.out.binds;have hmt:=headMatch121 (x:=xl) (aL:=aL) (cL:=cL) (t:=t) rfl hB (Qj _ (Qb _ (Qb _ HXL.out.2.2))) ((HTI.out.turned0 (HT8.out.trans (HT10.out.trans hB.old))).mono (fun _ _ _=>trivial)) HG.out HK.out (by rw [HXL.out.1,HN.out]) HTS.out hvl (by omega) (fun y hy=>?own) (fun W' hW=>HBXR.out W' (fun b hb=>hW b (Qj _ (Qb _ hb))))
  case own=>
   have h1:=HBO.out;rw [callBare] at h1;refine Tm.ownB_arg h1 (by simp only [Tm.kind_mk];omega) ?_;simp only [Tm.args_mk];exact List.mem_map_of_mem (by rw [←HXL.out.1];exact hy)
  rw [show (xl.args.length:Int)=(t.args.length:Int) from by rw [HXL.out.1,HN.out],HXL.out.1,HXL.out.2.1,←hM] at hmt;have HBK:=hid hback;clear hM hback
  have hll:(l.map Tm.bare).length=t.args.length:=by rw [Qu,HN.out]
  have hoa:∀ z∈l.map Tm.bare,Tm.ownB 8 z=true:=fun z hz=>by
   have h1:=HBO.out;rw [callBare] at h1;refine Tm.ownB_arg h1 (by simp only [Tm.kind_mk];omega) ?_;simp only [Tm.args_mk];exact hz
  have HLL:=hid hll;have HOA:=hid hoa
  have HRB:Hid (bothR (8+t.vars.length) [] (Tm.fromT t.bare 8) (.mk 2 0 t.name () (l.map Tm.bare))=(ok,cc,gg,lw)):=by
   have h:=HR.out;rw [HPB.out,HOB.out,callBare] at h;exact h
  clear hll hoa
  by_cases hg0:gg=0
  case neg=>
   have bg:(gg != 0)=true:=by simp [hg0]
   have HGG:=hid hg0;clear hg0
   cases M with
   | stop E m'=>
    refine hmt.mono ?_
    rintro e w31 ⟨rfl,hb31⟩
    have HT31:=hid (hb31.old);clear hmt hB hb31 HBK
    go_wp2_with fail
    go_ret;exact ⟨rfl,HT1.out.trans (HT8.out.trans (HT10.out.trans HT31.out))⟩
   | go st=>
    refine hmt.mono ?_
    rintro e w31 ⟨gs,ss,cur,rfl,hss,hrs,hb31⟩
    have HT31:=hid (hb31.old);clear hmt hB hb31 hss hrs HBK
    go_wp2_with fail
    go_ret;exact ⟨rfl,HT1.out.trans (HT8.out.trans (HT10.out.trans HT31.out))⟩
  subst hg0;obtain ⟨_,_,hun,hok,hno⟩:=both_own (by omega) HRB.out;have HUN:=hid (And.intro hun (And.intro hok hno));clear hun hok hno
  cases M with
  | stop E m'=>
   have hcm:∀ w31,BM w10.heap.size bb (bxD++((w18.heap.size,(.cells #[.int .i64 p.kind,.int .i64 p.n,.string p.name,.slice p.at_.1 p.args.length p.at_.2] 41 (0,0):Obj)) :: bx)) (us++(p :: o1 :: [xl])) w10 m' [] w31→CM w10.heap.size bb w12.heap.size m' (8+t.vars.length) [] lw [] (p :: o1 :: [xl]) w10 w31:=fun w31 h=>HBK.out w31 m' [] _ _ h (fun b hb=>Qc _ hb)
   by_cases hE:E=0
   case neg=>
    have bE:(E != 0)=true:=by simp [hE]
    refine hmt.mono ?_
    rintro e w31 ⟨rfl,hb31⟩
    have HT31:=hid (hb31.old);clear hmt hB hb31 HBK hE hcm
    go_wp2_with fail
    go_ret;exact ⟨rfl,HT1.out.trans (HT8.out.trans (HT10.out.trans HT31.out))⟩
   subst hE
   have hokf:ok=false:=by
    cases ok with
    | false=>rfl
    | true=>
     obtain ⟨q,hq⟩:=HUN.out.2.1.1 rfl;exact absurd rfl (law_stop HMM.out.symm HG.out HK.out (by omega) HLL.out HOA.out HUN.out.1 hq)
   subst hokf;refine hmt.mono ?_
   rintro e w31 ⟨rfl,hb31⟩
   have HM31:=hid (hcm w31 hb31);clear hmt hB hb31 HBK hcm
   go_wp2_with (go_at_call 111;(with_reducible refine (HM31.out.mark).mono ?_);rintro e w32 ⟨rfl,T32⟩;have HT32:=hid T32;clear T32)
   go_ret;exact ⟨rfl,(HT1.out.trans (HT8.out.trans (HT10.out.trans HM31.out.old))).trans HT32.out⟩
  | go st=>
  have hokt:ok=true:=by
   cases ok with
   | true=>rfl
   | false=>
    exfalso;obtain ⟨_,q,hq⟩:=HUN.out.2.2 rfl;exact law_no HMM.out.symm HG.out HK.out (by omega) HLL.out HOA.out HUN.out.1 hq
  subst hokt
  have hlaw:Tm.MEqs t (l.map Tm.bare) st.ss 8 st.l lw∧Tm.okT st.m st.l∧st.ss.length=t.vars.length∧st.m≤65536∧8≤st.m∧∀ z∈st.ss,Tm.ownB st.m z=true:=by
   obtain ⟨q,hq⟩:=HUN.out.2.1.1 rfl;exact law_go HMM.out.symm HG.out HK.out (by omega) HLL.out HOA.out HUN.out.1 hq
  have HLAW:=hid hlaw
  have hcm:∀ (w31:World) (ss:List LT) (gs:Nat) (cur:Array Value),BM w10.heap.size bb ((gs,.cells cur 27 (0,0)) :: (bxD++((w18.heap.size,(.cells #[.int .i64 p.kind,.int .i64 p.n,.string p.name,.slice p.at_.1 p.args.length p.at_.2] 41 (0,0):Obj)) :: bx))) (ss++(us++(p :: o1 :: [xl]))) w10 st.m st.l w31→CM w10.heap.size bb w12.heap.size st.m (8+t.vars.length) st.l lw [] (ss++[xl]) w10 w31:=fun w31 ss gs cur h=>HBK.out w31 st.m st.l (ss++[xl]) _ (h.sub (bx':=(gs,.cells cur 27 (0,0)) :: (bxD++((w18.heap.size,(.cells #[.int .i64 p.kind,.int .i64 p.n,.string p.name,.slice p.at_.1 p.args.length p.at_.2] 41 (0,0):Obj)) :: bx))) (fun b hb=>hb) (fun x hx=>by
   rcases Qn.1 hx with hx | hx
   · exact Qj _ (Qc _ hx)
   · rcases Qn.1 hx with hx | hx
     · exact Qc _ hx
     · exact Qj _ (Qj _ (Qb _ (Qb _ hx))))) (fun b hb=>Qb _ (Qc _ hb))
  refine hmt.mono ?_
  rintro e w31 ⟨gs,ss,cur,rfl,hss,hrs,hb31⟩
  obtain ⟨q,tl,O,D,hq0,hbt,hbd,_,_,hold,_,hts⟩:=hcm w31 ss gs cur hb31;obtain ⟨z0,z1,z2,z3⟩:=HBX0.out w31 (fun b hb=>hb31.boxes b (Qb _ (Qj _ (Qb _ hb))));have hpl:=hbd.b.plt;have HB:=hid hbd.b;have HD:=hid hbd.d;have HBT:=hid hbt;have HSS:=hid hss;have HRS:=hid hrs;have HTS2:=hid hts;have HT31:=hid hold
  have bl:((t.vars.length:Int) != (t.vars.length:Int))=false:=by simp
  clear hmt hB hb31 HBK hcm hlaw hq0 hbt hbd hold hts hss hrs hpl HR HM30
  go_wp2_with fail
  obtain ⟨i0,hi0,hz0,hz1,hz2⟩:=info_parts infoR
  go_loopg [25,26,27] l.length (fun k X Y i wr=>∃ j:Nat,Hid (j+k=l.length)∧j≤l.length∧i = .int .i64 (j:Int)∧Hid (LkS w31 X Y j ((l.take j).map fun y=>Tm.img (bt tl) y.bare) ((l.take j).map fun y=>Tm.img lw y.bare) wr)∧Hid (∀ y∈l.take j,goodB (Tm.img lw y.bare)=true))
  case atStart=>exact ⟨0,Nat.zero_add _,Nat.zero_le _,rfl,LkS.start w31,fun y hy=>by cases hy⟩
  case round=>
  obtain ⟨X,rfl⟩:∃ X:Value,X=u25:=⟨_,rfl⟩;obtain ⟨Y,rfl⟩:∃ Y:Value,Y=u26:=⟨_,rfl⟩;obtain ⟨j,HJ,hj,rfl,HLK,HGD⟩:=hrel
  by_cases hjl:j < l.length
  · have dj:decide ((j:Int) < (l.length:Int))=true:=decide_eq_true (by omega)
    obtain ⟨y,hy⟩:∃ y:LT,l[j]? = some y:=⟨_,Qa hjl⟩;have hym:=Qf hy;obtain ⟨xs,ys,l1,l2,l3,l4,l5,l6,l7,l8⟩:=HLK.out;have hsl:=HLI.out.turned0 ((HT8.out.trans (HT10.out.trans HT31.out)).trans l8);obtain ⟨b1,q1,rfl,_,c0,c1,c2,c3⟩:=hsl.lies.cell hy;have HCY:=hid (fun W (T:Turned zN wr W)=>And.intro (T.cell0 c0) (And.intro (T.cell0 c1) (And.intro (T.cell0 c2) (T.cell0 c3))));have hyi:y.In (fun _=>True) wr:=(LT.ins_iff l).1 hsl.ins y hym;have hyq:y.In q w31:=(LT.ins_iff _).1 (HTS2.out xl (Qj _ HXL.out.2.2)).args y (by rw [HXL.out.1];exact hym);have HYI:=hid hyi;have HYQ:=hid hyq;have HSY:=hid (deep_slim 20 y (HVA.out y hym));have HYJ:=hid hy;have HL8:=hid l8
    have hXb:∀ k,X.ownBlock=some k→w31.heap.size≤k∧k < wr.heap.size:=fun k hk=>⟨(l5 k hk).1,l3.lt k hk⟩
    have hYb:∀ k,Y.ownBlock=some k→w31.heap.size≤k∧k < wr.heap.size:=fun k hk=>⟨l6 k hk,l4.lt k hk⟩
    have HXB:=hid hXb;have HYB:=hid hYb;have HLS:=hid (And.intro l1 (And.intro l2 (And.intro l3 (And.intro l4 (And.intro l5 (And.intro l6 l7))))));clear hsl hyi hyq hy hym l1 l2 l3 l4 l5 l6 l7 l8 hXb hYb;obtain ⟨E1,hE1⟩:∃ E,E=wholeE st.m (bt tl) y.bare:=⟨_,rfl⟩;obtain ⟨E2,hE2⟩:∃ E,E=wholeE (8+t.vars.length) lw y.bare:=⟨_,rfl⟩;have HE1:=hid hE1.symm;have HE2:=hid hE2.symm;clear hE1 hE2
    by_cases h1:E1=0
    case neg=>
     have bE1:(E1 != 0)=true:=by simp [h1]
     clear h1
     go_wp2_with (first
     | (go_at_call 105;have HYO:=HYO;(with_reducible refine (wholeD105 (W0:=w32.alloc (.cells #[.int .i64 u.kind,.int .i64 u.n,.string u.name,.slice u.at_.1 u.args.length u.at_.2] 27)) HD.out (HL8.out.trans HT33.out) HYO.out.2.2 HYO.out.2.1 ((congrArg (wholeE (8+t.vars.length) lw) HYO.out.1).trans HE2.out)).mono ?_);rintro e w36 ⟨v,rfl,hvb,hvi,T36⟩;have HV36:=hid (And.intro hvb hvi);have HT36S:Hid (w32.heap.size+1≤w36.heap.size):=(show _≤_ by have h:=(HYO.out.2.2.trans T36).size;simpa using h);have HT36:Hid (Turned zN (w32.alloc (.cells #[.int .i64 u.kind,.int .i64 u.n,.string u.name,.slice u.at_.1 u.args.length u.at_.2] 27)) (w36.alloc (.cells #[.int .i64 v.kind,.int .i64 v.n,.string v.name,.slice v.at_.1 v.args.length v.at_.2] 41))):=(HYO.out.2.2.trans T36).alloc (.cells #[.int .i64 v.kind,.int .i64 v.n,.string v.name,.slice v.at_.1 v.args.length v.at_.2] 41);clear hvb hvi T36)
     | (go_at_call 96;(with_reducible refine (ownVal96 (HYI.out.turned0 HT33.out) HSY.out).mono ?_);rintro e w34 ⟨yo,rfl,hyob,hyoi,T34⟩;have HYO:=hid (And.intro hyob (And.intro hyoi T34));clear hyob hyoi T34)
     | (go_at_call 89;(with_reducible refine (wholeB89 HB.out HL8.out HYQ.out HSY.out HE1.out).mono ?_);rintro e w32 ⟨u,rfl,hub,hui,hus,T32⟩;obtain ⟨c0,c1,c2,c3⟩:=HCY.out _ (T32.alloc (.cells #[.int .i64 u.kind,.int .i64 u.n,.string u.name,.slice u.at_.1 u.args.length u.at_.2] 27));have HU32:=hid (And.intro hub (And.intro hui hus));have HT32S:=hid T32.size;have HT33:Hid (Turned zN wr (w32.alloc (.cells #[.int .i64 u.kind,.int .i64 u.n,.string u.name,.slice u.at_.1 u.args.length u.at_.2] 27))):=T32.alloc (.cells #[.int .i64 u.kind,.int .i64 u.n,.string u.name,.slice u.at_.1 u.args.length u.at_.2] 27);clear hub hui hus T32))
     go_ret;exact ⟨rfl,(((HT1.out.trans (HT8.out.trans (HT10.out.trans HT31.out))).trans HL8.out).trans HT33.out).trans HT36.out⟩
    subst h1
    by_cases h2:E2=0
    case neg=>
     have bE2:(E2 != 0)=true:=by simp [h2]
     clear h2
     go_wp2_with (first
     | (go_at_call 105;have HYO:=HYO;(with_reducible refine (wholeD105 (W0:=w32.alloc (.cells #[.int .i64 u.kind,.int .i64 u.n,.string u.name,.slice u.at_.1 u.args.length u.at_.2] 27)) HD.out (HL8.out.trans HT33.out) HYO.out.2.2 HYO.out.2.1 ((congrArg (wholeE (8+t.vars.length) lw) HYO.out.1).trans HE2.out)).mono ?_);rintro e w36 ⟨v,rfl,hvb,hvi,T36⟩;have HV36:=hid (And.intro hvb hvi);have HT36S:Hid (w32.heap.size+1≤w36.heap.size):=(show _≤_ by have h:=(HYO.out.2.2.trans T36).size;simpa using h);have HT36:Hid (Turned zN (w32.alloc (.cells #[.int .i64 u.kind,.int .i64 u.n,.string u.name,.slice u.at_.1 u.args.length u.at_.2] 27)) (w36.alloc (.cells #[.int .i64 v.kind,.int .i64 v.n,.string v.name,.slice v.at_.1 v.args.length v.at_.2] 41))):=(HYO.out.2.2.trans T36).alloc (.cells #[.int .i64 v.kind,.int .i64 v.n,.string v.name,.slice v.at_.1 v.args.length v.at_.2] 41);clear hvb hvi T36)
     | (go_at_call 96;(with_reducible refine (ownVal96 (HYI.out.turned0 HT33.out) HSY.out).mono ?_);rintro e w34 ⟨yo,rfl,hyob,hyoi,T34⟩;have HYO:=hid (And.intro hyob (And.intro hyoi T34));clear hyob hyoi T34)
     | (go_at_call 89;(with_reducible refine (wholeB89 HB.out HL8.out HYQ.out HSY.out HE1.out).mono ?_);rintro e w32 ⟨u,rfl,hub,hui,hus,T32⟩;obtain ⟨c0,c1,c2,c3⟩:=HCY.out _ (T32.alloc (.cells #[.int .i64 u.kind,.int .i64 u.n,.string u.name,.slice u.at_.1 u.args.length u.at_.2] 27));have HU32:=hid (And.intro hub (And.intro hui hus));have HT32S:=hid T32.size;have HT33:Hid (Turned zN wr (w32.alloc (.cells #[.int .i64 u.kind,.int .i64 u.n,.string u.name,.slice u.at_.1 u.args.length u.at_.2] 27))):=T32.alloc (.cells #[.int .i64 u.kind,.int .i64 u.n,.string u.name,.slice u.at_.1 u.args.length u.at_.2] 27);clear hub hui hus T32))
     go_ret;exact ⟨rfl,(((HT1.out.trans (HT8.out.trans (HT10.out.trans HT31.out))).trans HL8.out).trans HT33.out).trans HT36.out⟩
    subst h2
    go_wp2_with (first
    | (go_at_call 105;have HYO:=HYO;(with_reducible refine (wholeD105 (W0:=w32.alloc (.cells #[.int .i64 u.kind,.int .i64 u.n,.string u.name,.slice u.at_.1 u.args.length u.at_.2] 27)) HD.out (HL8.out.trans HT33.out) HYO.out.2.2 HYO.out.2.1 ((congrArg (wholeE (8+t.vars.length) lw) HYO.out.1).trans HE2.out)).mono ?_);rintro e w36 ⟨v,rfl,hvb,hvi,T36⟩;have HV36:=hid (And.intro hvb hvi);have HT36S:Hid (w32.heap.size+1≤w36.heap.size):=(show _≤_ by have h:=(HYO.out.2.2.trans T36).size;simpa using h);have HT36:Hid (Turned zN (w32.alloc (.cells #[.int .i64 u.kind,.int .i64 u.n,.string u.name,.slice u.at_.1 u.args.length u.at_.2] 27)) (w36.alloc (.cells #[.int .i64 v.kind,.int .i64 v.n,.string v.name,.slice v.at_.1 v.args.length v.at_.2] 41))):=(HYO.out.2.2.trans T36).alloc (.cells #[.int .i64 v.kind,.int .i64 v.n,.string v.name,.slice v.at_.1 v.args.length v.at_.2] 41);clear hvb hvi T36)
    | (go_at_call 96;(with_reducible refine (ownVal96 (HYI.out.turned0 HT33.out) HSY.out).mono ?_);rintro e w34 ⟨yo,rfl,hyob,hyoi,T34⟩;have HYO:=hid (And.intro hyob (And.intro hyoi T34));clear hyob hyoi T34)
    | (go_at_call 89;(with_reducible refine (wholeB89 HB.out HL8.out HYQ.out HSY.out HE1.out).mono ?_);rintro e w32 ⟨u,rfl,hub,hui,hus,T32⟩;obtain ⟨c0,c1,c2,c3⟩:=HCY.out _ (T32.alloc (.cells #[.int .i64 u.kind,.int .i64 u.n,.string u.name,.slice u.at_.1 u.args.length u.at_.2] 27));have HU32:=hid (And.intro hub (And.intro hui hus));have HT32S:=hid T32.size;have HT33:Hid (Turned zN wr (w32.alloc (.cells #[.int .i64 u.kind,.int .i64 u.n,.string u.name,.slice u.at_.1 u.args.length u.at_.2] 27))):=T32.alloc (.cells #[.int .i64 u.kind,.int .i64 u.n,.string u.name,.slice u.at_.1 u.args.length u.at_.2] 27);clear hub hui hus T32))
    have HTW:Hid (Turned zN wr (w36.alloc (.cells #[.int .i64 v.kind,.int .i64 v.n,.string v.name,.slice v.at_.1 v.args.length v.at_.2] 41))):=HT33.out.trans HT36.out;have hp48:=pre48 HXB.out HYB.out HT33.out HT36.out HT32S.out HT36S.out HU32.out.2.1 HV36.out.2
    have hXY:∀ k,X.ownBlock=some k→Y.ownBlock≠some k:=fun k hk=>(HLS.out.2.2.2.2.1 k hk).2
    have HC28:=hid hp48.c28;have HC30:=hid hp48.c30;have HXR:=hid hp48.xr;have HYR:=hid hp48.yr;have HXY:=hid hXY;have HUX:=hid hp48.ux;have HVX:=hid hp48.vx;have HUB:Hid (u.bare=Tm.img (bt tl) y.bare):=(HU32.out.1.trans (wholeT_zero HE1.out));have HVB:Hid (v.bare=Tm.img lw y.bare):=HV36.out.1.trans (by rw [HYO.out.1];exact wholeT_zero HE2.out)
    have HVG:Hid (goodB (Tm.img lw y.bare)=true):=by show _=_;rw [←HVB.out];exact (wholeQ HD.out.ok HE2.out (HV36.out.1.trans (by rw [HYO.out.1]))).good
    have HRX:=hid (HLS.out.2.2.1.turned0 HTW.out);have HRY:=hid (HLS.out.2.2.2.1.turned0 HTW.out);clear hp48 hXY;refine wp_region_k7 [25,26] [218,219,220,221,222,223,224,225,226,25,26] [2,3,4,7,8,9,10] [(220,2),(221,3),(222,4),(225,7),(226,8),(25,9),(26,10)] (fun dd vv=>(match dd with | 218=>vv=X | 219=>vv = .agg #[.int .i64 u.kind,.int .i64 u.n,.string u.name,.slice u.at_.1 u.args.length u.at_.2] | 223=>vv=Y | 224=>vv = .agg #[.int .i64 v.kind,.int .i64 v.n,.string v.name,.slice v.at_.1 v.args.length v.at_.2] | _=>True:Prop)) (TwoR X Y (j) (j) (xs.flatMap LT.cells) (ys.flatMap LT.cells) u v (w36.alloc (.cells #[.int .i64 v.kind,.int .i64 v.n,.string v.name,.slice v.at_.1 v.args.length v.at_.2] 41))) (by kernel_rfl) rfl (by kernel_rfl) (by kernel_rfl) (fun W T=>TwoR.start HRX.out HRY.out T) (fun hs W W' h T=>h.turned0 T) ?hs ?hQ
    case hs=>
     refine ⟨?s0,?s1,?s2,?s3,?s4,?s5,?s6,?s7,?s8,?s9,?s10,trivial⟩
     case s0=>refine fun hs hl=>zS [] [25] fun ac W hT hI hO=>?_;simp only [execOp,Act.eval,hO 25 (by simp)];go_simp;try exact tq
     case s1=>refine fun hs hl=>zS [] [28] fun ac W hT hI hO=>?_;obtain ⟨c0,c1,c2,c3⟩:=HC28.out W hT.td;simp only [execOp,Act.eval,hO 28 (by simp)];go_simp;try exact tq
     case s2=>
      refine fun hs hno hl=>zS [219] [] fun ac W hT hI hO=>?_;have h219:_=_:=hI 219 (by simp);show Brings _ (fun vv w'=>TwoR X Y (j) (j) (xs.flatMap LT.cells) (ys.flatMap LT.cells) u v (w36.alloc (.cells #[.int .i64 v.kind,.int .i64 v.n,.string v.name,.slice v.at_.1 v.args.length v.at_.2] 41)) (hs++[(2,vv)]) w') _;simp only [execOp,Act.eval,h219];go_simp;show Calls Try.prog 96 _ W _
      (with_reducible refine (ownVal96 (LT.In.turned hT.td (fun k _ hk c=>c.elim hk.1 hk.2) (fun _ _ _=>trivial) u HUX.out:u.In (fun _=>True) W) HU32.out.2.2).mono ?_)
      rintro e w' ⟨o,rfl,g1,g2,T'⟩
      exact ⟨_,rfl,hT.own (fun v=>hl 3 12 v (by kernel_rfl)) (fun v=>hl 4 12 v (by kernel_rfl)) hno T' g1 g2⟩
     case s3=>
      refine fun hs hno hl=>zS [220] [] fun ac W hT hI hO=>?_;have h220:(2,ac.tmps.getD 220 undef)∈hs:=hI 220 (by simp);obtain ⟨o,e1,_,_⟩:=hT.made _ h220;have h2:=h220;rw [e1] at h2;unfold agLT at e1;show Brings _ (fun vv w'=>TwoR X Y (j) (j) (xs.flatMap LT.cells) (ys.flatMap LT.cells) u v (w36.alloc (.cells #[.int .i64 v.kind,.int .i64 v.n,.string v.name,.slice v.at_.1 v.args.length v.at_.2] 41)) (hs++[(3,vv)]) w') _
      have e1':ac.tmps[220]?.getD undef = .agg #[.int .i64 o.kind,.int .i64 o.n,.string o.name,.slice o.at_.1 o.args.length o.at_.2]:=by rw [←Array.getD_eq_getD_getElem?];exact e1
      simp only [execOp,Act.eval,e1];go_simp;exact hT.laidX (by rw [LT.cells_eq]) (fun v=>hl 4 12 v (by kernel_rfl)) hno h2
     case s4=>
      refine fun hs hno hl=>zS [218,221] [] fun ac W hT hI hO=>?_;have h218:_=_:=hI 218 (by simp);have h221:(3,ac.tmps.getD 221 undef)∈hs:=hI 221 (by simp);show Brings _ (fun vv w'=>TwoR X Y (j) (j) (xs.flatMap LT.cells) (ys.flatMap LT.cells) u v (w36.alloc (.cells #[.int .i64 v.kind,.int .i64 v.n,.string v.name,.slice v.at_.1 v.args.length v.at_.2] 41)) (hs++[(4,vv)]) w') _;obtain ⟨S,o,h2,eS,_,hS⟩:=hT.one _ h221 hno;refine brings_append (.tmp 218) (.tmp 221) 39 rfl 41 i0 zeroR 4 56 Try.underlying39 hi0 hz0 hz1 hz2 rfl (by decide) _ _ _ h218 (hT.old hno) ⟨S,0,none⟩ 1 1 o.cells eS (LT.cells_length _) (news_block hS) (LT.cells_one _) (by omega) (by unfold maxLen;omega) (by omega) ?_;intro g cap w' k1 k2 k3;exact hT.appX HXR.out HXY.out hno (fun v=>hl 9 12 v (by kernel_rfl)) h2 k2 k1 k3
     case s5=>refine fun hs hl=>zS [] [26] fun ac W hT hI hO=>?_;simp only [execOp,Act.eval,hO 26 (by simp)];go_simp;try exact tq
     case s6=>refine fun hs hl=>zS [] [30] fun ac W hT hI hO=>?_;obtain ⟨c0,c1,c2,c3⟩:=HC30.out W hT.td;simp only [execOp,Act.eval,hO 30 (by simp)];go_simp;try exact tq
     case s7=>
      refine fun hs hno hl=>zS [224] [] fun ac W hT hI hO=>?_;have h224:_=_:=hI 224 (by simp);show Brings _ (fun vv w'=>TwoR X Y (j) (j) (xs.flatMap LT.cells) (ys.flatMap LT.cells) u v (w36.alloc (.cells #[.int .i64 v.kind,.int .i64 v.n,.string v.name,.slice v.at_.1 v.args.length v.at_.2] 41)) (hs++[(7,vv)]) w') _
      have e1':ac.tmps[224]?.getD undef = .agg #[.int .i64 v.kind,.int .i64 v.n,.string v.name,.slice v.at_.1 v.args.length v.at_.2]:=by rw [←Array.getD_eq_getD_getElem?];exact h224
      simp only [execOp,Act.eval,h224];go_simp;exact hT.laidY (by rw [LT.cells_eq]) hno
     case s8=>
      refine fun hs hno hl=>zS [223,225] [] fun ac W hT hI hO=>?_;have h223:_=_:=hI 223 (by simp);have h225:(7,ac.tmps.getD 225 undef)∈hs:=hI 225 (by simp);show Brings _ (fun vv w'=>TwoR X Y (j) (j) (xs.flatMap LT.cells) (ys.flatMap LT.cells) u v (w36.alloc (.cells #[.int .i64 v.kind,.int .i64 v.n,.string v.name,.slice v.at_.1 v.args.length v.at_.2] 41)) (hs++[(8,vv)]) w') _;obtain ⟨S,eS,_,hS⟩:=hT.cy.one _ h225 hno;refine brings_append (.tmp 223) (.tmp 225) 39 rfl 41 i0 zeroR 4 56 Try.underlying39 hi0 hz0 hz1 hz2 rfl (by decide) _ _ _ h223 (hT.cy.old hno) ⟨S,0,none⟩ 1 1 v.cells eS (LT.cells_length _) (news_block hS) (LT.cells_one _) (by omega) (by unfold maxLen;omega) (by omega) ?_;intro g cap w' k1 k2 k3;exact hT.appY HXR.out HYR.out HXY.out hno (fun v=>hl 10 12 v (by kernel_rfl)) k2 k1 k3
     case s9=>
      refine fun hs hno hl=>zS [222] [] fun ac W hT hI hO=>?_;have h222:(4,ac.tmps.getD 222 undef)∈hs:=hI 222 (by simp);obtain ⟨g,cap,o,_,e1,_,_⟩:=hT.new _ h222;have h4:=h222;rw [e1] at h4;show Brings _ (fun vv w'=>TwoR X Y (j) (j) (xs.flatMap LT.cells) (ys.flatMap LT.cells) u v (w36.alloc (.cells #[.int .i64 v.kind,.int .i64 v.n,.string v.name,.slice v.at_.1 v.args.length v.at_.2] 41)) (hs++[(9,vv)]) w') _;simp only [execOp,Act.eval,e1];go_simp;exact hT.set9 hno h4
     case s10=>
      refine fun hs hno hl=>zS [226] [] fun ac W hT hI hO=>?_;have h226:(8,ac.tmps.getD 226 undef)∈hs:=hI 226 (by simp);obtain ⟨g,cap,e1,_,_⟩:=hT.cy.new _ h226;have h8:=h226;rw [e1] at h8;show Brings _ (fun vv w'=>TwoR X Y (j) (j) (xs.flatMap LT.cells) (ys.flatMap LT.cells) u v (w36.alloc (.cells #[.int .i64 v.kind,.int .i64 v.n,.string v.name,.slice v.at_.1 v.args.length v.at_.2] 41)) (hs++[(10,vv)]) w') _;simp only [execOp,Act.eval,e1];go_simp;exact hT.set10 hno h8
    case hQ=>
     intro hs vs w37 hall huniq hR hV;have q25:(9,vs 25)∈hs:=hV 25 (by simp);have q26:(10,vs 26)∈hs:=hV 26 (by simp);obtain ⟨g,cap,g',cap',o,e25,e26,hne,hob,hoi,r1,r2,G1,G2,T⟩:=hR.done q25 q26 huniq;simp only [Qq,List.foldl_nil,Qk,Qs,Qr,e25,e26];obtain ⟨l1,l2,l3,l4,l5,l6,l7⟩:=HLS.out;have hlk:=LkS.step l1 l2 (l3.turned0 HTW.out) (l4.turned0 HTW.out) l5 l6 (fun z hz=>(l7 z hz).turned0 HTW.out) (HL8.out.trans HTW.out) HVX.out hne hoi r1 r2 G1 G2 T;rw [hob,HUB.out,HVB.out] at hlk;have HLK2:=hid hlk;clear hR hV hall huniq q25 q26 e25 e26 hne hob hoi r1 r2 G1 G2 T l1 l2 l3 l4 l5 l6 l7 hlk
     go_wp2_with fail
     go_roundg (gk - 1)
     case measure=>have:=HJ.out;omega
     case rel=>
      have e1:∀ (f:LT→Tm Unit),(l.take (j+1)).map f=(l.take j).map f++[f y]:=fun f=>by rw [List.take_add_one,HYJ.out,List.map_append];rfl
      refine ⟨j+1,show _=_ by have:=HJ.out;omega,by omega,by go_num,?_,fun z hz=>?_⟩
      · rw [e1,e1];exact HLK2.out
      · rw [List.take_add_one,HYJ.out] at hz
        rcases Qn.1 hz with hz | hz
        · exact HGD.out z hz
        · obtain rfl:z=y:=by simpa using hz
          exact HVG.out
  obtain rfl:j=l.length:=by omega
  have dj:decide ((l.length:Int) < (l.length:Int))=false:=decide_eq_false (by omega)
  have HGA:Hid (∀ y∈l,goodB (Tm.img lw y.bare)=true):=by have:=HGD.out;rwa [List.take_length] at this
  have HLA:Hid (LkS w31 X Y l.length (l.map fun y=>Tm.img (bt tl) y.bare) (l.map fun y=>Tm.img lw y.bare) wr):=by have:=HLK.out;rwa [List.take_length] at this
  clear HJ HGD HLK
  obtain ⟨AX,hAX⟩:∃ z,z=l.map fun y=>Tm.img (bt tl) y.bare:=⟨_,rfl⟩
  obtain ⟨AY,hAY⟩:∃ z,z=l.map fun y=>Tm.img lw y.bare:=⟨_,rfl⟩
  rw [←hAX,←hAY] at HLA;have HAX:=hid hAX;have HAY:=hid hAY
  have hssl:ss.length=t.vars.length:=by have h:=congrArg List.length HSS.out;rw [Qu] at h;exact h.trans HLAW.out.2.2.1
  have HSSL:=hid hssl;clear hAX hAY hssl
  go_wp2_with fail
  go_loopg [25,26,32] t.vars.length (fun k X Y i wr=>∃ j:Nat,Hid (j+k=t.vars.length)∧j≤t.vars.length∧i = .int .i64 (j:Int)∧Hid (LkS w31 X Y (l.length+j) (AX++(ss.take j).map fun x=>Tm.img (bt tl) x.bare) (AY++(List.range j).map fun (q:Nat)=>Tm.img lw (Tm.V ((8:Int)+(q:Int)))) wr)∧Hid (∀ q:Nat,q < j→goodB (Tm.img lw (Tm.V ((8:Int)+(q:Int))))=true))
  case atStart=>
   refine ⟨0,Nat.zero_add _,Nat.zero_le _,rfl,?_,fun q hq=>absurd hq (Nat.not_lt_zero _)⟩;show LkS w31 X Y l.length (AX++[]) (AY++[]) wr;rw [List.append_nil,List.append_nil];exact HLA.out
  case round=>
  clear HLA;obtain ⟨X,rfl⟩:∃ X:Value,X=u25:=⟨_,rfl⟩;obtain ⟨Y,rfl⟩:∃ Y:Value,Y=u26:=⟨_,rfl⟩;obtain ⟨j,HJ,hj,rfl,HLK,HGD⟩:=hrel
  by_cases hjl:j < t.vars.length
  · have dj:decide ((j:Int) < (t.vars.length:Int))=true:=decide_eq_true (by omega)
    obtain ⟨x,hx⟩:∃ x:LT,ss[j]? = some x:=⟨_,Qa (by have:=HSSL.out;omega)⟩;have hxm:=Qf hx;obtain ⟨xs,ys,l1,l2,l3,l4,l5,l6,l7,l8⟩:=HLK.out;obtain ⟨gq,hgq,c0,c1,c2,c3⟩:=row_at (HRS.out.turned0 l8) hx
    injection hgq with hgq
    injection hgq with hgq
    subst hgq;have hxo:Tm.ownB st.m x.bare=true:=HLAW.out.2.2.2.2.2 x.bare (by rw [←HSS.out];exact List.mem_map_of_mem hxm);have HXQ:=hid (HTS2.out x (Qc _ hxm));have HSX:=hid (good_slimB (Tm.ownB_iff.1 hxo).1);have HXJ:=hid hx;have HL8:=hid l8
    have hXb:∀ k,X.ownBlock=some k→w31.heap.size≤k∧k < wr.heap.size:=fun k hk=>⟨(l5 k hk).1,l3.lt k hk⟩
    have hYb:∀ k,Y.ownBlock=some k→w31.heap.size≤k∧k < wr.heap.size:=fun k hk=>⟨l6 k hk,l4.lt k hk⟩
    have HXB:=hid hXb;have HYB:=hid hYb;have HLS:=hid (And.intro l1 (And.intro l2 (And.intro l3 (And.intro l4 (And.intro l5 (And.intro l6 l7))))));clear hx hxm l1 l2 l3 l4 l5 l6 l7 l8 hXb hYb hxo;obtain ⟨E1,hE1⟩:∃ E,E=wholeE st.m (bt tl) x.bare:=⟨_,rfl⟩;obtain ⟨E2,hE2⟩:∃ E,E=wholeE (8+t.vars.length) lw (Tm.V (8+(j:Int))):=⟨_,rfl⟩;have HE1:=hid hE1.symm;have HE2:=hid hE2.symm
    have h105:∀ W,Turned zN w31 W→Calls Try.prog 105 #[.pointer (some ⟨w12.heap.size,0,none⟩),.agg #[.int .i64 0,.int .i64 (8+(j:Int)),.string ByteArray.empty,.slice none 0 0]] W fun e w'=>∃ u:LT,e = .returned (.tuple #[.agg #[.int .i64 u.kind,.int .i64 u.n,.string u.name,.slice u.at_.1 u.args.length u.at_.2],.int .i64 E2])∧u.bare=wholeT (8+t.vars.length) lw (Tm.V (8+(j:Int)))∧u.In (fun k=>k < w31.heap.size∨W.heap.size≤k) w'∧Turned zN W w':=fun W T=>by
     have h:=wholeD105 (X:=(leaf 0 (8+(j:Int)) ByteArray.empty:LT)) (W0:=W) (E:=E2) HD.out T (Turned.refl _ _) (var_in (by unfold I64;omega)) hE2.symm;exact h
    have H105:=hid h105;clear hE1 hE2 h105
    by_cases h1:E1=0
    case neg=>
     have bE1:(E1 != 0)=true:=by simp [h1]
     clear h1
     go_wp2_with (first
     | (go_at_call 105;refine (H105.out _ (HL8.out.trans HT33.out)).mono ?_;rintro e w36 ⟨v,rfl,hvb,hvi,T36⟩;have HV36:=hid (And.intro hvb hvi);have HT36S:Hid (w32.heap.size+1≤w36.heap.size):=(show _≤_ by have h:=T36.size;simpa using h);have HT36:Hid (Turned zN (w32.alloc (.cells #[.int .i64 u.kind,.int .i64 u.n,.string u.name,.slice u.at_.1 u.args.length u.at_.2] 27)) (w36.alloc (.cells #[.int .i64 v.kind,.int .i64 v.n,.string v.name,.slice v.at_.1 v.args.length v.at_.2] 41))):=T36.alloc (.cells #[.int .i64 v.kind,.int .i64 v.n,.string v.name,.slice v.at_.1 v.args.length v.at_.2] 41);clear hvb hvi T36)
     | (go_at_call 89;(with_reducible refine (wholeB89 HB.out HL8.out HXQ.out HSX.out HE1.out).mono ?_);rintro e w32 ⟨u,rfl,hub,hui,hus,T32⟩;have HU32:=hid (And.intro hub (And.intro hui hus));have HT32S:=hid T32.size;have HT33:Hid (Turned zN wr (w32.alloc (.cells #[.int .i64 u.kind,.int .i64 u.n,.string u.name,.slice u.at_.1 u.args.length u.at_.2] 27))):=T32.alloc (.cells #[.int .i64 u.kind,.int .i64 u.n,.string u.name,.slice u.at_.1 u.args.length u.at_.2] 27);clear hub hui hus T32))
     go_ret;exact ⟨rfl,(((HT1.out.trans (HT8.out.trans (HT10.out.trans HT31.out))).trans HL8.out).trans HT33.out).trans HT36.out⟩
    subst h1
    by_cases h2:E2=0
    case neg=>
     have bE2:(E2 != 0)=true:=by simp [h2]
     clear h2
     go_wp2_with (first
     | (go_at_call 105;refine (H105.out _ (HL8.out.trans HT33.out)).mono ?_;rintro e w36 ⟨v,rfl,hvb,hvi,T36⟩;have HV36:=hid (And.intro hvb hvi);have HT36S:Hid (w32.heap.size+1≤w36.heap.size):=(show _≤_ by have h:=T36.size;simpa using h);have HT36:Hid (Turned zN (w32.alloc (.cells #[.int .i64 u.kind,.int .i64 u.n,.string u.name,.slice u.at_.1 u.args.length u.at_.2] 27)) (w36.alloc (.cells #[.int .i64 v.kind,.int .i64 v.n,.string v.name,.slice v.at_.1 v.args.length v.at_.2] 41))):=T36.alloc (.cells #[.int .i64 v.kind,.int .i64 v.n,.string v.name,.slice v.at_.1 v.args.length v.at_.2] 41);clear hvb hvi T36)
     | (go_at_call 89;(with_reducible refine (wholeB89 HB.out HL8.out HXQ.out HSX.out HE1.out).mono ?_);rintro e w32 ⟨u,rfl,hub,hui,hus,T32⟩;have HU32:=hid (And.intro hub (And.intro hui hus));have HT32S:=hid T32.size;have HT33:Hid (Turned zN wr (w32.alloc (.cells #[.int .i64 u.kind,.int .i64 u.n,.string u.name,.slice u.at_.1 u.args.length u.at_.2] 27))):=T32.alloc (.cells #[.int .i64 u.kind,.int .i64 u.n,.string u.name,.slice u.at_.1 u.args.length u.at_.2] 27);clear hub hui hus T32))
     go_ret;exact ⟨rfl,(((HT1.out.trans (HT8.out.trans (HT10.out.trans HT31.out))).trans HL8.out).trans HT33.out).trans HT36.out⟩
    subst h2
    go_wp2_with (first
    | (go_at_call 105;refine (H105.out _ (HL8.out.trans HT33.out)).mono ?_;rintro e w36 ⟨v,rfl,hvb,hvi,T36⟩;have HV36:=hid (And.intro hvb hvi);have HT36S:Hid (w32.heap.size+1≤w36.heap.size):=(show _≤_ by have h:=T36.size;simpa using h);have HT36:Hid (Turned zN (w32.alloc (.cells #[.int .i64 u.kind,.int .i64 u.n,.string u.name,.slice u.at_.1 u.args.length u.at_.2] 27)) (w36.alloc (.cells #[.int .i64 v.kind,.int .i64 v.n,.string v.name,.slice v.at_.1 v.args.length v.at_.2] 41))):=T36.alloc (.cells #[.int .i64 v.kind,.int .i64 v.n,.string v.name,.slice v.at_.1 v.args.length v.at_.2] 41);clear hvb hvi T36)
    | (go_at_call 89;(with_reducible refine (wholeB89 HB.out HL8.out HXQ.out HSX.out HE1.out).mono ?_);rintro e w32 ⟨u,rfl,hub,hui,hus,T32⟩;have HU32:=hid (And.intro hub (And.intro hui hus));have HT32S:=hid T32.size;have HT33:Hid (Turned zN wr (w32.alloc (.cells #[.int .i64 u.kind,.int .i64 u.n,.string u.name,.slice u.at_.1 u.args.length u.at_.2] 27))):=T32.alloc (.cells #[.int .i64 u.kind,.int .i64 u.n,.string u.name,.slice u.at_.1 u.args.length u.at_.2] 27);clear hub hui hus T32))
    have HTW:Hid (Turned zN wr (w36.alloc (.cells #[.int .i64 v.kind,.int .i64 v.n,.string v.name,.slice v.at_.1 v.args.length v.at_.2] 41))):=HT33.out.trans HT36.out;have hp48:=pre48 HXB.out HYB.out HT33.out HT36.out HT32S.out HT36S.out HU32.out.2.1 HV36.out.2
    have hXY:∀ k,X.ownBlock=some k→Y.ownBlock≠some k:=fun k hk=>(HLS.out.2.2.2.2.1 k hk).2
    have HC28:=hid hp48.c28;have HC30:=hid hp48.c30;have HXR:=hid hp48.xr;have HYR:=hid hp48.yr;have HXY:=hid hXY;have HUX:=hid hp48.ux;have HVX:=hid hp48.vx;have HUB:Hid (u.bare=Tm.img (bt tl) x.bare):=(HU32.out.1.trans (wholeT_zero HE1.out));have HVB:Hid (v.bare=Tm.img lw (Tm.V ((8:Int)+(j:Int)))):=HV36.out.1.trans (wholeT_zero HE2.out)
    have HVG:Hid (goodB (Tm.img lw (Tm.V ((8:Int)+(j:Int))))=true):=by show _=_;rw [←HVB.out];exact (wholeQ HD.out.ok HE2.out HV36.out.1).good
    have HRX:=hid (HLS.out.2.2.1.turned0 HTW.out);have HRY:=hid (HLS.out.2.2.2.1.turned0 HTW.out);clear hp48 hXY;refine wp_region_k7 [25,26] [256,257,258,259,260,261,262,263,264,25,26] [2,3,4,7,8,9,10] [(258,2),(259,3),(260,4),(263,7),(264,8),(25,9),(26,10)] (fun dd vv=>(match dd with | 256=>vv=X | 257=>vv = .agg #[.int .i64 u.kind,.int .i64 u.n,.string u.name,.slice u.at_.1 u.args.length u.at_.2] | 261=>vv=Y | 262=>vv = .agg #[.int .i64 v.kind,.int .i64 v.n,.string v.name,.slice v.at_.1 v.args.length v.at_.2] | _=>True:Prop)) (TwoR X Y (l.length+j) (l.length+j) (xs.flatMap LT.cells) (ys.flatMap LT.cells) u v (w36.alloc (.cells #[.int .i64 v.kind,.int .i64 v.n,.string v.name,.slice v.at_.1 v.args.length v.at_.2] 41))) (by kernel_rfl) rfl (by kernel_rfl) (by kernel_rfl) (fun W T=>TwoR.start HRX.out HRY.out T) (fun hs W W' h T=>h.turned0 T) ?hs ?hQ
    case hs=>
     refine ⟨?s0,?s1,?s2,?s3,?s4,?s5,?s6,?s7,?s8,?s9,?s10,trivial⟩
     case s0=>refine fun hs hl=>zS [] [25] fun ac W hT hI hO=>?_;simp only [execOp,Act.eval,hO 25 (by simp)];go_simp;try exact tq
     case s1=>refine fun hs hl=>zS [] [33] fun ac W hT hI hO=>?_;obtain ⟨c0,c1,c2,c3⟩:=HC28.out W hT.td;simp only [execOp,Act.eval,hO 33 (by simp)];go_simp;try exact tq
     case s2=>
      refine fun hs hno hl=>zS [257] [] fun ac W hT hI hO=>?_;have h257:_=_:=hI 257 (by simp);show Brings _ (fun vv w'=>TwoR X Y (l.length+j) (l.length+j) (xs.flatMap LT.cells) (ys.flatMap LT.cells) u v (w36.alloc (.cells #[.int .i64 v.kind,.int .i64 v.n,.string v.name,.slice v.at_.1 v.args.length v.at_.2] 41)) (hs++[(2,vv)]) w') _;simp only [execOp,Act.eval,h257];go_simp;show Calls Try.prog 96 _ W _
      (with_reducible refine (ownVal96 (LT.In.turned hT.td (fun k _ hk c=>c.elim hk.1 hk.2) (fun _ _ _=>trivial) u HUX.out:u.In (fun _=>True) W) HU32.out.2.2).mono ?_)
      rintro e w' ⟨o,rfl,g1,g2,T'⟩
      exact ⟨_,rfl,hT.own (fun v=>hl 3 12 v (by kernel_rfl)) (fun v=>hl 4 12 v (by kernel_rfl)) hno T' g1 g2⟩
     case s3=>
      refine fun hs hno hl=>zS [258] [] fun ac W hT hI hO=>?_;have h258:(2,ac.tmps.getD 258 undef)∈hs:=hI 258 (by simp);obtain ⟨o,e1,_,_⟩:=hT.made _ h258;have h2:=h258;rw [e1] at h2;unfold agLT at e1;show Brings _ (fun vv w'=>TwoR X Y (l.length+j) (l.length+j) (xs.flatMap LT.cells) (ys.flatMap LT.cells) u v (w36.alloc (.cells #[.int .i64 v.kind,.int .i64 v.n,.string v.name,.slice v.at_.1 v.args.length v.at_.2] 41)) (hs++[(3,vv)]) w') _
      have e1':ac.tmps[258]?.getD undef = .agg #[.int .i64 o.kind,.int .i64 o.n,.string o.name,.slice o.at_.1 o.args.length o.at_.2]:=by rw [←Array.getD_eq_getD_getElem?];exact e1
      simp only [execOp,Act.eval,e1];go_simp;exact hT.laidX (by rw [LT.cells_eq]) (fun v=>hl 4 12 v (by kernel_rfl)) hno h2
     case s4=>
      refine fun hs hno hl=>zS [256,259] [] fun ac W hT hI hO=>?_;have h256:_=_:=hI 256 (by simp);have h259:(3,ac.tmps.getD 259 undef)∈hs:=hI 259 (by simp);show Brings _ (fun vv w'=>TwoR X Y (l.length+j) (l.length+j) (xs.flatMap LT.cells) (ys.flatMap LT.cells) u v (w36.alloc (.cells #[.int .i64 v.kind,.int .i64 v.n,.string v.name,.slice v.at_.1 v.args.length v.at_.2] 41)) (hs++[(4,vv)]) w') _;obtain ⟨S,o,h2,eS,_,hS⟩:=hT.one _ h259 hno;refine brings_append (.tmp 256) (.tmp 259) 39 rfl 41 i0 zeroR 4 56 Try.underlying39 hi0 hz0 hz1 hz2 rfl (by decide) _ _ _ h256 (hT.old hno) ⟨S,0,none⟩ 1 1 o.cells eS (LT.cells_length _) (news_block hS) (LT.cells_one _) (by omega) (by unfold maxLen;omega) (by omega) ?_;intro g cap w' k1 k2 k3;exact hT.appX HXR.out HXY.out hno (fun v=>hl 9 12 v (by kernel_rfl)) h2 k2 k1 k3
     case s5=>refine fun hs hl=>zS [] [26] fun ac W hT hI hO=>?_;simp only [execOp,Act.eval,hO 26 (by simp)];go_simp;try exact tq
     case s6=>refine fun hs hl=>zS [] [35] fun ac W hT hI hO=>?_;obtain ⟨c0,c1,c2,c3⟩:=HC30.out W hT.td;simp only [execOp,Act.eval,hO 35 (by simp)];go_simp;try exact tq
     case s7=>
      refine fun hs hno hl=>zS [262] [] fun ac W hT hI hO=>?_;have h262:_=_:=hI 262 (by simp);show Brings _ (fun vv w'=>TwoR X Y (l.length+j) (l.length+j) (xs.flatMap LT.cells) (ys.flatMap LT.cells) u v (w36.alloc (.cells #[.int .i64 v.kind,.int .i64 v.n,.string v.name,.slice v.at_.1 v.args.length v.at_.2] 41)) (hs++[(7,vv)]) w') _
      have e1':ac.tmps[262]?.getD undef = .agg #[.int .i64 v.kind,.int .i64 v.n,.string v.name,.slice v.at_.1 v.args.length v.at_.2]:=by rw [←Array.getD_eq_getD_getElem?];exact h262
      simp only [execOp,Act.eval,h262];go_simp;exact hT.laidY (by rw [LT.cells_eq]) hno
     case s8=>
      refine fun hs hno hl=>zS [261,263] [] fun ac W hT hI hO=>?_;have h261:_=_:=hI 261 (by simp);have h263:(7,ac.tmps.getD 263 undef)∈hs:=hI 263 (by simp);show Brings _ (fun vv w'=>TwoR X Y (l.length+j) (l.length+j) (xs.flatMap LT.cells) (ys.flatMap LT.cells) u v (w36.alloc (.cells #[.int .i64 v.kind,.int .i64 v.n,.string v.name,.slice v.at_.1 v.args.length v.at_.2] 41)) (hs++[(8,vv)]) w') _;obtain ⟨S,eS,_,hS⟩:=hT.cy.one _ h263 hno;refine brings_append (.tmp 261) (.tmp 263) 39 rfl 41 i0 zeroR 4 56 Try.underlying39 hi0 hz0 hz1 hz2 rfl (by decide) _ _ _ h261 (hT.cy.old hno) ⟨S,0,none⟩ 1 1 v.cells eS (LT.cells_length _) (news_block hS) (LT.cells_one _) (by omega) (by unfold maxLen;omega) (by omega) ?_;intro g cap w' k1 k2 k3;exact hT.appY HXR.out HYR.out HXY.out hno (fun v=>hl 10 12 v (by kernel_rfl)) k2 k1 k3
     case s9=>
      refine fun hs hno hl=>zS [260] [] fun ac W hT hI hO=>?_;have h260:(4,ac.tmps.getD 260 undef)∈hs:=hI 260 (by simp);obtain ⟨g,cap,o,_,e1,_,_⟩:=hT.new _ h260;have h4:=h260;rw [e1] at h4;show Brings _ (fun vv w'=>TwoR X Y (l.length+j) (l.length+j) (xs.flatMap LT.cells) (ys.flatMap LT.cells) u v (w36.alloc (.cells #[.int .i64 v.kind,.int .i64 v.n,.string v.name,.slice v.at_.1 v.args.length v.at_.2] 41)) (hs++[(9,vv)]) w') _;simp only [execOp,Act.eval,e1];go_simp;exact hT.set9 hno h4
     case s10=>
      refine fun hs hno hl=>zS [264] [] fun ac W hT hI hO=>?_;have h264:(8,ac.tmps.getD 264 undef)∈hs:=hI 264 (by simp);obtain ⟨g,cap,e1,_,_⟩:=hT.cy.new _ h264;have h8:=h264;rw [e1] at h8;show Brings _ (fun vv w'=>TwoR X Y (l.length+j) (l.length+j) (xs.flatMap LT.cells) (ys.flatMap LT.cells) u v (w36.alloc (.cells #[.int .i64 v.kind,.int .i64 v.n,.string v.name,.slice v.at_.1 v.args.length v.at_.2] 41)) (hs++[(10,vv)]) w') _;simp only [execOp,Act.eval,e1];go_simp;exact hT.set10 hno h8
    case hQ=>
     intro hs vs w37 hall huniq hR hV;have q25:(9,vs 25)∈hs:=hV 25 (by simp);have q26:(10,vs 26)∈hs:=hV 26 (by simp);obtain ⟨g,cap,g',cap',o,e25,e26,hne,hob,hoi,r1,r2,G1,G2,T⟩:=hR.done q25 q26 huniq;simp only [Qq,List.foldl_nil,Qk,Qs,Qr,e25,e26];obtain ⟨l1,l2,l3,l4,l5,l6,l7⟩:=HLS.out;have hlk:=LkS.step l1 l2 (l3.turned0 HTW.out) (l4.turned0 HTW.out) l5 l6 (fun z hz=>(l7 z hz).turned0 HTW.out) (HL8.out.trans HTW.out) HVX.out hne hoi r1 r2 G1 G2 T;rw [hob,HUB.out,HVB.out] at hlk;have HLK2:=hid hlk;clear hR hV hall huniq q25 q26 e25 e26 hne hob hoi r1 r2 G1 G2 T l1 l2 l3 l4 l5 l6 l7 hlk
     go_wp2_with fail
     go_roundg (gk - 1)
     case measure=>have:=HJ.out;omega
     case rel=>
      refine ⟨j+1,show _=_ by have:=HJ.out;omega,by omega,by go_num,?_,fun q hq=>?_⟩
      · rw [List.take_add_one,HXJ.out,List.range_succ,List.map_append,List.map_append,←List.append_assoc,←List.append_assoc]
        exact HLK2.out
      · rcases Nat.lt_succ_iff_lt_or_eq.1 hq with hq | rfl
        · exact HGD.out q hq
        · exact HVG.out
  obtain rfl:j=t.vars.length:=by omega
  have dj:decide ((t.vars.length:Int) < (t.vars.length:Int))=false:=decide_eq_false (by omega)
  have HLX:Hid (LkS w31 X Y (l.length+t.vars.length) (Tm.lookB st.l (l.map Tm.bare) st.ss) (Tm.lookW lw (l.map Tm.bare) 8 st.ss.length) wr):=by
   have h:=HLK.out;rw [List.take_of_length_le (by rw [HSSL.out];exact Qm _),HAX.out,HAY.out] at h;show LkS _ _ _ _ _ _ _;unfold Tm.lookB Tm.lookW;rw [←HSS.out,List.map_map,List.map_map,List.map_map,Qu,HSSL.out,←HBT.out];exact h
  have HGS:=hid HGD.out;clear HJ HGD HLK
  have halk:∀ hg:goodB (Tm.listB (Tm.lookB st.l (l.map Tm.bare) st.ss) Tm.nilT)=true,alikeB (Tm.listB (Tm.lookB st.l (l.map Tm.bare) st.ss) Tm.nilT) (Tm.listB (Tm.lookW lw (l.map Tm.bare) 8 st.ss.length) Tm.nilT)=true:=fun hg=>
   Tm.match_alike HLAW.out.1 HLAW.out.2.1 HD.out.ok (fun z hz=>good_leafy (Tm.ownB_iff.1 (HOA.out z hz)).1) (fun z hz=>good_leafy (Tm.ownB_iff.1 (HLAW.out.2.2.2.2.2 z hz)).1) hg (fun z hz=>by
    unfold Tm.lookW at hz
    rcases Qn.1 hz with hz | hz
    · rw [List.map_map] at hz
      obtain ⟨y,hy,rfl⟩:=List.mem_map.1 hz;exact HGA.out y hy
    · obtain ⟨q,hq,rfl⟩:=List.mem_map.1 hz
      exact HGS.out q (by have:=List.mem_range.1 hq;rw [HLAW.out.2.2.1] at this;exact this))
  have HALK:=hid halk;clear halk;obtain ⟨xs,ys,l1,l2,l3,l4,l5,l6,l7,l8⟩:=HLX.out;obtain ⟨aX,cX,rfl⟩:=row_slice l3;obtain ⟨aY,cY,rfl⟩:=row_slice l4
  have hnil:∀ W:World,(leaf 2 0 ⟨#[91,93]⟩:LT).In (fun _=>True) W:=fun W=>leafIn' (i64_lit 2 (by omega)) (i64_lit 0 (by omega)) (by unfold maxLen;decide)
  have hX122:∀ W,Turned zN wr W→Calls Try.prog 122 #[.slice aX (l.length+t.vars.length) cX,.agg #[.int .i64 2,.int .i64 0,.string ⟨#[91,93]⟩,.slice none 0 0]] W fun e w'=>∃ u:LT,e = .returned (.agg #[.int .i64 u.kind,.int .i64 u.n,.string u.name,.slice u.at_.1 u.args.length u.at_.2])∧u.bare=Tm.listB (Tm.lookB st.l (l.map Tm.bare) st.ss) Tm.nilT∧u.In (fun _=>True) w'∧Turned zN W w':=fun W T=>by
   have h:=list122 (l3.turned0 T) (fun z hz=>((l7 z (.inl hz)).turned0 T).mono (fun _ _ _=>trivial)) (hnil W);rw [l1] at h;exact h
  have hY122:∀ W,Turned zN wr W→Calls Try.prog 122 #[.slice aY (l.length+t.vars.length) cY,.agg #[.int .i64 2,.int .i64 0,.string ⟨#[91,93]⟩,.slice none 0 0]] W fun e w'=>∃ u:LT,e = .returned (.agg #[.int .i64 u.kind,.int .i64 u.n,.string u.name,.slice u.at_.1 u.args.length u.at_.2])∧u.bare=Tm.listB (Tm.lookW lw (l.map Tm.bare) 8 st.ss.length) Tm.nilT∧u.In (fun _=>True) w'∧Turned zN W w':=fun W T=>by
   have h:=list122 (l4.turned0 T) (fun z hz=>((l7 z (.inr hz)).turned0 T).mono (fun _ _ _=>trivial)) (hnil W);rw [l2] at h;exact h
  have HX122:=hid hX122;have HY122:=hid hY122;have HL8:=hid l8;clear hX122 hY122 hnil l1 l2 l3 l4 l5 l6 l7 l8 HLX;obtain ⟨G,hG⟩:∃ G,G=goodB (Tm.listB (Tm.lookB st.l (l.map Tm.bare) st.ss) Tm.nilT):=⟨_,rfl⟩;have HGG:=hid hG.symm;clear hG
  cases G with
  | false=>
   go_wp2_with (first
   | (go_at_call 45;have HLXI:=HLXI;(with_reducible refine (goodV45 (r:=false) HLXI.out (by rw [←goodB_bare,HLXB.out];exact HGG.out)).mono ?_);rintro e w46 ⟨rfl,T46⟩;obtain ⟨x0,x1,x2,x3,_⟩:=HC43.out _ T46;obtain ⟨y0,y1,y2,y3,_⟩:=HC44.out _ T46;have HT46:=hid T46;clear T46)
   | (go_at_call 122;have HT42:=HT42;(with_reducible refine (HY122.out _ HT42.out).mono ?_);rintro e w43 ⟨ly,rfl,hyb,hyi,T43⟩;have h2:=twoBox w43 (.cells #[.int .i64 lx.kind,.int .i64 lx.n,.string lx.name,.slice lx.at_.1 lx.args.length lx.at_.2] 41) (.cells #[.int .i64 ly.kind,.int .i64 ly.n,.string ly.name,.slice ly.at_.1 ly.args.length ly.at_.2] 41);obtain ⟨x0,x1,x2,x3,_⟩:=cells4 h2.2.2.1;obtain ⟨y0,y1,y2,y3,_⟩:=cells4 h2.2.2.2;have HC43:=hid (fun W (T:Turned zN ((w43.alloc (.cells #[.int .i64 lx.kind,.int .i64 lx.n,.string lx.name,.slice lx.at_.1 lx.args.length lx.at_.2] 41)).alloc (.cells #[.int .i64 ly.kind,.int .i64 ly.n,.string ly.name,.slice ly.at_.1 ly.args.length ly.at_.2] 41)) W)=>cells4 ((T.bt h2.2.2.1)));have HC44:=hid (fun W (T:Turned zN ((w43.alloc (.cells #[.int .i64 lx.kind,.int .i64 lx.n,.string lx.name,.slice lx.at_.1 lx.args.length lx.at_.2] 41)).alloc (.cells #[.int .i64 ly.kind,.int .i64 ly.n,.string ly.name,.slice ly.at_.1 ly.args.length ly.at_.2] 41)) W)=>cells4 ((T.bt h2.2.2.2)));have HLXI:=hid ((HLX2.out.turned0 (HT43X.out.trans T43)).turned0 h2.1);have HLYI:=hid (hyi.turned0 h2.1);have HLYB:=hid hyb;have HT45:Hid (Turned zN wr ((w43.alloc (.cells #[.int .i64 lx.kind,.int .i64 lx.n,.string lx.name,.slice lx.at_.1 lx.args.length lx.at_.2] 41)).alloc (.cells #[.int .i64 ly.kind,.int .i64 ly.n,.string ly.name,.slice ly.at_.1 ly.args.length ly.at_.2] 41))):=(HT42.out.trans T43).trans h2.1;clear h2 hyb hyi T43)
   | (go_at_call 122;(with_reducible refine (HX122.out _ HT40.out).mono ?_);rintro e w41 ⟨lx,rfl,hxb,hxi,T41⟩;have HLXB:=hid hxb;have HLX1:=hid hxi;have HT41:=hid (HT40.out.trans T41);clear hxb hxi T41)
   | (go_at_call 123;have HT41:=HT41;(with_reducible refine (atom123 ⟨#[91,93]⟩ _).mono ?_);rintro e w42 ⟨rfl,T42⟩;have HLX2:=hid (HLX1.out.turned0 T42);have HT43X:=hid (Turned.refl (fun _=>False) w42);have HT42:=hid (HT41.out.trans T42);clear T42)
   | (go_at_call 123;(with_reducible refine (atom123 ⟨#[91,93]⟩ _).mono ?_);rintro e w40 ⟨rfl,T40⟩;have HT40:=hid (T40);clear T40))
   go_ret;exact ⟨rfl,(((HT1.out.trans (HT8.out.trans (HT10.out.trans HT31.out))).trans HL8.out).trans HT45.out).trans HT46.out⟩
  | true=>
   go_wp2_with (first
   | (go_at_call 82;have HT46:=HT46;(with_reducible refine (alikeV82 (p:=fun _=>True) (r:=true) (HLXI.out.turned0 HT46.out) (HLYI.out.turned0 HT46.out) (alike_of HLXB.out HLYB.out (HALK.out HGG.out))).mono ?_);rintro e w47 ⟨rfl,T47⟩;have HT47:=hid T47;clear T47)
   | (go_at_call 45;have HLXI:=HLXI;(with_reducible refine (goodV45 (r:=true) HLXI.out (by rw [←goodB_bare,HLXB.out];exact HGG.out)).mono ?_);rintro e w46 ⟨rfl,T46⟩;obtain ⟨x0,x1,x2,x3,_⟩:=HC43.out _ T46;obtain ⟨y0,y1,y2,y3,_⟩:=HC44.out _ T46;have HT46:=hid T46;clear T46)
   | (go_at_call 122;have HT42:=HT42;(with_reducible refine (HY122.out _ HT42.out).mono ?_);rintro e w43 ⟨ly,rfl,hyb,hyi,T43⟩;have h2:=twoBox w43 (.cells #[.int .i64 lx.kind,.int .i64 lx.n,.string lx.name,.slice lx.at_.1 lx.args.length lx.at_.2] 41) (.cells #[.int .i64 ly.kind,.int .i64 ly.n,.string ly.name,.slice ly.at_.1 ly.args.length ly.at_.2] 41);obtain ⟨x0,x1,x2,x3,_⟩:=cells4 h2.2.2.1;obtain ⟨y0,y1,y2,y3,_⟩:=cells4 h2.2.2.2;have HC43:=hid (fun W (T:Turned zN ((w43.alloc (.cells #[.int .i64 lx.kind,.int .i64 lx.n,.string lx.name,.slice lx.at_.1 lx.args.length lx.at_.2] 41)).alloc (.cells #[.int .i64 ly.kind,.int .i64 ly.n,.string ly.name,.slice ly.at_.1 ly.args.length ly.at_.2] 41)) W)=>cells4 ((T.bt h2.2.2.1)));have HC44:=hid (fun W (T:Turned zN ((w43.alloc (.cells #[.int .i64 lx.kind,.int .i64 lx.n,.string lx.name,.slice lx.at_.1 lx.args.length lx.at_.2] 41)).alloc (.cells #[.int .i64 ly.kind,.int .i64 ly.n,.string ly.name,.slice ly.at_.1 ly.args.length ly.at_.2] 41)) W)=>cells4 ((T.bt h2.2.2.2)));have HLXI:=hid ((HLX2.out.turned0 (HT43X.out.trans T43)).turned0 h2.1);have HLYI:=hid (hyi.turned0 h2.1);have HLYB:=hid hyb;have HT45:Hid (Turned zN wr ((w43.alloc (.cells #[.int .i64 lx.kind,.int .i64 lx.n,.string lx.name,.slice lx.at_.1 lx.args.length lx.at_.2] 41)).alloc (.cells #[.int .i64 ly.kind,.int .i64 ly.n,.string ly.name,.slice ly.at_.1 ly.args.length ly.at_.2] 41))):=(HT42.out.trans T43).trans h2.1;clear h2 hyb hyi T43)
   | (go_at_call 122;(with_reducible refine (HX122.out _ HT40.out).mono ?_);rintro e w41 ⟨lx,rfl,hxb,hxi,T41⟩;have HLXB:=hid hxb;have HLX1:=hid hxi;have HT41:=hid (HT40.out.trans T41);clear hxb hxi T41)
   | (go_at_call 123;have HT41:=HT41;(with_reducible refine (atom123 ⟨#[91,93]⟩ _).mono ?_);rintro e w42 ⟨rfl,T42⟩;have HLX2:=hid (HLX1.out.turned0 T42);have HT43X:=hid (Turned.refl (fun _=>False) w42);have HT42:=hid (HT41.out.trans T42);clear T42)
   | (go_at_call 123;(with_reducible refine (atom123 ⟨#[91,93]⟩ _).mono ?_);rintro e w40 ⟨rfl,T40⟩;have HT40:=hid (T40);clear T40))
   go_ret;exact ⟨rfl,((((HT1.out.trans (HT8.out.trans (HT10.out.trans HT31.out))).trans HL8.out).trans HT45.out).trans HT46.out).trans HT47.out⟩
theorem codeMatch {t:LT} {a:Option Addr} {c:Nat} {l:List LT} {w:World} (ht:t.In (fun _=>True) w) (hl:LT.Sl (fun _=>True) w a c l):Calls Try.prog 29 #[t.val,.slice a l.length c] w fun e w'=>e = .returned (.bool true)∧Turned zN w w':=by
 rw [LT.val_eq];exact codeMatchA ht hl
end Go.Proofs.Ytoihjobdfjajfaa
namespace Go.Proofs.Ytoihjobdfjajfaa
open Go.Joins Go.Deep Go.ChangeShapes Go.WideShapes Go.ChangeAt Go.RowKit
theorem cellsOf27:Try.prog.cellsOf 27=4:=by kernel_rfl
theorem cellsOf22:Try.prog.cellsOf 22=1:=by kernel_rfl
theorem cellsOf3:Try.prog.cellsOf 3=1:=by kernel_rfl
theorem cellsOf2:Try.prog.cellsOf 2=1:=by kernel_rfl
theorem cellsOf9:Try.prog.cellsOf 9=1:=by kernel_rfl
theorem I64_of {n:Int} (h:(Lit.int .i64 n).wf=true):I64 n:=by
 unfold I64;simp [Lit.wf] at h
 have e1:IntKind.i64.min = -9223372036854775808:=by decide
 have e2:IntKind.i64.max=9223372036854775807:=by decide
 omega
section
variable {H:Type} {enc:TypeId × Value→H} {W:World} {base:Nat} {sp:Nat→Bool} {held:Bool}
theorem list4 {α:Type} {l:List α} (h:l.length=4):∃ a b c d,l=[a,b,c,d]:=by
 match l,h with
 | [a,b,c,d],_=>exact ⟨a,b,c,d,rfl⟩
set_option maxRecDepth 100000 in
theorem terms_of (fuel:Nat):(∀ cs (x:DataW H × List MemPlace),DataW.trod enc Try.prog W base sp held fuel 27 cs=some x→∃ t:LT,cs=t.cells∧t.In (fun _=>True) W)∧
 (∀ cs (x:DataW H × List MemPlace),DataW.trod enc Try.prog W base sp held fuel 22 cs=some x→∃ a cap,∃ l:List LT,cs=[.slice a l.length cap]∧LT.Sl (fun _=>True) W a cap l):=by
 induction fuel with
 | zero=>exact ⟨fun cs x h=>by simp [DataW.trod] at h,fun cs x h=>by simp [DataW.trod] at h⟩
 | succ fuel ih=>
  refine ⟨fun cs x h=>?_,fun cs x h=>?_⟩
  · obtain ⟨xs,n,hn,hx,hcs,hlen,hf⟩:=DataW.trod_struct Try.underlying27 h
    have hn:fuel=n:=by omega
    subst hn;rw [cellsOf27] at hcs;obtain ⟨u0,u1,u2,u3,rfl⟩:=list4 hcs;obtain ⟨y0,y1,y2,y3,rfl⟩:=list4 hlen
    · · have f0:DataW.trod enc Try.prog W base sp held fuel 3 (([u0,u1,u2,u3].drop 0).take (Try.prog.cellsOf 3))=some y0:=hf 0 _ rfl
        have f1:DataW.trod enc Try.prog W base sp held fuel 2 (([u0,u1,u2,u3].drop 1).take (Try.prog.cellsOf 2))=some y1:=hf 1 _ rfl;have f2:DataW.trod enc Try.prog W base sp held fuel 9 (([u0,u1,u2,u3].drop 2).take (Try.prog.cellsOf 9))=some y2:=hf 2 _ rfl;have f3:DataW.trod enc Try.prog W base sp held fuel 22 (([u0,u1,u2,u3].drop 3).take (Try.prog.cellsOf 22))=some y3:=hf 3 _ rfl;simp only [cellsOf3,cellsOf2,cellsOf9,cellsOf22] at f0 f1 f2 f3;simp at f0 f1 f2 f3;obtain ⟨k,e0,_,wk⟩:=DataW.trod_int Try.underlying3 f0;obtain ⟨m,e1,_,wm⟩:=DataW.trod_int Try.underlying2 f1;obtain ⟨s,e2,_,ws⟩:=DataW.trod_string Try.underlying9 f2;obtain ⟨a,cap,l,e3,hl⟩:=ih.2 _ _ f3;simp at e0 e1 e2 e3;subst e0 e1 e2 e3;exact ⟨.mk k m s (a,cap) l,rfl,hl.in_ (I64_of wk) (I64_of wm) ws⟩
  · rcases DataW.trod_slice Try.underlying22 h with ⟨hcs,_⟩ | ⟨ad,len,cap,elems,rest,n,hn,hcs,_,_,hl,hm,hlen,hel,_⟩
    · exact ⟨none,0,[],hcs,⟨fun _=>⟨rfl,rfl⟩,fun h=>by simp at h,trivial,Qm _,by unfold maxLen;omega⟩⟩
    · have hn:fuel=n:=by omega
      subst hn;rw [cellsOf27] at hel
      have hp:∀ i,∃ t:LT,i < len→t.In (fun _=>True) W∧∀ j,j < 4→W.cell? (ad.add (i * 4+j))=t.cells[j]?:=by
       intro i
       by_cases hi:i < len
       · have he:=hel i hi
         rw [Qa (by omega)] at he;obtain ⟨cs',hc,ht⟩:=Option.bind_eq_some_iff.1 he;obtain ⟨t,rfl,hin⟩:=ih.1 _ _ ht;obtain ⟨_,_,hat⟩:=World.cells?_some hc;refine ⟨t,fun _=>⟨hin,fun j hj=>?_⟩⟩;rw [←hat j hj];congr 1;exact (add_add ..).symm
       · exact ⟨.mk 0 0 ByteArray.empty (none,0) [],fun h=>absurd h hi⟩
      obtain ⟨f,hff⟩:=Classical.axiomOfChoice hp;refine ⟨some ad,cap,(List.range len).map f,by simpa using hcs,⟨(fun e=>by cases e),fun hpos=>?_,(LT.ins_iff _).2 fun x hx=>?_,by simpa using hl,hm⟩⟩
      · simp at hpos
        obtain ⟨b,o,spot⟩:=ad;have hc:=(hff 0 (by omega)).2 0 (by omega)
        have hspot:spot=none:=by
         rw [LT.cells_eq] at hc;simpa [Addr.add] using World.cell?_spot hc
        subst hspot;refine ⟨b,o,rfl,trivial,fun j u hu=>?_⟩;have hlt:=(Qg.1 hu).1;rw [LT.flat_length,Qu,List.length_range] at hlt
        have hi:j / 4 < len:=by omega
        have hx:((List.range len).map f)[j / 4]? = some (f (j / 4)):=by rw [Qp,List.getElem?_range hi];rfl
        have h4:=LT.flat_at hx (j % 4) (by omega);rw [show j / 4 * 4+j % 4=j by omega,hu] at h4;have hc:=(hff (j / 4) hi).2 (j % 4) (by omega);rw [show j / 4 * 4+j % 4=j by omega,Addr.add_lit] at hc;rw [hc,h4]
      · obtain ⟨i,hi,rfl⟩:=List.mem_map.1 hx
        exact (hff i (by simpa using hi)).1
theorem slT_of {fuel:Nat} {a:Option Addr} {len cap:Nat} {x:DataW H × List MemPlace} (hf:DataW.trod enc Try.prog W base sp held fuel 22 (Value.slice a len cap).cells.toList=some x):∃ l:List LT,l.length=len∧LT.Sl (fun _=>True) W a cap l:=by
 obtain ⟨a',cap',l,hcs,hl⟩:=(terms_of fuel).2 _ _ hf;simp [Value.cells] at hcs;obtain ⟨rfl,rfl,rfl⟩:=hcs;exact ⟨l,rfl,hl⟩
set_option maxRecDepth 100000 in
theorem tmT_of {fuel:Nat} {r:Reach} {b0:Nat} {v:Value} {x:DataW H × List MemPlace} (hv:Value.okWide Try.prog W r b0 27 v) (hf:DataW.trod enc Try.prog W base sp held fuel 27 v.cells.toList=some x):∃ t:LT,v=t.val∧t.In (fun _=>True) W:=by
 obtain ⟨cs,rfl,hsz⟩:=okWide_struct Try.underlying27 hv;obtain ⟨t,hcs,hin⟩:=(terms_of fuel).1 _ _ hf;refine ⟨t,?_,hin⟩
 cases t with | mk k n s e bs=>
 simp only [Value.cells] at hcs;show Value.agg cs=Value.agg _;congr 1;exact Array.toList_inj.1 hcs
end
end Go.Proofs.Ytoihjobdfjajfaa

/- Merged texts: CB6, CB10, CB7, CB7T, CB8, CB8T, CB11, CB12, BV1, MA1, DB1, DB2, DB3, DB4, DB5, DB6, DP1, DL1, UB1, UM2. -/
import Derived.Test.YtoihjobdfjajfaaKo3
import Derived.Deep.LoopGhost
import Derived.Laws.CopyRow
set_option linter.unusedVariables false
set_option linter.unusedSimpArgs false
open List renaming getElem?_eq_getElem → Qa, mem_cons_of_mem → Qb, mem_append_left → Qc, mem_cons_self → Qe, mem_of_getElem? → Qf, getElem?_eq_some_iff → Qg, eq_nil_of_length_eq_zero → Qh, length_append → Qi, mem_append_right → Qj, setIfInBounds_toArray → Qk, not_mem_nil → Ql, mem_append → Qn, getElem?_map → Qp, foldl_cons → Qq, set_cons_succ → Qr, set_cons_zero → Qs, all_eq_true → Qt, length_map → Qu, mem_cons → Qw, map_cons → Qx, length_cons → QB
open Bool renaming and_eq_true → Qd
open Nat renaming le_refl → Qm, lt_of_lt_of_le → Qo, lt_irrefl → Qy, lt_of_le_of_lt → Qz, le_trans → QA
open Array renaming getElem?_toList → Qv, getElem?_eq_some_iff → QC
set_option maxHeartbeats 12800000
namespace Go.Proofs.Ytoihjobdfjajfaa
open Lib (hid)
open Go.RowKit Go.Maps
open Tm (Stp sVar sVal sInt sAtom sComp)
theorem law3:Keyed Try.prog 3:=int_keyed Try.underlying3
theorem key3 {n:Int} (h:I64 n):Go.keyOf Try.prog 3 (.int .i64 n)=some (kI n):=keyOf_int_mk Try.underlying3 h.wf
theorem hadLook {w:World} {mb n:Nat} {had:List Int} {b:Int} (h:IMap Try.prog 3 w mb n (hadF had)) (h64:I64 b):(Instr.lookup 145 (.map (some mb)) (.int .i64 b) false).run Try.prog w = .ok (.bool (decide (b∈had))) w:=by
 rw [h.look law3 Try.underlying145 (zero4 _) (key3 h64),hadF_get]
def hadN (had:List Int) (b:Int):List Int:=if b∈had then had else had++[b]
theorem hadN_len (had:List Int) (b:Int):(hadN had b).length≤had.length+1:=by
 unfold hadN;split
 · omega
 · rw [Qi];exact Qm _
theorem had_next {had:List Int} {b:Int}:upd (hadF had) b (.bool true)=hadF (hadN had b)∧(if (hadF had b).isSome then had.length else had.length+1)=(hadN had b).length:=by
 unfold hadN
 by_cases h:b∈had
 · rw [if_pos h,hadF_same h]
   refine ⟨rfl,if_pos ?_⟩;unfold hadF;rw [if_pos h];rfl
 · rw [if_neg h,hadF_put]
   refine ⟨rfl,?_⟩;rw [if_neg (by unfold hadF;rw [if_neg h];simp),Qi];rfl
set_option maxRecDepth 100000 in
theorem one_var_neg {kb mb:Nat} {k ar sl rg i:Int} {lv:Value} {had:List Int} {s:Stp} {w:World} (C:Chk kb mb k had w) (hf:had.length≤3000) (hs:stOk s) (hop:s.op=sVar) (hb:s.b < 0) :
 Calls Try.prog 149 #[.pointer (some ⟨kb,0,none⟩),.agg #[.int .i64 ar,.int .i64 sl,.int .i64 rg,lv],.int .i64 i,.agg #[.string s.op,.int .i64 s.a,.int .i64 s.b,.int .i64 s.c,.int .i64 s.n,.string s.name]] w fun e w'=>e = .returned (.bool false)∧Turned zN w w':=by
 have hnm:=hs.2.2.2.2.2;have hb64:=hs.2.2.1;have o0:=op_Var_Var;have o1:=op_Var_Val;have o2:=op_Var_Int;have o3:=op_Var_Atom;have o4:=op_Var_Comp;have en:=empty_nil;have d1:decide (s.b < 0)=true:=decide_eq_true hb;obtain ⟨T0,z0,z1,z2⟩:=three_boxes w (.cells #[.int .i64 ar,.int .i64 sl,.int .i64 rg,lv] 104) (.cells #[.string sVar,.int .i64 s.a,.int .i64 s.b,.int .i64 s.c,.int .i64 s.n,.string s.name] 139) (.cells #[.string sVar,.int .i64 i,.int .i64 s.b,.int .i64 0,.int .i64 0,.string ⟨#[]⟩] 139);obtain ⟨W6,hW6⟩:∃ z,z=((w.alloc (.cells #[.int .i64 ar,.int .i64 sl,.int .i64 rg,lv] 104)).alloc (.cells #[.string sVar,.int .i64 s.a,.int .i64 s.b,.int .i64 s.c,.int .i64 s.n,.string s.name] 139)).alloc (.cells #[.string sVar,.int .i64 i,.int .i64 s.b,.int .i64 0,.int .i64 0,.string ⟨#[]⟩] 139):=⟨_,rfl⟩;rw [←hW6] at T0 z0 z1 z2;have T6:=T0;have y0:=z0;have y1:=z1;have y2:=z2;have C6:=C.turned0 T6;have hlt:=C.lt;have HC6:=hid C6;have H5:=hid (fun W (T:Turned zN W6 W)=>(T.bt y0));have H7:=hid (fun W (T:Turned zN W6 W)=>(T.bt y1));have H9:=hid (fun W (T:Turned zN W6 W)=>(T.bt y2));have HT6:=hid T6;have HLT:=hid hlt;have HW6:=hid hW6;have HB64:=hid hb64;have HF:=hid hf;rw [hop];clear T0 z0 z1 z2 T6 y0 y1 y2 C6 hlt hW6 hb64 hf C hs;go_enter Try.func149,Try.ntmps149
 go_wp2_with fail
 rw [←HW6.out];refine wp_region_ssa' (G:=(fun dd vv W=>(match dd with | 22=>vv = .pointer (some ⟨w.heap.size+1,2,none⟩) | 23=>vv = .int .i64 s.b | 24=>vv = .bool true | 25=>vv = .bool true | 26=>vv=undef | 27=>vv=undef | 28=>vv=undef | 29=>vv=undef | 30=>vv=undef | 31=>vv = .bool true | 32=>vv = .bool true | 33=>vv=undef | 34=>vv=undef | 35=>vv=undef | 36=>vv=undef | 37=>vv=undef | 38=>vv=undef | 39=>vv=undef | 40=>vv=undef | 41=>vv=undef | 42=>vv=undef | 43=>vv=undef | 44=>vv = .bool true  | _=>True:Prop))) [22,23,24,25,26,27,28,29,30,31,32,33,34,35,36,37,38,39,40,41,42,43,44] (by kernel_rfl) rfl (by kernel_rfl) ?hG ?hs ?hQ
 case hG=>exact fun d v _ _ _ h=>h
 case hs=>
  refine ⟨?s0,?s1,?s2,?s3,?s4,?s5,?s6,?s7,?s8,?s9,?s10,?s11,?s12,?s13,?s14,?s15,?s16,?s17,?s18,?s19,?s20,?s21,?s22,trivial⟩
  case s0=>refine zO [] [7] fun ac W hT hI hO=>?_;simp only [execOp,Act.eval,hO 7 (by simp)];go_simp;try exact tq
  case s1=>refine zO [22] [] fun ac W hT hI hO=>?_;have h22:_=_:=hI 22 (by simp);obtain ⟨e0,e1,e2,e3,e4,e5⟩:=cells6 (H7.out W hT);simp only [execOp,Act.eval,h22];go_simp;try exact tq
  case s2=>refine zO [23] [] fun ac W hT hI hO=>?_;have h23:_=_:=hI 23 (by simp);simp only [execOp,Act.eval,h23];go_simp;try exact tq
  case s3=>refine zO [24] [] fun ac W hT hI hO=>?_;have h24:_=_:=hI 24 (by simp);simp only [execOp,Act.eval,h24];go_simp;try exact tq
  case s4=>exact stepOk_guard [25] [7] (by kernel_rfl) 3 false 25 rfl rfl (by simp) true true (fun _ _ h=>h) (fun hc=>by cases hc) (fun _ _=>rfl)
  case s5=>exact stepOk_guard [26,25] [] (by kernel_rfl) 3 false 25 rfl rfl (by simp) true true (fun _ _ h=>h) (fun hc=>by cases hc) (fun _ _=>rfl)
  case s6=>exact stepOk_guard [25] [5] (by kernel_rfl) 3 false 25 rfl rfl (by simp) true true (fun _ _ h=>h) (fun hc=>by cases hc) (fun _ _=>rfl)
  case s7=>exact stepOk_guard [28,25] [] (by kernel_rfl) 3 false 25 rfl rfl (by simp) true true (fun _ _ h=>h) (fun hc=>by cases hc) (fun _ _=>rfl)
  case s8=>exact stepOk_guard [27,29,25] [] (by kernel_rfl) 3 false 25 rfl rfl (by simp) true true (fun _ _ h=>h) (fun hc=>by cases hc) (fun _ _=>rfl)
  case s9=>refine zO [25,30] [] fun ac W hT hI hO=>?_;have h25:_=_:=hI 25 (by simp);have h30:_=_:=hI 30 (by simp);simp only [execOp,Act.eval,h25,h30];go_simp;try exact tq
  case s10=>refine zO [31] [] fun ac W hT hI hO=>?_;have h31:_=_:=hI 31 (by simp);simp only [execOp,Act.eval,h31];go_simp;try exact tq
  case s11=>exact stepOk_guard [32] [0] (by kernel_rfl) 10 false 32 rfl rfl (by simp) true true (fun _ _ h=>h) (fun hc=>by cases hc) (fun _ _=>rfl)
  case s12=>exact stepOk_guard [33,32] [] (by kernel_rfl) 10 false 32 rfl rfl (by simp) true true (fun _ _ h=>h) (fun hc=>by cases hc) (fun _ _=>rfl)
  case s13=>exact stepOk_guard [34,32] [] (by kernel_rfl) 10 false 32 rfl rfl (by simp) true true (fun _ _ h=>h) (fun hc=>by cases hc) (fun _ _=>rfl)
  case s14=>exact stepOk_guard [35,32] [] (by kernel_rfl) 10 false 32 rfl rfl (by simp) true true (fun _ _ h=>h) (fun hc=>by cases hc) (fun _ _=>rfl)
  case s15=>exact stepOk_guard [32] [7] (by kernel_rfl) 10 false 32 rfl rfl (by simp) true true (fun _ _ h=>h) (fun hc=>by cases hc) (fun _ _=>rfl)
  case s16=>exact stepOk_guard [37,32] [] (by kernel_rfl) 10 false 32 rfl rfl (by simp) true true (fun _ _ h=>h) (fun hc=>by cases hc) (fun _ _=>rfl)
  case s17=>exact stepOk_guard [36,38,32] [] (by kernel_rfl) 10 false 32 rfl rfl (by simp) true true (fun _ _ h=>h) (fun hc=>by cases hc) (fun _ _=>rfl)
  case s18=>exact stepOk_guard [32] [7] (by kernel_rfl) 10 false 32 rfl rfl (by simp) true true (fun _ _ h=>h) (fun hc=>by cases hc) (fun _ _=>rfl)
  case s19=>exact stepOk_guard [40,32] [] (by kernel_rfl) 10 false 32 rfl rfl (by simp) true true (fun _ _ h=>h) (fun hc=>by cases hc) (fun _ _=>rfl)
  case s20=>exact stepOk_guard [41,32] [] (by kernel_rfl) 10 false 32 rfl rfl (by simp) true true (fun _ _ h=>h) (fun hc=>by cases hc) (fun _ _=>rfl)
  case s21=>exact stepOk_guard [39,42,32] [] (by kernel_rfl) 10 false 32 rfl rfl (by simp) true true (fun _ _ h=>h) (fun hc=>by cases hc) (fun _ _=>rfl)
  case s22=>
   refine zO [32,43] [] fun ac W hT hI hO=>?_;have h32:_=_:=hI 32 (by simp);have h43:_=_:=hI 43 (by simp);simp only [execOp,Act.eval,h32,h43];go_simp
   try exact tq
 case hQ=>
  intro vs7 W7 T7 hV;have q44:vs7 44 = .bool true:=hV 44 (by simp);simp only [Qq,List.foldl_nil,Qk,Qs,Qr,q44];have HT7:=hid T7;clear hV q44 T7
  go_wp2_with fail
  go_ret;exact ⟨rfl,HT6.out.trans HT7.out⟩
set_option maxRecDepth 100000 in
theorem one_var_big {kb mb:Nat} {k ar sl rg i:Int} {lv:Value} {had:List Int} {s:Stp} {w:World} (C:Chk kb mb k had w) (hf:had.length≤3000) (hs:stOk s) (hop:s.op=sVar) (hb0:0≤s.b) (hb:sl≤s.b) :
 Calls Try.prog 149 #[.pointer (some ⟨kb,0,none⟩),.agg #[.int .i64 ar,.int .i64 sl,.int .i64 rg,lv],.int .i64 i,.agg #[.string s.op,.int .i64 s.a,.int .i64 s.b,.int .i64 s.c,.int .i64 s.n,.string s.name]] w fun e w'=>e = .returned (.bool false)∧Turned zN w w':=by
 have hnm:=hs.2.2.2.2.2;have hb64:=hs.2.2.1;have o0:=op_Var_Var;have o1:=op_Var_Val;have o2:=op_Var_Int;have o3:=op_Var_Atom;have o4:=op_Var_Comp;have en:=empty_nil;have d1:decide (s.b < 0)=false:=decide_eq_false (by omega);have d2:decide (sl≤s.b)=true:=decide_eq_true hb;obtain ⟨T0,z0,z1,z2⟩:=three_boxes w (.cells #[.int .i64 ar,.int .i64 sl,.int .i64 rg,lv] 104) (.cells #[.string sVar,.int .i64 s.a,.int .i64 s.b,.int .i64 s.c,.int .i64 s.n,.string s.name] 139) (.cells #[.string sVar,.int .i64 i,.int .i64 s.b,.int .i64 0,.int .i64 0,.string ⟨#[]⟩] 139);obtain ⟨W6,hW6⟩:∃ z,z=((w.alloc (.cells #[.int .i64 ar,.int .i64 sl,.int .i64 rg,lv] 104)).alloc (.cells #[.string sVar,.int .i64 s.a,.int .i64 s.b,.int .i64 s.c,.int .i64 s.n,.string s.name] 139)).alloc (.cells #[.string sVar,.int .i64 i,.int .i64 s.b,.int .i64 0,.int .i64 0,.string ⟨#[]⟩] 139):=⟨_,rfl⟩;rw [←hW6] at T0 z0 z1 z2;have T6:=T0;have y0:=z0;have y1:=z1;have y2:=z2;have C6:=C.turned0 T6;have hlt:=C.lt;have HC6:=hid C6;have H5:=hid (fun W (T:Turned zN W6 W)=>(T.bt y0));have H7:=hid (fun W (T:Turned zN W6 W)=>(T.bt y1));have H9:=hid (fun W (T:Turned zN W6 W)=>(T.bt y2));have HT6:=hid T6;have HLT:=hid hlt;have HW6:=hid hW6;have HB64:=hid hb64;have HF:=hid hf;rw [hop];clear T0 z0 z1 z2 T6 y0 y1 y2 C6 hlt hW6 hb64 hf C hs;go_enter Try.func149,Try.ntmps149
 go_wp2_with fail
 rw [←HW6.out];refine wp_region_ssa' (G:=(fun dd vv W=>(match dd with | 22=>vv = .pointer (some ⟨w.heap.size+1,2,none⟩) | 23=>vv = .int .i64 s.b | 24=>vv = .bool false | 25=>vv = .bool false | 26=>vv = .pointer (some ⟨w.heap.size+1,2,none⟩) | 27=>vv = .int .i64 s.b | 28=>vv = .pointer (some ⟨w.heap.size,1,none⟩) | 29=>vv = .int .i64 sl | 30=>vv = .bool true | 31=>vv = .bool true | 32=>vv = .bool true | 33=>vv=undef | 34=>vv=undef | 35=>vv=undef | 36=>vv=undef | 37=>vv=undef | 38=>vv=undef | 39=>vv=undef | 40=>vv=undef | 41=>vv=undef | 42=>vv=undef | 43=>vv=undef | 44=>vv = .bool true  | _=>True:Prop))) [22,23,24,25,26,27,28,29,30,31,32,33,34,35,36,37,38,39,40,41,42,43,44] (by kernel_rfl) rfl (by kernel_rfl) ?hG ?hs ?hQ
 case hG=>exact fun d v _ _ _ h=>h
 case hs=>
  refine ⟨?s0,?s1,?s2,?s3,?s4,?s5,?s6,?s7,?s8,?s9,?s10,?s11,?s12,?s13,?s14,?s15,?s16,?s17,?s18,?s19,?s20,?s21,?s22,trivial⟩
  case s0=>refine zO [] [7] fun ac W hT hI hO=>?_;simp only [execOp,Act.eval,hO 7 (by simp)];go_simp;try exact tq
  case s1=>refine zO [22] [] fun ac W hT hI hO=>?_;have h22:_=_:=hI 22 (by simp);obtain ⟨e0,e1,e2,e3,e4,e5⟩:=cells6 (H7.out W hT);simp only [execOp,Act.eval,h22];go_simp;try exact tq
  case s2=>refine zO [23] [] fun ac W hT hI hO=>?_;have h23:_=_:=hI 23 (by simp);simp only [execOp,Act.eval,h23];go_simp;try exact tq
  case s3=>refine zO [24] [] fun ac W hT hI hO=>?_;have h24:_=_:=hI 24 (by simp);simp only [execOp,Act.eval,h24];go_simp;try exact tq
  case s4=>
   refine stepOk_guard [25] [7] (by kernel_rfl) 3 false 25 rfl rfl (by simp) true false (fun _ _ h=>h) (fun hc=>?_) (fun hc=>by cases hc);intro ac W hT hI hO;simp only [execOp,Act.eval,hO 7 (by simp)];go_simp
   try exact tq
  case s5=>
   refine stepOk_guard [26,25] [] (by kernel_rfl) 3 false 25 rfl rfl (by simp) true false (fun _ _ h=>h) (fun hc=>?_) (fun hc=>by cases hc);intro ac W hT hI hO;have h26:_=_:=hI 26 (by simp);obtain ⟨e0,e1,e2,e3,e4,e5⟩:=cells6 (H7.out W hT);simp only [execOp,Act.eval,h26];go_simp
   try exact tq
  case s6=>
   refine stepOk_guard [25] [5] (by kernel_rfl) 3 false 25 rfl rfl (by simp) true false (fun _ _ h=>h) (fun hc=>?_) (fun hc=>by cases hc);intro ac W hT hI hO;simp only [execOp,Act.eval,hO 5 (by simp)];go_simp
   try exact tq
  case s7=>
   refine stepOk_guard [28,25] [] (by kernel_rfl) 3 false 25 rfl rfl (by simp) true false (fun _ _ h=>h) (fun hc=>?_) (fun hc=>by cases hc);intro ac W hT hI hO;have h28:_=_:=hI 28 (by simp);obtain ⟨k0,k1,k2,k3,_⟩:=cells4 (H5.out W hT);simp only [execOp,Act.eval,h28];go_simp
   try exact tq
  case s8=>
   refine stepOk_guard [27,29,25] [] (by kernel_rfl) 3 false 25 rfl rfl (by simp) true false (fun _ _ h=>h) (fun hc=>?_) (fun hc=>by cases hc);intro ac W hT hI hO;have h27:_=_:=hI 27 (by simp);have h29:_=_:=hI 29 (by simp);simp only [execOp,Act.eval,h27,h29];go_simp
   try exact tq
  case s9=>refine zO [25,30] [] fun ac W hT hI hO=>?_;have h25:_=_:=hI 25 (by simp);have h30:_=_:=hI 30 (by simp);simp only [execOp,Act.eval,h25,h30];go_simp;try exact tq
  case s10=>refine zO [31] [] fun ac W hT hI hO=>?_;have h31:_=_:=hI 31 (by simp);simp only [execOp,Act.eval,h31];go_simp;try exact tq
  case s11=>exact stepOk_guard [32] [0] (by kernel_rfl) 10 false 32 rfl rfl (by simp) true true (fun _ _ h=>h) (fun hc=>by cases hc) (fun _ _=>rfl)
  case s12=>exact stepOk_guard [33,32] [] (by kernel_rfl) 10 false 32 rfl rfl (by simp) true true (fun _ _ h=>h) (fun hc=>by cases hc) (fun _ _=>rfl)
  case s13=>exact stepOk_guard [34,32] [] (by kernel_rfl) 10 false 32 rfl rfl (by simp) true true (fun _ _ h=>h) (fun hc=>by cases hc) (fun _ _=>rfl)
  case s14=>exact stepOk_guard [35,32] [] (by kernel_rfl) 10 false 32 rfl rfl (by simp) true true (fun _ _ h=>h) (fun hc=>by cases hc) (fun _ _=>rfl)
  case s15=>exact stepOk_guard [32] [7] (by kernel_rfl) 10 false 32 rfl rfl (by simp) true true (fun _ _ h=>h) (fun hc=>by cases hc) (fun _ _=>rfl)
  case s16=>exact stepOk_guard [37,32] [] (by kernel_rfl) 10 false 32 rfl rfl (by simp) true true (fun _ _ h=>h) (fun hc=>by cases hc) (fun _ _=>rfl)
  case s17=>exact stepOk_guard [36,38,32] [] (by kernel_rfl) 10 false 32 rfl rfl (by simp) true true (fun _ _ h=>h) (fun hc=>by cases hc) (fun _ _=>rfl)
  case s18=>exact stepOk_guard [32] [7] (by kernel_rfl) 10 false 32 rfl rfl (by simp) true true (fun _ _ h=>h) (fun hc=>by cases hc) (fun _ _=>rfl)
  case s19=>exact stepOk_guard [40,32] [] (by kernel_rfl) 10 false 32 rfl rfl (by simp) true true (fun _ _ h=>h) (fun hc=>by cases hc) (fun _ _=>rfl)
  case s20=>exact stepOk_guard [41,32] [] (by kernel_rfl) 10 false 32 rfl rfl (by simp) true true (fun _ _ h=>h) (fun hc=>by cases hc) (fun _ _=>rfl)
  case s21=>exact stepOk_guard [39,42,32] [] (by kernel_rfl) 10 false 32 rfl rfl (by simp) true true (fun _ _ h=>h) (fun hc=>by cases hc) (fun _ _=>rfl)
  case s22=>
   refine zO [32,43] [] fun ac W hT hI hO=>?_;have h32:_=_:=hI 32 (by simp);have h43:_=_:=hI 43 (by simp);simp only [execOp,Act.eval,h32,h43];go_simp
   try exact tq
 case hQ=>
  intro vs7 W7 T7 hV;have q44:vs7 44 = .bool true:=hV 44 (by simp);simp only [Qq,List.foldl_nil,Qk,Qs,Qr,q44];have HT7:=hid T7;clear hV q44 T7
  go_wp2_with fail
  go_ret;exact ⟨rfl,HT6.out.trans HT7.out⟩
set_option maxRecDepth 100000 in
theorem one_var_mis {kb mb:Nat} {k ar sl rg i:Int} {lv:Value} {had:List Int} {s:Stp} {w:World} (C:Chk kb mb k had w) (hf:had.length≤3000) (hs:stOk s) (hop:s.op=sVar) (hb0:0≤s.b) (hb:s.b < sl) (hm:s.b∈had) :
 Calls Try.prog 149 #[.pointer (some ⟨kb,0,none⟩),.agg #[.int .i64 ar,.int .i64 sl,.int .i64 rg,lv],.int .i64 i,.agg #[.string s.op,.int .i64 s.a,.int .i64 s.b,.int .i64 s.c,.int .i64 s.n,.string s.name]] w fun e w'=>e = .returned (.bool false)∧Turned zN w w':=by
 have hnm:=hs.2.2.2.2.2;have hb64:=hs.2.2.1;have o0:=op_Var_Var;have o1:=op_Var_Val;have o2:=op_Var_Int;have o3:=op_Var_Atom;have o4:=op_Var_Comp;have en:=empty_nil;have d1:decide (s.b < 0)=false:=decide_eq_false (by omega);have d2:decide (sl≤s.b)=false:=decide_eq_false (by omega);obtain ⟨T0,z0,z1,z2⟩:=three_boxes w (.cells #[.int .i64 ar,.int .i64 sl,.int .i64 rg,lv] 104) (.cells #[.string sVar,.int .i64 s.a,.int .i64 s.b,.int .i64 s.c,.int .i64 s.n,.string s.name] 139) (.cells #[.string sVar,.int .i64 i,.int .i64 s.b,.int .i64 0,.int .i64 0,.string ⟨#[]⟩] 139);obtain ⟨W6,hW6⟩:∃ z,z=((w.alloc (.cells #[.int .i64 ar,.int .i64 sl,.int .i64 rg,lv] 104)).alloc (.cells #[.string sVar,.int .i64 s.a,.int .i64 s.b,.int .i64 s.c,.int .i64 s.n,.string s.name] 139)).alloc (.cells #[.string sVar,.int .i64 i,.int .i64 s.b,.int .i64 0,.int .i64 0,.string ⟨#[]⟩] 139):=⟨_,rfl⟩;rw [←hW6] at T0 z0 z1 z2;have T6:=T0;have y0:=z0;have y1:=z1;have y2:=z2;have C6:=C.turned0 T6;have hlt:=C.lt;have HC6:=hid C6;have H5:=hid (fun W (T:Turned zN W6 W)=>(T.bt y0));have H7:=hid (fun W (T:Turned zN W6 W)=>(T.bt y1));have H9:=hid (fun W (T:Turned zN W6 W)=>(T.bt y2));have HT6:=hid T6;have HLT:=hid hlt;have HW6:=hid hW6;have HB64:=hid hb64;have HF:=hid hf;have HLK:=hid (fun W (T:Turned zN W6 W)=>(decide_eq_true hm:decide (s.b∈had)=true) ▸ hadLook (C6.turned0 T).m hb64);rw [hop];clear T0 z0 z1 z2 T6 y0 y1 y2 C6 hlt hW6 hb64 hf C hs;go_enter Try.func149,Try.ntmps149
 go_wp2_with fail
 rw [←HW6.out];refine wp_region_ssa' (G:=(fun dd vv W=>(match dd with | 22=>vv = .pointer (some ⟨w.heap.size+1,2,none⟩) | 23=>vv = .int .i64 s.b | 24=>vv = .bool false | 25=>vv = .bool false | 26=>vv = .pointer (some ⟨w.heap.size+1,2,none⟩) | 27=>vv = .int .i64 s.b | 28=>vv = .pointer (some ⟨w.heap.size,1,none⟩) | 29=>vv = .int .i64 sl | 30=>vv = .bool false | 31=>vv = .bool false | 32=>vv = .bool false | 33=>vv = .pointer (some ⟨kb,0,none⟩) | 34=>vv = .pointer (some ⟨kb,0,none⟩) | 35=>vv = .pointer (some ⟨kb,1,none⟩) | 36=>vv = .map (some mb) | 37=>vv = .pointer (some ⟨w.heap.size+1,2,none⟩) | 38=>vv = .int .i64 s.b | 39=>vv = .bool true | 40=>vv = .pointer (some ⟨w.heap.size+1,0,none⟩) | 41=>vv = .string sVar | 42=>vv = .bool false | 43=>vv = .bool true | 44=>vv = .bool true  | _=>True:Prop))) [22,23,24,25,26,27,28,29,30,31,32,33,34,35,36,37,38,39,40,41,42,43,44] (by kernel_rfl) rfl (by kernel_rfl) ?hG ?hs ?hQ
 case hG=>exact fun d v _ _ _ h=>h
 case hs=>
  refine ⟨?s0,?s1,?s2,?s3,?s4,?s5,?s6,?s7,?s8,?s9,?s10,?s11,?s12,?s13,?s14,?s15,?s16,?s17,?s18,?s19,?s20,?s21,?s22,trivial⟩
  case s0=>refine zO [] [7] fun ac W hT hI hO=>?_;simp only [execOp,Act.eval,hO 7 (by simp)];go_simp;try exact tq
  case s1=>refine zO [22] [] fun ac W hT hI hO=>?_;have h22:_=_:=hI 22 (by simp);obtain ⟨e0,e1,e2,e3,e4,e5⟩:=cells6 (H7.out W hT);simp only [execOp,Act.eval,h22];go_simp;try exact tq
  case s2=>refine zO [23] [] fun ac W hT hI hO=>?_;have h23:_=_:=hI 23 (by simp);simp only [execOp,Act.eval,h23];go_simp;try exact tq
  case s3=>refine zO [24] [] fun ac W hT hI hO=>?_;have h24:_=_:=hI 24 (by simp);simp only [execOp,Act.eval,h24];go_simp;try exact tq
  case s4=>
   refine stepOk_guard [25] [7] (by kernel_rfl) 3 false 25 rfl rfl (by simp) true false (fun _ _ h=>h) (fun hc=>?_) (fun hc=>by cases hc);intro ac W hT hI hO;simp only [execOp,Act.eval,hO 7 (by simp)];go_simp
   try exact tq
  case s5=>
   refine stepOk_guard [26,25] [] (by kernel_rfl) 3 false 25 rfl rfl (by simp) true false (fun _ _ h=>h) (fun hc=>?_) (fun hc=>by cases hc);intro ac W hT hI hO;have h26:_=_:=hI 26 (by simp);obtain ⟨e0,e1,e2,e3,e4,e5⟩:=cells6 (H7.out W hT);simp only [execOp,Act.eval,h26];go_simp
   try exact tq
  case s6=>
   refine stepOk_guard [25] [5] (by kernel_rfl) 3 false 25 rfl rfl (by simp) true false (fun _ _ h=>h) (fun hc=>?_) (fun hc=>by cases hc);intro ac W hT hI hO;simp only [execOp,Act.eval,hO 5 (by simp)];go_simp
   try exact tq
  case s7=>
   refine stepOk_guard [28,25] [] (by kernel_rfl) 3 false 25 rfl rfl (by simp) true false (fun _ _ h=>h) (fun hc=>?_) (fun hc=>by cases hc);intro ac W hT hI hO;have h28:_=_:=hI 28 (by simp);obtain ⟨k0,k1,k2,k3,_⟩:=cells4 (H5.out W hT);simp only [execOp,Act.eval,h28];go_simp
   try exact tq
  case s8=>
   refine stepOk_guard [27,29,25] [] (by kernel_rfl) 3 false 25 rfl rfl (by simp) true false (fun _ _ h=>h) (fun hc=>?_) (fun hc=>by cases hc);intro ac W hT hI hO;have h27:_=_:=hI 27 (by simp);have h29:_=_:=hI 29 (by simp);simp only [execOp,Act.eval,h27,h29];go_simp
   try exact tq
  case s9=>refine zO [25,30] [] fun ac W hT hI hO=>?_;have h25:_=_:=hI 25 (by simp);have h30:_=_:=hI 30 (by simp);simp only [execOp,Act.eval,h25,h30];go_simp;try exact tq
  case s10=>refine zO [31] [] fun ac W hT hI hO=>?_;have h31:_=_:=hI 31 (by simp);simp only [execOp,Act.eval,h31];go_simp;try exact tq
  case s11=>
   refine stepOk_guard [32] [0] (by kernel_rfl) 10 false 32 rfl rfl (by simp) true false (fun _ _ h=>h) (fun hc=>?_) (fun hc=>by cases hc);intro ac W hT hI hO;simp only [execOp,Act.eval,hO 0 (by simp)];go_simp
   try exact tq
  case s12=>
   refine stepOk_guard [33,32] [] (by kernel_rfl) 10 false 32 rfl rfl (by simp) true false (fun _ _ h=>h) (fun hc=>?_) (fun hc=>by cases hc);intro ac W hT hI hO;have h33:_=_:=hI 33 (by simp);simp only [execOp,Act.eval,h33];go_simp
   try exact tq
  case s13=>
   refine stepOk_guard [34,32] [] (by kernel_rfl) 10 false 32 rfl rfl (by simp) true false (fun _ _ h=>h) (fun hc=>?_) (fun hc=>by cases hc);intro ac W hT hI hO;have h34:_=_:=hI 34 (by simp);simp only [execOp,Act.eval,h34];go_simp
   try exact tq
  case s14=>
   refine stepOk_guard [35,32] [] (by kernel_rfl) 10 false 32 rfl rfl (by simp) true false (fun _ _ h=>h) (fun hc=>?_) (fun hc=>by cases hc);intro ac W hT hI hO;have h35:_=_:=hI 35 (by simp);obtain ⟨k0,k1⟩:=cells2 (HC6.out.turned0 hT).b;simp only [execOp,Act.eval,h35];go_simp
   try exact tq
  case s15=>
   refine stepOk_guard [32] [7] (by kernel_rfl) 10 false 32 rfl rfl (by simp) true false (fun _ _ h=>h) (fun hc=>?_) (fun hc=>by cases hc);intro ac W hT hI hO;simp only [execOp,Act.eval,hO 7 (by simp)];go_simp
   try exact tq
  case s16=>
   refine stepOk_guard [37,32] [] (by kernel_rfl) 10 false 32 rfl rfl (by simp) true false (fun _ _ h=>h) (fun hc=>?_) (fun hc=>by cases hc);intro ac W hT hI hO;have h37:_=_:=hI 37 (by simp);obtain ⟨e0,e1,e2,e3,e4,e5⟩:=cells6 (H7.out W hT);simp only [execOp,Act.eval,h37];go_simp
   try exact tq
  case s17=>
   refine stepOk_guard [36,38,32] [] (by kernel_rfl) 10 false 32 rfl rfl (by simp) true false (fun _ _ h=>h) (fun hc=>?_) (fun hc=>by cases hc);intro ac W hT hI hO;have h36:_=_:=hI 36 (by simp);have h38:_=_:=hI 38 (by simp);have hlk:=HLK.out W hT;simp only [execOp,Act.eval,h36,h38];go_simp
   try exact tq
  case s18=>
   refine stepOk_guard [32] [7] (by kernel_rfl) 10 false 32 rfl rfl (by simp) true false (fun _ _ h=>h) (fun hc=>?_) (fun hc=>by cases hc);intro ac W hT hI hO;simp only [execOp,Act.eval,hO 7 (by simp)];go_simp
   try exact tq
  case s19=>
   refine stepOk_guard [40,32] [] (by kernel_rfl) 10 false 32 rfl rfl (by simp) true false (fun _ _ h=>h) (fun hc=>?_) (fun hc=>by cases hc);intro ac W hT hI hO;have h40:_=_:=hI 40 (by simp);obtain ⟨e0,e1,e2,e3,e4,e5⟩:=cells6 (H7.out W hT);simp only [execOp,Act.eval,h40];go_simp
   try exact tq
  case s20=>
   refine stepOk_guard [41,32] [] (by kernel_rfl) 10 false 32 rfl rfl (by simp) true false (fun _ _ h=>h) (fun hc=>?_) (fun hc=>by cases hc);intro ac W hT hI hO;have h41:_=_:=hI 41 (by simp);simp only [execOp,Act.eval,h41];go_simp
   try exact tq
  case s21=>
   refine stepOk_guard [39,42,32] [] (by kernel_rfl) 10 false 32 rfl rfl (by simp) true false (fun _ _ h=>h) (fun hc=>?_) (fun hc=>by cases hc);intro ac W hT hI hO;have h39:_=_:=hI 39 (by simp);have h42:_=_:=hI 42 (by simp);simp only [execOp,Act.eval,h39,h42];go_simp
   try exact tq
  case s22=>
   refine zO [32,43] [] fun ac W hT hI hO=>?_;have h32:_=_:=hI 32 (by simp);have h43:_=_:=hI 43 (by simp);simp only [execOp,Act.eval,h32,h43];go_simp
   try exact tq
 case hQ=>
  intro vs7 W7 T7 hV;have q44:vs7 44 = .bool true:=hV 44 (by simp);simp only [Qq,List.foldl_nil,Qk,Qs,Qr,q44];have HT7:=hid T7;clear hV q44 T7
  go_wp2_with fail
  go_ret;exact ⟨rfl,HT6.out.trans HT7.out⟩
set_option maxRecDepth 100000 in
theorem one_var_okT {kb mb:Nat} {k ar sl rg i:Int} {lv:Value} {had:List Int} {s:Stp} {w:World} (C:Chk kb mb k had w) (hf:had.length≤3000) (hs:stOk s) (hop:s.op=sVar) (hb0:0≤s.b) (hb:s.b < sl) (hm:s.b∉had) (h1:s.a=i) (h2:s.c=0) (h3:s.n=0) (h4:s.name=ByteArray.empty) :
 Calls Try.prog 149 #[.pointer (some ⟨kb,0,none⟩),.agg #[.int .i64 ar,.int .i64 sl,.int .i64 rg,lv],.int .i64 i,.agg #[.string s.op,.int .i64 s.a,.int .i64 s.b,.int .i64 s.c,.int .i64 s.n,.string s.name]] w fun e w'=>e = .returned (.bool (goodNameB ByteArray.empty))∧Chk kb mb k (hadN had s.b) w'∧Turned (fun q=>q=mb) w w':=by
 have hnm:=hs.2.2.2.2.2;have hb64:=hs.2.2.1;have o0:=op_Var_Var;have o1:=op_Var_Val;have o2:=op_Var_Int;have o3:=op_Var_Atom;have o4:=op_Var_Comp;have en:=empty_nil;have d1:decide (s.b < 0)=false:=decide_eq_false (by omega);have d2:decide (sl≤s.b)=false:=decide_eq_false (by omega);obtain ⟨T0,z0,z1,z2⟩:=three_boxes w (.cells #[.int .i64 ar,.int .i64 sl,.int .i64 rg,lv] 104) (.cells #[.string sVar,.int .i64 i,.int .i64 s.b,.int .i64 0,.int .i64 0,.string ByteArray.empty] 139) (.cells #[.string sVar,.int .i64 i,.int .i64 s.b,.int .i64 0,.int .i64 0,.string ⟨#[]⟩] 139);obtain ⟨W6,hW6⟩:∃ z,z=((w.alloc (.cells #[.int .i64 ar,.int .i64 sl,.int .i64 rg,lv] 104)).alloc (.cells #[.string sVar,.int .i64 i,.int .i64 s.b,.int .i64 0,.int .i64 0,.string ByteArray.empty] 139)).alloc (.cells #[.string sVar,.int .i64 i,.int .i64 s.b,.int .i64 0,.int .i64 0,.string ⟨#[]⟩] 139):=⟨_,rfl⟩;rw [←hW6] at T0 z0 z1 z2;have T6:=T0;have y0:=z0;have y1:=z1;have y2:=z2;have C6:=C.turned0 T6;have hlt:=C.lt;have HC6:=hid C6;have H5:=hid (fun W (T:Turned zN W6 W)=>(T.bt y0));have H7:=hid (fun W (T:Turned zN W6 W)=>(T.bt y1));have H9:=hid (fun W (T:Turned zN W6 W)=>(T.bt y2));have HT6:=hid T6;have HLT:=hid hlt;have HW6:=hid hW6;have HB64:=hid hb64;have HF:=hid hf;have HLK:=hid (fun W (T:Turned zN W6 W)=>(decide_eq_false hm:decide (s.b∈had)=false) ▸ hadLook (C6.turned0 T).m hb64);rw [hop,h1,h2,h3,h4];clear T0 z0 z1 z2 T6 y0 y1 y2 C6 hlt hW6 hb64 hf C hs;go_enter Try.func149,Try.ntmps149
 go_wp2_with fail
 rw [←HW6.out];refine wp_region_ssa' (G:=(fun dd vv W=>(match dd with | 22=>vv = .pointer (some ⟨w.heap.size+1,2,none⟩) | 23=>vv = .int .i64 s.b | 24=>vv = .bool false | 25=>vv = .bool false | 26=>vv = .pointer (some ⟨w.heap.size+1,2,none⟩) | 27=>vv = .int .i64 s.b | 28=>vv = .pointer (some ⟨w.heap.size,1,none⟩) | 29=>vv = .int .i64 sl | 30=>vv = .bool false | 31=>vv = .bool false | 32=>vv = .bool false | 33=>vv = .pointer (some ⟨kb,0,none⟩) | 34=>vv = .pointer (some ⟨kb,0,none⟩) | 35=>vv = .pointer (some ⟨kb,1,none⟩) | 36=>vv = .map (some mb) | 37=>vv = .pointer (some ⟨w.heap.size+1,2,none⟩) | 38=>vv = .int .i64 s.b | 39=>vv = .bool false | 40=>vv = .pointer (some ⟨w.heap.size+1,0,none⟩) | 41=>vv = .string sVar | 42=>vv = .bool false | 43=>vv = .bool false | 44=>vv = .bool false  | _=>True:Prop))) [22,23,24,25,26,27,28,29,30,31,32,33,34,35,36,37,38,39,40,41,42,43,44] (by kernel_rfl) rfl (by kernel_rfl) ?hG ?hs ?hQ
 case hG=>exact fun d v _ _ _ h=>h
 case hs=>
  refine ⟨?s0,?s1,?s2,?s3,?s4,?s5,?s6,?s7,?s8,?s9,?s10,?s11,?s12,?s13,?s14,?s15,?s16,?s17,?s18,?s19,?s20,?s21,?s22,trivial⟩
  case s0=>refine zO [] [7] fun ac W hT hI hO=>?_;simp only [execOp,Act.eval,hO 7 (by simp)];go_simp;try exact tq
  case s1=>refine zO [22] [] fun ac W hT hI hO=>?_;have h22:_=_:=hI 22 (by simp);obtain ⟨e0,e1,e2,e3,e4,e5⟩:=cells6 (H7.out W hT);simp only [execOp,Act.eval,h22];go_simp;try exact tq
  case s2=>refine zO [23] [] fun ac W hT hI hO=>?_;have h23:_=_:=hI 23 (by simp);simp only [execOp,Act.eval,h23];go_simp;try exact tq
  case s3=>refine zO [24] [] fun ac W hT hI hO=>?_;have h24:_=_:=hI 24 (by simp);simp only [execOp,Act.eval,h24];go_simp;try exact tq
  case s4=>
   refine stepOk_guard [25] [7] (by kernel_rfl) 3 false 25 rfl rfl (by simp) true false (fun _ _ h=>h) (fun hc=>?_) (fun hc=>by cases hc);intro ac W hT hI hO;simp only [execOp,Act.eval,hO 7 (by simp)];go_simp
   try exact tq
  case s5=>
   refine stepOk_guard [26,25] [] (by kernel_rfl) 3 false 25 rfl rfl (by simp) true false (fun _ _ h=>h) (fun hc=>?_) (fun hc=>by cases hc);intro ac W hT hI hO;have h26:_=_:=hI 26 (by simp);obtain ⟨e0,e1,e2,e3,e4,e5⟩:=cells6 (H7.out W hT);simp only [execOp,Act.eval,h26];go_simp
   try exact tq
  case s6=>
   refine stepOk_guard [25] [5] (by kernel_rfl) 3 false 25 rfl rfl (by simp) true false (fun _ _ h=>h) (fun hc=>?_) (fun hc=>by cases hc);intro ac W hT hI hO;simp only [execOp,Act.eval,hO 5 (by simp)];go_simp
   try exact tq
  case s7=>
   refine stepOk_guard [28,25] [] (by kernel_rfl) 3 false 25 rfl rfl (by simp) true false (fun _ _ h=>h) (fun hc=>?_) (fun hc=>by cases hc);intro ac W hT hI hO;have h28:_=_:=hI 28 (by simp);obtain ⟨k0,k1,k2,k3,_⟩:=cells4 (H5.out W hT);simp only [execOp,Act.eval,h28];go_simp
   try exact tq
  case s8=>
   refine stepOk_guard [27,29,25] [] (by kernel_rfl) 3 false 25 rfl rfl (by simp) true false (fun _ _ h=>h) (fun hc=>?_) (fun hc=>by cases hc);intro ac W hT hI hO;have h27:_=_:=hI 27 (by simp);have h29:_=_:=hI 29 (by simp);simp only [execOp,Act.eval,h27,h29];go_simp
   try exact tq
  case s9=>refine zO [25,30] [] fun ac W hT hI hO=>?_;have h25:_=_:=hI 25 (by simp);have h30:_=_:=hI 30 (by simp);simp only [execOp,Act.eval,h25,h30];go_simp;try exact tq
  case s10=>refine zO [31] [] fun ac W hT hI hO=>?_;have h31:_=_:=hI 31 (by simp);simp only [execOp,Act.eval,h31];go_simp;try exact tq
  case s11=>
   refine stepOk_guard [32] [0] (by kernel_rfl) 10 false 32 rfl rfl (by simp) true false (fun _ _ h=>h) (fun hc=>?_) (fun hc=>by cases hc);intro ac W hT hI hO;simp only [execOp,Act.eval,hO 0 (by simp)];go_simp
   try exact tq
  case s12=>
   refine stepOk_guard [33,32] [] (by kernel_rfl) 10 false 32 rfl rfl (by simp) true false (fun _ _ h=>h) (fun hc=>?_) (fun hc=>by cases hc);intro ac W hT hI hO;have h33:_=_:=hI 33 (by simp);simp only [execOp,Act.eval,h33];go_simp
   try exact tq
  case s13=>
   refine stepOk_guard [34,32] [] (by kernel_rfl) 10 false 32 rfl rfl (by simp) true false (fun _ _ h=>h) (fun hc=>?_) (fun hc=>by cases hc);intro ac W hT hI hO;have h34:_=_:=hI 34 (by simp);simp only [execOp,Act.eval,h34];go_simp
   try exact tq
  case s14=>
   refine stepOk_guard [35,32] [] (by kernel_rfl) 10 false 32 rfl rfl (by simp) true false (fun _ _ h=>h) (fun hc=>?_) (fun hc=>by cases hc);intro ac W hT hI hO;have h35:_=_:=hI 35 (by simp);obtain ⟨k0,k1⟩:=cells2 (HC6.out.turned0 hT).b;simp only [execOp,Act.eval,h35];go_simp
   try exact tq
  case s15=>
   refine stepOk_guard [32] [7] (by kernel_rfl) 10 false 32 rfl rfl (by simp) true false (fun _ _ h=>h) (fun hc=>?_) (fun hc=>by cases hc);intro ac W hT hI hO;simp only [execOp,Act.eval,hO 7 (by simp)];go_simp
   try exact tq
  case s16=>
   refine stepOk_guard [37,32] [] (by kernel_rfl) 10 false 32 rfl rfl (by simp) true false (fun _ _ h=>h) (fun hc=>?_) (fun hc=>by cases hc);intro ac W hT hI hO;have h37:_=_:=hI 37 (by simp);obtain ⟨e0,e1,e2,e3,e4,e5⟩:=cells6 (H7.out W hT);simp only [execOp,Act.eval,h37];go_simp
   try exact tq
  case s17=>
   refine stepOk_guard [36,38,32] [] (by kernel_rfl) 10 false 32 rfl rfl (by simp) true false (fun _ _ h=>h) (fun hc=>?_) (fun hc=>by cases hc);intro ac W hT hI hO;have h36:_=_:=hI 36 (by simp);have h38:_=_:=hI 38 (by simp);have hlk:=HLK.out W hT;simp only [execOp,Act.eval,h36,h38];go_simp
   try exact tq
  case s18=>
   refine stepOk_guard [32] [7] (by kernel_rfl) 10 false 32 rfl rfl (by simp) true false (fun _ _ h=>h) (fun hc=>?_) (fun hc=>by cases hc);intro ac W hT hI hO;simp only [execOp,Act.eval,hO 7 (by simp)];go_simp
   try exact tq
  case s19=>
   refine stepOk_guard [40,32] [] (by kernel_rfl) 10 false 32 rfl rfl (by simp) true false (fun _ _ h=>h) (fun hc=>?_) (fun hc=>by cases hc);intro ac W hT hI hO;have h40:_=_:=hI 40 (by simp);obtain ⟨e0,e1,e2,e3,e4,e5⟩:=cells6 (H7.out W hT);simp only [execOp,Act.eval,h40];go_simp
   try exact tq
  case s20=>
   refine stepOk_guard [41,32] [] (by kernel_rfl) 10 false 32 rfl rfl (by simp) true false (fun _ _ h=>h) (fun hc=>?_) (fun hc=>by cases hc);intro ac W hT hI hO;have h41:_=_:=hI 41 (by simp);simp only [execOp,Act.eval,h41];go_simp
   try exact tq
  case s21=>
   refine stepOk_guard [39,42,32] [] (by kernel_rfl) 10 false 32 rfl rfl (by simp) true false (fun _ _ h=>h) (fun hc=>?_) (fun hc=>by cases hc);intro ac W hT hI hO;have h39:_=_:=hI 39 (by simp);have h42:_=_:=hI 42 (by simp);simp only [execOp,Act.eval,h39,h42];go_simp
   try exact tq
  case s22=>
   refine zO [32,43] [] fun ac W hT hI hO=>?_;have h32:_=_:=hI 32 (by simp);have h43:_=_:=hI 43 (by simp);simp only [execOp,Act.eval,h32,h43];go_simp
   try exact tq
 case hQ=>
  intro vs7 W7 T7 hV;have q44:vs7 44 = .bool false:=hV 44 (by simp);simp only [Qq,List.foldl_nil,Qk,Qs,Qr,q44];have HT7:=hid T7;clear hV q44 T7
  go_wp2_with fail
  have HC7:=hid (HC6.out.turned0 HT7.out);have HM7:=hid (fun W (T:Turned (fun q=>q=mb) W7 W)=>(T.block _ (zL (H7.out W7 HT7.out)) (by have:=HLT.out;omega)).trans (H7.out W7 HT7.out));have HM9:=hid (fun W (T:Turned (fun q=>q=mb) W7 W)=>(T.block _ (zL (H9.out W7 HT7.out)) (by have:=HLT.out;omega)).trans (H9.out W7 HT7.out));have HMK:=hid (fun W (T:Turned (fun q=>q=mb) W7 W)=>(T.block _ (zL HC7.out.b) (fun e=>HC7.out.ne e)).trans HC7.out.b);refine wp_region_k [45,46,47,48,49,50] [6] [] (fun dd vv=>(match dd with | 45=>vv = .pointer (some ⟨kb,0,none⟩) | 46=>vv = .pointer (some ⟨kb,0,none⟩) | 47=>vv = .pointer (some ⟨kb,1,none⟩) | 48=>vv = .map (some mb) | 49=>vv = .pointer (some ⟨w.heap.size+1,2,none⟩) | 50=>vv = .int .i64 s.b | _=>True:Prop)) (MapR 3 mb 6 (had.length) (if (hadF had s.b).isSome then had.length else had.length+1) (hadF had) (upd (hadF had) s.b (.bool true)) W7) (by kernel_rfl) rfl (by kernel_rfl) (by kernel_rfl) (fun w h=>MapR.start HC7.out.m h) (fun hs w w' h ht=>h.turned0 ht) ?hs ?hQ
  case hs=>
   refine ⟨?s0,?s1,?s2,?s3,?s4,?s5,?s6,trivial⟩
   case s0=>refine fun hs hl=>zG [] [0] fun ac W hT hI hO=>?_;simp only [execOp,Act.eval,hO 0 (by simp)];go_simp;try exact tq
   case s1=>refine fun hs hl=>zG [45] [] fun ac W hT hI hO=>?_;have h45:_=_:=hI 45 (by simp);simp only [execOp,Act.eval,h45];go_simp;try exact tq
   case s2=>refine fun hs hl=>zG [46] [] fun ac W hT hI hO=>?_;have h46:_=_:=hI 46 (by simp);simp only [execOp,Act.eval,h46];go_simp;try exact tq
   case s3=>refine fun hs hl=>zG [47] [] fun ac W hT hI hO=>?_;have h47:_=_:=hI 47 (by simp);obtain ⟨k0,k1⟩:=cells2 (HMK.out W hT.t);simp only [execOp,Act.eval,h47];go_simp;try exact tq
   case s4=>refine fun hs hl=>zG [] [7] fun ac W hT hI hO=>?_;simp only [execOp,Act.eval,hO 7 (by simp)];go_simp;try exact tq
   case s5=>refine fun hs hl=>zG [49] [] fun ac W hT hI hO=>?_;have h49:_=_:=hI 49 (by simp);obtain ⟨e0,e1,e2,e3,e4,e5⟩:=cells6 (HM7.out W hT.t);simp only [execOp,Act.eval,h49];go_simp;try exact tq
   case s6=>
    refine fun hs hno hl=>zG [48,50] [] fun ac W hT hI hO=>?_;have h48:_=_:=hI 48 (by simp);have h50:_=_:=hI 50 (by simp);obtain ⟨w',hr,hm,T⟩:=(hT.old hno).put law3 Try.underlying145 (by unfold maxLen;have:=HF.out;omega) (v:=.bool true) (key3 HB64.out) trivial;show Brings _ (fun vv w'=>MapR 3 mb 6 (had.length) (if (hadF had s.b).isSome then had.length else had.length+1) (hadF had) (upd (hadF had) s.b (.bool true)) W7 (hs++[(6,vv)]) w') _;simp only [execOp,Act.eval,h48,h50,hr];go_simp;exact hT.put T hm
  case hQ=>
   intro hs8 vs8 W8 hall huniq hR hV;simp only [Qq,List.foldl_nil,Qk,Qs,Qr];obtain ⟨v8,hv8⟩:=hall 6 (by simp);have hmap:=hR.new v8 hv8;rw [had_next.1,had_next.2] at hmap;have HNEW:Hid (Chk kb mb k (hadN had s.b) W8):=⟨HMK.out W8 hR.t,hmap,HC7.out.ne,by have:=HF.out;have:=hadN_len had s.b;omega⟩;have HT8:=hid hR.t;obtain ⟨a0,a1,a2,a3,a4,a5⟩:=cells6 (HM7.out W8 hR.t);obtain ⟨b0,b1,b2,b3,b4,b5⟩:=cells6 (HM9.out W8 hR.t);clear hR hV hall huniq hmap hv8;obtain ⟨B,hB⟩:∃ B,B=goodNameB ByteArray.empty:=⟨_,rfl⟩;have HB:=hid hB
   have hnm0:ByteArray.empty.size≤maxLen:=by unfold maxLen;decide
   clear hB
   go_wp2_with (first
    | (go_at_call 63;(with_reducible refine (atomOnly ByteArray.empty hnm0 _).mono ?_);rintro e W9 ⟨rfl,T9⟩)
    | (go_at_call 38;(with_reducible refine (goodAtom ByteArray.empty hnm0 _).mono ?_);rintro e W10 ⟨rfl,T10⟩;rw [←HB.out]))
   go_ret;exact ⟨by rw [←HB.out];rfl,HNEW.out.turned0 (T9.trans T10),(((HT6.out.trans HT7.out).mono (fun _ _ f=>f.elim)).trans HT8.out).trans ((T9.trans T10).mono (fun _ _ f=>f.elim))⟩
set_option maxRecDepth 100000 in
theorem one_var_okF {kb mb:Nat} {k ar sl rg i:Int} {lv:Value} {had:List Int} {s:Stp} {w:World} (C:Chk kb mb k had w) (hf:had.length≤3000) (hs:stOk s) (hop:s.op=sVar) (hb0:0≤s.b) (hb:s.b < sl) (hm:s.b∉had) (hne:¬ (s.a=i∧s.c=0∧s.n=0∧s.name=ByteArray.empty)) :
 Calls Try.prog 149 #[.pointer (some ⟨kb,0,none⟩),.agg #[.int .i64 ar,.int .i64 sl,.int .i64 rg,lv],.int .i64 i,.agg #[.string s.op,.int .i64 s.a,.int .i64 s.b,.int .i64 s.c,.int .i64 s.n,.string s.name]] w fun e w'=>e = .returned (.bool false)∧Chk kb mb k (hadN had s.b) w'∧Turned (fun q=>q=mb) w w':=by
 have hnm:=hs.2.2.2.2.2;have hb64:=hs.2.2.1;have o0:=op_Var_Var;have o1:=op_Var_Val;have o2:=op_Var_Int;have o3:=op_Var_Atom;have o4:=op_Var_Comp;have en:=empty_nil;have d1:decide (s.b < 0)=false:=decide_eq_false (by omega);have d2:decide (sl≤s.b)=false:=decide_eq_false (by omega);obtain ⟨T0,z0,z1,z2⟩:=three_boxes w (.cells #[.int .i64 ar,.int .i64 sl,.int .i64 rg,lv] 104) (.cells #[.string sVar,.int .i64 s.a,.int .i64 s.b,.int .i64 s.c,.int .i64 s.n,.string s.name] 139) (.cells #[.string sVar,.int .i64 i,.int .i64 s.b,.int .i64 0,.int .i64 0,.string ⟨#[]⟩] 139);obtain ⟨W6,hW6⟩:∃ z,z=((w.alloc (.cells #[.int .i64 ar,.int .i64 sl,.int .i64 rg,lv] 104)).alloc (.cells #[.string sVar,.int .i64 s.a,.int .i64 s.b,.int .i64 s.c,.int .i64 s.n,.string s.name] 139)).alloc (.cells #[.string sVar,.int .i64 i,.int .i64 s.b,.int .i64 0,.int .i64 0,.string ⟨#[]⟩] 139):=⟨_,rfl⟩;rw [←hW6] at T0 z0 z1 z2;have T6:=T0;have y0:=z0;have y1:=z1;have y2:=z2;have C6:=C.turned0 T6;have hlt:=C.lt;have HC6:=hid C6;have H5:=hid (fun W (T:Turned zN W6 W)=>(T.bt y0));have H7:=hid (fun W (T:Turned zN W6 W)=>(T.bt y1));have H9:=hid (fun W (T:Turned zN W6 W)=>(T.bt y2));have HT6:=hid T6;have HLT:=hid hlt;have HW6:=hid hW6;have HB64:=hid hb64;have HF:=hid hf;have HLK:=hid (fun W (T:Turned zN W6 W)=>(decide_eq_false hm:decide (s.b∈had)=false) ▸ hadLook (C6.turned0 T).m hb64);rw [hop];clear T0 z0 z1 z2 T6 y0 y1 y2 C6 hlt hW6 hb64 hf C hs;go_enter Try.func149,Try.ntmps149
 go_wp2_with fail
 rw [←HW6.out];refine wp_region_ssa' (G:=(fun dd vv W=>(match dd with | 22=>vv = .pointer (some ⟨w.heap.size+1,2,none⟩) | 23=>vv = .int .i64 s.b | 24=>vv = .bool false | 25=>vv = .bool false | 26=>vv = .pointer (some ⟨w.heap.size+1,2,none⟩) | 27=>vv = .int .i64 s.b | 28=>vv = .pointer (some ⟨w.heap.size,1,none⟩) | 29=>vv = .int .i64 sl | 30=>vv = .bool false | 31=>vv = .bool false | 32=>vv = .bool false | 33=>vv = .pointer (some ⟨kb,0,none⟩) | 34=>vv = .pointer (some ⟨kb,0,none⟩) | 35=>vv = .pointer (some ⟨kb,1,none⟩) | 36=>vv = .map (some mb) | 37=>vv = .pointer (some ⟨w.heap.size+1,2,none⟩) | 38=>vv = .int .i64 s.b | 39=>vv = .bool false | 40=>vv = .pointer (some ⟨w.heap.size+1,0,none⟩) | 41=>vv = .string sVar | 42=>vv = .bool false | 43=>vv = .bool false | 44=>vv = .bool false  | _=>True:Prop))) [22,23,24,25,26,27,28,29,30,31,32,33,34,35,36,37,38,39,40,41,42,43,44] (by kernel_rfl) rfl (by kernel_rfl) ?hG ?hs ?hQ
 case hG=>exact fun d v _ _ _ h=>h
 case hs=>
  refine ⟨?s0,?s1,?s2,?s3,?s4,?s5,?s6,?s7,?s8,?s9,?s10,?s11,?s12,?s13,?s14,?s15,?s16,?s17,?s18,?s19,?s20,?s21,?s22,trivial⟩
  case s0=>refine zO [] [7] fun ac W hT hI hO=>?_;simp only [execOp,Act.eval,hO 7 (by simp)];go_simp;try exact tq
  case s1=>refine zO [22] [] fun ac W hT hI hO=>?_;have h22:_=_:=hI 22 (by simp);obtain ⟨e0,e1,e2,e3,e4,e5⟩:=cells6 (H7.out W hT);simp only [execOp,Act.eval,h22];go_simp;try exact tq
  case s2=>refine zO [23] [] fun ac W hT hI hO=>?_;have h23:_=_:=hI 23 (by simp);simp only [execOp,Act.eval,h23];go_simp;try exact tq
  case s3=>refine zO [24] [] fun ac W hT hI hO=>?_;have h24:_=_:=hI 24 (by simp);simp only [execOp,Act.eval,h24];go_simp;try exact tq
  case s4=>
   refine stepOk_guard [25] [7] (by kernel_rfl) 3 false 25 rfl rfl (by simp) true false (fun _ _ h=>h) (fun hc=>?_) (fun hc=>by cases hc);intro ac W hT hI hO;simp only [execOp,Act.eval,hO 7 (by simp)];go_simp
   try exact tq
  case s5=>
   refine stepOk_guard [26,25] [] (by kernel_rfl) 3 false 25 rfl rfl (by simp) true false (fun _ _ h=>h) (fun hc=>?_) (fun hc=>by cases hc);intro ac W hT hI hO;have h26:_=_:=hI 26 (by simp);obtain ⟨e0,e1,e2,e3,e4,e5⟩:=cells6 (H7.out W hT);simp only [execOp,Act.eval,h26];go_simp
   try exact tq
  case s6=>
   refine stepOk_guard [25] [5] (by kernel_rfl) 3 false 25 rfl rfl (by simp) true false (fun _ _ h=>h) (fun hc=>?_) (fun hc=>by cases hc);intro ac W hT hI hO;simp only [execOp,Act.eval,hO 5 (by simp)];go_simp
   try exact tq
  case s7=>
   refine stepOk_guard [28,25] [] (by kernel_rfl) 3 false 25 rfl rfl (by simp) true false (fun _ _ h=>h) (fun hc=>?_) (fun hc=>by cases hc);intro ac W hT hI hO;have h28:_=_:=hI 28 (by simp);obtain ⟨k0,k1,k2,k3,_⟩:=cells4 (H5.out W hT);simp only [execOp,Act.eval,h28];go_simp
   try exact tq
  case s8=>
   refine stepOk_guard [27,29,25] [] (by kernel_rfl) 3 false 25 rfl rfl (by simp) true false (fun _ _ h=>h) (fun hc=>?_) (fun hc=>by cases hc);intro ac W hT hI hO;have h27:_=_:=hI 27 (by simp);have h29:_=_:=hI 29 (by simp);simp only [execOp,Act.eval,h27,h29];go_simp
   try exact tq
  case s9=>refine zO [25,30] [] fun ac W hT hI hO=>?_;have h25:_=_:=hI 25 (by simp);have h30:_=_:=hI 30 (by simp);simp only [execOp,Act.eval,h25,h30];go_simp;try exact tq
  case s10=>refine zO [31] [] fun ac W hT hI hO=>?_;have h31:_=_:=hI 31 (by simp);simp only [execOp,Act.eval,h31];go_simp;try exact tq
  case s11=>
   refine stepOk_guard [32] [0] (by kernel_rfl) 10 false 32 rfl rfl (by simp) true false (fun _ _ h=>h) (fun hc=>?_) (fun hc=>by cases hc);intro ac W hT hI hO;simp only [execOp,Act.eval,hO 0 (by simp)];go_simp
   try exact tq
  case s12=>
   refine stepOk_guard [33,32] [] (by kernel_rfl) 10 false 32 rfl rfl (by simp) true false (fun _ _ h=>h) (fun hc=>?_) (fun hc=>by cases hc);intro ac W hT hI hO;have h33:_=_:=hI 33 (by simp);simp only [execOp,Act.eval,h33];go_simp
   try exact tq
  case s13=>
   refine stepOk_guard [34,32] [] (by kernel_rfl) 10 false 32 rfl rfl (by simp) true false (fun _ _ h=>h) (fun hc=>?_) (fun hc=>by cases hc);intro ac W hT hI hO;have h34:_=_:=hI 34 (by simp);simp only [execOp,Act.eval,h34];go_simp
   try exact tq
  case s14=>
   refine stepOk_guard [35,32] [] (by kernel_rfl) 10 false 32 rfl rfl (by simp) true false (fun _ _ h=>h) (fun hc=>?_) (fun hc=>by cases hc);intro ac W hT hI hO;have h35:_=_:=hI 35 (by simp);obtain ⟨k0,k1⟩:=cells2 (HC6.out.turned0 hT).b;simp only [execOp,Act.eval,h35];go_simp
   try exact tq
  case s15=>
   refine stepOk_guard [32] [7] (by kernel_rfl) 10 false 32 rfl rfl (by simp) true false (fun _ _ h=>h) (fun hc=>?_) (fun hc=>by cases hc);intro ac W hT hI hO;simp only [execOp,Act.eval,hO 7 (by simp)];go_simp
   try exact tq
  case s16=>
   refine stepOk_guard [37,32] [] (by kernel_rfl) 10 false 32 rfl rfl (by simp) true false (fun _ _ h=>h) (fun hc=>?_) (fun hc=>by cases hc);intro ac W hT hI hO;have h37:_=_:=hI 37 (by simp);obtain ⟨e0,e1,e2,e3,e4,e5⟩:=cells6 (H7.out W hT);simp only [execOp,Act.eval,h37];go_simp
   try exact tq
  case s17=>
   refine stepOk_guard [36,38,32] [] (by kernel_rfl) 10 false 32 rfl rfl (by simp) true false (fun _ _ h=>h) (fun hc=>?_) (fun hc=>by cases hc);intro ac W hT hI hO;have h36:_=_:=hI 36 (by simp);have h38:_=_:=hI 38 (by simp);have hlk:=HLK.out W hT;simp only [execOp,Act.eval,h36,h38];go_simp
   try exact tq
  case s18=>
   refine stepOk_guard [32] [7] (by kernel_rfl) 10 false 32 rfl rfl (by simp) true false (fun _ _ h=>h) (fun hc=>?_) (fun hc=>by cases hc);intro ac W hT hI hO;simp only [execOp,Act.eval,hO 7 (by simp)];go_simp
   try exact tq
  case s19=>
   refine stepOk_guard [40,32] [] (by kernel_rfl) 10 false 32 rfl rfl (by simp) true false (fun _ _ h=>h) (fun hc=>?_) (fun hc=>by cases hc);intro ac W hT hI hO;have h40:_=_:=hI 40 (by simp);obtain ⟨e0,e1,e2,e3,e4,e5⟩:=cells6 (H7.out W hT);simp only [execOp,Act.eval,h40];go_simp
   try exact tq
  case s20=>
   refine stepOk_guard [41,32] [] (by kernel_rfl) 10 false 32 rfl rfl (by simp) true false (fun _ _ h=>h) (fun hc=>?_) (fun hc=>by cases hc);intro ac W hT hI hO;have h41:_=_:=hI 41 (by simp);simp only [execOp,Act.eval,h41];go_simp
   try exact tq
  case s21=>
   refine stepOk_guard [39,42,32] [] (by kernel_rfl) 10 false 32 rfl rfl (by simp) true false (fun _ _ h=>h) (fun hc=>?_) (fun hc=>by cases hc);intro ac W hT hI hO;have h39:_=_:=hI 39 (by simp);have h42:_=_:=hI 42 (by simp);simp only [execOp,Act.eval,h39,h42];go_simp
   try exact tq
  case s22=>
   refine zO [32,43] [] fun ac W hT hI hO=>?_;have h32:_=_:=hI 32 (by simp);have h43:_=_:=hI 43 (by simp);simp only [execOp,Act.eval,h32,h43];go_simp
   try exact tq
 case hQ=>
  intro vs7 W7 T7 hV;have q44:vs7 44 = .bool false:=hV 44 (by simp);simp only [Qq,List.foldl_nil,Qk,Qs,Qr,q44];have HT7:=hid T7;clear hV q44 T7
  go_wp2_with fail
  have HC7:=hid (HC6.out.turned0 HT7.out);have HM7:=hid (fun W (T:Turned (fun q=>q=mb) W7 W)=>(T.block _ (zL (H7.out W7 HT7.out)) (by have:=HLT.out;omega)).trans (H7.out W7 HT7.out));have HM9:=hid (fun W (T:Turned (fun q=>q=mb) W7 W)=>(T.block _ (zL (H9.out W7 HT7.out)) (by have:=HLT.out;omega)).trans (H9.out W7 HT7.out));have HMK:=hid (fun W (T:Turned (fun q=>q=mb) W7 W)=>(T.block _ (zL HC7.out.b) (fun e=>HC7.out.ne e)).trans HC7.out.b);refine wp_region_k [45,46,47,48,49,50] [6] [] (fun dd vv=>(match dd with | 45=>vv = .pointer (some ⟨kb,0,none⟩) | 46=>vv = .pointer (some ⟨kb,0,none⟩) | 47=>vv = .pointer (some ⟨kb,1,none⟩) | 48=>vv = .map (some mb) | 49=>vv = .pointer (some ⟨w.heap.size+1,2,none⟩) | 50=>vv = .int .i64 s.b | _=>True:Prop)) (MapR 3 mb 6 (had.length) (if (hadF had s.b).isSome then had.length else had.length+1) (hadF had) (upd (hadF had) s.b (.bool true)) W7) (by kernel_rfl) rfl (by kernel_rfl) (by kernel_rfl) (fun w h=>MapR.start HC7.out.m h) (fun hs w w' h ht=>h.turned0 ht) ?hs ?hQ
  case hs=>
   refine ⟨?s0,?s1,?s2,?s3,?s4,?s5,?s6,trivial⟩
   case s0=>refine fun hs hl=>zG [] [0] fun ac W hT hI hO=>?_;simp only [execOp,Act.eval,hO 0 (by simp)];go_simp;try exact tq
   case s1=>refine fun hs hl=>zG [45] [] fun ac W hT hI hO=>?_;have h45:_=_:=hI 45 (by simp);simp only [execOp,Act.eval,h45];go_simp;try exact tq
   case s2=>refine fun hs hl=>zG [46] [] fun ac W hT hI hO=>?_;have h46:_=_:=hI 46 (by simp);simp only [execOp,Act.eval,h46];go_simp;try exact tq
   case s3=>refine fun hs hl=>zG [47] [] fun ac W hT hI hO=>?_;have h47:_=_:=hI 47 (by simp);obtain ⟨k0,k1⟩:=cells2 (HMK.out W hT.t);simp only [execOp,Act.eval,h47];go_simp;try exact tq
   case s4=>refine fun hs hl=>zG [] [7] fun ac W hT hI hO=>?_;simp only [execOp,Act.eval,hO 7 (by simp)];go_simp;try exact tq
   case s5=>refine fun hs hl=>zG [49] [] fun ac W hT hI hO=>?_;have h49:_=_:=hI 49 (by simp);obtain ⟨e0,e1,e2,e3,e4,e5⟩:=cells6 (HM7.out W hT.t);simp only [execOp,Act.eval,h49];go_simp;try exact tq
   case s6=>
    refine fun hs hno hl=>zG [48,50] [] fun ac W hT hI hO=>?_;have h48:_=_:=hI 48 (by simp);have h50:_=_:=hI 50 (by simp);obtain ⟨w',hr,hm,T⟩:=(hT.old hno).put law3 Try.underlying145 (by unfold maxLen;have:=HF.out;omega) (v:=.bool true) (key3 HB64.out) trivial;show Brings _ (fun vv w'=>MapR 3 mb 6 (had.length) (if (hadF had s.b).isSome then had.length else had.length+1) (hadF had) (upd (hadF had) s.b (.bool true)) W7 (hs++[(6,vv)]) w') _;simp only [execOp,Act.eval,h48,h50,hr];go_simp;exact hT.put T hm
  case hQ=>
   intro hs8 vs8 W8 hall huniq hR hV;simp only [Qq,List.foldl_nil,Qk,Qs,Qr];obtain ⟨v8,hv8⟩:=hall 6 (by simp);have hmap:=hR.new v8 hv8;rw [had_next.1,had_next.2] at hmap;have HNEW:Hid (Chk kb mb k (hadN had s.b) W8):=⟨HMK.out W8 hR.t,hmap,HC7.out.ne,by have:=HF.out;have:=hadN_len had s.b;omega⟩;have HT8:=hid hR.t;obtain ⟨a0,a1,a2,a3,a4,a5⟩:=cells6 (HM7.out W8 hR.t);obtain ⟨b0,b1,b2,b3,b4,b5⟩:=cells6 (HM9.out W8 hR.t);clear hR hV hall huniq hmap hv8;have HQ:=hid hne;clear hne
   go_wp2_with (go_at_call 63;exfalso;exact HQ.out ⟨‹_›,‹_›,‹_›,(bytes_nil _).1 ‹_›⟩)
   all_goals
    go_ret;exact ⟨rfl,HNEW.out,((HT6.out.trans HT7.out).mono (fun _ _ f=>f.elim)).trans HT8.out⟩
set_option maxRecDepth 100000 in
theorem one_val_neg {kb mb:Nat} {k ar sl rg i:Int} {lv:Value} {had:List Int} {s:Stp} {w:World} (C:Chk kb mb k had w) (hf:had.length≤3000) (hs:stOk s) (hop:s.op=sVal) (hb:s.b < 0) :
 Calls Try.prog 149 #[.pointer (some ⟨kb,0,none⟩),.agg #[.int .i64 ar,.int .i64 sl,.int .i64 rg,lv],.int .i64 i,.agg #[.string s.op,.int .i64 s.a,.int .i64 s.b,.int .i64 s.c,.int .i64 s.n,.string s.name]] w fun e w'=>e = .returned (.bool false)∧Turned zN w w':=by
 have hnm:=hs.2.2.2.2.2;have hb64:=hs.2.2.1;have o0:=op_Val_Var;have o1:=op_Val_Val;have o2:=op_Val_Int;have o3:=op_Val_Atom;have o4:=op_Val_Comp;have en:=empty_nil;have d1:decide (s.b < 0)=true:=decide_eq_true hb;obtain ⟨T0,z0,z1,z2⟩:=three_boxes w (.cells #[.int .i64 ar,.int .i64 sl,.int .i64 rg,lv] 104) (.cells #[.string sVal,.int .i64 s.a,.int .i64 s.b,.int .i64 s.c,.int .i64 s.n,.string s.name] 139) (.cells #[.string sVal,.int .i64 i,.int .i64 s.b,.int .i64 0,.int .i64 0,.string ⟨#[]⟩] 139);obtain ⟨W6,hW6⟩:∃ z,z=((w.alloc (.cells #[.int .i64 ar,.int .i64 sl,.int .i64 rg,lv] 104)).alloc (.cells #[.string sVal,.int .i64 s.a,.int .i64 s.b,.int .i64 s.c,.int .i64 s.n,.string s.name] 139)).alloc (.cells #[.string sVal,.int .i64 i,.int .i64 s.b,.int .i64 0,.int .i64 0,.string ⟨#[]⟩] 139):=⟨_,rfl⟩;rw [←hW6] at T0 z0 z1 z2;have T6:=T0;have y0:=z0;have y1:=z1;have y2:=z2;have C6:=C.turned0 T6;have hlt:=C.lt;have HC6:=hid C6;have H5:=hid (fun W (T:Turned zN W6 W)=>(T.bt y0));have H7:=hid (fun W (T:Turned zN W6 W)=>(T.bt y1));have H9:=hid (fun W (T:Turned zN W6 W)=>(T.bt y2));have HT6:=hid T6;have HLT:=hid hlt;have HW6:=hid hW6;have HB64:=hid hb64;have HF:=hid hf;rw [hop];clear T0 z0 z1 z2 T6 y0 y1 y2 C6 hlt hW6 hb64 hf C hs;go_enter Try.func149,Try.ntmps149
 go_wp2_with fail
 rw [←HW6.out];refine wp_region_ssa' (G:=(fun dd vv W=>(match dd with | 22=>vv = .pointer (some ⟨w.heap.size+1,2,none⟩) | 23=>vv = .int .i64 s.b | 24=>vv = .bool true | 25=>vv = .bool true | 26=>vv=undef | 27=>vv=undef | 28=>vv=undef | 29=>vv=undef | 30=>vv=undef | 31=>vv = .bool true | 32=>vv = .bool true | 33=>vv=undef | 34=>vv=undef | 35=>vv=undef | 36=>vv=undef | 37=>vv=undef | 38=>vv=undef | 39=>vv=undef | 40=>vv=undef | 41=>vv=undef | 42=>vv=undef | 43=>vv=undef | 44=>vv = .bool true  | _=>True:Prop))) [22,23,24,25,26,27,28,29,30,31,32,33,34,35,36,37,38,39,40,41,42,43,44] (by kernel_rfl) rfl (by kernel_rfl) ?hG ?hs ?hQ
 case hG=>exact fun d v _ _ _ h=>h
 case hs=>
  refine ⟨?s0,?s1,?s2,?s3,?s4,?s5,?s6,?s7,?s8,?s9,?s10,?s11,?s12,?s13,?s14,?s15,?s16,?s17,?s18,?s19,?s20,?s21,?s22,trivial⟩
  case s0=>refine zO [] [7] fun ac W hT hI hO=>?_;simp only [execOp,Act.eval,hO 7 (by simp)];go_simp;try exact tq
  case s1=>refine zO [22] [] fun ac W hT hI hO=>?_;have h22:_=_:=hI 22 (by simp);obtain ⟨e0,e1,e2,e3,e4,e5⟩:=cells6 (H7.out W hT);simp only [execOp,Act.eval,h22];go_simp;try exact tq
  case s2=>refine zO [23] [] fun ac W hT hI hO=>?_;have h23:_=_:=hI 23 (by simp);simp only [execOp,Act.eval,h23];go_simp;try exact tq
  case s3=>refine zO [24] [] fun ac W hT hI hO=>?_;have h24:_=_:=hI 24 (by simp);simp only [execOp,Act.eval,h24];go_simp;try exact tq
  case s4=>exact stepOk_guard [25] [7] (by kernel_rfl) 3 false 25 rfl rfl (by simp) true true (fun _ _ h=>h) (fun hc=>by cases hc) (fun _ _=>rfl)
  case s5=>exact stepOk_guard [26,25] [] (by kernel_rfl) 3 false 25 rfl rfl (by simp) true true (fun _ _ h=>h) (fun hc=>by cases hc) (fun _ _=>rfl)
  case s6=>exact stepOk_guard [25] [5] (by kernel_rfl) 3 false 25 rfl rfl (by simp) true true (fun _ _ h=>h) (fun hc=>by cases hc) (fun _ _=>rfl)
  case s7=>exact stepOk_guard [28,25] [] (by kernel_rfl) 3 false 25 rfl rfl (by simp) true true (fun _ _ h=>h) (fun hc=>by cases hc) (fun _ _=>rfl)
  case s8=>exact stepOk_guard [27,29,25] [] (by kernel_rfl) 3 false 25 rfl rfl (by simp) true true (fun _ _ h=>h) (fun hc=>by cases hc) (fun _ _=>rfl)
  case s9=>refine zO [25,30] [] fun ac W hT hI hO=>?_;have h25:_=_:=hI 25 (by simp);have h30:_=_:=hI 30 (by simp);simp only [execOp,Act.eval,h25,h30];go_simp;try exact tq
  case s10=>refine zO [31] [] fun ac W hT hI hO=>?_;have h31:_=_:=hI 31 (by simp);simp only [execOp,Act.eval,h31];go_simp;try exact tq
  case s11=>exact stepOk_guard [32] [0] (by kernel_rfl) 10 false 32 rfl rfl (by simp) true true (fun _ _ h=>h) (fun hc=>by cases hc) (fun _ _=>rfl)
  case s12=>exact stepOk_guard [33,32] [] (by kernel_rfl) 10 false 32 rfl rfl (by simp) true true (fun _ _ h=>h) (fun hc=>by cases hc) (fun _ _=>rfl)
  case s13=>exact stepOk_guard [34,32] [] (by kernel_rfl) 10 false 32 rfl rfl (by simp) true true (fun _ _ h=>h) (fun hc=>by cases hc) (fun _ _=>rfl)
  case s14=>exact stepOk_guard [35,32] [] (by kernel_rfl) 10 false 32 rfl rfl (by simp) true true (fun _ _ h=>h) (fun hc=>by cases hc) (fun _ _=>rfl)
  case s15=>exact stepOk_guard [32] [7] (by kernel_rfl) 10 false 32 rfl rfl (by simp) true true (fun _ _ h=>h) (fun hc=>by cases hc) (fun _ _=>rfl)
  case s16=>exact stepOk_guard [37,32] [] (by kernel_rfl) 10 false 32 rfl rfl (by simp) true true (fun _ _ h=>h) (fun hc=>by cases hc) (fun _ _=>rfl)
  case s17=>exact stepOk_guard [36,38,32] [] (by kernel_rfl) 10 false 32 rfl rfl (by simp) true true (fun _ _ h=>h) (fun hc=>by cases hc) (fun _ _=>rfl)
  case s18=>exact stepOk_guard [32] [7] (by kernel_rfl) 10 false 32 rfl rfl (by simp) true true (fun _ _ h=>h) (fun hc=>by cases hc) (fun _ _=>rfl)
  case s19=>exact stepOk_guard [40,32] [] (by kernel_rfl) 10 false 32 rfl rfl (by simp) true true (fun _ _ h=>h) (fun hc=>by cases hc) (fun _ _=>rfl)
  case s20=>exact stepOk_guard [41,32] [] (by kernel_rfl) 10 false 32 rfl rfl (by simp) true true (fun _ _ h=>h) (fun hc=>by cases hc) (fun _ _=>rfl)
  case s21=>exact stepOk_guard [39,42,32] [] (by kernel_rfl) 10 false 32 rfl rfl (by simp) true true (fun _ _ h=>h) (fun hc=>by cases hc) (fun _ _=>rfl)
  case s22=>
   refine zO [32,43] [] fun ac W hT hI hO=>?_;have h32:_=_:=hI 32 (by simp);have h43:_=_:=hI 43 (by simp);simp only [execOp,Act.eval,h32,h43];go_simp
   try exact tq
 case hQ=>
  intro vs7 W7 T7 hV;have q44:vs7 44 = .bool true:=hV 44 (by simp);simp only [Qq,List.foldl_nil,Qk,Qs,Qr,q44];have HT7:=hid T7;clear hV q44 T7
  go_wp2_with fail
  go_ret;exact ⟨rfl,HT6.out.trans HT7.out⟩
set_option maxRecDepth 100000 in
theorem one_val_big {kb mb:Nat} {k ar sl rg i:Int} {lv:Value} {had:List Int} {s:Stp} {w:World} (C:Chk kb mb k had w) (hf:had.length≤3000) (hs:stOk s) (hop:s.op=sVal) (hb0:0≤s.b) (hb:sl≤s.b) :
 Calls Try.prog 149 #[.pointer (some ⟨kb,0,none⟩),.agg #[.int .i64 ar,.int .i64 sl,.int .i64 rg,lv],.int .i64 i,.agg #[.string s.op,.int .i64 s.a,.int .i64 s.b,.int .i64 s.c,.int .i64 s.n,.string s.name]] w fun e w'=>e = .returned (.bool false)∧Turned zN w w':=by
 have hnm:=hs.2.2.2.2.2;have hb64:=hs.2.2.1;have o0:=op_Val_Var;have o1:=op_Val_Val;have o2:=op_Val_Int;have o3:=op_Val_Atom;have o4:=op_Val_Comp;have en:=empty_nil;have d1:decide (s.b < 0)=false:=decide_eq_false (by omega);have d2:decide (sl≤s.b)=true:=decide_eq_true hb;obtain ⟨T0,z0,z1,z2⟩:=three_boxes w (.cells #[.int .i64 ar,.int .i64 sl,.int .i64 rg,lv] 104) (.cells #[.string sVal,.int .i64 s.a,.int .i64 s.b,.int .i64 s.c,.int .i64 s.n,.string s.name] 139) (.cells #[.string sVal,.int .i64 i,.int .i64 s.b,.int .i64 0,.int .i64 0,.string ⟨#[]⟩] 139);obtain ⟨W6,hW6⟩:∃ z,z=((w.alloc (.cells #[.int .i64 ar,.int .i64 sl,.int .i64 rg,lv] 104)).alloc (.cells #[.string sVal,.int .i64 s.a,.int .i64 s.b,.int .i64 s.c,.int .i64 s.n,.string s.name] 139)).alloc (.cells #[.string sVal,.int .i64 i,.int .i64 s.b,.int .i64 0,.int .i64 0,.string ⟨#[]⟩] 139):=⟨_,rfl⟩;rw [←hW6] at T0 z0 z1 z2;have T6:=T0;have y0:=z0;have y1:=z1;have y2:=z2;have C6:=C.turned0 T6;have hlt:=C.lt;have HC6:=hid C6;have H5:=hid (fun W (T:Turned zN W6 W)=>(T.bt y0));have H7:=hid (fun W (T:Turned zN W6 W)=>(T.bt y1));have H9:=hid (fun W (T:Turned zN W6 W)=>(T.bt y2));have HT6:=hid T6;have HLT:=hid hlt;have HW6:=hid hW6;have HB64:=hid hb64;have HF:=hid hf;rw [hop];clear T0 z0 z1 z2 T6 y0 y1 y2 C6 hlt hW6 hb64 hf C hs;go_enter Try.func149,Try.ntmps149
 go_wp2_with fail
 rw [←HW6.out];refine wp_region_ssa' (G:=(fun dd vv W=>(match dd with | 22=>vv = .pointer (some ⟨w.heap.size+1,2,none⟩) | 23=>vv = .int .i64 s.b | 24=>vv = .bool false | 25=>vv = .bool false | 26=>vv = .pointer (some ⟨w.heap.size+1,2,none⟩) | 27=>vv = .int .i64 s.b | 28=>vv = .pointer (some ⟨w.heap.size,1,none⟩) | 29=>vv = .int .i64 sl | 30=>vv = .bool true | 31=>vv = .bool true | 32=>vv = .bool true | 33=>vv=undef | 34=>vv=undef | 35=>vv=undef | 36=>vv=undef | 37=>vv=undef | 38=>vv=undef | 39=>vv=undef | 40=>vv=undef | 41=>vv=undef | 42=>vv=undef | 43=>vv=undef | 44=>vv = .bool true  | _=>True:Prop))) [22,23,24,25,26,27,28,29,30,31,32,33,34,35,36,37,38,39,40,41,42,43,44] (by kernel_rfl) rfl (by kernel_rfl) ?hG ?hs ?hQ
 case hG=>exact fun d v _ _ _ h=>h
 case hs=>
  refine ⟨?s0,?s1,?s2,?s3,?s4,?s5,?s6,?s7,?s8,?s9,?s10,?s11,?s12,?s13,?s14,?s15,?s16,?s17,?s18,?s19,?s20,?s21,?s22,trivial⟩
  case s0=>refine zO [] [7] fun ac W hT hI hO=>?_;simp only [execOp,Act.eval,hO 7 (by simp)];go_simp;try exact tq
  case s1=>refine zO [22] [] fun ac W hT hI hO=>?_;have h22:_=_:=hI 22 (by simp);obtain ⟨e0,e1,e2,e3,e4,e5⟩:=cells6 (H7.out W hT);simp only [execOp,Act.eval,h22];go_simp;try exact tq
  case s2=>refine zO [23] [] fun ac W hT hI hO=>?_;have h23:_=_:=hI 23 (by simp);simp only [execOp,Act.eval,h23];go_simp;try exact tq
  case s3=>refine zO [24] [] fun ac W hT hI hO=>?_;have h24:_=_:=hI 24 (by simp);simp only [execOp,Act.eval,h24];go_simp;try exact tq
  case s4=>
   refine stepOk_guard [25] [7] (by kernel_rfl) 3 false 25 rfl rfl (by simp) true false (fun _ _ h=>h) (fun hc=>?_) (fun hc=>by cases hc);intro ac W hT hI hO;simp only [execOp,Act.eval,hO 7 (by simp)];go_simp
   try exact tq
  case s5=>
   refine stepOk_guard [26,25] [] (by kernel_rfl) 3 false 25 rfl rfl (by simp) true false (fun _ _ h=>h) (fun hc=>?_) (fun hc=>by cases hc);intro ac W hT hI hO;have h26:_=_:=hI 26 (by simp);obtain ⟨e0,e1,e2,e3,e4,e5⟩:=cells6 (H7.out W hT);simp only [execOp,Act.eval,h26];go_simp
   try exact tq
  case s6=>
   refine stepOk_guard [25] [5] (by kernel_rfl) 3 false 25 rfl rfl (by simp) true false (fun _ _ h=>h) (fun hc=>?_) (fun hc=>by cases hc);intro ac W hT hI hO;simp only [execOp,Act.eval,hO 5 (by simp)];go_simp
   try exact tq
  case s7=>
   refine stepOk_guard [28,25] [] (by kernel_rfl) 3 false 25 rfl rfl (by simp) true false (fun _ _ h=>h) (fun hc=>?_) (fun hc=>by cases hc);intro ac W hT hI hO;have h28:_=_:=hI 28 (by simp);obtain ⟨k0,k1,k2,k3,_⟩:=cells4 (H5.out W hT);simp only [execOp,Act.eval,h28];go_simp
   try exact tq
  case s8=>
   refine stepOk_guard [27,29,25] [] (by kernel_rfl) 3 false 25 rfl rfl (by simp) true false (fun _ _ h=>h) (fun hc=>?_) (fun hc=>by cases hc);intro ac W hT hI hO;have h27:_=_:=hI 27 (by simp);have h29:_=_:=hI 29 (by simp);simp only [execOp,Act.eval,h27,h29];go_simp
   try exact tq
  case s9=>refine zO [25,30] [] fun ac W hT hI hO=>?_;have h25:_=_:=hI 25 (by simp);have h30:_=_:=hI 30 (by simp);simp only [execOp,Act.eval,h25,h30];go_simp;try exact tq
  case s10=>refine zO [31] [] fun ac W hT hI hO=>?_;have h31:_=_:=hI 31 (by simp);simp only [execOp,Act.eval,h31];go_simp;try exact tq
  case s11=>exact stepOk_guard [32] [0] (by kernel_rfl) 10 false 32 rfl rfl (by simp) true true (fun _ _ h=>h) (fun hc=>by cases hc) (fun _ _=>rfl)
  case s12=>exact stepOk_guard [33,32] [] (by kernel_rfl) 10 false 32 rfl rfl (by simp) true true (fun _ _ h=>h) (fun hc=>by cases hc) (fun _ _=>rfl)
  case s13=>exact stepOk_guard [34,32] [] (by kernel_rfl) 10 false 32 rfl rfl (by simp) true true (fun _ _ h=>h) (fun hc=>by cases hc) (fun _ _=>rfl)
  case s14=>exact stepOk_guard [35,32] [] (by kernel_rfl) 10 false 32 rfl rfl (by simp) true true (fun _ _ h=>h) (fun hc=>by cases hc) (fun _ _=>rfl)
  case s15=>exact stepOk_guard [32] [7] (by kernel_rfl) 10 false 32 rfl rfl (by simp) true true (fun _ _ h=>h) (fun hc=>by cases hc) (fun _ _=>rfl)
  case s16=>exact stepOk_guard [37,32] [] (by kernel_rfl) 10 false 32 rfl rfl (by simp) true true (fun _ _ h=>h) (fun hc=>by cases hc) (fun _ _=>rfl)
  case s17=>exact stepOk_guard [36,38,32] [] (by kernel_rfl) 10 false 32 rfl rfl (by simp) true true (fun _ _ h=>h) (fun hc=>by cases hc) (fun _ _=>rfl)
  case s18=>exact stepOk_guard [32] [7] (by kernel_rfl) 10 false 32 rfl rfl (by simp) true true (fun _ _ h=>h) (fun hc=>by cases hc) (fun _ _=>rfl)
  case s19=>exact stepOk_guard [40,32] [] (by kernel_rfl) 10 false 32 rfl rfl (by simp) true true (fun _ _ h=>h) (fun hc=>by cases hc) (fun _ _=>rfl)
  case s20=>exact stepOk_guard [41,32] [] (by kernel_rfl) 10 false 32 rfl rfl (by simp) true true (fun _ _ h=>h) (fun hc=>by cases hc) (fun _ _=>rfl)
  case s21=>exact stepOk_guard [39,42,32] [] (by kernel_rfl) 10 false 32 rfl rfl (by simp) true true (fun _ _ h=>h) (fun hc=>by cases hc) (fun _ _=>rfl)
  case s22=>
   refine zO [32,43] [] fun ac W hT hI hO=>?_;have h32:_=_:=hI 32 (by simp);have h43:_=_:=hI 43 (by simp);simp only [execOp,Act.eval,h32,h43];go_simp
   try exact tq
 case hQ=>
  intro vs7 W7 T7 hV;have q44:vs7 44 = .bool true:=hV 44 (by simp);simp only [Qq,List.foldl_nil,Qk,Qs,Qr,q44];have HT7:=hid T7;clear hV q44 T7
  go_wp2_with fail
  go_ret;exact ⟨rfl,HT6.out.trans HT7.out⟩
set_option maxRecDepth 100000 in
theorem one_val_mis {kb mb:Nat} {k ar sl rg i:Int} {lv:Value} {had:List Int} {s:Stp} {w:World} (C:Chk kb mb k had w) (hf:had.length≤3000) (hs:stOk s) (hop:s.op=sVal) (hb0:0≤s.b) (hb:s.b < sl) (hm:s.b∉had) :
 Calls Try.prog 149 #[.pointer (some ⟨kb,0,none⟩),.agg #[.int .i64 ar,.int .i64 sl,.int .i64 rg,lv],.int .i64 i,.agg #[.string s.op,.int .i64 s.a,.int .i64 s.b,.int .i64 s.c,.int .i64 s.n,.string s.name]] w fun e w'=>e = .returned (.bool false)∧Turned zN w w':=by
 have hnm:=hs.2.2.2.2.2;have hb64:=hs.2.2.1;have o0:=op_Val_Var;have o1:=op_Val_Val;have o2:=op_Val_Int;have o3:=op_Val_Atom;have o4:=op_Val_Comp;have en:=empty_nil;have d1:decide (s.b < 0)=false:=decide_eq_false (by omega);have d2:decide (sl≤s.b)=false:=decide_eq_false (by omega);obtain ⟨T0,z0,z1,z2⟩:=three_boxes w (.cells #[.int .i64 ar,.int .i64 sl,.int .i64 rg,lv] 104) (.cells #[.string sVal,.int .i64 s.a,.int .i64 s.b,.int .i64 s.c,.int .i64 s.n,.string s.name] 139) (.cells #[.string sVal,.int .i64 i,.int .i64 s.b,.int .i64 0,.int .i64 0,.string ⟨#[]⟩] 139);obtain ⟨W6,hW6⟩:∃ z,z=((w.alloc (.cells #[.int .i64 ar,.int .i64 sl,.int .i64 rg,lv] 104)).alloc (.cells #[.string sVal,.int .i64 s.a,.int .i64 s.b,.int .i64 s.c,.int .i64 s.n,.string s.name] 139)).alloc (.cells #[.string sVal,.int .i64 i,.int .i64 s.b,.int .i64 0,.int .i64 0,.string ⟨#[]⟩] 139):=⟨_,rfl⟩;rw [←hW6] at T0 z0 z1 z2;have T6:=T0;have y0:=z0;have y1:=z1;have y2:=z2;have C6:=C.turned0 T6;have hlt:=C.lt;have HC6:=hid C6;have H5:=hid (fun W (T:Turned zN W6 W)=>(T.bt y0));have H7:=hid (fun W (T:Turned zN W6 W)=>(T.bt y1));have H9:=hid (fun W (T:Turned zN W6 W)=>(T.bt y2));have HT6:=hid T6;have HLT:=hid hlt;have HW6:=hid hW6;have HB64:=hid hb64;have HF:=hid hf;have HLK:=hid (fun W (T:Turned zN W6 W)=>(decide_eq_false hm:decide (s.b∈had)=false) ▸ hadLook (C6.turned0 T).m hb64);rw [hop];clear T0 z0 z1 z2 T6 y0 y1 y2 C6 hlt hW6 hb64 hf C hs;go_enter Try.func149,Try.ntmps149
 go_wp2_with fail
 rw [←HW6.out];refine wp_region_ssa' (G:=(fun dd vv W=>(match dd with | 22=>vv = .pointer (some ⟨w.heap.size+1,2,none⟩) | 23=>vv = .int .i64 s.b | 24=>vv = .bool false | 25=>vv = .bool false | 26=>vv = .pointer (some ⟨w.heap.size+1,2,none⟩) | 27=>vv = .int .i64 s.b | 28=>vv = .pointer (some ⟨w.heap.size,1,none⟩) | 29=>vv = .int .i64 sl | 30=>vv = .bool false | 31=>vv = .bool false | 32=>vv = .bool false | 33=>vv = .pointer (some ⟨kb,0,none⟩) | 34=>vv = .pointer (some ⟨kb,0,none⟩) | 35=>vv = .pointer (some ⟨kb,1,none⟩) | 36=>vv = .map (some mb) | 37=>vv = .pointer (some ⟨w.heap.size+1,2,none⟩) | 38=>vv = .int .i64 s.b | 39=>vv = .bool false | 40=>vv = .pointer (some ⟨w.heap.size+1,0,none⟩) | 41=>vv = .string sVal | 42=>vv = .bool true | 43=>vv = .bool true | 44=>vv = .bool true  | _=>True:Prop))) [22,23,24,25,26,27,28,29,30,31,32,33,34,35,36,37,38,39,40,41,42,43,44] (by kernel_rfl) rfl (by kernel_rfl) ?hG ?hs ?hQ
 case hG=>exact fun d v _ _ _ h=>h
 case hs=>
  refine ⟨?s0,?s1,?s2,?s3,?s4,?s5,?s6,?s7,?s8,?s9,?s10,?s11,?s12,?s13,?s14,?s15,?s16,?s17,?s18,?s19,?s20,?s21,?s22,trivial⟩
  case s0=>refine zO [] [7] fun ac W hT hI hO=>?_;simp only [execOp,Act.eval,hO 7 (by simp)];go_simp;try exact tq
  case s1=>refine zO [22] [] fun ac W hT hI hO=>?_;have h22:_=_:=hI 22 (by simp);obtain ⟨e0,e1,e2,e3,e4,e5⟩:=cells6 (H7.out W hT);simp only [execOp,Act.eval,h22];go_simp;try exact tq
  case s2=>refine zO [23] [] fun ac W hT hI hO=>?_;have h23:_=_:=hI 23 (by simp);simp only [execOp,Act.eval,h23];go_simp;try exact tq
  case s3=>refine zO [24] [] fun ac W hT hI hO=>?_;have h24:_=_:=hI 24 (by simp);simp only [execOp,Act.eval,h24];go_simp;try exact tq
  case s4=>
   refine stepOk_guard [25] [7] (by kernel_rfl) 3 false 25 rfl rfl (by simp) true false (fun _ _ h=>h) (fun hc=>?_) (fun hc=>by cases hc);intro ac W hT hI hO;simp only [execOp,Act.eval,hO 7 (by simp)];go_simp
   try exact tq
  case s5=>
   refine stepOk_guard [26,25] [] (by kernel_rfl) 3 false 25 rfl rfl (by simp) true false (fun _ _ h=>h) (fun hc=>?_) (fun hc=>by cases hc);intro ac W hT hI hO;have h26:_=_:=hI 26 (by simp);obtain ⟨e0,e1,e2,e3,e4,e5⟩:=cells6 (H7.out W hT);simp only [execOp,Act.eval,h26];go_simp
   try exact tq
  case s6=>
   refine stepOk_guard [25] [5] (by kernel_rfl) 3 false 25 rfl rfl (by simp) true false (fun _ _ h=>h) (fun hc=>?_) (fun hc=>by cases hc);intro ac W hT hI hO;simp only [execOp,Act.eval,hO 5 (by simp)];go_simp
   try exact tq
  case s7=>
   refine stepOk_guard [28,25] [] (by kernel_rfl) 3 false 25 rfl rfl (by simp) true false (fun _ _ h=>h) (fun hc=>?_) (fun hc=>by cases hc);intro ac W hT hI hO;have h28:_=_:=hI 28 (by simp);obtain ⟨k0,k1,k2,k3,_⟩:=cells4 (H5.out W hT);simp only [execOp,Act.eval,h28];go_simp
   try exact tq
  case s8=>
   refine stepOk_guard [27,29,25] [] (by kernel_rfl) 3 false 25 rfl rfl (by simp) true false (fun _ _ h=>h) (fun hc=>?_) (fun hc=>by cases hc);intro ac W hT hI hO;have h27:_=_:=hI 27 (by simp);have h29:_=_:=hI 29 (by simp);simp only [execOp,Act.eval,h27,h29];go_simp
   try exact tq
  case s9=>refine zO [25,30] [] fun ac W hT hI hO=>?_;have h25:_=_:=hI 25 (by simp);have h30:_=_:=hI 30 (by simp);simp only [execOp,Act.eval,h25,h30];go_simp;try exact tq
  case s10=>refine zO [31] [] fun ac W hT hI hO=>?_;have h31:_=_:=hI 31 (by simp);simp only [execOp,Act.eval,h31];go_simp;try exact tq
  case s11=>
   refine stepOk_guard [32] [0] (by kernel_rfl) 10 false 32 rfl rfl (by simp) true false (fun _ _ h=>h) (fun hc=>?_) (fun hc=>by cases hc);intro ac W hT hI hO;simp only [execOp,Act.eval,hO 0 (by simp)];go_simp
   try exact tq
  case s12=>
   refine stepOk_guard [33,32] [] (by kernel_rfl) 10 false 32 rfl rfl (by simp) true false (fun _ _ h=>h) (fun hc=>?_) (fun hc=>by cases hc);intro ac W hT hI hO;have h33:_=_:=hI 33 (by simp);simp only [execOp,Act.eval,h33];go_simp
   try exact tq
  case s13=>
   refine stepOk_guard [34,32] [] (by kernel_rfl) 10 false 32 rfl rfl (by simp) true false (fun _ _ h=>h) (fun hc=>?_) (fun hc=>by cases hc);intro ac W hT hI hO;have h34:_=_:=hI 34 (by simp);simp only [execOp,Act.eval,h34];go_simp
   try exact tq
  case s14=>
   refine stepOk_guard [35,32] [] (by kernel_rfl) 10 false 32 rfl rfl (by simp) true false (fun _ _ h=>h) (fun hc=>?_) (fun hc=>by cases hc);intro ac W hT hI hO;have h35:_=_:=hI 35 (by simp);obtain ⟨k0,k1⟩:=cells2 (HC6.out.turned0 hT).b;simp only [execOp,Act.eval,h35];go_simp
   try exact tq
  case s15=>
   refine stepOk_guard [32] [7] (by kernel_rfl) 10 false 32 rfl rfl (by simp) true false (fun _ _ h=>h) (fun hc=>?_) (fun hc=>by cases hc);intro ac W hT hI hO;simp only [execOp,Act.eval,hO 7 (by simp)];go_simp
   try exact tq
  case s16=>
   refine stepOk_guard [37,32] [] (by kernel_rfl) 10 false 32 rfl rfl (by simp) true false (fun _ _ h=>h) (fun hc=>?_) (fun hc=>by cases hc);intro ac W hT hI hO;have h37:_=_:=hI 37 (by simp);obtain ⟨e0,e1,e2,e3,e4,e5⟩:=cells6 (H7.out W hT);simp only [execOp,Act.eval,h37];go_simp
   try exact tq
  case s17=>
   refine stepOk_guard [36,38,32] [] (by kernel_rfl) 10 false 32 rfl rfl (by simp) true false (fun _ _ h=>h) (fun hc=>?_) (fun hc=>by cases hc);intro ac W hT hI hO;have h36:_=_:=hI 36 (by simp);have h38:_=_:=hI 38 (by simp);have hlk:=HLK.out W hT;simp only [execOp,Act.eval,h36,h38];go_simp
   try exact tq
  case s18=>
   refine stepOk_guard [32] [7] (by kernel_rfl) 10 false 32 rfl rfl (by simp) true false (fun _ _ h=>h) (fun hc=>?_) (fun hc=>by cases hc);intro ac W hT hI hO;simp only [execOp,Act.eval,hO 7 (by simp)];go_simp
   try exact tq
  case s19=>
   refine stepOk_guard [40,32] [] (by kernel_rfl) 10 false 32 rfl rfl (by simp) true false (fun _ _ h=>h) (fun hc=>?_) (fun hc=>by cases hc);intro ac W hT hI hO;have h40:_=_:=hI 40 (by simp);obtain ⟨e0,e1,e2,e3,e4,e5⟩:=cells6 (H7.out W hT);simp only [execOp,Act.eval,h40];go_simp
   try exact tq
  case s20=>
   refine stepOk_guard [41,32] [] (by kernel_rfl) 10 false 32 rfl rfl (by simp) true false (fun _ _ h=>h) (fun hc=>?_) (fun hc=>by cases hc);intro ac W hT hI hO;have h41:_=_:=hI 41 (by simp);simp only [execOp,Act.eval,h41];go_simp
   try exact tq
  case s21=>
   refine stepOk_guard [39,42,32] [] (by kernel_rfl) 10 false 32 rfl rfl (by simp) true false (fun _ _ h=>h) (fun hc=>?_) (fun hc=>by cases hc);intro ac W hT hI hO;have h39:_=_:=hI 39 (by simp);have h42:_=_:=hI 42 (by simp);simp only [execOp,Act.eval,h39,h42];go_simp
   try exact tq
  case s22=>
   refine zO [32,43] [] fun ac W hT hI hO=>?_;have h32:_=_:=hI 32 (by simp);have h43:_=_:=hI 43 (by simp);simp only [execOp,Act.eval,h32,h43];go_simp
   try exact tq
 case hQ=>
  intro vs7 W7 T7 hV;have q44:vs7 44 = .bool true:=hV 44 (by simp);simp only [Qq,List.foldl_nil,Qk,Qs,Qr,q44];have HT7:=hid T7;clear hV q44 T7
  go_wp2_with fail
  go_ret;exact ⟨rfl,HT6.out.trans HT7.out⟩
set_option maxRecDepth 100000 in
theorem one_val_okT {kb mb:Nat} {k ar sl rg i:Int} {lv:Value} {had:List Int} {s:Stp} {w:World} (C:Chk kb mb k had w) (hf:had.length≤3000) (hs:stOk s) (hop:s.op=sVal) (hb0:0≤s.b) (hb:s.b < sl) (hm:s.b∈had) (h1:s.a=i) (h2:s.c=0) (h3:s.n=0) (h4:s.name=ByteArray.empty) :
 Calls Try.prog 149 #[.pointer (some ⟨kb,0,none⟩),.agg #[.int .i64 ar,.int .i64 sl,.int .i64 rg,lv],.int .i64 i,.agg #[.string s.op,.int .i64 s.a,.int .i64 s.b,.int .i64 s.c,.int .i64 s.n,.string s.name]] w fun e w'=>e = .returned (.bool (goodNameB ByteArray.empty))∧Chk kb mb k (hadN had s.b) w'∧Turned (fun q=>q=mb) w w':=by
 have hnm:=hs.2.2.2.2.2;have hb64:=hs.2.2.1;have o0:=op_Val_Var;have o1:=op_Val_Val;have o2:=op_Val_Int;have o3:=op_Val_Atom;have o4:=op_Val_Comp;have en:=empty_nil;have d1:decide (s.b < 0)=false:=decide_eq_false (by omega);have d2:decide (sl≤s.b)=false:=decide_eq_false (by omega);obtain ⟨T0,z0,z1,z2⟩:=three_boxes w (.cells #[.int .i64 ar,.int .i64 sl,.int .i64 rg,lv] 104) (.cells #[.string sVal,.int .i64 i,.int .i64 s.b,.int .i64 0,.int .i64 0,.string ByteArray.empty] 139) (.cells #[.string sVal,.int .i64 i,.int .i64 s.b,.int .i64 0,.int .i64 0,.string ⟨#[]⟩] 139);obtain ⟨W6,hW6⟩:∃ z,z=((w.alloc (.cells #[.int .i64 ar,.int .i64 sl,.int .i64 rg,lv] 104)).alloc (.cells #[.string sVal,.int .i64 i,.int .i64 s.b,.int .i64 0,.int .i64 0,.string ByteArray.empty] 139)).alloc (.cells #[.string sVal,.int .i64 i,.int .i64 s.b,.int .i64 0,.int .i64 0,.string ⟨#[]⟩] 139):=⟨_,rfl⟩;rw [←hW6] at T0 z0 z1 z2;have T6:=T0;have y0:=z0;have y1:=z1;have y2:=z2;have C6:=C.turned0 T6;have hlt:=C.lt;have HC6:=hid C6;have H5:=hid (fun W (T:Turned zN W6 W)=>(T.bt y0));have H7:=hid (fun W (T:Turned zN W6 W)=>(T.bt y1));have H9:=hid (fun W (T:Turned zN W6 W)=>(T.bt y2));have HT6:=hid T6;have HLT:=hid hlt;have HW6:=hid hW6;have HB64:=hid hb64;have HF:=hid hf;have HLK:=hid (fun W (T:Turned zN W6 W)=>(decide_eq_true hm:decide (s.b∈had)=true) ▸ hadLook (C6.turned0 T).m hb64);rw [hop,h1,h2,h3,h4];clear T0 z0 z1 z2 T6 y0 y1 y2 C6 hlt hW6 hb64 hf C hs;go_enter Try.func149,Try.ntmps149
 go_wp2_with fail
 rw [←HW6.out];refine wp_region_ssa' (G:=(fun dd vv W=>(match dd with | 22=>vv = .pointer (some ⟨w.heap.size+1,2,none⟩) | 23=>vv = .int .i64 s.b | 24=>vv = .bool false | 25=>vv = .bool false | 26=>vv = .pointer (some ⟨w.heap.size+1,2,none⟩) | 27=>vv = .int .i64 s.b | 28=>vv = .pointer (some ⟨w.heap.size,1,none⟩) | 29=>vv = .int .i64 sl | 30=>vv = .bool false | 31=>vv = .bool false | 32=>vv = .bool false | 33=>vv = .pointer (some ⟨kb,0,none⟩) | 34=>vv = .pointer (some ⟨kb,0,none⟩) | 35=>vv = .pointer (some ⟨kb,1,none⟩) | 36=>vv = .map (some mb) | 37=>vv = .pointer (some ⟨w.heap.size+1,2,none⟩) | 38=>vv = .int .i64 s.b | 39=>vv = .bool true | 40=>vv = .pointer (some ⟨w.heap.size+1,0,none⟩) | 41=>vv = .string sVal | 42=>vv = .bool true | 43=>vv = .bool false | 44=>vv = .bool false  | _=>True:Prop))) [22,23,24,25,26,27,28,29,30,31,32,33,34,35,36,37,38,39,40,41,42,43,44] (by kernel_rfl) rfl (by kernel_rfl) ?hG ?hs ?hQ
 case hG=>exact fun d v _ _ _ h=>h
 case hs=>
  refine ⟨?s0,?s1,?s2,?s3,?s4,?s5,?s6,?s7,?s8,?s9,?s10,?s11,?s12,?s13,?s14,?s15,?s16,?s17,?s18,?s19,?s20,?s21,?s22,trivial⟩
  case s0=>refine zO [] [7] fun ac W hT hI hO=>?_;simp only [execOp,Act.eval,hO 7 (by simp)];go_simp;try exact tq
  case s1=>refine zO [22] [] fun ac W hT hI hO=>?_;have h22:_=_:=hI 22 (by simp);obtain ⟨e0,e1,e2,e3,e4,e5⟩:=cells6 (H7.out W hT);simp only [execOp,Act.eval,h22];go_simp;try exact tq
  case s2=>refine zO [23] [] fun ac W hT hI hO=>?_;have h23:_=_:=hI 23 (by simp);simp only [execOp,Act.eval,h23];go_simp;try exact tq
  case s3=>refine zO [24] [] fun ac W hT hI hO=>?_;have h24:_=_:=hI 24 (by simp);simp only [execOp,Act.eval,h24];go_simp;try exact tq
  case s4=>
   refine stepOk_guard [25] [7] (by kernel_rfl) 3 false 25 rfl rfl (by simp) true false (fun _ _ h=>h) (fun hc=>?_) (fun hc=>by cases hc);intro ac W hT hI hO;simp only [execOp,Act.eval,hO 7 (by simp)];go_simp
   try exact tq
  case s5=>
   refine stepOk_guard [26,25] [] (by kernel_rfl) 3 false 25 rfl rfl (by simp) true false (fun _ _ h=>h) (fun hc=>?_) (fun hc=>by cases hc);intro ac W hT hI hO;have h26:_=_:=hI 26 (by simp);obtain ⟨e0,e1,e2,e3,e4,e5⟩:=cells6 (H7.out W hT);simp only [execOp,Act.eval,h26];go_simp
   try exact tq
  case s6=>
   refine stepOk_guard [25] [5] (by kernel_rfl) 3 false 25 rfl rfl (by simp) true false (fun _ _ h=>h) (fun hc=>?_) (fun hc=>by cases hc);intro ac W hT hI hO;simp only [execOp,Act.eval,hO 5 (by simp)];go_simp
   try exact tq
  case s7=>
   refine stepOk_guard [28,25] [] (by kernel_rfl) 3 false 25 rfl rfl (by simp) true false (fun _ _ h=>h) (fun hc=>?_) (fun hc=>by cases hc);intro ac W hT hI hO;have h28:_=_:=hI 28 (by simp);obtain ⟨k0,k1,k2,k3,_⟩:=cells4 (H5.out W hT);simp only [execOp,Act.eval,h28];go_simp
   try exact tq
  case s8=>
   refine stepOk_guard [27,29,25] [] (by kernel_rfl) 3 false 25 rfl rfl (by simp) true false (fun _ _ h=>h) (fun hc=>?_) (fun hc=>by cases hc);intro ac W hT hI hO;have h27:_=_:=hI 27 (by simp);have h29:_=_:=hI 29 (by simp);simp only [execOp,Act.eval,h27,h29];go_simp
   try exact tq
  case s9=>refine zO [25,30] [] fun ac W hT hI hO=>?_;have h25:_=_:=hI 25 (by simp);have h30:_=_:=hI 30 (by simp);simp only [execOp,Act.eval,h25,h30];go_simp;try exact tq
  case s10=>refine zO [31] [] fun ac W hT hI hO=>?_;have h31:_=_:=hI 31 (by simp);simp only [execOp,Act.eval,h31];go_simp;try exact tq
  case s11=>
   refine stepOk_guard [32] [0] (by kernel_rfl) 10 false 32 rfl rfl (by simp) true false (fun _ _ h=>h) (fun hc=>?_) (fun hc=>by cases hc);intro ac W hT hI hO;simp only [execOp,Act.eval,hO 0 (by simp)];go_simp
   try exact tq
  case s12=>
   refine stepOk_guard [33,32] [] (by kernel_rfl) 10 false 32 rfl rfl (by simp) true false (fun _ _ h=>h) (fun hc=>?_) (fun hc=>by cases hc);intro ac W hT hI hO;have h33:_=_:=hI 33 (by simp);simp only [execOp,Act.eval,h33];go_simp
   try exact tq
  case s13=>
   refine stepOk_guard [34,32] [] (by kernel_rfl) 10 false 32 rfl rfl (by simp) true false (fun _ _ h=>h) (fun hc=>?_) (fun hc=>by cases hc);intro ac W hT hI hO;have h34:_=_:=hI 34 (by simp);simp only [execOp,Act.eval,h34];go_simp
   try exact tq
  case s14=>
   refine stepOk_guard [35,32] [] (by kernel_rfl) 10 false 32 rfl rfl (by simp) true false (fun _ _ h=>h) (fun hc=>?_) (fun hc=>by cases hc);intro ac W hT hI hO;have h35:_=_:=hI 35 (by simp);obtain ⟨k0,k1⟩:=cells2 (HC6.out.turned0 hT).b;simp only [execOp,Act.eval,h35];go_simp
   try exact tq
  case s15=>
   refine stepOk_guard [32] [7] (by kernel_rfl) 10 false 32 rfl rfl (by simp) true false (fun _ _ h=>h) (fun hc=>?_) (fun hc=>by cases hc);intro ac W hT hI hO;simp only [execOp,Act.eval,hO 7 (by simp)];go_simp
   try exact tq
  case s16=>
   refine stepOk_guard [37,32] [] (by kernel_rfl) 10 false 32 rfl rfl (by simp) true false (fun _ _ h=>h) (fun hc=>?_) (fun hc=>by cases hc);intro ac W hT hI hO;have h37:_=_:=hI 37 (by simp);obtain ⟨e0,e1,e2,e3,e4,e5⟩:=cells6 (H7.out W hT);simp only [execOp,Act.eval,h37];go_simp
   try exact tq
  case s17=>
   refine stepOk_guard [36,38,32] [] (by kernel_rfl) 10 false 32 rfl rfl (by simp) true false (fun _ _ h=>h) (fun hc=>?_) (fun hc=>by cases hc);intro ac W hT hI hO;have h36:_=_:=hI 36 (by simp);have h38:_=_:=hI 38 (by simp);have hlk:=HLK.out W hT;simp only [execOp,Act.eval,h36,h38];go_simp
   try exact tq
  case s18=>
   refine stepOk_guard [32] [7] (by kernel_rfl) 10 false 32 rfl rfl (by simp) true false (fun _ _ h=>h) (fun hc=>?_) (fun hc=>by cases hc);intro ac W hT hI hO;simp only [execOp,Act.eval,hO 7 (by simp)];go_simp
   try exact tq
  case s19=>
   refine stepOk_guard [40,32] [] (by kernel_rfl) 10 false 32 rfl rfl (by simp) true false (fun _ _ h=>h) (fun hc=>?_) (fun hc=>by cases hc);intro ac W hT hI hO;have h40:_=_:=hI 40 (by simp);obtain ⟨e0,e1,e2,e3,e4,e5⟩:=cells6 (H7.out W hT);simp only [execOp,Act.eval,h40];go_simp
   try exact tq
  case s20=>
   refine stepOk_guard [41,32] [] (by kernel_rfl) 10 false 32 rfl rfl (by simp) true false (fun _ _ h=>h) (fun hc=>?_) (fun hc=>by cases hc);intro ac W hT hI hO;have h41:_=_:=hI 41 (by simp);simp only [execOp,Act.eval,h41];go_simp
   try exact tq
  case s21=>
   refine stepOk_guard [39,42,32] [] (by kernel_rfl) 10 false 32 rfl rfl (by simp) true false (fun _ _ h=>h) (fun hc=>?_) (fun hc=>by cases hc);intro ac W hT hI hO;have h39:_=_:=hI 39 (by simp);have h42:_=_:=hI 42 (by simp);simp only [execOp,Act.eval,h39,h42];go_simp
   try exact tq
  case s22=>
   refine zO [32,43] [] fun ac W hT hI hO=>?_;have h32:_=_:=hI 32 (by simp);have h43:_=_:=hI 43 (by simp);simp only [execOp,Act.eval,h32,h43];go_simp
   try exact tq
 case hQ=>
  intro vs7 W7 T7 hV;have q44:vs7 44 = .bool false:=hV 44 (by simp);simp only [Qq,List.foldl_nil,Qk,Qs,Qr,q44];have HT7:=hid T7;clear hV q44 T7
  go_wp2_with fail
  have HC7:=hid (HC6.out.turned0 HT7.out);have HM7:=hid (fun W (T:Turned (fun q=>q=mb) W7 W)=>(T.block _ (zL (H7.out W7 HT7.out)) (by have:=HLT.out;omega)).trans (H7.out W7 HT7.out));have HM9:=hid (fun W (T:Turned (fun q=>q=mb) W7 W)=>(T.block _ (zL (H9.out W7 HT7.out)) (by have:=HLT.out;omega)).trans (H9.out W7 HT7.out));have HMK:=hid (fun W (T:Turned (fun q=>q=mb) W7 W)=>(T.block _ (zL HC7.out.b) (fun e=>HC7.out.ne e)).trans HC7.out.b);refine wp_region_k [45,46,47,48,49,50] [6] [] (fun dd vv=>(match dd with | 45=>vv = .pointer (some ⟨kb,0,none⟩) | 46=>vv = .pointer (some ⟨kb,0,none⟩) | 47=>vv = .pointer (some ⟨kb,1,none⟩) | 48=>vv = .map (some mb) | 49=>vv = .pointer (some ⟨w.heap.size+1,2,none⟩) | 50=>vv = .int .i64 s.b | _=>True:Prop)) (MapR 3 mb 6 (had.length) (if (hadF had s.b).isSome then had.length else had.length+1) (hadF had) (upd (hadF had) s.b (.bool true)) W7) (by kernel_rfl) rfl (by kernel_rfl) (by kernel_rfl) (fun w h=>MapR.start HC7.out.m h) (fun hs w w' h ht=>h.turned0 ht) ?hs ?hQ
  case hs=>
   refine ⟨?s0,?s1,?s2,?s3,?s4,?s5,?s6,trivial⟩
   case s0=>refine fun hs hl=>zG [] [0] fun ac W hT hI hO=>?_;simp only [execOp,Act.eval,hO 0 (by simp)];go_simp;try exact tq
   case s1=>refine fun hs hl=>zG [45] [] fun ac W hT hI hO=>?_;have h45:_=_:=hI 45 (by simp);simp only [execOp,Act.eval,h45];go_simp;try exact tq
   case s2=>refine fun hs hl=>zG [46] [] fun ac W hT hI hO=>?_;have h46:_=_:=hI 46 (by simp);simp only [execOp,Act.eval,h46];go_simp;try exact tq
   case s3=>refine fun hs hl=>zG [47] [] fun ac W hT hI hO=>?_;have h47:_=_:=hI 47 (by simp);obtain ⟨k0,k1⟩:=cells2 (HMK.out W hT.t);simp only [execOp,Act.eval,h47];go_simp;try exact tq
   case s4=>refine fun hs hl=>zG [] [7] fun ac W hT hI hO=>?_;simp only [execOp,Act.eval,hO 7 (by simp)];go_simp;try exact tq
   case s5=>refine fun hs hl=>zG [49] [] fun ac W hT hI hO=>?_;have h49:_=_:=hI 49 (by simp);obtain ⟨e0,e1,e2,e3,e4,e5⟩:=cells6 (HM7.out W hT.t);simp only [execOp,Act.eval,h49];go_simp;try exact tq
   case s6=>
    refine fun hs hno hl=>zG [48,50] [] fun ac W hT hI hO=>?_;have h48:_=_:=hI 48 (by simp);have h50:_=_:=hI 50 (by simp);obtain ⟨w',hr,hm,T⟩:=(hT.old hno).put law3 Try.underlying145 (by unfold maxLen;have:=HF.out;omega) (v:=.bool true) (key3 HB64.out) trivial;show Brings _ (fun vv w'=>MapR 3 mb 6 (had.length) (if (hadF had s.b).isSome then had.length else had.length+1) (hadF had) (upd (hadF had) s.b (.bool true)) W7 (hs++[(6,vv)]) w') _;simp only [execOp,Act.eval,h48,h50,hr];go_simp;exact hT.put T hm
  case hQ=>
   intro hs8 vs8 W8 hall huniq hR hV;simp only [Qq,List.foldl_nil,Qk,Qs,Qr];obtain ⟨v8,hv8⟩:=hall 6 (by simp);have hmap:=hR.new v8 hv8;rw [had_next.1,had_next.2] at hmap;have HNEW:Hid (Chk kb mb k (hadN had s.b) W8):=⟨HMK.out W8 hR.t,hmap,HC7.out.ne,by have:=HF.out;have:=hadN_len had s.b;omega⟩;have HT8:=hid hR.t;obtain ⟨a0,a1,a2,a3,a4,a5⟩:=cells6 (HM7.out W8 hR.t);obtain ⟨b0,b1,b2,b3,b4,b5⟩:=cells6 (HM9.out W8 hR.t);clear hR hV hall huniq hmap hv8;obtain ⟨B,hB⟩:∃ B,B=goodNameB ByteArray.empty:=⟨_,rfl⟩;have HB:=hid hB
   have hnm0:ByteArray.empty.size≤maxLen:=by unfold maxLen;decide
   clear hB
   go_wp2_with (first
    | (go_at_call 63;(with_reducible refine (atomOnly ByteArray.empty hnm0 _).mono ?_);rintro e W9 ⟨rfl,T9⟩)
    | (go_at_call 38;(with_reducible refine (goodAtom ByteArray.empty hnm0 _).mono ?_);rintro e W10 ⟨rfl,T10⟩;rw [←HB.out]))
   go_ret;exact ⟨by rw [←HB.out];rfl,HNEW.out.turned0 (T9.trans T10),(((HT6.out.trans HT7.out).mono (fun _ _ f=>f.elim)).trans HT8.out).trans ((T9.trans T10).mono (fun _ _ f=>f.elim))⟩
set_option maxRecDepth 100000 in
theorem one_val_okF {kb mb:Nat} {k ar sl rg i:Int} {lv:Value} {had:List Int} {s:Stp} {w:World} (C:Chk kb mb k had w) (hf:had.length≤3000) (hs:stOk s) (hop:s.op=sVal) (hb0:0≤s.b) (hb:s.b < sl) (hm:s.b∈had) (hne:¬ (s.a=i∧s.c=0∧s.n=0∧s.name=ByteArray.empty)) :
 Calls Try.prog 149 #[.pointer (some ⟨kb,0,none⟩),.agg #[.int .i64 ar,.int .i64 sl,.int .i64 rg,lv],.int .i64 i,.agg #[.string s.op,.int .i64 s.a,.int .i64 s.b,.int .i64 s.c,.int .i64 s.n,.string s.name]] w fun e w'=>e = .returned (.bool false)∧Chk kb mb k (hadN had s.b) w'∧Turned (fun q=>q=mb) w w':=by
 have hnm:=hs.2.2.2.2.2;have hb64:=hs.2.2.1;have o0:=op_Val_Var;have o1:=op_Val_Val;have o2:=op_Val_Int;have o3:=op_Val_Atom;have o4:=op_Val_Comp;have en:=empty_nil;have d1:decide (s.b < 0)=false:=decide_eq_false (by omega);have d2:decide (sl≤s.b)=false:=decide_eq_false (by omega);obtain ⟨T0,z0,z1,z2⟩:=three_boxes w (.cells #[.int .i64 ar,.int .i64 sl,.int .i64 rg,lv] 104) (.cells #[.string sVal,.int .i64 s.a,.int .i64 s.b,.int .i64 s.c,.int .i64 s.n,.string s.name] 139) (.cells #[.string sVal,.int .i64 i,.int .i64 s.b,.int .i64 0,.int .i64 0,.string ⟨#[]⟩] 139);obtain ⟨W6,hW6⟩:∃ z,z=((w.alloc (.cells #[.int .i64 ar,.int .i64 sl,.int .i64 rg,lv] 104)).alloc (.cells #[.string sVal,.int .i64 s.a,.int .i64 s.b,.int .i64 s.c,.int .i64 s.n,.string s.name] 139)).alloc (.cells #[.string sVal,.int .i64 i,.int .i64 s.b,.int .i64 0,.int .i64 0,.string ⟨#[]⟩] 139):=⟨_,rfl⟩;rw [←hW6] at T0 z0 z1 z2;have T6:=T0;have y0:=z0;have y1:=z1;have y2:=z2;have C6:=C.turned0 T6;have hlt:=C.lt;have HC6:=hid C6;have H5:=hid (fun W (T:Turned zN W6 W)=>(T.bt y0));have H7:=hid (fun W (T:Turned zN W6 W)=>(T.bt y1));have H9:=hid (fun W (T:Turned zN W6 W)=>(T.bt y2));have HT6:=hid T6;have HLT:=hid hlt;have HW6:=hid hW6;have HB64:=hid hb64;have HF:=hid hf;have HLK:=hid (fun W (T:Turned zN W6 W)=>(decide_eq_true hm:decide (s.b∈had)=true) ▸ hadLook (C6.turned0 T).m hb64);rw [hop];clear T0 z0 z1 z2 T6 y0 y1 y2 C6 hlt hW6 hb64 hf C hs;go_enter Try.func149,Try.ntmps149
 go_wp2_with fail
 rw [←HW6.out];refine wp_region_ssa' (G:=(fun dd vv W=>(match dd with | 22=>vv = .pointer (some ⟨w.heap.size+1,2,none⟩) | 23=>vv = .int .i64 s.b | 24=>vv = .bool false | 25=>vv = .bool false | 26=>vv = .pointer (some ⟨w.heap.size+1,2,none⟩) | 27=>vv = .int .i64 s.b | 28=>vv = .pointer (some ⟨w.heap.size,1,none⟩) | 29=>vv = .int .i64 sl | 30=>vv = .bool false | 31=>vv = .bool false | 32=>vv = .bool false | 33=>vv = .pointer (some ⟨kb,0,none⟩) | 34=>vv = .pointer (some ⟨kb,0,none⟩) | 35=>vv = .pointer (some ⟨kb,1,none⟩) | 36=>vv = .map (some mb) | 37=>vv = .pointer (some ⟨w.heap.size+1,2,none⟩) | 38=>vv = .int .i64 s.b | 39=>vv = .bool true | 40=>vv = .pointer (some ⟨w.heap.size+1,0,none⟩) | 41=>vv = .string sVal | 42=>vv = .bool true | 43=>vv = .bool false | 44=>vv = .bool false  | _=>True:Prop))) [22,23,24,25,26,27,28,29,30,31,32,33,34,35,36,37,38,39,40,41,42,43,44] (by kernel_rfl) rfl (by kernel_rfl) ?hG ?hs ?hQ
 case hG=>exact fun d v _ _ _ h=>h
 case hs=>
  refine ⟨?s0,?s1,?s2,?s3,?s4,?s5,?s6,?s7,?s8,?s9,?s10,?s11,?s12,?s13,?s14,?s15,?s16,?s17,?s18,?s19,?s20,?s21,?s22,trivial⟩
  case s0=>refine zO [] [7] fun ac W hT hI hO=>?_;simp only [execOp,Act.eval,hO 7 (by simp)];go_simp;try exact tq
  case s1=>refine zO [22] [] fun ac W hT hI hO=>?_;have h22:_=_:=hI 22 (by simp);obtain ⟨e0,e1,e2,e3,e4,e5⟩:=cells6 (H7.out W hT);simp only [execOp,Act.eval,h22];go_simp;try exact tq
  case s2=>refine zO [23] [] fun ac W hT hI hO=>?_;have h23:_=_:=hI 23 (by simp);simp only [execOp,Act.eval,h23];go_simp;try exact tq
  case s3=>refine zO [24] [] fun ac W hT hI hO=>?_;have h24:_=_:=hI 24 (by simp);simp only [execOp,Act.eval,h24];go_simp;try exact tq
  case s4=>
   refine stepOk_guard [25] [7] (by kernel_rfl) 3 false 25 rfl rfl (by simp) true false (fun _ _ h=>h) (fun hc=>?_) (fun hc=>by cases hc);intro ac W hT hI hO;simp only [execOp,Act.eval,hO 7 (by simp)];go_simp
   try exact tq
  case s5=>
   refine stepOk_guard [26,25] [] (by kernel_rfl) 3 false 25 rfl rfl (by simp) true false (fun _ _ h=>h) (fun hc=>?_) (fun hc=>by cases hc);intro ac W hT hI hO;have h26:_=_:=hI 26 (by simp);obtain ⟨e0,e1,e2,e3,e4,e5⟩:=cells6 (H7.out W hT);simp only [execOp,Act.eval,h26];go_simp
   try exact tq
  case s6=>
   refine stepOk_guard [25] [5] (by kernel_rfl) 3 false 25 rfl rfl (by simp) true false (fun _ _ h=>h) (fun hc=>?_) (fun hc=>by cases hc);intro ac W hT hI hO;simp only [execOp,Act.eval,hO 5 (by simp)];go_simp
   try exact tq
  case s7=>
   refine stepOk_guard [28,25] [] (by kernel_rfl) 3 false 25 rfl rfl (by simp) true false (fun _ _ h=>h) (fun hc=>?_) (fun hc=>by cases hc);intro ac W hT hI hO;have h28:_=_:=hI 28 (by simp);obtain ⟨k0,k1,k2,k3,_⟩:=cells4 (H5.out W hT);simp only [execOp,Act.eval,h28];go_simp
   try exact tq
  case s8=>
   refine stepOk_guard [27,29,25] [] (by kernel_rfl) 3 false 25 rfl rfl (by simp) true false (fun _ _ h=>h) (fun hc=>?_) (fun hc=>by cases hc);intro ac W hT hI hO;have h27:_=_:=hI 27 (by simp);have h29:_=_:=hI 29 (by simp);simp only [execOp,Act.eval,h27,h29];go_simp
   try exact tq
  case s9=>refine zO [25,30] [] fun ac W hT hI hO=>?_;have h25:_=_:=hI 25 (by simp);have h30:_=_:=hI 30 (by simp);simp only [execOp,Act.eval,h25,h30];go_simp;try exact tq
  case s10=>refine zO [31] [] fun ac W hT hI hO=>?_;have h31:_=_:=hI 31 (by simp);simp only [execOp,Act.eval,h31];go_simp;try exact tq
  case s11=>
   refine stepOk_guard [32] [0] (by kernel_rfl) 10 false 32 rfl rfl (by simp) true false (fun _ _ h=>h) (fun hc=>?_) (fun hc=>by cases hc);intro ac W hT hI hO;simp only [execOp,Act.eval,hO 0 (by simp)];go_simp
   try exact tq
  case s12=>
   refine stepOk_guard [33,32] [] (by kernel_rfl) 10 false 32 rfl rfl (by simp) true false (fun _ _ h=>h) (fun hc=>?_) (fun hc=>by cases hc);intro ac W hT hI hO;have h33:_=_:=hI 33 (by simp);simp only [execOp,Act.eval,h33];go_simp
   try exact tq
  case s13=>
   refine stepOk_guard [34,32] [] (by kernel_rfl) 10 false 32 rfl rfl (by simp) true false (fun _ _ h=>h) (fun hc=>?_) (fun hc=>by cases hc);intro ac W hT hI hO;have h34:_=_:=hI 34 (by simp);simp only [execOp,Act.eval,h34];go_simp
   try exact tq
  case s14=>
   refine stepOk_guard [35,32] [] (by kernel_rfl) 10 false 32 rfl rfl (by simp) true false (fun _ _ h=>h) (fun hc=>?_) (fun hc=>by cases hc);intro ac W hT hI hO;have h35:_=_:=hI 35 (by simp);obtain ⟨k0,k1⟩:=cells2 (HC6.out.turned0 hT).b;simp only [execOp,Act.eval,h35];go_simp
   try exact tq
  case s15=>
   refine stepOk_guard [32] [7] (by kernel_rfl) 10 false 32 rfl rfl (by simp) true false (fun _ _ h=>h) (fun hc=>?_) (fun hc=>by cases hc);intro ac W hT hI hO;simp only [execOp,Act.eval,hO 7 (by simp)];go_simp
   try exact tq
  case s16=>
   refine stepOk_guard [37,32] [] (by kernel_rfl) 10 false 32 rfl rfl (by simp) true false (fun _ _ h=>h) (fun hc=>?_) (fun hc=>by cases hc);intro ac W hT hI hO;have h37:_=_:=hI 37 (by simp);obtain ⟨e0,e1,e2,e3,e4,e5⟩:=cells6 (H7.out W hT);simp only [execOp,Act.eval,h37];go_simp
   try exact tq
  case s17=>
   refine stepOk_guard [36,38,32] [] (by kernel_rfl) 10 false 32 rfl rfl (by simp) true false (fun _ _ h=>h) (fun hc=>?_) (fun hc=>by cases hc);intro ac W hT hI hO;have h36:_=_:=hI 36 (by simp);have h38:_=_:=hI 38 (by simp);have hlk:=HLK.out W hT;simp only [execOp,Act.eval,h36,h38];go_simp
   try exact tq
  case s18=>
   refine stepOk_guard [32] [7] (by kernel_rfl) 10 false 32 rfl rfl (by simp) true false (fun _ _ h=>h) (fun hc=>?_) (fun hc=>by cases hc);intro ac W hT hI hO;simp only [execOp,Act.eval,hO 7 (by simp)];go_simp
   try exact tq
  case s19=>
   refine stepOk_guard [40,32] [] (by kernel_rfl) 10 false 32 rfl rfl (by simp) true false (fun _ _ h=>h) (fun hc=>?_) (fun hc=>by cases hc);intro ac W hT hI hO;have h40:_=_:=hI 40 (by simp);obtain ⟨e0,e1,e2,e3,e4,e5⟩:=cells6 (H7.out W hT);simp only [execOp,Act.eval,h40];go_simp
   try exact tq
  case s20=>
   refine stepOk_guard [41,32] [] (by kernel_rfl) 10 false 32 rfl rfl (by simp) true false (fun _ _ h=>h) (fun hc=>?_) (fun hc=>by cases hc);intro ac W hT hI hO;have h41:_=_:=hI 41 (by simp);simp only [execOp,Act.eval,h41];go_simp
   try exact tq
  case s21=>
   refine stepOk_guard [39,42,32] [] (by kernel_rfl) 10 false 32 rfl rfl (by simp) true false (fun _ _ h=>h) (fun hc=>?_) (fun hc=>by cases hc);intro ac W hT hI hO;have h39:_=_:=hI 39 (by simp);have h42:_=_:=hI 42 (by simp);simp only [execOp,Act.eval,h39,h42];go_simp
   try exact tq
  case s22=>
   refine zO [32,43] [] fun ac W hT hI hO=>?_;have h32:_=_:=hI 32 (by simp);have h43:_=_:=hI 43 (by simp);simp only [execOp,Act.eval,h32,h43];go_simp
   try exact tq
 case hQ=>
  intro vs7 W7 T7 hV;have q44:vs7 44 = .bool false:=hV 44 (by simp);simp only [Qq,List.foldl_nil,Qk,Qs,Qr,q44];have HT7:=hid T7;clear hV q44 T7
  go_wp2_with fail
  have HC7:=hid (HC6.out.turned0 HT7.out);have HM7:=hid (fun W (T:Turned (fun q=>q=mb) W7 W)=>(T.block _ (zL (H7.out W7 HT7.out)) (by have:=HLT.out;omega)).trans (H7.out W7 HT7.out));have HM9:=hid (fun W (T:Turned (fun q=>q=mb) W7 W)=>(T.block _ (zL (H9.out W7 HT7.out)) (by have:=HLT.out;omega)).trans (H9.out W7 HT7.out));have HMK:=hid (fun W (T:Turned (fun q=>q=mb) W7 W)=>(T.block _ (zL HC7.out.b) (fun e=>HC7.out.ne e)).trans HC7.out.b);refine wp_region_k [45,46,47,48,49,50] [6] [] (fun dd vv=>(match dd with | 45=>vv = .pointer (some ⟨kb,0,none⟩) | 46=>vv = .pointer (some ⟨kb,0,none⟩) | 47=>vv = .pointer (some ⟨kb,1,none⟩) | 48=>vv = .map (some mb) | 49=>vv = .pointer (some ⟨w.heap.size+1,2,none⟩) | 50=>vv = .int .i64 s.b | _=>True:Prop)) (MapR 3 mb 6 (had.length) (if (hadF had s.b).isSome then had.length else had.length+1) (hadF had) (upd (hadF had) s.b (.bool true)) W7) (by kernel_rfl) rfl (by kernel_rfl) (by kernel_rfl) (fun w h=>MapR.start HC7.out.m h) (fun hs w w' h ht=>h.turned0 ht) ?hs ?hQ
  case hs=>
   refine ⟨?s0,?s1,?s2,?s3,?s4,?s5,?s6,trivial⟩
   case s0=>refine fun hs hl=>zG [] [0] fun ac W hT hI hO=>?_;simp only [execOp,Act.eval,hO 0 (by simp)];go_simp;try exact tq
   case s1=>refine fun hs hl=>zG [45] [] fun ac W hT hI hO=>?_;have h45:_=_:=hI 45 (by simp);simp only [execOp,Act.eval,h45];go_simp;try exact tq
   case s2=>refine fun hs hl=>zG [46] [] fun ac W hT hI hO=>?_;have h46:_=_:=hI 46 (by simp);simp only [execOp,Act.eval,h46];go_simp;try exact tq
   case s3=>refine fun hs hl=>zG [47] [] fun ac W hT hI hO=>?_;have h47:_=_:=hI 47 (by simp);obtain ⟨k0,k1⟩:=cells2 (HMK.out W hT.t);simp only [execOp,Act.eval,h47];go_simp;try exact tq
   case s4=>refine fun hs hl=>zG [] [7] fun ac W hT hI hO=>?_;simp only [execOp,Act.eval,hO 7 (by simp)];go_simp;try exact tq
   case s5=>refine fun hs hl=>zG [49] [] fun ac W hT hI hO=>?_;have h49:_=_:=hI 49 (by simp);obtain ⟨e0,e1,e2,e3,e4,e5⟩:=cells6 (HM7.out W hT.t);simp only [execOp,Act.eval,h49];go_simp;try exact tq
   case s6=>
    refine fun hs hno hl=>zG [48,50] [] fun ac W hT hI hO=>?_;have h48:_=_:=hI 48 (by simp);have h50:_=_:=hI 50 (by simp);obtain ⟨w',hr,hm,T⟩:=(hT.old hno).put law3 Try.underlying145 (by unfold maxLen;have:=HF.out;omega) (v:=.bool true) (key3 HB64.out) trivial;show Brings _ (fun vv w'=>MapR 3 mb 6 (had.length) (if (hadF had s.b).isSome then had.length else had.length+1) (hadF had) (upd (hadF had) s.b (.bool true)) W7 (hs++[(6,vv)]) w') _;simp only [execOp,Act.eval,h48,h50,hr];go_simp;exact hT.put T hm
  case hQ=>
   intro hs8 vs8 W8 hall huniq hR hV;simp only [Qq,List.foldl_nil,Qk,Qs,Qr];obtain ⟨v8,hv8⟩:=hall 6 (by simp);have hmap:=hR.new v8 hv8;rw [had_next.1,had_next.2] at hmap;have HNEW:Hid (Chk kb mb k (hadN had s.b) W8):=⟨HMK.out W8 hR.t,hmap,HC7.out.ne,by have:=HF.out;have:=hadN_len had s.b;omega⟩;have HT8:=hid hR.t;obtain ⟨a0,a1,a2,a3,a4,a5⟩:=cells6 (HM7.out W8 hR.t);obtain ⟨b0,b1,b2,b3,b4,b5⟩:=cells6 (HM9.out W8 hR.t);clear hR hV hall huniq hmap hv8;have HQ:=hid hne;clear hne
   go_wp2_with (go_at_call 63;exfalso;exact HQ.out ⟨‹_›,‹_›,‹_›,(bytes_nil _).1 ‹_›⟩)
   all_goals
    go_ret;exact ⟨rfl,HNEW.out,((HT6.out.trans HT7.out).mono (fun _ _ f=>f.elim)).trans HT8.out⟩
end Go.Proofs.Ytoihjobdfjajfaa
namespace Go.Proofs.Ytoihjobdfjajfaa
open Lib (hid)
open Go.RowKit Go.Maps
open Tm (Stp sVar sVal sInt sAtom sComp cb met steps stepX reg)
theorem infoS:(Try.prog.info? 139).map (fun i=>(i.zero,i.size,i.bytes))=some (some (.agg #[.string ⟨#[]⟩,.int .i64 0,.int .i64 0,.int .i64 0,.int .i64 0,.string ⟨#[]⟩]),6,64):=by kernel_rfl
theorem row_ne_map {P:Program} {kt:TypeId} {w:World} {e:TypeId} {size n m b:Nat} {v:Value} {xs:List Value} {f:Int→Option Value} (h:Row w e size v n xs) (hm:IMap P kt w b m f):v.ownBlock≠some b:=by
 intro hv;obtain ⟨D,⟨es,clock,hb,_⟩,_⟩:=hm
 rcases h.2 with ⟨rfl,_⟩ | ⟨g,cap,cur,rfl,hg,_⟩
 · simp [Value.ownBlock] at hv
 · simp [Value.ownBlock] at hv
   subst hv;rw [hb] at hg
   injection hg with hg
   cases hg
set_option maxRecDepth 100000 in
theorem head93_no {t:LT} {w:World} (ht:t.In (fun _=>True) w) (hs:slim t) (hn:¬ (goodB t=true∧2≤t.kind)) :
 Calls Try.prog 93 #[.agg #[.int .i64 t.kind,.int .i64 t.n,.string t.name,.slice t.at_.1 t.args.length t.at_.2]] w fun e w'=>e = .returned (.tuple #[.agg #[.int .i64 0,.int .i64 0,.int .i64 0,.slice none 0 0],.int .i64 1])∧Turned zN w w':=by
 have h2:=twoBox w (.cells #[.int .i64 t.kind,.int .i64 t.n,.string t.name,.slice t.at_.1 t.args.length t.at_.2] 27) (.cells #[.int .i64 0,.int .i64 0,.int .i64 0,.slice none 0 0] 104);obtain ⟨w2,hw2⟩:∃ z,z=(w.alloc (.cells #[.int .i64 t.kind,.int .i64 t.n,.string t.name,.slice t.at_.1 t.args.length t.at_.2] 27)).alloc (.cells #[.int .i64 0,.int .i64 0,.int .i64 0,.slice none 0 0] 104):=⟨_,rfl⟩;rw [←hw2] at h2;have HT2:=hid h2.1;have HB:=hid (fun W (T:Turned zN w2 W)=>(T.block _ (by have:=h2.2.1;omega) (fun f=>f)).trans h2.2.2.1);have HR:=hid (fun W (T:Turned zN w2 W)=>(T.block _ (by have:=h2.2.1;omega) (fun f=>f)).trans h2.2.2.2);have HX:=hid (ht.turned0 h2.1);have HW2:=hid hw2;have HSL:=hid hs;clear h2 ht hs hw2
 cases hg:goodB t with
 | false=>
  have HG:=hid hg;clear hg hn;go_enter Try.func93,Try.ntmps93
  go_wp2_with (go_at_call 38;rw [←HW2.out];(with_reducible refine (goodVal' HX.out HSL.out HG.out).mono ?_);rintro e w3 ⟨rfl,T3⟩;obtain ⟨r0,r1,r2,r3,f0,f1,f2,f3⟩:=cells4 (HR.out w3 T3))
  refine bodyPost_ret (results_cell_tmp1 Try.results93 _ _ (w.heap.size+1) 104 _ (0,0) _ rfl (set4 (a':=.int .i64 0) (b':=.int .i64 0) (c':=.int .i64 0) (d':=.slice none 0 0) (HR.out w3 T3)) Try.underlying104 rfl (by kernel_rfl)) rfl ⟨rfl,(HT2.out.trans T3).step (turned_store4 w3 (w.heap.size+1) _ _ _ _) (fun i hi e=>by omega)⟩
 | true=>
  have HG:=hid hg
  have hk:t.kind≤1:=by
   rcases Int.lt_or_le t.kind 2 with h | h
   · omega
   · exact absurd ⟨hg,h⟩ hn
  have dk:decide (t.kind≤1)=true:=decide_eq_true hk;clear hg hn hk;go_enter Try.func93,Try.ntmps93
  go_wp2_with (go_at_call 38;rw [←HW2.out];(with_reducible refine (goodVal' HX.out HSL.out HG.out).mono ?_);rintro e w3 ⟨rfl,T3⟩;obtain ⟨r0,r1,r2,r3,f0,f1,f2,f3⟩:=cells4 (HR.out w3 T3);obtain ⟨b0,b1,b2,b3,_⟩:=cells4 (HB.out w3 T3))
  refine bodyPost_ret (results_cell_tmp1 Try.results93 _ _ (w.heap.size+1) 104 _ (0,0) _ rfl (set4 (a':=.int .i64 0) (b':=.int .i64 0) (c':=.int .i64 0) (d':=.slice none 0 0) (HR.out w3 T3)) Try.underlying104 rfl (by kernel_rfl)) rfl ⟨rfl,(HT2.out.trans T3).step (turned_store4 w3 (w.heap.size+1) _ _ _ _) (fun i hi e=>by omega)⟩
set_option maxRecDepth 100000 in
theorem head93 {t:LT} {w:World} (ht:t.In (fun _=>True) w) (hg:goodB t=true) (hk:t.kind=2) :
 Calls Try.prog 93 #[.agg #[.int .i64 t.kind,.int .i64 t.n,.string t.name,.slice t.at_.1 t.args.length t.at_.2]] w fun e w'=>∃ lv:Value,e = .returned (.tuple #[.agg #[.int .i64 t.args.length,.int .i64 t.vars.length,.int .i64 (Tm.sizes t.args),lv],.int .i64 0])∧Row w' 139 6 lv (Tm.sizes t.args) ((steps t.vars t.args (Tm.sizes t.args)).flatMap stC)∧(∀ k,lv.ownBlock=some k→w.heap.size≤k)∧Turned zN w w':=by
 have hs:slim t:=good_slimB (by rw [goodB_bare];exact hg);have h2:=twoBox w (.cells #[.int .i64 t.kind,.int .i64 t.n,.string t.name,.slice t.at_.1 t.args.length t.at_.2] 27) (.cells #[.int .i64 0,.int .i64 0,.int .i64 0,.slice none 0 0] 104);obtain ⟨w2,hw2⟩:∃ z,z=(w.alloc (.cells #[.int .i64 t.kind,.int .i64 t.n,.string t.name,.slice t.at_.1 t.args.length t.at_.2] 27)).alloc (.cells #[.int .i64 0,.int .i64 0,.int .i64 0,.slice none 0 0] 104):=⟨_,rfl⟩;rw [←hw2] at h2;have HT2:=hid h2.1;have HB:=hid (fun W (T:Turned zN w2 W)=>(T.block _ (by have:=h2.2.1;omega) (fun f=>f)).trans h2.2.2.1);have HR:=hid (fun W (T:Turned zN w2 W)=>(T.block _ (by have:=h2.2.1;omega) (fun f=>f)).trans h2.2.2.2);have HX:=hid (ht.turned0 h2.1);have HW2:=hid hw2;have HSL:=hid hs;have HG:=hid hg;have HGB:=hid (show goodB t.bare=true by rw [goodB_bare];exact hg);have HZ:=hid h2.2.1;have dk:decide (t.kind≤1)=false:=decide_eq_false (by omega);have HK:=hid hk;clear h2 ht hs hw2 hg hk;have hmm:=@run_makeMap Try.prog;go_enter Try.func93,Try.ntmps93
 go_wp2_with (first
  | (go_at_call 38;rw [←HW2.out];(with_reducible refine (goodVal' HX.out HSL.out HG.out).mono ?_);rintro e w3 ⟨rfl,T3⟩;obtain ⟨b0,b1,b2,b3,_⟩:=cells4 (HB.out w3 T3);obtain ⟨bm0,bm1,bm2,bm3,_⟩:=cells4 (HB.out (w3.alloc (.map #[] 0)) (T3.trans ((Turned.refl _ w3).alloc _)));have HT3:=hid T3;clear T3)
  | (go_at_call 34;have T4:=HT3.out.trans ((Turned.refl _ w3).alloc (.map #[] 0));(with_reducible refine (varsVal (HX.out.turned0 T4) HGB.out).mono ?_);rintro e w5 ⟨va,vc,rfl,hvr,T5⟩;have HVR:=hid hvr;have HT5:=hid (T4.trans T5);have HM5:=hid ((IMap.made w3 Try.prog 2).turned T5 (fun f=>f));clear T4 T5 hvr))
 obtain ⟨n,hn⟩:∃ n,n=t.vars.length:=⟨_,rfl⟩;obtain ⟨mb,hmb⟩:∃ b,b=w3.heap.size:=⟨_,rfl⟩;rw [←hn,←hmb];have HN:=hid hn;have HF:=hid (show n≤2000 by rw [hn];exact vars_few HG.out)
 have HVR2:Hid (Row w5 2 1 (.slice va n vc) n (t.vars.map (Value.int .i64))):=by have:=HVR.out;rw [←hn] at this;exact this
 have HM52:Hid (IMap Try.prog 2 w5 mb 0 (slotF (t.vars.take 0))):=by show IMap _ _ _ _ _ _;rw [List.take_zero,slotF_nil,hmb];exact HM5.out
 have HMB:=hid (show w2.heap.size≤mb by rw [hmb];exact HT3.out.size);have HVN:=hid (row_ne_map HVR2.out HM52.out);clear hn hmb HVR HM5 b0 b1 b2 b3 bm0 bm1 bm2 bm3
 go_loopg [26] n (fun q i wr=>∃ j:Nat,Hid (j+q=n)∧j≤n∧i = .int .i64 j∧Hid (IMap Try.prog 2 wr mb j (slotF (t.vars.take j)))∧Hid (Turned (fun k=>k=mb) w5 wr))
 case atStart=>exact ⟨0,Nat.zero_add _,Nat.zero_le _,rfl,HM52,Turned.refl _ _⟩
 case round=>
  obtain ⟨j,HJ,hj,rfl,HM,HT⟩:=hrel
  by_cases hjn:j < n
  · have dj:decide ((j:Int) < (n:Int))=true:=decide_eq_true (by omega)
    have HJN:=hid hjn;have hn2:n≤2000:=HF.out;obtain ⟨v,hv⟩:∃ v,t.vars[j]? = some v:=⟨_,Qa (by have:=HN.out;omega)⟩;obtain ⟨g,cap',hcv⟩:=HVR2.out.shape_pos (by omega)
    injection hcv with e1 _ e2
    subst e1 e2;have hrw:=HVR2.out.turned HT.out (fun q hq e=>HVN.out (by rw [←e];exact hq));have hcell:=hrw.cells rfl j (.int .i64 v) (by rw [Qp,hv];rfl);have hvm:v∈t.vars:=Qf hv
    have h64:I64 v:=by
     obtain ⟨x,hx,h0,rfl⟩:=(Tm.vars_mem (t:=t.bare) v).1 (by rw [Tm.vars_bare];exact hvm);have hone:=Tm.good_ones' HGB.out x hx;rw [goodOneB_0 x h0] at hone;simp only [Qd,decide_eq_true_eq] at hone;unfold I64;omega
    have hnew:v∉t.vars.take j:=by
     intro c;obtain ⟨q,hq⟩:=List.mem_iff_getElem?.1 c;rw [List.getElem?_take] at hq
     split at hq
     · have h1:=Tm.posOf_at (Tm.vars_nodup t) hq
       have h2:=Tm.posOf_at (Tm.vars_nodup t) hv;omega
     · cases hq
    have HTK:Hid (upd (slotF (t.vars.take j)) v (.int .i64 j)=slotF (t.vars.take (j+1))):=by
     show _=_;obtain ⟨hl,he⟩:=Qg.1 hv;rw [List.take_succ_eq_append_getElem hl,he,←slotF_snoc hnew,List.length_take,Nat.min_eq_left (by omega)]
    have HNO:=hid (slotF_none hnew);have hkey:=key2 h64;clear hrw hv hvm h64 hnew
    go_wp2_with (at_mapUpdate;refine wpList_put rfl _ _ _ 172 rfl law2 Try.underlying172 rfl HM.out (by unfold maxLen;have:=HF.out;omega) rfl rfl hkey trivial ?_;intro w6 hm6 T6;have HM6:Hid (IMap Try.prog 2 w6 mb (j+1) (slotF (t.vars.take (j+1)))):=(by have q:=hm6;rw [HNO.out] at q;rw [←HTK.out];exact q);have HT6:=hid (HT.out.trans T6);clear hm6 T6)
    go_roundg (gk - 1)
    case measure=>have:=HJ.out;omega
    case rel=>exact ⟨j+1,show _=_ by have:=HJ.out;have:=HJN.out;omega,by have:=HJN.out;omega,by go_num,HM6,HT6⟩
  · obtain rfl:n=j:=by omega
    have hnv:=HN.out;clear HJ HN hj hjn;subst hnv;have dj:decide ((t.vars.length:Int) < (t.vars.length:Int))=false:=decide_eq_false (by omega);obtain ⟨wo,hwo⟩:∃ z,z=wr:=⟨_,rfl⟩;subst hwo
    have HMS:Hid (IMap Try.prog 2 wo mb t.vars.length (slotF t.vars)):=by have:=HM.out;rw [List.take_of_length_le (Qm _)] at this;exact this
    have HT6:Hid (Turned zN w2 wo):=HT5.out.step HT.out (fun i hi e=>by have:=HMB.out;omega);obtain ⟨b0,b1,b2,b3,_⟩:=cells4 (HB.out wo HT6.out)
    have hln:=fun ty=>HMS.out.len Try.underlying172 ty
    clear HM HT;have TM:=((Turned.refl (fun _=>False) wo).alloc (.cells #[.int .i64 t.args.length,.int .i64 t.vars.length,.int .i64 0,.slice none 0 0] 104)).alloc (.map #[] 0);have h7:=twoBox wo (.cells #[.int .i64 t.args.length,.int .i64 t.vars.length,.int .i64 0,.slice none 0 0] 104) (.map #[] 0);obtain ⟨w7,hw7⟩:∃ z,z=(wo.alloc (.cells #[.int .i64 t.args.length,.int .i64 t.vars.length,.int .i64 0,.slice none 0 0] 104)).alloc (.map #[] 0):=⟨_,rfl⟩
    have HHM:Hid (IMap Try.prog 3 w7 (wo.heap.size+1) 0 (fun _=>none)):=by
     have:=IMap.made (wo.alloc (.cells #[.int .i64 t.args.length,.int .i64 t.vars.length,.int .i64 0,.slice none 0 0] 104)) Try.prog 3;rw [show (wo.alloc (.cells #[.int .i64 t.args.length,.int .i64 t.vars.length,.int .i64 0,.slice none 0 0] 104)).heap.size=wo.heap.size+1 from by simp] at this;rw [hw7];exact this
    rw [←hw7] at h7 TM;obtain ⟨m0,m1,m2,m3,_⟩:=cells4 (HB.out w7 (HT6.out.trans TM));rw [hw7] at m0 m1 m2 m3;have HTM:=hid TM;have H7:=hid h7;have HW7:=hid hw7;have hcl:=clone128 (p:=fun _=>True) (LT.In.sl (HX.out.turned0 (HT6.out.trans TM))) (by have h:=HG.out;unfold goodB at h;simp only [Qd,decide_eq_true_eq,Qt] at h;have:=h.1;rw [Tm.size_eq] at this;have:=Tm.cb_le' (l:=t.args) (Nat.zero_le _);rw [Tm.cb_zero] at this;omega);have HCL:=hid hcl;clear h7 TM hw7 hcl
    go_wp2_with (go_at_call 128;rw [←HW7.out];(with_reducible refine HCL.out.mono ?_);rintro e w8 ⟨a8,c8,rfl,hr8,ho8,T8⟩;have HR8:=hid hr8;have HO8:=hid ho8;have HT8:=hid T8;clear hr8 ho8 T8)
    clear m0 m1 m2 m3 b0 b1 b2 b3 hln
    have HI0:Hid (HeadI t wo.heap.size mb (wo.heap.size+1) 0 (.slice a8 t.args.length c8) w2 w8):=by
     have hz:=H7.out.2.1;have hzo:=HT6.out.size;have h78:=HT8.out.size;have TZ:=(HT6.out.trans HTM.out).trans HT8.out;have hlm:=HMS.out.lt;refine ⟨HMS.out.turned (HTM.out.trans HT8.out) (fun f=>f),?_,HR8.out,?_,⟨.slice none 0 0,(HT8.out.block _ (by omega) (fun f=>f)).trans H7.out.2.2.1,Row.nil _ _ _,fun k hk=>by simp [Value.ownBlock] at hk⟩,fun k hk=>?_,⟨hzo,HMB.out,by omega,by omega,by omega,by omega⟩,TZ⟩
     · have:=HHM.out.turned HT8.out (fun f=>f)
       rw [←hadF_nil] at this;exact this
     · exact (HX.out.mono (fun k hk _=>hk)).turned0 TZ
     · have:=HO8.out k hk
       omega
    obtain ⟨S,hS⟩:∃ S,S=Tm.sizes t.args:=⟨_,rfl⟩;have HS:=hid hS
    have HSL2:Hid (S≤2000):=by
     have h:=HG.out;unfold goodB at h;simp only [Qd,decide_eq_true_eq,Qt] at h;have:=h.1;rw [Tm.size_eq] at this;show S≤2000;omega
    have HRB:=hid (fun W (T:Turned zN w2 W)=>HR.out W T);clear hS HR8 HO8 HHM H7 HW7
    go_loopg [9,10] S (fun q sv i wr=>∃ j:Nat,Hid (j+q=S)∧j≤S∧i = .int .i64 j∧∃ sa sc,sv = .slice sa (cb t.args j) sc∧Hid (HeadI t wo.heap.size mb (wo.heap.size+1) j sv w2 wr))
    case atStart=>exact ⟨0,Nat.zero_add _,Nat.zero_le _,rfl,a8,c8,rfl,HI0⟩
    case round=>
     obtain ⟨j,HJ,hj,rfl,sa,sc,rfl,HI⟩:=hrel
     by_cases hjn:j < S
     · have hjs:j < Tm.sizes t.args:=by have:=HS.out;omega
       have hlt:=Tm.reg_lt hjs;obtain ⟨x,hx⟩:∃ x:LT,(reg t.args j)[j]? = some x:=⟨_,Qa hlt⟩;obtain ⟨xin,xone,xreg,xnext,xcb,xvar,xfew,x8⟩:=reg_facts HI.out.ins HG.out hjs hx;have hcbj:j < cb t.args j:=hlt;have dj:decide ((j:Int) < (cb t.args j:Int))=true:=decide_eq_true (by omega)
       have hneg:¬ ((j:Int) < 0):=by omega
       obtain ⟨g,cap',hcv⟩:=HI.out.regs.shape_pos (by omega)
       injection hcv with e1 _ e2
       subst e1 e2;obtain ⟨lv,hcc,hlr,hlo⟩:=HI.out.code;obtain ⟨c0,c1,c2,c3⟩:=term_cells HI.out.regs hx;have HJN:=hid hjn;have HXI:=hid xin;have HXR:=hid xreg;have HXN:=hid xnext;have HXC:=hid xcb;have HXF:=hid (And.intro xfew x8);have HXV:=hid xvar;have HCC:=hid hcc;have HLR:=hid hlr;have HLO:=hid hlo;have HX1:=hid xone;have HST:=hid (Tm.steps_succ (vs:=t.vars) xreg);have HCBJ:=hid hcbj;have hb2:=twoBox wr (.cells #[.int .i64 x.kind,.int .i64 x.n,.string x.name,.slice x.at_.1 x.args.length x.at_.2] 27) (.cells #[.string ⟨#[]⟩,.int .i64 j,.int .i64 0,.int .i64 0,.int .i64 0,.string ⟨#[]⟩] 139);obtain ⟨W2,hW2⟩:∃ z,z=(wr.alloc (.cells #[.int .i64 x.kind,.int .i64 x.n,.string x.name,.slice x.at_.1 x.args.length x.at_.2] 27)).alloc (.cells #[.string ⟨#[]⟩,.int .i64 j,.int .i64 0,.int .i64 0,.int .i64 0,.string ⟨#[]⟩] 139):=⟨_,rfl⟩;rw [←hW2] at hb2;have HTW:=hid hb2.1;have HBX:=hid hb2.2.2.1;have HBS:=hid hb2.2.2.2;have HZ2:=hid hb2.2.1;have HW2e:=hid hW2;clear xin xreg xnext xcb xfew x8 xvar hcc hlr hlo xone hb2 hW2 hlt hjs hx hcbj;have hS2:S≤2000:=HSL2.out
       by_cases h0:x.kind=0
       · have k0:(x.kind == 0)=true:=by simp [h0]
         have HK0:=hid h0;clear h0;have HKX:=hid (fun W (T:Turned (fun k=>k=wr.heap.size+1) W2 W)=>(T.block _ (zL HBX.out) (by omega)).trans HBX.out);have HLKS:=hid (fun W (T:Turned (fun k=>k=wr.heap.size+1) W2 W)=>slotLook ((HI.out.slots.turned HTW.out (fun f=>f)).turned T (fun e=>by have:=HI.out.slots.lt;omega)) (HXV.out HK0.out) HXI.out.n)
         have HPO:Hid (Tm.posOf t.vars x.n < 2001):=by
          have h1:=List.idxOf_lt_length_of_mem (HXV.out HK0.out);have h2:=vars_few HG.out;show t.vars.idxOf x.n < 2001;omega
         go_wp2_with fail
         rw [←HW2e.out];refine wp_region_k [76,77,78,79,80,81] [5,7] [] (fun dd vv=>(match dd with | 76=>vv = .map (some mb) | 77=>vv = .pointer (some ⟨wr.heap.size,1,none⟩) | 78=>vv = .int .i64 x.n | 79=>vv = .int .i64 (Tm.posOf t.vars x.n) | 80=>vv = .pointer (some ⟨wr.heap.size+1,0,none⟩) | 81=>vv = .pointer (some ⟨wr.heap.size+1,2,none⟩) | _=>True:Prop)) (BoxR (wr.heap.size+1) 139 [.string ⟨#[]⟩,.int .i64 j,.int .i64 0,.int .i64 0,.int .i64 0,.string ⟨#[]⟩] [.string sVar,.int .i64 j,.int .i64 (Tm.posOf t.vars x.n),.int .i64 0,.int .i64 0,.string ⟨#[]⟩] [(5,0),(7,2)] W2) (by kernel_rfl) rfl (by kernel_rfl) (by kernel_rfl) (fun w h=>BoxR.start HBS.out h) (fun hs w w' h ht=>h.turned0 ht) ?hs ?hQ
         case hs=>
          refine ⟨?s0,?s1,?s2,?s3,?s4,?s5,?s6,?s7,trivial⟩
          case s0=>refine fun hs hl=>zG [] [4] fun ac W hT hI hO=>?_;simp only [execOp,Act.eval,hO 4 (by simp)];go_simp;try exact tq
          case s1=>refine fun hs hl=>zG [] [11] fun ac W hT hI hO=>?_;simp only [execOp,Act.eval,hO 11 (by simp)];go_simp;try exact tq
          case s2=>refine fun hs hl=>zG [77] [] fun ac W hT hI hO=>?_;have h77:_=_:=hI 77 (by simp);obtain ⟨x0,x1,x2,x3,_⟩:=cells4 (HKX.out W hT.t);simp only [execOp,Act.eval,h77];go_simp;try exact tq
          case s3=>refine fun hs hl=>zG [76,78] [] fun ac W hT hI hO=>?_;have h76:_=_:=hI 76 (by simp);have h78:_=_:=hI 78 (by simp);have hlk:=HLKS.out W hT.t;simp only [execOp,Act.eval,h76,h78];go_simp;try exact tq
          case s4=>refine fun hs hl=>zG [] [12] fun ac W hT hI hO=>?_;simp only [execOp,Act.eval,hO 12 (by simp)];go_simp;try exact tq
          case s5=>
           refine fun hs hno hl=>zG [80] [] fun ac W hT hI hO=>?_;have h80:_=_:=hI 80 (by simp);show Brings _ (fun vv w'=>BoxR (wr.heap.size+1) 139 [.string ⟨#[]⟩,.int .i64 j,.int .i64 0,.int .i64 0,.int .i64 0,.string ⟨#[]⟩] [.string sVar,.int .i64 j,.int .i64 (Tm.posOf t.vars x.n),.int .i64 0,.int .i64 0,.string ⟨#[]⟩] [(5,0),(7,2)] W2 (hs++[(5,vv)]) w') _;obtain ⟨⟨z,hz⟩,hf⟩:=hT.at (c:=0) (by simp);simp only [execOp,Act.eval,h80];go_simp;exact hT.store (by kernel_rfl) (by simp) (by simp) rfl
          case s6=>refine fun hs hl=>zG [] [12] fun ac W hT hI hO=>?_;simp only [execOp,Act.eval,hO 12 (by simp)];go_simp;try exact tq
          case s7=>
           refine fun hs hno hl=>zG [81,79] [] fun ac W hT hI hO=>?_;have h81:_=_:=hI 81 (by simp);have h79:_=_:=hI 79 (by simp);show Brings _ (fun vv w'=>BoxR (wr.heap.size+1) 139 [.string ⟨#[]⟩,.int .i64 j,.int .i64 0,.int .i64 0,.int .i64 0,.string ⟨#[]⟩] [.string sVar,.int .i64 j,.int .i64 (Tm.posOf t.vars x.n),.int .i64 0,.int .i64 0,.string ⟨#[]⟩] [(5,0),(7,2)] W2 (hs++[(7,vv)]) w') _;obtain ⟨⟨z,hz⟩,hf⟩:=hT.at (c:=2) (by simp);simp only [execOp,Act.eval,h81,h79];go_simp;exact hT.store (by kernel_rfl) (by simp) (by simp) rfl
         case hQ=>
          intro hs3 vs3 W3 hall huniq hR hV;simp only [Qq,List.foldl_nil,Qk,Qs,Qr];have HS3:=hid (hR.done rfl (by intro a ha;simp only [Qw,Ql,or_false] at ha;rcases ha with rfl | rfl <;> exact hall _ (by simp)) (by intro c hc hn;simp only [QB,List.length_nil] at hc;simp only [Qx,List.map_nil,Qw,Ql,or_false,not_or] at hn;have hcs:c=0∨c=1∨c=2∨c=3∨c=4∨c=5:=(by omega);rcases hcs with rfl | rfl | rfl | rfl | rfl | rfl <;> first | rfl | omega));have HT3w:=hid hR.t;have HTR:Hid (Turned zN wr W3):=HTW.out.step hR.t (fun i hi e=>by omega);obtain ⟨s0,s1,s2,s3,s4,s5⟩:=cells6 HS3.out;have hfs:=free6 HS3.out;obtain ⟨z0,z1,z2,z3,_⟩:=cells4 (HKX.out W3 hR.t);obtain ⟨q0,q1,q2,q3,g0,g1,g2,g3⟩:=cells4 ((HTR.out.bt HCC.out));clear hR hV hall huniq
          by_cases hm:x.n∈met t.args j
          · have HMT:=hid hm
            clear hm
            have hlk:(Instr.lookup 145 (.map (some (wo.heap.size+1))) (.int .i64 (Tm.posOf t.vars x.n)) false).run Try.prog W3 = .ok (.bool true) W3:=by
             rw [hadLook (HI.out.had.turned HTR.out (fun f=>f)) (by unfold I64;have:=HPO.out;omega),decide_eq_true ((metS_mem (HXV.out HK0.out)).2 HMT.out)]
            have hkey:=key3 (n:=(Tm.posOf t.vars x.n:Int)) (by unfold I64;have:=HPO.out;omega);have hn3:(metS t j).length≤2000:=metS_few HG.out (by have:=HS.out;omega);have T4:Turned zN wr (W3.setCell ⟨wr.heap.size+1,0,none⟩ (.string sVal)):=HTR.out.setCell (.inl (show wr.heap.size≤wr.heap.size+1 by omega)) _
            have HS4:Hid ((W3.setCell ⟨wr.heap.size+1,0,none⟩ (.string sVal)).heap[wr.heap.size+1]? = some (.cells #[.string sVal,.int .i64 j,.int .i64 (Tm.posOf t.vars x.n),.int .i64 0,.int .i64 0,.string ⟨#[]⟩] 139 (0,0))):=by show _=_;simpa using heap_setCell_same W3 (wr.heap.size+1) 0 _ 139 (.string sVal) HS3.out
            have HT4:=hid T4;have HHD4:=hid (HI.out.had.turned T4 (fun f=>f));clear T4
            have HA0:Hid (x.args.length=0):=by have h:=HX1.out;rw [goodOneB_0 x HK0.out] at h;simp only [Qd,decide_eq_true_eq] at h;exact h.2.2.2
            have HCBE:Hid (cb t.args (j+1)=cb t.args j):=by show _=_;rw [HXC.out,HA0.out];rfl
            have HREG:Hid (reg t.args (j+1)=reg t.args j):=by show _=_;rw [HXN.out,Qh HA0.out,List.append_nil]
            have HST2:Hid (steps t.vars t.args (j+1)=steps t.vars t.args j++[⟨sVal,j,(Tm.posOf t.vars x.n:Int),0,0,ByteArray.empty⟩]):=by
             show _=_;rw [HST.out];unfold stepX;rw [if_pos HK0.out,if_pos HMT.out]
            go_wp2_with (first
             | (at_builtin;have HMID:Hid (HeadM t wo.heap.size mb (wo.heap.size+1) j (.slice (some ⟨g,0,none⟩) (cb t.args j) sc) lv w2 W5):=HI.out.mid HCC.out HLR.out HLO.out ((HT4.out.mono (fun _ _ f=>f.elim)).trans (HT5.out.mono (fun k _ e=>.inl e))) (by rw [metS_next HXR.out,if_neg (fun c=>c.2 HMT.out)];have q:IMap Try.prog 3 W5 (wo.heap.size+1) (if (hadF (metS t j) (Tm.posOf t.vars x.n:Int)).isSome then (metS t j).length else (metS t j).length+1) (upd (hadF (metS t j)) (Tm.posOf t.vars x.n:Int) (.bool true)):=HM5.out;rw [hadF_same ((metS_mem (HXV.out HK0.out)).2 HMT.out)] at q;have e:(hadF (metS t j) (Tm.posOf t.vars x.n:Int)).isSome=true:=(by unfold hadF;rw [if_pos ((metS_mem (HXV.out HK0.out)).2 HMT.out)];rfl);rw [e] at q;exact q) (by rw [HCBE.out,HREG.out];exact HI.out.regs.turned ((HT4.out.mono (fun _ _ f=>f.elim)).trans HT5.out) (fun k hk c=>(HI.out.own k hk).2.2.2 c)) (.inl rfl);obtain ⟨i0,hi0,hz0,hz1,hz2⟩:=info_parts infoS;have HMA:=hid (HMID.out.turned0 ((Turned.refl (fun _=>False) W5).alloc (.cells #[.string sVal,.int .i64 j,.int .i64 (Tm.posOf t.vars x.n),.int .i64 0,.int .i64 0,.string ⟨#[]⟩] 139)));have HNB:=hid (World.news_of_block (heap_alloc_new W5 (.cells #[.string sVal,.int .i64 j,.int .i64 (Tm.posOf t.vars x.n),.int .i64 0,.int .i64 0,.string ⟨#[]⟩] 139)));refine append_some _ rfl _ _ 102 rfl 139 i0 _ 6 64 Try.underlying102 hi0 hz0 hz1 hz2 rfl (by decide) lv j ((steps t.vars t.args j).flatMap stC) rfl HMA.out.row ⟨W5.heap.size,0,none⟩ 1 1 (stC ⟨sVal,j,(Tm.posOf t.vars x.n:Int),0,0,ByteArray.empty⟩) rfl rfl HNB.out (stC_one _) (by omega) (by unfold maxLen;omega) (by omega) ?_;intro g9 cap9 W9 hr9 T9 ho9;have hc9:=(T9.block _ (zL HMA.out.c) (fun c=>(HMA.out.lvo _ c).2.1 rfl)).trans HMA.out.c;obtain ⟨y0,y1,y2,y3,f0,f1,f2,f3⟩:=cells4 hc9;have HR9:=hid hr9;have HT9:=hid T9;have HO9:=hid ho9;have HC9:=hid hc9;clear hr9 T9 ho9 hc9)
             | (at_mapUpdate;refine wpList_put rfl _ _ _ 145 rfl law3 Try.underlying145 rfl HHD4.out (by unfold maxLen;omega) rfl rfl hkey trivial ?_;intro W5 hm5 T5;have HM5:=hid hm5;have HT5:=hid T5;have hs5:=(T5.block _ (zL HS4.out) (fun e=>by have:=HI.out.had.lt;omega)).trans HS4.out;obtain ⟨s0,s1,s2,s3,s4,s5⟩:=cells6 hs5;have hc4:=(HT4.out.bt HCC.out);have hc5:=(T5.block _ (zL hc4) (by omega)).trans hc4;obtain ⟨q0,q1,q2,q3,g0,g1,g2,g3⟩:=cells4 hc5;clear hm5 T5 hs5 hc5 hc4))
            have HNX:Hid (HeadI t wo.heap.size mb (wo.heap.size+1) (j+1) (.slice (some ⟨g,0,none⟩) (cb t.args j) sc) w2 (W9.setCell ⟨wo.heap.size,3,none⟩ (.slice (some ⟨g9,0,none⟩) (j+1) cap9))):=HMA.out.next HST2.out HT9.out HR9.out (HO9.out.imp (fun c=>by simpa [Value.ownBlock] using c) (fun c k hk=>by simp [Value.ownBlock] at hk;omega)) (turned_cell' _ _ _ _) (by simpa using heap_setCell_same W9 wo.heap.size 3 _ 104 (.slice (some ⟨g9,0,none⟩) (j+1) cap9) HC9.out);go_roundg (gk - 1)
            case measure=>have:=HJ.out;omega
            case rel=>exact ⟨j+1,show _=_ by have:=HJ.out;omega,by omega,by go_num,some ⟨g,0,none⟩,sc,by rw [HCBE.out],HNX⟩
          · have HMT:=hid hm
            clear hm
            have hlk:(Instr.lookup 145 (.map (some (wo.heap.size+1))) (.int .i64 (Tm.posOf t.vars x.n)) false).run Try.prog W3 = .ok (.bool false) W3:=by
             rw [hadLook (HI.out.had.turned HTR.out (fun f=>f)) (by unfold I64;have:=HPO.out;omega),decide_eq_false (fun c=>HMT.out ((metS_mem (HXV.out HK0.out)).1 c))]
            have hkey:=key3 (n:=(Tm.posOf t.vars x.n:Int)) (by unfold I64;have:=HPO.out;omega);have hn3:(metS t j).length≤2000:=metS_few HG.out (by have:=HS.out;omega);have T4:Turned zN wr W3:=HTR.out;have HS4:=HS3;have HT4:=hid T4;have HHD4:=hid (HI.out.had.turned T4 (fun f=>f));clear T4
            have HA0:Hid (x.args.length=0):=by have h:=HX1.out;rw [goodOneB_0 x HK0.out] at h;simp only [Qd,decide_eq_true_eq] at h;exact h.2.2.2
            have HCBE:Hid (cb t.args (j+1)=cb t.args j):=by show _=_;rw [HXC.out,HA0.out];rfl
            have HREG:Hid (reg t.args (j+1)=reg t.args j):=by show _=_;rw [HXN.out,Qh HA0.out,List.append_nil]
            have HST2:Hid (steps t.vars t.args (j+1)=steps t.vars t.args j++[⟨sVar,j,(Tm.posOf t.vars x.n:Int),0,0,ByteArray.empty⟩]):=by
             show _=_;rw [HST.out];unfold stepX;rw [if_pos HK0.out,if_neg HMT.out]
            go_wp2_with (first
             | (at_builtin;have HMID:Hid (HeadM t wo.heap.size mb (wo.heap.size+1) j (.slice (some ⟨g,0,none⟩) (cb t.args j) sc) lv w2 W5):=HI.out.mid HCC.out HLR.out HLO.out ((HT4.out.mono (fun _ _ f=>f.elim)).trans (HT5.out.mono (fun k _ e=>.inl e))) (by rw [metS_next HXR.out,if_pos ⟨HK0.out,HMT.out⟩,Qi];have q:IMap Try.prog 3 W5 (wo.heap.size+1) (if (hadF (metS t j) (Tm.posOf t.vars x.n:Int)).isSome then (metS t j).length else (metS t j).length+1) (upd (hadF (metS t j)) (Tm.posOf t.vars x.n:Int) (.bool true)):=HM5.out;rw [hadF_put] at q;have e:(hadF (metS t j) (Tm.posOf t.vars x.n:Int)).isSome=false:=(by unfold hadF;rw [if_neg (fun c=>HMT.out ((metS_mem (HXV.out HK0.out)).1 c))];rfl);rw [e] at q;exact q) (by rw [HCBE.out,HREG.out];exact HI.out.regs.turned ((HT4.out.mono (fun _ _ f=>f.elim)).trans HT5.out) (fun k hk c=>(HI.out.own k hk).2.2.2 c)) (.inl rfl);obtain ⟨i0,hi0,hz0,hz1,hz2⟩:=info_parts infoS;have HMA:=hid (HMID.out.turned0 ((Turned.refl (fun _=>False) W5).alloc (.cells #[.string sVar,.int .i64 j,.int .i64 (Tm.posOf t.vars x.n),.int .i64 0,.int .i64 0,.string ⟨#[]⟩] 139)));have HNB:=hid (World.news_of_block (heap_alloc_new W5 (.cells #[.string sVar,.int .i64 j,.int .i64 (Tm.posOf t.vars x.n),.int .i64 0,.int .i64 0,.string ⟨#[]⟩] 139)));refine append_some _ rfl _ _ 102 rfl 139 i0 _ 6 64 Try.underlying102 hi0 hz0 hz1 hz2 rfl (by decide) lv j ((steps t.vars t.args j).flatMap stC) rfl HMA.out.row ⟨W5.heap.size,0,none⟩ 1 1 (stC ⟨sVar,j,(Tm.posOf t.vars x.n:Int),0,0,ByteArray.empty⟩) rfl rfl HNB.out (stC_one _) (by omega) (by unfold maxLen;omega) (by omega) ?_;intro g9 cap9 W9 hr9 T9 ho9;have hc9:=(T9.block _ (zL HMA.out.c) (fun c=>(HMA.out.lvo _ c).2.1 rfl)).trans HMA.out.c;obtain ⟨y0,y1,y2,y3,f0,f1,f2,f3⟩:=cells4 hc9;have HR9:=hid hr9;have HT9:=hid T9;have HO9:=hid ho9;have HC9:=hid hc9;clear hr9 T9 ho9 hc9)
             | (at_mapUpdate;refine wpList_put rfl _ _ _ 145 rfl law3 Try.underlying145 rfl HHD4.out (by unfold maxLen;omega) rfl rfl hkey trivial ?_;intro W5 hm5 T5;have HM5:=hid hm5;have HT5:=hid T5;have hs5:=(T5.block _ (zL HS4.out) (fun e=>by have:=HI.out.had.lt;omega)).trans HS4.out;obtain ⟨s0,s1,s2,s3,s4,s5⟩:=cells6 hs5;have hc4:=(HT4.out.bt HCC.out);have hc5:=(T5.block _ (zL hc4) (by omega)).trans hc4;obtain ⟨q0,q1,q2,q3,g0,g1,g2,g3⟩:=cells4 hc5;clear hm5 T5 hs5 hc5 hc4))
            have HNX:Hid (HeadI t wo.heap.size mb (wo.heap.size+1) (j+1) (.slice (some ⟨g,0,none⟩) (cb t.args j) sc) w2 (W9.setCell ⟨wo.heap.size,3,none⟩ (.slice (some ⟨g9,0,none⟩) (j+1) cap9))):=HMA.out.next HST2.out HT9.out HR9.out (HO9.out.imp (fun c=>by simpa [Value.ownBlock] using c) (fun c k hk=>by simp [Value.ownBlock] at hk;omega)) (turned_cell' _ _ _ _) (by simpa using heap_setCell_same W9 wo.heap.size 3 _ 104 (.slice (some ⟨g9,0,none⟩) (j+1) cap9) HC9.out);go_roundg (gk - 1)
            case measure=>have:=HJ.out;omega
            case rel=>exact ⟨j+1,show _=_ by have:=HJ.out;omega,by omega,by go_num,some ⟨g,0,none⟩,sc,by rw [HCBE.out],HNX⟩
       · have k0:(x.kind == 0)=false:=by simp [h0]
         have HK0:=hid h0;clear h0;have HKX:=hid (fun W (T:Turned (fun k=>k=wr.heap.size+1) W2 W)=>(T.block _ (zL HBX.out) (by omega)).trans HBX.out)
         by_cases h1:x.kind=1
         · have k1:(x.kind == 1)=true:=by simp [h1]
           have HK1:=hid h1;clear h1
           go_wp2_with fail
           rw [←HW2e.out];refine wp_region_k [94,95,96,97] [3,5] [] (fun dd vv=>(match dd with | 94=>vv = .pointer (some ⟨wr.heap.size,1,none⟩) | 95=>vv = .int .i64 x.n | 96=>vv = .pointer (some ⟨wr.heap.size+1,0,none⟩) | 97=>vv = .pointer (some ⟨wr.heap.size+1,4,none⟩) | _=>True:Prop)) (BoxR (wr.heap.size+1) 139 [.string ⟨#[]⟩,.int .i64 j,.int .i64 0,.int .i64 0,.int .i64 0,.string ⟨#[]⟩] [.string sInt,.int .i64 j,.int .i64 0,.int .i64 0,.int .i64 x.n,.string ⟨#[]⟩] [(3,0),(5,4)] W2) (by kernel_rfl) rfl (by kernel_rfl) (by kernel_rfl) (fun w h=>BoxR.start HBS.out h) (fun hs w w' h ht=>h.turned0 ht) ?hs ?hQ
           case hs=>
            refine ⟨?s0,?s1,?s2,?s3,?s4,?s5,trivial⟩
            case s0=>refine fun hs hl=>zG [] [11] fun ac W hT hI hO=>?_;simp only [execOp,Act.eval,hO 11 (by simp)];go_simp;try exact tq
            case s1=>refine fun hs hl=>zG [94] [] fun ac W hT hI hO=>?_;have h94:_=_:=hI 94 (by simp);obtain ⟨x0,x1,x2,x3,_⟩:=cells4 (HKX.out W hT.t);simp only [execOp,Act.eval,h94];go_simp;try exact tq
            case s2=>refine fun hs hl=>zG [] [12] fun ac W hT hI hO=>?_;simp only [execOp,Act.eval,hO 12 (by simp)];go_simp;try exact tq
            case s3=>
             refine fun hs hno hl=>zG [96] [] fun ac W hT hI hO=>?_;have h96:_=_:=hI 96 (by simp);show Brings _ (fun vv w'=>BoxR (wr.heap.size+1) 139 [.string ⟨#[]⟩,.int .i64 j,.int .i64 0,.int .i64 0,.int .i64 0,.string ⟨#[]⟩] [.string sInt,.int .i64 j,.int .i64 0,.int .i64 0,.int .i64 x.n,.string ⟨#[]⟩] [(3,0),(5,4)] W2 (hs++[(3,vv)]) w') _;obtain ⟨⟨z,hz⟩,hf⟩:=hT.at (c:=0) (by simp);simp only [execOp,Act.eval,h96];go_simp;exact hT.store (by kernel_rfl) (by simp) (by simp) rfl
            case s4=>refine fun hs hl=>zG [] [12] fun ac W hT hI hO=>?_;simp only [execOp,Act.eval,hO 12 (by simp)];go_simp;try exact tq
            case s5=>
             refine fun hs hno hl=>zG [97,95] [] fun ac W hT hI hO=>?_;have h97:_=_:=hI 97 (by simp);have h95:_=_:=hI 95 (by simp);show Brings _ (fun vv w'=>BoxR (wr.heap.size+1) 139 [.string ⟨#[]⟩,.int .i64 j,.int .i64 0,.int .i64 0,.int .i64 0,.string ⟨#[]⟩] [.string sInt,.int .i64 j,.int .i64 0,.int .i64 0,.int .i64 x.n,.string ⟨#[]⟩] [(3,0),(5,4)] W2 (hs++[(5,vv)]) w') _;obtain ⟨⟨z,hz⟩,hf⟩:=hT.at (c:=4) (by simp);simp only [execOp,Act.eval,h97,h95];go_simp;exact hT.store (by kernel_rfl) (by simp) (by simp) rfl
           case hQ=>
            intro hs3 vs3 W3 hall huniq hR hV;simp only [Qq,List.foldl_nil,Qk,Qs,Qr];have HS3:=hid (hR.done rfl (by intro a ha;simp only [Qw,Ql,or_false] at ha;rcases ha with rfl | rfl <;> exact hall _ (by simp)) (by intro c hc hn;simp only [QB,List.length_nil] at hc;simp only [Qx,List.map_nil,Qw,Ql,or_false,not_or] at hn;have hcs:c=0∨c=1∨c=2∨c=3∨c=4∨c=5:=(by omega);rcases hcs with rfl | rfl | rfl | rfl | rfl | rfl <;> first | rfl | omega));have HT3w:=hid hR.t;have HTR:Hid (Turned zN wr W3):=HTW.out.step hR.t (fun i hi e=>by omega);obtain ⟨s0,s1,s2,s3,s4,s5⟩:=cells6 HS3.out;have hfs:=free6 HS3.out;obtain ⟨z0,z1,z2,z3,_⟩:=cells4 (HKX.out W3 hR.t);obtain ⟨q0,q1,q2,q3,g0,g1,g2,g3⟩:=cells4 ((HTR.out.bt HCC.out));clear hR hV hall huniq
            have HA0:Hid (x.args.length=0):=by have h:=HX1.out;rw [goodOneB_1 x HK1.out] at h;simp only [Qd,decide_eq_true_eq] at h;exact h.2
            have HCBE:Hid (cb t.args (j+1)=cb t.args j):=by show _=_;rw [HXC.out,HA0.out];rfl
            have HREG:Hid (reg t.args (j+1)=reg t.args j):=by show _=_;rw [HXN.out,Qh HA0.out,List.append_nil]
            have hn3:(metS t j).length≤2000:=metS_few HG.out (by have:=HS.out;omega)
            have HST2:Hid (steps t.vars t.args (j+1)=steps t.vars t.args j++[⟨sInt,j,0,0,x.n,ByteArray.empty⟩]):=by
             show _=_;rw [HST.out];unfold stepX;rw [if_neg HK0.out,if_pos HK1.out]
            go_wp2_with (at_builtin;have HMID:Hid (HeadM t wo.heap.size mb (wo.heap.size+1) j (.slice (some ⟨g,0,none⟩) (cb t.args j) sc) lv w2 W3):=HI.out.mid HCC.out HLR.out HLO.out (HTR.out.mono (fun _ _ f=>f.elim)) (by rw [metS_next HXR.out,if_neg (fun c=>HK0.out c.1)];exact HI.out.had.turned HTR.out (fun f=>f)) (by rw [HCBE.out,HREG.out];exact HI.out.regs.turned0 HTR.out) (.inl rfl);obtain ⟨i0,hi0,hz0,hz1,hz2⟩:=info_parts infoS;have HMA:=hid (HMID.out.turned0 ((Turned.refl (fun _=>False) W3).alloc (.cells #[.string sInt,.int .i64 j,.int .i64 0,.int .i64 0,.int .i64 x.n,.string ⟨#[]⟩] 139)));have HNB:=hid (World.news_of_block (heap_alloc_new W3 (.cells #[.string sInt,.int .i64 j,.int .i64 0,.int .i64 0,.int .i64 x.n,.string ⟨#[]⟩] 139)));refine append_some _ rfl _ _ 102 rfl 139 i0 _ 6 64 Try.underlying102 hi0 hz0 hz1 hz2 rfl (by decide) lv j ((steps t.vars t.args j).flatMap stC) rfl HMA.out.row ⟨W3.heap.size,0,none⟩ 1 1 (stC ⟨sInt,j,0,0,x.n,ByteArray.empty⟩) rfl rfl HNB.out (stC_one _) (by omega) (by unfold maxLen;omega) (by omega) ?_;intro g9 cap9 W9 hr9 T9 ho9;have hc9:=(T9.block _ (zL HMA.out.c) (fun c=>(HMA.out.lvo _ c).2.1 rfl)).trans HMA.out.c;obtain ⟨y0,y1,y2,y3,f0,f1,f2,f3⟩:=cells4 hc9;have HR9:=hid hr9;have HT9:=hid T9;have HO9:=hid ho9;have HC9:=hid hc9;clear hr9 T9 ho9 hc9)
            have HNX:Hid (HeadI t wo.heap.size mb (wo.heap.size+1) (j+1) (.slice (some ⟨g,0,none⟩) (cb t.args j) sc) w2 (W9.setCell ⟨wo.heap.size,3,none⟩ (.slice (some ⟨g9,0,none⟩) (j+1) cap9))):=HMA.out.next HST2.out HT9.out HR9.out (HO9.out.imp (fun c=>by simpa [Value.ownBlock] using c) (fun c k hk=>by simp [Value.ownBlock] at hk;omega)) (turned_cell' _ _ _ _) (by simpa using heap_setCell_same W9 wo.heap.size 3 _ 104 (.slice (some ⟨g9,0,none⟩) (j+1) cap9) HC9.out);go_roundg (gk - 1)
            case measure=>have:=HJ.out;omega
            case rel=>exact ⟨j+1,show _=_ by have:=HJ.out;omega,by omega,by go_num,some ⟨g,0,none⟩,sc,by rw [HCBE.out],HNX⟩
         · have k1:(x.kind == 1)=false:=by simp [h1]
           have HK1:=hid h1;clear h1
           by_cases h2:x.args.length=0
           · have k2:((x.args.length:Int) == 0)=true:=by simp [h2]
             have HA2:=hid h2;clear h2
             go_wp2_with fail
             rw [←HW2e.out];refine wp_region_k [103,104,105,106] [3,5] [] (fun dd vv=>(match dd with | 103=>vv = .pointer (some ⟨wr.heap.size,2,none⟩) | 104=>vv = .string x.name | 105=>vv = .pointer (some ⟨wr.heap.size+1,0,none⟩) | 106=>vv = .pointer (some ⟨wr.heap.size+1,5,none⟩) | _=>True:Prop)) (BoxR (wr.heap.size+1) 139 [.string ⟨#[]⟩,.int .i64 j,.int .i64 0,.int .i64 0,.int .i64 0,.string ⟨#[]⟩] [.string sAtom,.int .i64 j,.int .i64 0,.int .i64 0,.int .i64 0,.string x.name] [(3,0),(5,5)] W2) (by kernel_rfl) rfl (by kernel_rfl) (by kernel_rfl) (fun w h=>BoxR.start HBS.out h) (fun hs w w' h ht=>h.turned0 ht) ?hs ?hQ
             case hs=>
              refine ⟨?s0,?s1,?s2,?s3,?s4,?s5,trivial⟩
              case s0=>refine fun hs hl=>zG [] [11] fun ac W hT hI hO=>?_;simp only [execOp,Act.eval,hO 11 (by simp)];go_simp;try exact tq
              case s1=>refine fun hs hl=>zG [103] [] fun ac W hT hI hO=>?_;have h103:_=_:=hI 103 (by simp);obtain ⟨x0,x1,x2,x3,_⟩:=cells4 (HKX.out W hT.t);simp only [execOp,Act.eval,h103];go_simp;try exact tq
              case s2=>refine fun hs hl=>zG [] [12] fun ac W hT hI hO=>?_;simp only [execOp,Act.eval,hO 12 (by simp)];go_simp;try exact tq
              case s3=>
               refine fun hs hno hl=>zG [105] [] fun ac W hT hI hO=>?_;have h105:_=_:=hI 105 (by simp);show Brings _ (fun vv w'=>BoxR (wr.heap.size+1) 139 [.string ⟨#[]⟩,.int .i64 j,.int .i64 0,.int .i64 0,.int .i64 0,.string ⟨#[]⟩] [.string sAtom,.int .i64 j,.int .i64 0,.int .i64 0,.int .i64 0,.string x.name] [(3,0),(5,5)] W2 (hs++[(3,vv)]) w') _;obtain ⟨⟨z,hz⟩,hf⟩:=hT.at (c:=0) (by simp);simp only [execOp,Act.eval,h105];go_simp;exact hT.store (by kernel_rfl) (by simp) (by simp) rfl
              case s4=>refine fun hs hl=>zG [] [12] fun ac W hT hI hO=>?_;simp only [execOp,Act.eval,hO 12 (by simp)];go_simp;try exact tq
              case s5=>
               refine fun hs hno hl=>zG [106,104] [] fun ac W hT hI hO=>?_;have h106:_=_:=hI 106 (by simp);have h104:_=_:=hI 104 (by simp);show Brings _ (fun vv w'=>BoxR (wr.heap.size+1) 139 [.string ⟨#[]⟩,.int .i64 j,.int .i64 0,.int .i64 0,.int .i64 0,.string ⟨#[]⟩] [.string sAtom,.int .i64 j,.int .i64 0,.int .i64 0,.int .i64 0,.string x.name] [(3,0),(5,5)] W2 (hs++[(5,vv)]) w') _;obtain ⟨⟨z,hz⟩,hf⟩:=hT.at (c:=5) (by simp);simp only [execOp,Act.eval,h106,h104];go_simp;exact hT.store (by kernel_rfl) (by simp) (by simp) rfl
             case hQ=>
              intro hs3 vs3 W3 hall huniq hR hV;simp only [Qq,List.foldl_nil,Qk,Qs,Qr];have HS3:=hid (hR.done rfl (by intro a ha;simp only [Qw,Ql,or_false] at ha;rcases ha with rfl | rfl <;> exact hall _ (by simp)) (by intro c hc hn;simp only [QB,List.length_nil] at hc;simp only [Qx,List.map_nil,Qw,Ql,or_false,not_or] at hn;have hcs:c=0∨c=1∨c=2∨c=3∨c=4∨c=5:=(by omega);rcases hcs with rfl | rfl | rfl | rfl | rfl | rfl <;> first | rfl | omega));have HT3w:=hid hR.t;have HTR:Hid (Turned zN wr W3):=HTW.out.step hR.t (fun i hi e=>by omega);obtain ⟨s0,s1,s2,s3,s4,s5⟩:=cells6 HS3.out;have hfs:=free6 HS3.out;obtain ⟨z0,z1,z2,z3,_⟩:=cells4 (HKX.out W3 hR.t);obtain ⟨q0,q1,q2,q3,g0,g1,g2,g3⟩:=cells4 ((HTR.out.bt HCC.out));clear hR hV hall huniq;have HA0:Hid (x.args.length=0):=HA2.out
              have HCBE:Hid (cb t.args (j+1)=cb t.args j):=by show _=_;rw [HXC.out,HA0.out];rfl
              have HREG:Hid (reg t.args (j+1)=reg t.args j):=by show _=_;rw [HXN.out,Qh HA0.out,List.append_nil]
              have hn3:(metS t j).length≤2000:=metS_few HG.out (by have:=HS.out;omega)
              have HST2:Hid (steps t.vars t.args (j+1)=steps t.vars t.args j++[⟨sAtom,j,0,0,0,x.name⟩]):=by
               show _=_;rw [HST.out];unfold stepX;rw [if_neg HK0.out,if_neg HK1.out,if_pos HA2.out]
              go_wp2_with (at_builtin;have HMID:Hid (HeadM t wo.heap.size mb (wo.heap.size+1) j (.slice (some ⟨g,0,none⟩) (cb t.args j) sc) lv w2 W3):=HI.out.mid HCC.out HLR.out HLO.out (HTR.out.mono (fun _ _ f=>f.elim)) (by rw [metS_next HXR.out,if_neg (fun c=>HK0.out c.1)];exact HI.out.had.turned HTR.out (fun f=>f)) (by rw [HCBE.out,HREG.out];exact HI.out.regs.turned0 HTR.out) (.inl rfl);obtain ⟨i0,hi0,hz0,hz1,hz2⟩:=info_parts infoS;have HMA:=hid (HMID.out.turned0 ((Turned.refl (fun _=>False) W3).alloc (.cells #[.string sAtom,.int .i64 j,.int .i64 0,.int .i64 0,.int .i64 0,.string x.name] 139)));have HNB:=hid (World.news_of_block (heap_alloc_new W3 (.cells #[.string sAtom,.int .i64 j,.int .i64 0,.int .i64 0,.int .i64 0,.string x.name] 139)));refine append_some _ rfl _ _ 102 rfl 139 i0 _ 6 64 Try.underlying102 hi0 hz0 hz1 hz2 rfl (by decide) lv j ((steps t.vars t.args j).flatMap stC) rfl HMA.out.row ⟨W3.heap.size,0,none⟩ 1 1 (stC ⟨sAtom,j,0,0,0,x.name⟩) rfl rfl HNB.out (stC_one _) (by omega) (by unfold maxLen;omega) (by omega) ?_;intro g9 cap9 W9 hr9 T9 ho9;have hc9:=(T9.block _ (zL HMA.out.c) (fun c=>(HMA.out.lvo _ c).2.1 rfl)).trans HMA.out.c;obtain ⟨y0,y1,y2,y3,f0,f1,f2,f3⟩:=cells4 hc9;have HR9:=hid hr9;have HT9:=hid T9;have HO9:=hid ho9;have HC9:=hid hc9;clear hr9 T9 ho9 hc9)
              have HNX:Hid (HeadI t wo.heap.size mb (wo.heap.size+1) (j+1) (.slice (some ⟨g,0,none⟩) (cb t.args j) sc) w2 (W9.setCell ⟨wo.heap.size,3,none⟩ (.slice (some ⟨g9,0,none⟩) (j+1) cap9))):=HMA.out.next HST2.out HT9.out HR9.out (HO9.out.imp (fun c=>by simpa [Value.ownBlock] using c) (fun c k hk=>by simp [Value.ownBlock] at hk;omega)) (turned_cell' _ _ _ _) (by simpa using heap_setCell_same W9 wo.heap.size 3 _ 104 (.slice (some ⟨g9,0,none⟩) (j+1) cap9) HC9.out);go_roundg (gk - 1)
              case measure=>have:=HJ.out;omega
              case rel=>exact ⟨j+1,show _=_ by have:=HJ.out;omega,by omega,by go_num,some ⟨g,0,none⟩,sc,by rw [HCBE.out],HNX⟩
           · have k2:((x.args.length:Int) == 0)=false:=by simp [h2]
             have HA2:=hid h2;clear h2
             go_wp2_with fail
             rw [←HW2e.out];refine wp_region_k [57,58,59,60,61,62,63,64,65,66,67] [8,10,12,14] [] (fun dd vv=>(match dd with | 57=>vv = .pointer (some ⟨wr.heap.size,2,none⟩) | 58=>vv = .string x.name | 59=>vv = .pointer (some ⟨wr.heap.size,3,none⟩) | 60=>vv = .slice x.at_.1 x.args.length x.at_.2 | 61=>vv = .int .i64 x.args.length | 62=>vv = .slice (some ⟨g,0,none⟩) (cb t.args j) sc | 63=>vv = .int .i64 (cb t.args j) | 64=>vv = .pointer (some ⟨wr.heap.size+1,0,none⟩) | 65=>vv = .pointer (some ⟨wr.heap.size+1,5,none⟩) | 66=>vv = .pointer (some ⟨wr.heap.size+1,2,none⟩) | 67=>vv = .pointer (some ⟨wr.heap.size+1,3,none⟩) | _=>True:Prop)) (BoxR (wr.heap.size+1) 139 [.string ⟨#[]⟩,.int .i64 j,.int .i64 0,.int .i64 0,.int .i64 0,.string ⟨#[]⟩] [.string sComp,.int .i64 j,.int .i64 x.args.length,.int .i64 (cb t.args j),.int .i64 0,.string x.name] [(8,0),(10,5),(12,2),(14,3)] W2) (by kernel_rfl) rfl (by kernel_rfl) (by kernel_rfl) (fun w h=>BoxR.start HBS.out h) (fun hs w w' h ht=>h.turned0 ht) ?hs ?hQ
             case hs=>
              refine ⟨?s0,?s1,?s2,?s3,?s4,?s5,?s6,?s7,?s8,?s9,?s10,?s11,?s12,?s13,?s14,trivial⟩
              case s0=>refine fun hs hl=>zG [] [11] fun ac W hT hI hO=>?_;simp only [execOp,Act.eval,hO 11 (by simp)];go_simp;try exact tq
              case s1=>refine fun hs hl=>zG [57] [] fun ac W hT hI hO=>?_;have h57:_=_:=hI 57 (by simp);obtain ⟨x0,x1,x2,x3,_⟩:=cells4 (HKX.out W hT.t);simp only [execOp,Act.eval,h57];go_simp;try exact tq
              case s2=>refine fun hs hl=>zG [] [11] fun ac W hT hI hO=>?_;simp only [execOp,Act.eval,hO 11 (by simp)];go_simp;try exact tq
              case s3=>refine fun hs hl=>zG [59] [] fun ac W hT hI hO=>?_;have h59:_=_:=hI 59 (by simp);obtain ⟨x0,x1,x2,x3,_⟩:=cells4 (HKX.out W hT.t);simp only [execOp,Act.eval,h59];go_simp;try exact tq
              case s4=>refine fun hs hl=>zG [60] [] fun ac W hT hI hO=>?_;have h60:_=_:=hI 60 (by simp);simp only [execOp,Act.eval,h60];go_simp;try exact tq
              case s5=>refine fun hs hl=>zG [] [9] fun ac W hT hI hO=>?_;simp only [execOp,Act.eval,hO 9 (by simp)];go_simp;try exact tq
              case s6=>refine fun hs hl=>zG [62] [] fun ac W hT hI hO=>?_;have h62:_=_:=hI 62 (by simp);simp only [execOp,Act.eval,h62];go_simp;try exact tq
              case s7=>refine fun hs hl=>zG [] [12] fun ac W hT hI hO=>?_;simp only [execOp,Act.eval,hO 12 (by simp)];go_simp;try exact tq
              case s8=>
               refine fun hs hno hl=>zG [64] [] fun ac W hT hI hO=>?_;have h64:_=_:=hI 64 (by simp);show Brings _ (fun vv w'=>BoxR (wr.heap.size+1) 139 [.string ⟨#[]⟩,.int .i64 j,.int .i64 0,.int .i64 0,.int .i64 0,.string ⟨#[]⟩] [.string sComp,.int .i64 j,.int .i64 x.args.length,.int .i64 (cb t.args j),.int .i64 0,.string x.name] [(8,0),(10,5),(12,2),(14,3)] W2 (hs++[(8,vv)]) w') _;obtain ⟨⟨z,hz⟩,hf⟩:=hT.at (c:=0) (by simp);simp only [execOp,Act.eval,h64];go_simp;exact hT.store (by kernel_rfl) (by simp) (by simp) rfl
              case s9=>refine fun hs hl=>zG [] [12] fun ac W hT hI hO=>?_;simp only [execOp,Act.eval,hO 12 (by simp)];go_simp;try exact tq
              case s10=>
               refine fun hs hno hl=>zG [65,58] [] fun ac W hT hI hO=>?_;have h65:_=_:=hI 65 (by simp);have h58:_=_:=hI 58 (by simp);show Brings _ (fun vv w'=>BoxR (wr.heap.size+1) 139 [.string ⟨#[]⟩,.int .i64 j,.int .i64 0,.int .i64 0,.int .i64 0,.string ⟨#[]⟩] [.string sComp,.int .i64 j,.int .i64 x.args.length,.int .i64 (cb t.args j),.int .i64 0,.string x.name] [(8,0),(10,5),(12,2),(14,3)] W2 (hs++[(10,vv)]) w') _;obtain ⟨⟨z,hz⟩,hf⟩:=hT.at (c:=5) (by simp);simp only [execOp,Act.eval,h65,h58];go_simp;exact hT.store (by kernel_rfl) (by simp) (by simp) rfl
              case s11=>refine fun hs hl=>zG [] [12] fun ac W hT hI hO=>?_;simp only [execOp,Act.eval,hO 12 (by simp)];go_simp;try exact tq
              case s12=>
               refine fun hs hno hl=>zG [66,61] [] fun ac W hT hI hO=>?_;have h66:_=_:=hI 66 (by simp);have h61:_=_:=hI 61 (by simp);show Brings _ (fun vv w'=>BoxR (wr.heap.size+1) 139 [.string ⟨#[]⟩,.int .i64 j,.int .i64 0,.int .i64 0,.int .i64 0,.string ⟨#[]⟩] [.string sComp,.int .i64 j,.int .i64 x.args.length,.int .i64 (cb t.args j),.int .i64 0,.string x.name] [(8,0),(10,5),(12,2),(14,3)] W2 (hs++[(12,vv)]) w') _;obtain ⟨⟨z,hz⟩,hf⟩:=hT.at (c:=2) (by simp);simp only [execOp,Act.eval,h66,h61];go_simp;exact hT.store (by kernel_rfl) (by simp) (by simp) rfl
              case s13=>refine fun hs hl=>zG [] [12] fun ac W hT hI hO=>?_;simp only [execOp,Act.eval,hO 12 (by simp)];go_simp;try exact tq
              case s14=>
               refine fun hs hno hl=>zG [67,63] [] fun ac W hT hI hO=>?_;have h67:_=_:=hI 67 (by simp);have h63:_=_:=hI 63 (by simp);show Brings _ (fun vv w'=>BoxR (wr.heap.size+1) 139 [.string ⟨#[]⟩,.int .i64 j,.int .i64 0,.int .i64 0,.int .i64 0,.string ⟨#[]⟩] [.string sComp,.int .i64 j,.int .i64 x.args.length,.int .i64 (cb t.args j),.int .i64 0,.string x.name] [(8,0),(10,5),(12,2),(14,3)] W2 (hs++[(14,vv)]) w') _;obtain ⟨⟨z,hz⟩,hf⟩:=hT.at (c:=3) (by simp);simp only [execOp,Act.eval,h67,h63];go_simp;exact hT.store (by kernel_rfl) (by simp) (by simp) rfl
             case hQ=>
              intro hs3 vs3 W3 hall huniq hR hV;simp only [Qq,List.foldl_nil,Qk,Qs,Qr];have HS3:=hid (hR.done rfl (by intro a ha;simp only [Qw,Ql,or_false] at ha;rcases ha with rfl | rfl | rfl | rfl <;> exact hall _ (by simp)) (by intro c hc hn;simp only [QB,List.length_nil] at hc;simp only [Qx,List.map_nil,Qw,Ql,or_false,not_or] at hn;have hcs:c=0∨c=1∨c=2∨c=3∨c=4∨c=5:=(by omega);rcases hcs with rfl | rfl | rfl | rfl | rfl | rfl <;> first | rfl | omega));have HT3w:=hid hR.t;have HTR:Hid (Turned zN wr W3):=HTW.out.step hR.t (fun i hi e=>by omega);obtain ⟨s0,s1,s2,s3,s4,s5⟩:=cells6 HS3.out;have hfs:=free6 HS3.out;obtain ⟨z0,z1,z2,z3,_⟩:=cells4 (HKX.out W3 hR.t);obtain ⟨q0,q1,q2,q3,g0,g1,g2,g3⟩:=cells4 ((HTR.out.bt HCC.out));clear hR hV hall huniq;have hn3:(metS t j).length≤2000:=metS_few HG.out (by have:=HS.out;omega)
              have hpos:0 < x.args.length:=by have:=HA2.out;omega
              obtain ⟨bb,bo,hat,_,hnews⟩:=(LT.In.lies (HXI.out.turned0 HTR.out)) hpos;obtain ⟨i1,hi1,hy0,hy1,hy2⟩:=info_parts infoT;rw [hat] at z3;have hx8:=HXF.out;have HNW:=hid hnews;have HRG:=hid (HI.out.regs.turned0 HTR.out);clear hnews
              have HST2:Hid (steps t.vars t.args (j+1)=steps t.vars t.args j++[⟨sComp,j,(x.args.length:Int),(cb t.args j:Int),0,x.name⟩]):=by
               show _=_;rw [HST.out];unfold stepX;rw [if_neg HK0.out,if_neg HK1.out,if_neg HA2.out]
              go_wp2_with (first
               | (at_builtin;have HMID:Hid (HeadM t wo.heap.size mb (wo.heap.size+1) j (.slice (some ⟨g7,0,none⟩) (cb t.args j+x.args.length) cap7) lv w2 W7):=HI.out.mid HCC.out HLR.out HLO.out ((HTR.out.mono (fun _ _ f=>f.elim)).trans (HT7.out.mono (fun k _ e=>.inr e))) (by rw [metS_next HXR.out,if_neg (fun c=>HK0.out c.1)];exact (HI.out.had.turned HTR.out (fun f=>f)).turned HT7.out (fun c=>(HI.out.own _ c).2.2.2 rfl)) (by rw [HXC.out,HXN.out,List.flatMap_append];exact HR7.out) (HO7.out.imp (fun c=>by simpa [Value.ownBlock] using c) (fun c k hk=>by simp [Value.ownBlock] at hk;have:=HTR.out.size;omega));obtain ⟨i0,hi0,hz0,hz1,hz2⟩:=info_parts infoS;have HMA:=hid (HMID.out.turned0 ((Turned.refl (fun _=>False) W7).alloc (.cells #[.string sComp,.int .i64 j,.int .i64 x.args.length,.int .i64 (cb t.args j),.int .i64 0,.string x.name] 139)));have HNB:=hid (World.news_of_block (heap_alloc_new W7 (.cells #[.string sComp,.int .i64 j,.int .i64 x.args.length,.int .i64 (cb t.args j),.int .i64 0,.string x.name] 139)));refine append_some _ rfl _ _ 102 rfl 139 i0 _ 6 64 Try.underlying102 hi0 hz0 hz1 hz2 rfl (by decide) lv j ((steps t.vars t.args j).flatMap stC) rfl HMA.out.row ⟨W7.heap.size,0,none⟩ 1 1 (stC ⟨sComp,j,(x.args.length:Int),(cb t.args j:Int),0,x.name⟩) rfl rfl HNB.out (stC_one _) (by omega) (by unfold maxLen;omega) (by omega) ?_;intro g9 cap9 W9 hr9 T9 ho9;have hc9:=(T9.block _ (zL HMA.out.c) (fun c=>(HMA.out.lvo _ c).2.1 rfl)).trans HMA.out.c;obtain ⟨y0,y1,y2,y3,f0,f1,f2,f3⟩:=cells4 hc9;have HR9:=hid hr9;have HT9:=hid T9;have HO9:=hid ho9;have HC9:=hid hc9;clear hr9 T9 ho9 hc9)
               | (at_builtin;refine append_some _ rfl _ _ 22 rfl 27 i1 zeroT 4 56 Try.underlying22 hi1 hy0 hy1 hy2 rfl (by decide) (.slice (some ⟨g,0,none⟩) (cb t.args j) sc) (cb t.args j) ((reg t.args j).flatMap LT.cells) rfl HRG.out ⟨bb,bo,none⟩ x.args.length x.at_.2 (x.args.flatMap LT.cells) rfl (LT.flat_length _) (fun j u hu=>by rw [Addr.add_lit];exact HNW.out j u hu) (LT.flat_one _) hpos (by unfold maxLen;omega) (by omega) ?_;intro g7 cap7 W7 hr7 T7 ho7;have HR7:=hid hr7;have HT7:=hid T7;have HO7:=hid ho7;have hs7:=(T7.block _ (zL HS3.out) (fun c=>by have:=HI.out.regs.lt _ c;omega)).trans HS3.out;obtain ⟨s0,s1,s2,s3,s4,s5⟩:=cells6 hs7;have hc7:=(T7.block _ (Qo (zL HCC.out) HTR.out.size) (fun c=>(HI.out.own _ c).2.1 rfl)).trans ((HTR.out.bt HCC.out));obtain ⟨q0,q1,q2,q3,g0,g1,g2,g3⟩:=cells4 hc7;clear hr7 T7 ho7 hs7 hc7))
              have HNX:Hid (HeadI t wo.heap.size mb (wo.heap.size+1) (j+1) (.slice (some ⟨g7,0,none⟩) (cb t.args j+x.args.length) cap7) w2 (W9.setCell ⟨wo.heap.size,3,none⟩ (.slice (some ⟨g9,0,none⟩) (j+1) cap9))):=HMA.out.next HST2.out HT9.out HR9.out (HO9.out.imp (fun c=>by simpa [Value.ownBlock] using c) (fun c k hk=>by simp [Value.ownBlock] at hk;omega)) (turned_cell' _ _ _ _) (by simpa using heap_setCell_same W9 wo.heap.size 3 _ 104 (.slice (some ⟨g9,0,none⟩) (j+1) cap9) HC9.out);go_roundg (gk - 1)
              case measure=>have:=HJ.out;omega
              case rel=>exact ⟨j+1,show _=_ by have:=HJ.out;omega,by omega,by go_num,some ⟨g7,0,none⟩,cap7,by rw [HXC.out],HNX⟩
     · obtain rfl:S=j:=by omega
       have hcb:cb t.args S=S:=by rw [HS.out];exact Tm.cb_end _
       have dj:decide ((S:Int) < (cb t.args S:Int))=false:=decide_eq_false (by omega);have dj2:decide (S < cb t.args S)=false:=decide_eq_false (by omega)
       have dj3:¬ S < cb t.args S:=by omega
       obtain ⟨lv,hcc,hlr,hlo⟩:=HI.out.code;obtain ⟨la,lc,rfl⟩:=hlr.shape;have T1:Turned (fun k=>k=wo.heap.size) wr (wr.setCell ⟨wo.heap.size,2,none⟩ (.int .i64 (cb t.args S))):=turned_cell' _ _ _ _
       have hc1:(wr.setCell ⟨wo.heap.size,2,none⟩ (.int .i64 (cb t.args S))).heap[wo.heap.size]? = some (.cells #[.int .i64 t.args.length,.int .i64 t.vars.length,.int .i64 (cb t.args S),.slice la S lc] 104 (0,0)):=by simpa using heap_setCell_same wr wo.heap.size 2 _ 104 (.int .i64 (cb t.args S)) hcc
       have T2w:Turned zN w2 (wr.setCell ⟨wo.heap.size,2,none⟩ (.int .i64 (cb t.args S))):=HI.out.t.step T1 (fun i hi e=>by have:=HI.out.ne.1;omega);have hrow:=hlr.turned T1 (fun k hk e=>(hlo k hk).2.1 e);obtain ⟨W1,hW1⟩:∃ z,z=wr.setCell ⟨wo.heap.size,2,none⟩ (.int .i64 (cb t.args S)):=⟨_,rfl⟩;rw [←hW1] at hc1 T2w hrow;obtain ⟨q0,q1,q2,q3,g0,g1,g2,g3⟩:=cells4 hcc;obtain ⟨r0,r1,r2,r3,f0,f1,f2,f3⟩:=cells4 (HRB.out W1 T2w);obtain ⟨p0,p1,p2,p3,_⟩:=cells4 hc1;rw [hW1] at p0 p1 p2 p3 r0 r1 r2 r3 f0 f1 f2 f3;have HRR:=hid (HRB.out W1 T2w);have HROW:=hid hrow;have HLO:=hid hlo;have HT2w:=hid T2w;have HCBE:=hid hcb;have HW1:=hid hW1;clear hcc hlr hlo T1 hc1 T2w hrow hW1 hcb
       go_wp2_with fail
       rw [←HW1.out];have hz:=HZ.out;refine bodyPost_ret (results_cell_tmp1 Try.results93 _ _ (w.heap.size+1) 104 _ (0,0) _ rfl (set4 (a':=.int .i64 t.args.length) (b':=.int .i64 t.vars.length) (c':=.int .i64 (cb t.args S)) (d':=.slice la S lc) HRR.out) Try.underlying104 rfl (by kernel_rfl)) rfl ⟨.slice la S lc,by rw [HCBE.out,HS.out];rfl,?_,fun k hk=>by have:=(HLO.out k hk).1;omega,(HT2.out.trans HT2w.out).step (turned_store4 W1 (w.heap.size+1) _ _ _ _) (fun i hi e=>by omega)⟩;have hq:=HROW.out.turned (turned_store4 W1 (w.heap.size+1) (.int .i64 t.args.length) (.int .i64 t.vars.length) (.int .i64 (cb t.args S)) (.slice la S lc)) (fun k hk e=>by have:=(HLO.out k hk).1;omega);rw [←HS.out];exact hq
end Go.Proofs.Ytoihjobdfjajfaa
namespace Go.Proofs.Ytoihjobdfjajfaa
open Go.RowKit Go.Maps
open Tm (Stp sVar sVal sInt sAtom sComp oneC runC endC goodC ne_ops)
def opOk (s:Stp):Prop:=(s.op=sVar∨s.op=sVal∨s.op=sInt∨s.op=sAtom∨s.op=sComp)∧(s.op=sComp→1≤s.b∧s.b≤8)
section
variable {sl i k:Int} {had:List Int} {s:Stp}
theorem oneC_var (h:s.op=sVar):oneC sl i k had s=if (0≤s.b∧s.b < sl∧s.b∉had)∧(stEqB s ⟨sVar,i,s.b,0,0,ByteArray.empty⟩ && goodNameB s.name)=true then some (k,hadN had s.b) else none:=by
 unfold oneC;simp only [Qd,stEqB_iff]
 by_cases h1:s.a=i∧goodNameB s.name=true
 · rw [if_pos h1,if_pos h]
   by_cases h2:0≤s.b∧s.b < sl∧s.b∉had∧s.c=0∧s.n=0∧s.name=ByteArray.empty
   · rw [if_pos h2,if_pos ⟨⟨h2.1,h2.2.1,h2.2.2.1⟩,⟨h,h1.1,trivial,h2.2.2.2⟩,h1.2⟩]
     unfold hadN;rw [if_neg h2.2.2.1]
   · rw [if_neg h2,if_neg (fun c=>h2 ⟨c.1.1,c.1.2.1,c.1.2.2,c.2.1.2.2.2⟩)]
 · rw [if_neg h1,if_neg (fun c=>h1 ⟨c.2.1.2.1,c.2.2⟩)]
theorem oneC_val (h:s.op=sVal):oneC sl i k had s=if (0≤s.b∧s.b < sl∧s.b∈had)∧(stEqB s ⟨sVal,i,s.b,0,0,ByteArray.empty⟩ && goodNameB s.name)=true then some (k,hadN had s.b) else none:=by
 unfold oneC;simp only [Qd,stEqB_iff];have hv:=ne_ops.1
 by_cases h1:s.a=i∧goodNameB s.name=true
 · rw [if_pos h1,if_neg (by rw [h];exact hv),if_pos h]
   by_cases h2:0≤s.b∧s.b < sl∧s.b∈had∧s.c=0∧s.n=0∧s.name=ByteArray.empty
   · rw [if_pos h2,if_pos ⟨⟨h2.1,h2.2.1,h2.2.2.1⟩,⟨h,h1.1,trivial,h2.2.2.2⟩,h1.2⟩]
     unfold hadN;rw [if_pos h2.2.2.1]
   · rw [if_neg h2,if_neg (fun c=>h2 ⟨c.1.1,c.1.2.1,c.1.2.2,c.2.1.2.2.2⟩)]
 · rw [if_neg h1,if_neg (fun c=>h1 ⟨c.2.1.2.1,c.2.2⟩)]
theorem oneC_int (h:s.op=sInt):oneC sl i k had s=if (stEqB s ⟨sInt,i,0,0,s.n,ByteArray.empty⟩ && goodNameB s.name)=true then some (k,had) else none:=by
 unfold oneC;simp only [Qd,stEqB_iff];obtain ⟨_,n2,n3,_⟩:=ne_ops
 by_cases h1:s.a=i∧goodNameB s.name=true
 · rw [if_pos h1,if_neg (by rw [h];exact n2),if_neg (by rw [h];exact n3),if_pos h]
   by_cases h2:s.b=0∧s.c=0∧s.name=ByteArray.empty
   · rw [if_pos h2,if_pos ⟨⟨h,h1.1,h2.1,h2.2.1,trivial,h2.2.2⟩,h1.2⟩]
   · rw [if_neg h2,if_neg (fun c=>h2 ⟨c.1.2.2.1,c.1.2.2.2.1,c.1.2.2.2.2.2⟩)]
 · rw [if_neg h1,if_neg (fun c=>h1 ⟨c.1.2.1,c.2⟩)]
theorem oneC_atom (h:s.op=sAtom):oneC sl i k had s=if (stEqB s ⟨sAtom,i,0,0,0,s.name⟩ && goodNameB s.name)=true then some (k,had) else none:=by
 unfold oneC;simp only [Qd,stEqB_iff];obtain ⟨_,_,_,n4,n5,n6,_⟩:=ne_ops
 by_cases h1:s.a=i∧goodNameB s.name=true
 · rw [if_pos h1,if_neg (by rw [h];exact n4),if_neg (by rw [h];exact n5),if_neg (by rw [h];exact n6),if_pos h]
   by_cases h2:s.b=0∧s.c=0∧s.n=0
   · rw [if_pos h2,if_pos ⟨⟨h,h1.1,h2.1,h2.2.1,h2.2.2,trivial⟩,h1.2⟩]
   · rw [if_neg h2,if_neg (fun c=>h2 ⟨c.1.2.2.1,c.1.2.2.2.1,c.1.2.2.2.2.1⟩)]
 · rw [if_neg h1,if_neg (fun c=>h1 ⟨c.1.2.1,c.2⟩)]
theorem oneC_comp (h:s.op=sComp) (hb:1≤s.b∧s.b≤8):oneC sl i k had s=if (stEqB s ⟨sComp,i,s.b,k,0,s.name⟩ && goodNameB s.name)=true then some (k+s.b,had) else none:=by
 unfold oneC;simp only [Qd,stEqB_iff];obtain ⟨_,_,_,_,_,_,n7,n8,n9,n10⟩:=ne_ops
 by_cases h1:s.a=i∧goodNameB s.name=true
 · rw [if_pos h1,if_neg (by rw [h];exact n7),if_neg (by rw [h];exact n8),if_neg (by rw [h];exact n9),if_neg (by rw [h];exact n10),if_pos h]
   by_cases h2:s.c=k∧s.n=0
   · rw [if_pos ⟨hb.1,hb.2,h2⟩,if_pos ⟨⟨h,h1.1,trivial,h2.1,h2.2,trivial⟩,h1.2⟩]
   · rw [if_neg (fun c=>h2 c.2.2),if_neg (fun c=>h2 ⟨c.1.2.2.2.1,c.1.2.2.2.2.1⟩)]
 · rw [if_neg h1,if_neg (fun c=>h1 ⟨c.1.2.1,c.2⟩)]
end
theorem one149 {kb mb:Nat} {k ar sl rg i:Int} {lv:Value} {had:List Int} {s:Stp} {w:World} (C:Chk kb mb k had w) (hk:0≤k∧k≤30000) (hf:had.length≤3000) (hs:stOk s) (ho:opOk s) :
 Calls Try.prog 149 #[.pointer (some ⟨kb,0,none⟩),.agg #[.int .i64 ar,.int .i64 sl,.int .i64 rg,lv],.int .i64 i,.agg #[.string s.op,.int .i64 s.a,.int .i64 s.b,.int .i64 s.c,.int .i64 s.n,.string s.name]] w fun e w'=>e = .returned (.bool (oneC sl i k had s).isSome)∧(∀ c,oneC sl i k had s=some c→Chk kb mb c.1 c.2 w')∧Turned (fun q=>q=kb∨q=mb) w w':=by
 have easy:∀ (b:Bool),oneC sl i k had s=(if b=true then some (k,had) else none)→Calls Try.prog 149 #[.pointer (some ⟨kb,0,none⟩),.agg #[.int .i64 ar,.int .i64 sl,.int .i64 rg,lv],.int .i64 i,.agg #[.string s.op,.int .i64 s.a,.int .i64 s.b,.int .i64 s.c,.int .i64 s.n,.string s.name]] w (fun e w'=>e = .returned (.bool b)∧Turned zN w w')→Calls Try.prog 149 #[.pointer (some ⟨kb,0,none⟩),.agg #[.int .i64 ar,.int .i64 sl,.int .i64 rg,lv],.int .i64 i,.agg #[.string s.op,.int .i64 s.a,.int .i64 s.b,.int .i64 s.c,.int .i64 s.n,.string s.name]] w fun e w'=>e = .returned (.bool (oneC sl i k had s).isSome)∧(∀ c,oneC sl i k had s=some c→Chk kb mb c.1 c.2 w')∧Turned (fun q=>q=kb∨q=mb) w w':=by
  intro b he hc;refine hc.mono ?_
  rintro e w' ⟨rfl,T⟩
  rw [he];refine ⟨by cases b <;> rfl,fun c hcc=>?_,T.mono (fun _ _ f=>f.elim)⟩
  cases b with
  | false=>rw [if_neg (by simp)] at hcc;cases hcc
  | true=>rw [if_pos rfl] at hcc;injection hcc with hcc;subst hcc;exact C.turned0 T
 have slot:∀ (P:Prop) [Decidable P] (b:Bool),oneC sl i k had s=(if P∧b=true then some (k,hadN had s.b) else none)→P→Calls Try.prog 149 #[.pointer (some ⟨kb,0,none⟩),.agg #[.int .i64 ar,.int .i64 sl,.int .i64 rg,lv],.int .i64 i,.agg #[.string s.op,.int .i64 s.a,.int .i64 s.b,.int .i64 s.c,.int .i64 s.n,.string s.name]] w (fun e w'=>e = .returned (.bool b)∧Chk kb mb k (hadN had s.b) w'∧Turned (fun q=>q=mb) w w')→Calls Try.prog 149 #[.pointer (some ⟨kb,0,none⟩),.agg #[.int .i64 ar,.int .i64 sl,.int .i64 rg,lv],.int .i64 i,.agg #[.string s.op,.int .i64 s.a,.int .i64 s.b,.int .i64 s.c,.int .i64 s.n,.string s.name]] w fun e w'=>e = .returned (.bool (oneC sl i k had s).isSome)∧(∀ c,oneC sl i k had s=some c→Chk kb mb c.1 c.2 w')∧Turned (fun q=>q=kb∨q=mb) w w':=by
  intro P _ b he hP hc;refine hc.mono ?_
  rintro e w' ⟨rfl,C',T⟩
  rw [he];refine ⟨by cases b <;> simp [hP],fun c hcc=>?_,T.mono (fun _ _ f=>.inr f)⟩
  split at hcc
  · injection hcc with hcc;subst hcc;exact C'
  · cases hcc
 have bad:oneC sl i k had s=none→Calls Try.prog 149 #[.pointer (some ⟨kb,0,none⟩),.agg #[.int .i64 ar,.int .i64 sl,.int .i64 rg,lv],.int .i64 i,.agg #[.string s.op,.int .i64 s.a,.int .i64 s.b,.int .i64 s.c,.int .i64 s.n,.string s.name]] w (fun e w'=>e = .returned (.bool false)∧Turned zN w w')→Calls Try.prog 149 #[.pointer (some ⟨kb,0,none⟩),.agg #[.int .i64 ar,.int .i64 sl,.int .i64 rg,lv],.int .i64 i,.agg #[.string s.op,.int .i64 s.a,.int .i64 s.b,.int .i64 s.c,.int .i64 s.n,.string s.name]] w fun e w'=>e = .returned (.bool (oneC sl i k had s).isSome)∧(∀ c,oneC sl i k had s=some c→Chk kb mb c.1 c.2 w')∧Turned (fun q=>q=kb∨q=mb) w w':=by
  intro he hc;refine hc.mono ?_
  rintro e w' ⟨rfl,T⟩
  rw [he];exact ⟨rfl,fun c hcc=>(by cases hcc),T.mono (fun _ _ f=>f.elim)⟩
 rcases ho.1 with h | h | h | h | h
 · have he:=oneC_var (sl:=sl) (i:=i) (k:=k) (had:=had) h
   by_cases h0:s.b < 0
   · exact bad (by rw [he,if_neg (fun c=>by omega)]) (one_var_neg C hf hs h h0)
   · by_cases h1:sl≤s.b
     · exact bad (by rw [he,if_neg (fun c=>by omega)]) (one_var_big C hf hs h (by omega) h1)
     · by_cases h2:s.b∈had
       · exact bad (by rw [he,if_neg (fun c=>c.1.2.2 h2)]) (one_var_mis C hf hs h (by omega) (by omega) h2)
       · by_cases h3:s.a=i∧s.c=0∧s.n=0∧s.name=ByteArray.empty
         · refine slot (0≤s.b∧s.b < sl∧s.b∉had) (goodNameB ByteArray.empty) (by rw [he,show stEqB s ⟨sVar,i,s.b,0,0,ByteArray.empty⟩=true from stEqB_iff.2 ⟨h,h3.1,rfl,h3.2⟩,h3.2.2.2];rfl) ⟨by omega,by omega,h2⟩ (one_var_okT C hf hs h (by omega) (by omega) h2 h3.1 h3.2.1 h3.2.2.1 h3.2.2.2)
         · have hq:stEqB s ⟨sVar,i,s.b,0,0,ByteArray.empty⟩=false:=by
            cases q:stEqB s ⟨sVar,i,s.b,0,0,ByteArray.empty⟩ with
            | false=>rfl
            | true=>obtain ⟨_,q1,_,q2⟩:=stEqB_iff.1 q;exact absurd ⟨q1,q2⟩ h3
           refine slot (0≤s.b∧s.b < sl∧s.b∉had) false (by rw [he,hq];rfl) ⟨by omega,by omega,h2⟩ (one_var_okF C hf hs h (by omega) (by omega) h2 h3)
 · have he:=oneC_val (sl:=sl) (i:=i) (k:=k) (had:=had) h
   by_cases h0:s.b < 0
   · exact bad (by rw [he,if_neg (fun c=>by omega)]) (one_val_neg C hf hs h h0)
   · by_cases h1:sl≤s.b
     · exact bad (by rw [he,if_neg (fun c=>by omega)]) (one_val_big C hf hs h (by omega) h1)
     · by_cases h2:s.b∈had
       · by_cases h3:s.a=i∧s.c=0∧s.n=0∧s.name=ByteArray.empty
         · refine slot (0≤s.b∧s.b < sl∧s.b∈had) (goodNameB ByteArray.empty) (by rw [he,show stEqB s ⟨sVal,i,s.b,0,0,ByteArray.empty⟩=true from stEqB_iff.2 ⟨h,h3.1,rfl,h3.2⟩,h3.2.2.2];rfl) ⟨by omega,by omega,h2⟩ (one_val_okT C hf hs h (by omega) (by omega) h2 h3.1 h3.2.1 h3.2.2.1 h3.2.2.2)
         · have hq:stEqB s ⟨sVal,i,s.b,0,0,ByteArray.empty⟩=false:=by
            cases q:stEqB s ⟨sVal,i,s.b,0,0,ByteArray.empty⟩ with
            | false=>rfl
            | true=>obtain ⟨_,q1,_,q2⟩:=stEqB_iff.1 q;exact absurd ⟨q1,q2⟩ h3
           refine slot (0≤s.b∧s.b < sl∧s.b∈had) false (by rw [he,hq];rfl) ⟨by omega,by omega,h2⟩ (one_val_okF C hf hs h (by omega) (by omega) h2 h3)
       · exact bad (by rw [he,if_neg (fun c=>h2 c.1.2.2)]) (one_val_mis C hf hs h (by omega) (by omega) h2)
 · exact easy _ (oneC_int h) (one_int hs h)
 · exact easy _ (oneC_atom h) (one_atom hs h)
 · have hb:=ho.2 h
   refine (one_comp C.b hk hb hs h).mono ?_
   rintro e w' ⟨rfl,hb',T⟩
   rw [oneC_comp h hb];refine ⟨by cases (stEqB s ⟨sComp,i,s.b,k,0,s.name⟩ && goodNameB s.name) <;> rfl,fun c hcc=>?_,T.mono (fun _ _ f=>.inl f)⟩
   split at hcc
   · injection hcc with hcc;subst hcc;exact ⟨hb',C.m.turned T (fun e=>C.ne e.symm),C.ne,C.few⟩
   · cases hcc
theorem one149T {kb mb:Nat} {k ar sl rg i:Int} {lv:Value} {had:List Int} {s:Stp} {w:World} {c:Int × List Int} (C:Chk kb mb k had w) (hk:0≤k∧k≤30000) (hf:had.length≤3000) (hs:stOk s) (ho:opOk s) (hr:oneC sl i k had s=some c) :
 Calls Try.prog 149 #[.pointer (some ⟨kb,0,none⟩),.agg #[.int .i64 ar,.int .i64 sl,.int .i64 rg,lv],.int .i64 i,.agg #[.string s.op,.int .i64 s.a,.int .i64 s.b,.int .i64 s.c,.int .i64 s.n,.string s.name]] w fun e w'=>e = .returned (.bool true)∧Chk kb mb c.1 c.2 w'∧Turned (fun q=>q=kb∨q=mb) w w':=by
 rcases ho.1 with h | h | h | h | h
 · rw [oneC_var h] at hr
   split at hr
   · rename_i q
     simp only [Qd,stEqB_iff] at q
     injection hr with hr
     subst hr;refine (one_var_okT (ar:=ar) (rg:=rg) (lv:=lv) C hf hs h q.1.1 q.1.2.1 q.1.2.2 q.2.1.2.1 q.2.1.2.2.2.1 q.2.1.2.2.2.2.1 q.2.1.2.2.2.2.2).mono ?_
     rintro e w' ⟨rfl,C',T⟩
     have hg:=q.2.2;rw [q.2.1.2.2.2.2.2] at hg;exact ⟨by rw [hg],C',T.mono (fun _ _ f=>.inr f)⟩
   · cases hr
 · rw [oneC_val h] at hr
   split at hr
   · rename_i q
     simp only [Qd,stEqB_iff] at q
     injection hr with hr
     subst hr;refine (one_val_okT (ar:=ar) (rg:=rg) (lv:=lv) C hf hs h q.1.1 q.1.2.1 q.1.2.2 q.2.1.2.1 q.2.1.2.2.2.1 q.2.1.2.2.2.2.1 q.2.1.2.2.2.2.2).mono ?_
     rintro e w' ⟨rfl,C',T⟩
     have hg:=q.2.2;rw [q.2.1.2.2.2.2.2] at hg;exact ⟨by rw [hg],C',T.mono (fun _ _ f=>.inr f)⟩
   · cases hr
 · rw [oneC_int h] at hr
   split at hr
   · rename_i q
     injection hr with hr
     subst hr;refine (one_int hs h).mono ?_
     rintro e w' ⟨rfl,T⟩
     exact ⟨by rw [q],C.turned0 T,T.mono (fun _ _ f=>f.elim)⟩
   · cases hr
 · rw [oneC_atom h] at hr
   split at hr
   · rename_i q
     injection hr with hr
     subst hr;refine (one_atom hs h).mono ?_
     rintro e w' ⟨rfl,T⟩
     exact ⟨by rw [q],C.turned0 T,T.mono (fun _ _ f=>f.elim)⟩
   · cases hr
 · have hb:=ho.2 h
   rw [oneC_comp h hb] at hr
   split at hr
   · rename_i q
     simp only [Qd,stEqB_iff] at q
     injection hr with hr
     subst hr;refine (one_compT (ar:=ar) (sl:=sl) (rg:=rg) (lv:=lv) C.b hk hb hs h q.1.2.1 q.1.2.2.2.1 q.1.2.2.2.2.1).mono ?_
     rintro e w' ⟨rfl,hb',T⟩
     exact ⟨by rw [q.2],⟨hb',C.m.turned T (fun e=>C.ne e.symm),C.ne,C.few⟩,T.mono (fun _ _ f=>.inl f)⟩
   · cases hr
end Go.Proofs.Ytoihjobdfjajfaa
namespace Go.Proofs.Ytoihjobdfjajfaa
open Lib (hid)
open Go.RowKit Go.Maps
open Tm (Stp sVar sVal sInt sAtom sComp oneC runC endC goodC ne_ops)
theorem oneC_few {sl i k:Int} {had:List Int} {s:Stp} {c:Int × List Int} (ho:opOk s) (h:oneC sl i k had s=some c):c.2.length≤had.length+1∧k≤c.1∧c.1≤k+8:=by
 rcases ho.1 with q | q | q | q | q
 · rw [oneC_var q] at h
   split at h
   · injection h with h;subst h;exact ⟨hadN_len _ _,by simp only [];omega,by simp only [];omega⟩
   · cases h
 · rw [oneC_val q] at h
   split at h
   · injection h with h;subst h;exact ⟨hadN_len _ _,by simp only [];omega,by simp only [];omega⟩
   · cases h
 · rw [oneC_int q] at h
   split at h
   · injection h with h;subst h;exact ⟨by simp only [];omega,by simp only [];omega,by simp only [];omega⟩
   · cases h
 · rw [oneC_atom q] at h
   split at h
   · injection h with h;subst h;exact ⟨by simp only [];omega,by simp only [];omega,by simp only [];omega⟩
   · cases h
 · have:=ho.2 q
   rw [oneC_comp q this] at h
   split at h
   · injection h with h;subst h;exact ⟨by simp only [];omega,by simp only [];omega,by simp only [];omega⟩
   · cases h
structure GoodL (sl ar:Int) (Ls:List Stp) (kb mb:Nat) (w1:World) (j:Nat) (wr:World):Prop where
 st:∃ k had,Chk kb mb k had wr∧runC sl Ls 0 ar []=runC sl (Ls.drop j) j k had∧had.length≤j∧0≤k∧k≤8+8 * (j:Int)
 t:Turned (fun q=>q=kb∨q=mb) w1 wr
theorem one149N {kb mb:Nat} {k ar sl rg i:Int} {lv:Value} {had:List Int} {s:Stp} {w:World} (C:Chk kb mb k had w) (hk:0≤k∧k≤30000) (hf:had.length≤3000) (hs:stOk s) (ho:opOk s) (hr:oneC sl i k had s=none) :
 Calls Try.prog 149 #[.pointer (some ⟨kb,0,none⟩),.agg #[.int .i64 ar,.int .i64 sl,.int .i64 rg,lv],.int .i64 i,.agg #[.string s.op,.int .i64 s.a,.int .i64 s.b,.int .i64 s.c,.int .i64 s.n,.string s.name]] w fun e w'=>e = .returned (.bool false)∧Turned (fun q=>q=kb∨q=mb) w w':=by
 have:=one149 (ar:=ar) (rg:=rg) (lv:=lv) (sl:=sl) (i:=i) C hk hf hs ho;rw [hr] at this
 exact this.mono fun e w' h=>⟨h.1,h.2.2⟩
theorem one149S {kb mb:Nat} {k ar sl rg i:Int} {lv:Value} {had:List Int} {s:Stp} {w:World} {c:Int × List Int} (C:Chk kb mb k had w) (hk:0≤k∧k≤30000) (hf:had.length≤3000) (hs:stOk s) (ho:opOk s) (hr:oneC sl i k had s=some c) :
 Calls Try.prog 149 #[.pointer (some ⟨kb,0,none⟩),.agg #[.int .i64 ar,.int .i64 sl,.int .i64 rg,lv],.int .i64 i,.agg #[.string s.op,.int .i64 s.a,.int .i64 s.b,.int .i64 s.c,.int .i64 s.n,.string s.name]] w fun e w'=>e = .returned (.bool true)∧Chk kb mb c.1 c.2 w'∧Turned (fun q=>q=kb∨q=mb) w w':=by
 have:=one149 (ar:=ar) (rg:=rg) (lv:=lv) (sl:=sl) (i:=i) C hk hf hs ho;rw [hr] at this
 exact this.mono fun e w' h=>⟨h.1,h.2.1 c rfl,h.2.2⟩
set_option maxRecDepth 100000 in
theorem codeGood95 {ar sl rg:Int} {lv:Value} {Ls:List Stp} {w:World} (hr:Row w 139 6 lv Ls.length (Ls.flatMap stC)) (hs:∀ s∈Ls,stOk s∧opOk s) (hn:Ls.length≤100000) :
 Calls Try.prog 95 #[.agg #[.int .i64 ar,.int .i64 sl,.int .i64 rg,lv]] w fun e w'=>e = .returned (.bool (goodC ar sl rg Ls))∧Turned zN w w':=by
 obtain ⟨a,cap,rfl⟩:=hr.shape;obtain ⟨n,hn'⟩:∃ n,n=Ls.length:=⟨_,rfl⟩;rw [←hn'] at hr
 have hnI:(n:Int)=(Ls.length:Int):=by omega
 rw [←hn']
 by_cases hc:0≤ar∧ar≤8∧ar≤rg∧rg≤2000∧(Ls.length:Int)=rg
 · have hg:goodC ar sl rg Ls=endC rg sl (runC sl Ls 0 ar []):=by unfold goodC;rw [if_pos hc]
   rw [hg];obtain ⟨B,hB⟩:∃ B,B=endC rg sl (runC sl Ls 0 ar []):=⟨_,rfl⟩;rw [←hB];have HB:=hid hB;obtain ⟨h0,h1,h2,h3,h4⟩:=hc;have d0:decide (ar < 0)=false:=decide_eq_false (by omega);have d1:decide (8 < ar)=false:=decide_eq_false (by omega);have d2:decide (rg < ar)=false:=decide_eq_false (by omega);have d3:decide (2000 < rg)=false:=decide_eq_false (by omega)
   have hrg:rg=(n:Int):=by omega
   subst hrg;have HR:=hid hr;have HS:=hid hs;have HN:=hid hn';have HA:=hid (And.intro h0 (And.intro h1 (And.intro h2 h3)));clear hg hB hr hs hn' h0 h1 h2 h3 h4 hnI hn;have hmm:=@run_makeMap Try.prog;go_enter Try.func95,Try.ntmps95
   go_wp2_with fail
   have hmap:=IMap.made (w.alloc (.cells #[.int .i64 ar,.int .i64 sl,.int .i64 n,.slice a n cap] 104)) Try.prog 3;have hkp:=three_boxes w (.cells #[.int .i64 ar,.int .i64 sl,.int .i64 n,.slice a n cap] 104) (.map #[] 0) (.cells #[.int .i64 ar,.map (some (w.heap.size+1))] 178);obtain ⟨w3,hw3⟩:∃ z,z=((w.alloc (.cells #[.int .i64 ar,.int .i64 sl,.int .i64 n,.slice a n cap] 104)).alloc (.map #[] 0)).alloc (.cells #[.int .i64 ar,.map (some (w.heap.size+1))] 178):=⟨_,rfl⟩
   have hC3:Chk (w.heap.size+1+1) (w.heap.size+1) ar [] w3:=by
    refine ⟨by rw [hw3];exact hkp.2.2.2,?_,by omega,Nat.zero_le _⟩;have:=hmap.alloc (.cells #[.int .i64 ar,.map (some (w.heap.size+1))] 178);rw [show (w.alloc (.cells #[.int .i64 ar,.int .i64 sl,.int .i64 n,.slice a n cap] 104)).heap.size=w.heap.size+1 from by simp] at this;rw [hw3,hadF_nil];exact this
   rw [←hw3] at hkp;have HT3:=hid hkp.1;have HC0:=hid hkp.2.1;have HL3:Hid (GoodL sl ar Ls (w.heap.size+1+1) (w.heap.size+1) w3 0 w3):=⟨⟨ar,[],hC3,rfl,Qm _,by have:=HA.out;omega,by have:=HA.out;omega⟩,Turned.refl _ _⟩;have HW3:=hid hw3;clear hmap hkp hC3;rw [←hw3];clear hw3
   go_loopg [42] n (fun q i wr=>∃ j:Nat,Hid (j+q=n)∧j≤n∧i = .int .i64 j∧Hid (GoodL sl ar Ls (w.heap.size+1+1) (w.heap.size+1) w3 j wr))
   case atStart=>exact ⟨0,Nat.zero_add _,Nat.zero_le _,rfl,HL3⟩
   case round=>
    obtain ⟨j,HG,hj,rfl,HL⟩:=hrel;obtain ⟨⟨k,had,C,hrun,hfew,hk0,hk8⟩,T⟩:=HL.out;have HCr:=hid C;have HRUN:=hid hrun;have HTr:=hid T;have HK:=hid (And.intro hfew (And.intro hk0 hk8));have HB0:=hid ((T.block _ (zL HC0.out) (by omega)).trans HC0.out);clear C hrun hfew hk0 hk8 T;have HNC:=HA.out
    by_cases hjn:j < n
    · have dj:decide ((j:Int) < (n:Int))=true:=decide_eq_true (by omega)
      obtain ⟨s,hsj⟩:∃ s,Ls[j]? = some s:=⟨_,Qa (by have:=HN.out;omega)⟩;have hsm:=HS.out s (Qf hsj);obtain ⟨g,cap',hcv⟩:=HR.out.shape_pos (by omega)
      injection hcv with e1 _ e2
      subst e1 e2;have hrw:=(HR.out.turned0 HT3.out).turned HTr.out (fun q hq e=>by have:=HR.out.lt q hq;omega);have hcells:=step_cells (i:=j) (s:=s) (by have:=hrw;rw [HN.out] at this;exact this) hsj;obtain ⟨e0,e1,e2,e3,e4,e5⟩:=hcells;have HSM:=hid hsm
      have HDROP:Hid (Ls.drop j=s :: Ls.drop (j+1)):=by
       obtain ⟨hl,he⟩:=Qg.1 hsj;show Ls.drop j=_;rw [←he];exact List.drop_eq_getElem_cons hl
      clear hsm hrw hsj;obtain ⟨r0,r1,r2,r3,_⟩:=cells4 HB0.out;obtain ⟨z0,z1⟩:=cells2 HCr.out.b;have TA:=(Turned.refl (fun _=>False) wr).alloc (.cells #[.string s.op,.int .i64 s.a,.int .i64 s.b,.int .i64 s.c,.int .i64 s.n,.string s.name] 139);obtain ⟨za0,za1⟩:=cells2 (HCr.out.turned0 TA).b;obtain ⟨ra0,ra1,ra2,ra3,_⟩:=cells4 ((TA.bt HB0.out));clear TA
      have hneg:¬ ((j:Int) < 0):=by omega
      by_cases hjk:(j:Int) < k
      · have dk:decide (k≤(j:Int))=false:=decide_eq_false (by omega)
        cases hr:oneC sl j k had s with
        | none=>
         have HR1:=hid hr
         have hfal:B=false:=by
          rw [HB.out,HRUN.out,HDROP.out,runC,if_pos hjk,hr];rfl
         clear hr
         go_wp2_with (go_at_call 149;(with_reducible refine (one149N (HCr.out.turned0 ((Turned.refl _ wr).alloc _)) (by have:=HK.out;omega) (by have:=HK.out;omega) HSM.out.1 HSM.out.2 HR1.out).mono ?_);rintro e W1 ⟨rfl,T1⟩)
         go_ret;exact ⟨by first | rfl | (rw [hfal];rfl),(HT3.out.step HTr.out (fun i hi e=>by omega)).step (((Turned.refl _ wr).alloc _).trans T1) (fun i hi e=>by omega)⟩
        | some c=>
         have HR1:=hid hr
         have HST:Hid (runC sl Ls 0 ar []=runC sl (Ls.drop (j+1)) (j+1) c.1 c.2):=by
          show _=_;rw [HRUN.out,HDROP.out,runC,if_pos hjk,hr]
         have HFEW:=hid (oneC_few HSM.out.2 hr);clear hr
         go_wp2_with (go_at_call 149;(with_reducible refine (one149S (HCr.out.turned0 ((Turned.refl _ wr).alloc _)) (by have:=HK.out;omega) (by have:=HK.out;omega) HSM.out.1 HSM.out.2 HR1.out).mono ?_);rintro e W1 ⟨rfl,C1,T1⟩;have HC1:=hid C1;have HT1:=hid ((((Turned.refl _ wr).alloc (.cells #[.string s.op,.int .i64 s.a,.int .i64 s.b,.int .i64 s.c,.int .i64 s.n,.string s.name] 139)).trans T1));clear C1 T1)
         go_roundg (gk - 1)
         case measure=>have:=HG.out;omega
         case rel=>exact ⟨j+1,show _=_ by have:=HG.out;omega,by omega,by go_num,⟨⟨c.1,c.2,HC1.out,HST.out,by have:=HK.out;have:=HFEW.out;omega,by have:=HK.out;have:=HFEW.out;omega,by have:=HK.out;have:=HFEW.out;omega⟩,HTr.out.trans HT1.out⟩⟩
      · have dk:decide (k≤(j:Int))=true:=decide_eq_true (by omega)
        have hfal:B=false:=by
         rw [HB.out,HRUN.out,HDROP.out,runC,if_neg hjk];rfl
        go_wp2_with fail
        go_ret;exact ⟨by first | rfl | (rw [hfal];rfl),(HT3.out.step HTr.out (fun i hi e=>by omega)).alloc _⟩
    · obtain rfl:j=n:=by omega
      have dj:decide ((j:Int) < (j:Int))=false:=decide_eq_false (by omega)
      have HEND:Hid (B=(decide (k=(j:Int)) && decide ((had.length:Int)=sl))):=by
       show _=_;rw [HB.out,HRUN.out,List.drop_eq_nil_of_le (by have:=HN.out;omega)];rfl
      have HLEN:=hid (fun W (T:Turned zN wr W)=>(HCr.out.turned0 T).m.len Try.underlying145);have HCK:=hid (fun W (T:Turned zN wr W)=>(HCr.out.turned0 T).b);have HCB:=hid (fun W (T:Turned zN wr W)=>(T.bt HB0.out));have HTE:=hid (HT3.out.step HTr.out (fun i hi e=>by omega))
      by_cases q1:k=(j:Int)
      · have b1:(k == (j:Int))=true:=by simp [q1]
        by_cases q2:(had.length:Int)=sl
        · have b2:((had.length:Int) == sl)=true:=by simp [q2]
          have HE2:Hid (B=true):=by show _=_;rw [HEND.out,decide_eq_true q1,decide_eq_true q2];rfl
          clear q1 q2
          go_wp2_with fail
          refine wp_region_ssa' (G:=(fun dd vv W=>(match dd with | 62=>vv = .pointer (some ⟨w.heap.size+1+1,0,none⟩) | 63=>vv = .pointer (some ⟨w.heap.size+1+1,0,none⟩) | 64=>vv = .pointer (some ⟨w.heap.size+1+1,0,none⟩) | 65=>vv = .int .i64 k | 66=>vv = .pointer (some ⟨w.heap.size,2,none⟩) | 67=>vv = .int .i64 j | 68=>vv = .bool true | 69=>vv = .bool true | 70=>vv = .pointer (some ⟨w.heap.size+1+1,0,none⟩) | 71=>vv = .pointer (some ⟨w.heap.size+1+1,0,none⟩) | 72=>vv = .pointer (some ⟨w.heap.size+1+1,1,none⟩) | 73=>vv = .map (some (w.heap.size+1)) | 74=>vv = .int .i64 had.length | 75=>vv = .pointer (some ⟨w.heap.size,1,none⟩) | 76=>vv = .int .i64 sl | 77=>vv = .bool true | 78=>vv = .bool true | 2=>vv = .bool true  | _=>True:Prop))) [62,63,64,65,66,67,68,69,70,71,72,73,74,75,76,77,78,2] (by kernel_rfl) rfl (by kernel_rfl) ?hG ?hs ?hQ
          case hG=>exact fun d v _ _ _ h=>h
          case hs=>
           refine ⟨?s0,?s1,?s2,?s3,?s4,?s5,?s6,?s7,?s8,?s9,?s10,?s11,?s12,?s13,?s14,?s15,?s16,?s17,trivial⟩
           case s0=>refine zO [] [3] fun ac W hT hI hO=>?_;simp only [execOp,Act.eval,hO 3 (by simp)];go_simp;try exact tq
           case s1=>refine zO [62] [] fun ac W hT hI hO=>?_;have h62:_=_:=hI 62 (by simp);simp only [execOp,Act.eval,h62];go_simp;try exact tq
           case s2=>refine zO [63] [] fun ac W hT hI hO=>?_;have h63:_=_:=hI 63 (by simp);simp only [execOp,Act.eval,h63];go_simp;try exact tq
           case s3=>refine zO [64] [] fun ac W hT hI hO=>?_;have h64:_=_:=hI 64 (by simp);obtain ⟨k0,k1⟩:=cells2 (HCK.out W hT);simp only [execOp,Act.eval,h64];go_simp;try exact tq
           case s4=>refine zO [] [1] fun ac W hT hI hO=>?_;simp only [execOp,Act.eval,hO 1 (by simp)];go_simp;try exact tq
           case s5=>refine zO [66] [] fun ac W hT hI hO=>?_;have h66:_=_:=hI 66 (by simp);obtain ⟨k0,k1,k2,k3,_⟩:=cells4 (HCB.out W hT);simp only [execOp,Act.eval,h66];go_simp;try exact tq
           case s6=>refine zO [65,67] [] fun ac W hT hI hO=>?_;have h65:_=_:=hI 65 (by simp);have h67:_=_:=hI 67 (by simp);simp only [execOp,Act.eval,h65,h67];go_simp;try exact tq
           case s7=>refine zO [68] [] fun ac W hT hI hO=>?_;have h68:_=_:=hI 68 (by simp);simp only [execOp,Act.eval,h68];go_simp;try exact tq
           case s8=>
            refine stepOk_guard [69] [3] (by kernel_rfl) 7 true 69 rfl rfl (by simp) true true (fun _ _ h=>h) (fun hc=>?_) (fun hc=>by cases hc);intro ac W hT hI hO;simp only [execOp,Act.eval,hO 3 (by simp)];go_simp
            try exact tq
           case s9=>
            refine stepOk_guard [70,69] [] (by kernel_rfl) 7 true 69 rfl rfl (by simp) true true (fun _ _ h=>h) (fun hc=>?_) (fun hc=>by cases hc);intro ac W hT hI hO;have h70:_=_:=hI 70 (by simp);simp only [execOp,Act.eval,h70];go_simp
            try exact tq
           case s10=>
            refine stepOk_guard [71,69] [] (by kernel_rfl) 7 true 69 rfl rfl (by simp) true true (fun _ _ h=>h) (fun hc=>?_) (fun hc=>by cases hc);intro ac W hT hI hO;have h71:_=_:=hI 71 (by simp);simp only [execOp,Act.eval,h71];go_simp
            try exact tq
           case s11=>
            refine stepOk_guard [72,69] [] (by kernel_rfl) 7 true 69 rfl rfl (by simp) true true (fun _ _ h=>h) (fun hc=>?_) (fun hc=>by cases hc);intro ac W hT hI hO;have h72:_=_:=hI 72 (by simp);obtain ⟨k0,k1⟩:=cells2 (HCK.out W hT);simp only [execOp,Act.eval,h72];go_simp
            try exact tq
           case s12=>
            refine stepOk_guard [73,69] [] (by kernel_rfl) 7 true 69 rfl rfl (by simp) true true (fun _ _ h=>h) (fun hc=>?_) (fun hc=>by cases hc);intro ac W hT hI hO;have h73:_=_:=hI 73 (by simp);have hln:=HLEN.out W hT;simp only [execOp,Act.eval,h73];go_simp
            try exact tq
           case s13=>
            refine stepOk_guard [69] [1] (by kernel_rfl) 7 true 69 rfl rfl (by simp) true true (fun _ _ h=>h) (fun hc=>?_) (fun hc=>by cases hc);intro ac W hT hI hO;simp only [execOp,Act.eval,hO 1 (by simp)];go_simp
            try exact tq
           case s14=>
            refine stepOk_guard [75,69] [] (by kernel_rfl) 7 true 69 rfl rfl (by simp) true true (fun _ _ h=>h) (fun hc=>?_) (fun hc=>by cases hc);intro ac W hT hI hO;have h75:_=_:=hI 75 (by simp);obtain ⟨k0,k1,k2,k3,_⟩:=cells4 (HCB.out W hT);simp only [execOp,Act.eval,h75];go_simp
            try exact tq
           case s15=>
            refine stepOk_guard [74,76,69] [] (by kernel_rfl) 7 true 69 rfl rfl (by simp) true true (fun _ _ h=>h) (fun hc=>?_) (fun hc=>by cases hc);intro ac W hT hI hO;have h74:_=_:=hI 74 (by simp);have h76:_=_:=hI 76 (by simp);simp only [execOp,Act.eval,h74,h76];go_simp
            try exact tq
           case s16=>refine zO [69,77] [] fun ac W hT hI hO=>?_;have h69:_=_:=hI 69 (by simp);have h77:_=_:=hI 77 (by simp);simp only [execOp,Act.eval,h69,h77];go_simp;try exact tq
           case s17=>
            refine zO [78] [] fun ac W hT hI hO=>?_;have h78:_=_:=hI 78 (by simp);simp only [execOp,Act.eval,h78];go_simp
            try exact tq
          case hQ=>
           intro vs W9 T9 hV;have q2:vs 2 = .bool true:=hV 2 (by simp);simp only [Qq,List.foldl_nil,Qk,Qs,Qr,q2];have HT9:=hid T9;clear hV q2 T9
           go_wp2_with fail
           go_ret;exact ⟨by rw [HE2.out];rfl,HTE.out.trans HT9.out⟩
        · have b2:((had.length:Int) == sl)=false:=by simp [q2]
          have HE2:Hid (B=false):=by show _=_;rw [HEND.out,decide_eq_true q1,decide_eq_false q2];rfl
          clear q1 q2
          go_wp2_with fail
          refine wp_region_ssa' (G:=(fun dd vv W=>(match dd with | 62=>vv = .pointer (some ⟨w.heap.size+1+1,0,none⟩) | 63=>vv = .pointer (some ⟨w.heap.size+1+1,0,none⟩) | 64=>vv = .pointer (some ⟨w.heap.size+1+1,0,none⟩) | 65=>vv = .int .i64 k | 66=>vv = .pointer (some ⟨w.heap.size,2,none⟩) | 67=>vv = .int .i64 j | 68=>vv = .bool true | 69=>vv = .bool true | 70=>vv = .pointer (some ⟨w.heap.size+1+1,0,none⟩) | 71=>vv = .pointer (some ⟨w.heap.size+1+1,0,none⟩) | 72=>vv = .pointer (some ⟨w.heap.size+1+1,1,none⟩) | 73=>vv = .map (some (w.heap.size+1)) | 74=>vv = .int .i64 had.length | 75=>vv = .pointer (some ⟨w.heap.size,1,none⟩) | 76=>vv = .int .i64 sl | 77=>vv = .bool false | 78=>vv = .bool false | 2=>vv = .bool false  | _=>True:Prop))) [62,63,64,65,66,67,68,69,70,71,72,73,74,75,76,77,78,2] (by kernel_rfl) rfl (by kernel_rfl) ?hG ?hs ?hQ
          case hG=>exact fun d v _ _ _ h=>h
          case hs=>
           refine ⟨?s0,?s1,?s2,?s3,?s4,?s5,?s6,?s7,?s8,?s9,?s10,?s11,?s12,?s13,?s14,?s15,?s16,?s17,trivial⟩
           case s0=>refine zO [] [3] fun ac W hT hI hO=>?_;simp only [execOp,Act.eval,hO 3 (by simp)];go_simp;try exact tq
           case s1=>refine zO [62] [] fun ac W hT hI hO=>?_;have h62:_=_:=hI 62 (by simp);simp only [execOp,Act.eval,h62];go_simp;try exact tq
           case s2=>refine zO [63] [] fun ac W hT hI hO=>?_;have h63:_=_:=hI 63 (by simp);simp only [execOp,Act.eval,h63];go_simp;try exact tq
           case s3=>refine zO [64] [] fun ac W hT hI hO=>?_;have h64:_=_:=hI 64 (by simp);obtain ⟨k0,k1⟩:=cells2 (HCK.out W hT);simp only [execOp,Act.eval,h64];go_simp;try exact tq
           case s4=>refine zO [] [1] fun ac W hT hI hO=>?_;simp only [execOp,Act.eval,hO 1 (by simp)];go_simp;try exact tq
           case s5=>refine zO [66] [] fun ac W hT hI hO=>?_;have h66:_=_:=hI 66 (by simp);obtain ⟨k0,k1,k2,k3,_⟩:=cells4 (HCB.out W hT);simp only [execOp,Act.eval,h66];go_simp;try exact tq
           case s6=>refine zO [65,67] [] fun ac W hT hI hO=>?_;have h65:_=_:=hI 65 (by simp);have h67:_=_:=hI 67 (by simp);simp only [execOp,Act.eval,h65,h67];go_simp;try exact tq
           case s7=>refine zO [68] [] fun ac W hT hI hO=>?_;have h68:_=_:=hI 68 (by simp);simp only [execOp,Act.eval,h68];go_simp;try exact tq
           case s8=>
            refine stepOk_guard [69] [3] (by kernel_rfl) 7 true 69 rfl rfl (by simp) true true (fun _ _ h=>h) (fun hc=>?_) (fun hc=>by cases hc);intro ac W hT hI hO;simp only [execOp,Act.eval,hO 3 (by simp)];go_simp
            try exact tq
           case s9=>
            refine stepOk_guard [70,69] [] (by kernel_rfl) 7 true 69 rfl rfl (by simp) true true (fun _ _ h=>h) (fun hc=>?_) (fun hc=>by cases hc);intro ac W hT hI hO;have h70:_=_:=hI 70 (by simp);simp only [execOp,Act.eval,h70];go_simp
            try exact tq
           case s10=>
            refine stepOk_guard [71,69] [] (by kernel_rfl) 7 true 69 rfl rfl (by simp) true true (fun _ _ h=>h) (fun hc=>?_) (fun hc=>by cases hc);intro ac W hT hI hO;have h71:_=_:=hI 71 (by simp);simp only [execOp,Act.eval,h71];go_simp
            try exact tq
           case s11=>
            refine stepOk_guard [72,69] [] (by kernel_rfl) 7 true 69 rfl rfl (by simp) true true (fun _ _ h=>h) (fun hc=>?_) (fun hc=>by cases hc);intro ac W hT hI hO;have h72:_=_:=hI 72 (by simp);obtain ⟨k0,k1⟩:=cells2 (HCK.out W hT);simp only [execOp,Act.eval,h72];go_simp
            try exact tq
           case s12=>
            refine stepOk_guard [73,69] [] (by kernel_rfl) 7 true 69 rfl rfl (by simp) true true (fun _ _ h=>h) (fun hc=>?_) (fun hc=>by cases hc);intro ac W hT hI hO;have h73:_=_:=hI 73 (by simp);have hln:=HLEN.out W hT;simp only [execOp,Act.eval,h73];go_simp
            try exact tq
           case s13=>
            refine stepOk_guard [69] [1] (by kernel_rfl) 7 true 69 rfl rfl (by simp) true true (fun _ _ h=>h) (fun hc=>?_) (fun hc=>by cases hc);intro ac W hT hI hO;simp only [execOp,Act.eval,hO 1 (by simp)];go_simp
            try exact tq
           case s14=>
            refine stepOk_guard [75,69] [] (by kernel_rfl) 7 true 69 rfl rfl (by simp) true true (fun _ _ h=>h) (fun hc=>?_) (fun hc=>by cases hc);intro ac W hT hI hO;have h75:_=_:=hI 75 (by simp);obtain ⟨k0,k1,k2,k3,_⟩:=cells4 (HCB.out W hT);simp only [execOp,Act.eval,h75];go_simp
            try exact tq
           case s15=>
            refine stepOk_guard [74,76,69] [] (by kernel_rfl) 7 true 69 rfl rfl (by simp) true true (fun _ _ h=>h) (fun hc=>?_) (fun hc=>by cases hc);intro ac W hT hI hO;have h74:_=_:=hI 74 (by simp);have h76:_=_:=hI 76 (by simp);simp only [execOp,Act.eval,h74,h76];go_simp
            try exact tq
           case s16=>refine zO [69,77] [] fun ac W hT hI hO=>?_;have h69:_=_:=hI 69 (by simp);have h77:_=_:=hI 77 (by simp);simp only [execOp,Act.eval,h69,h77];go_simp;try exact tq
           case s17=>
            refine zO [78] [] fun ac W hT hI hO=>?_;have h78:_=_:=hI 78 (by simp);simp only [execOp,Act.eval,h78];go_simp
            try exact tq
          case hQ=>
           intro vs W9 T9 hV;have q2:vs 2 = .bool false:=hV 2 (by simp);simp only [Qq,List.foldl_nil,Qk,Qs,Qr,q2];have HT9:=hid T9;clear hV q2 T9
           go_wp2_with fail
           go_ret;exact ⟨by rw [HE2.out];rfl,HTE.out.trans HT9.out⟩
      · have b1:(k == (j:Int))=false:=by simp [q1]
        have HE2:Hid (B=false):=by show _=_;rw [HEND.out,decide_eq_false q1];rfl
        clear q1
        go_wp2_with fail
        refine wp_region_ssa' (G:=(fun dd vv W=>(match dd with | 62=>vv = .pointer (some ⟨w.heap.size+1+1,0,none⟩) | 63=>vv = .pointer (some ⟨w.heap.size+1+1,0,none⟩) | 64=>vv = .pointer (some ⟨w.heap.size+1+1,0,none⟩) | 65=>vv = .int .i64 k | 66=>vv = .pointer (some ⟨w.heap.size,2,none⟩) | 67=>vv = .int .i64 j | 68=>vv = .bool false | 69=>vv = .bool false | 70=>vv=undef | 71=>vv=undef | 72=>vv=undef | 73=>vv=undef | 74=>vv=undef | 75=>vv=undef | 76=>vv=undef | 77=>vv=undef | 78=>vv = .bool false | 2=>vv = .bool false  | _=>True:Prop))) [62,63,64,65,66,67,68,69,70,71,72,73,74,75,76,77,78,2] (by kernel_rfl) rfl (by kernel_rfl) ?hG ?hs ?hQ
        case hG=>exact fun d v _ _ _ h=>h
        case hs=>
         refine ⟨?s0,?s1,?s2,?s3,?s4,?s5,?s6,?s7,?s8,?s9,?s10,?s11,?s12,?s13,?s14,?s15,?s16,?s17,trivial⟩
         case s0=>refine zO [] [3] fun ac W hT hI hO=>?_;simp only [execOp,Act.eval,hO 3 (by simp)];go_simp;try exact tq
         case s1=>refine zO [62] [] fun ac W hT hI hO=>?_;have h62:_=_:=hI 62 (by simp);simp only [execOp,Act.eval,h62];go_simp;try exact tq
         case s2=>refine zO [63] [] fun ac W hT hI hO=>?_;have h63:_=_:=hI 63 (by simp);simp only [execOp,Act.eval,h63];go_simp;try exact tq
         case s3=>refine zO [64] [] fun ac W hT hI hO=>?_;have h64:_=_:=hI 64 (by simp);obtain ⟨k0,k1⟩:=cells2 (HCK.out W hT);simp only [execOp,Act.eval,h64];go_simp;try exact tq
         case s4=>refine zO [] [1] fun ac W hT hI hO=>?_;simp only [execOp,Act.eval,hO 1 (by simp)];go_simp;try exact tq
         case s5=>refine zO [66] [] fun ac W hT hI hO=>?_;have h66:_=_:=hI 66 (by simp);obtain ⟨k0,k1,k2,k3,_⟩:=cells4 (HCB.out W hT);simp only [execOp,Act.eval,h66];go_simp;try exact tq
         case s6=>refine zO [65,67] [] fun ac W hT hI hO=>?_;have h65:_=_:=hI 65 (by simp);have h67:_=_:=hI 67 (by simp);simp only [execOp,Act.eval,h65,h67];go_simp;try exact tq
         case s7=>refine zO [68] [] fun ac W hT hI hO=>?_;have h68:_=_:=hI 68 (by simp);simp only [execOp,Act.eval,h68];go_simp;try exact tq
         case s8=>exact stepOk_guard [69] [3] (by kernel_rfl) 7 true 69 rfl rfl (by simp) true false (fun _ _ h=>h) (fun hc=>by cases hc) (fun _ _=>rfl)
         case s9=>exact stepOk_guard [70,69] [] (by kernel_rfl) 7 true 69 rfl rfl (by simp) true false (fun _ _ h=>h) (fun hc=>by cases hc) (fun _ _=>rfl)
         case s10=>exact stepOk_guard [71,69] [] (by kernel_rfl) 7 true 69 rfl rfl (by simp) true false (fun _ _ h=>h) (fun hc=>by cases hc) (fun _ _=>rfl)
         case s11=>exact stepOk_guard [72,69] [] (by kernel_rfl) 7 true 69 rfl rfl (by simp) true false (fun _ _ h=>h) (fun hc=>by cases hc) (fun _ _=>rfl)
         case s12=>exact stepOk_guard [73,69] [] (by kernel_rfl) 7 true 69 rfl rfl (by simp) true false (fun _ _ h=>h) (fun hc=>by cases hc) (fun _ _=>rfl)
         case s13=>exact stepOk_guard [69] [1] (by kernel_rfl) 7 true 69 rfl rfl (by simp) true false (fun _ _ h=>h) (fun hc=>by cases hc) (fun _ _=>rfl)
         case s14=>exact stepOk_guard [75,69] [] (by kernel_rfl) 7 true 69 rfl rfl (by simp) true false (fun _ _ h=>h) (fun hc=>by cases hc) (fun _ _=>rfl)
         case s15=>exact stepOk_guard [74,76,69] [] (by kernel_rfl) 7 true 69 rfl rfl (by simp) true false (fun _ _ h=>h) (fun hc=>by cases hc) (fun _ _=>rfl)
         case s16=>refine zO [69,77] [] fun ac W hT hI hO=>?_;have h69:_=_:=hI 69 (by simp);have h77:_=_:=hI 77 (by simp);simp only [execOp,Act.eval,h69,h77];go_simp;try exact tq
         case s17=>
          refine zO [78] [] fun ac W hT hI hO=>?_;have h78:_=_:=hI 78 (by simp);simp only [execOp,Act.eval,h78];go_simp
          try exact tq
        case hQ=>
         intro vs W9 T9 hV;have q2:vs 2 = .bool false:=hV 2 (by simp);simp only [Qq,List.foldl_nil,Qk,Qs,Qr,q2];have HT9:=hid T9;clear hV q2 T9
         go_wp2_with fail
         go_ret;exact ⟨by rw [HE2.out];rfl,HTE.out.trans HT9.out⟩
 · have hg:goodC ar sl rg Ls=false:=by unfold goodC;rw [if_neg hc]
   rw [hg]
   have HC:Hid (¬ (0≤ar∧ar≤8∧ar≤rg∧rg≤2000∧(n:Int)=rg)):=by show ¬ _;rw [hn'];exact hc
   clear hg hc hr hs hn' hnI hn;go_enter Try.func95,Try.ntmps95
   go_wp2_with fail
   all_goals first
    | (go_ret;exact ⟨rfl,(Turned.refl _ w).alloc _⟩)
    | (exfalso;refine HC.out ⟨‹_›,‹_›,‹_›,‹_›,?_⟩;have:=(‹(((0≤ar∧ar≤8)∧ar≤rg)∧rg≤2000)∧((n:Int) != rg)=false›).2;simpa using this)
set_option maxRecDepth 100000 in
theorem codeGoodT95 {ar sl rg:Int} {lv:Value} {Ls:List Stp} {w:World} (hr:Row w 139 6 lv Ls.length (Ls.flatMap stC)) (hs:∀ s∈Ls,stOk s∧opOk s) (hn:Ls.length≤100000) (hgood:goodC ar sl rg Ls=true) :
 Calls Try.prog 95 #[.agg #[.int .i64 ar,.int .i64 sl,.int .i64 rg,lv]] w fun e w'=>e = .returned (.bool true)∧Turned zN w w':=by
 obtain ⟨a,cap,rfl⟩:=hr.shape;obtain ⟨n,hn'⟩:∃ n,n=Ls.length:=⟨_,rfl⟩;rw [←hn'] at hr
 have hnI:(n:Int)=(Ls.length:Int):=by omega
 rw [←hn']
 by_cases hc:0≤ar∧ar≤8∧ar≤rg∧rg≤2000∧(Ls.length:Int)=rg
 · have hg:goodC ar sl rg Ls=endC rg sl (runC sl Ls 0 ar []):=by unfold goodC;rw [if_pos hc]
   have hB:true=endC rg sl (runC sl Ls 0 ar []):=by rw [←hg,hgood]
   clear hgood;have HB:=hid hB;obtain ⟨h0,h1,h2,h3,h4⟩:=hc;have d0:decide (ar < 0)=false:=decide_eq_false (by omega);have d1:decide (8 < ar)=false:=decide_eq_false (by omega);have d2:decide (rg < ar)=false:=decide_eq_false (by omega);have d3:decide (2000 < rg)=false:=decide_eq_false (by omega)
   have hrg:rg=(n:Int):=by omega
   subst hrg;have HR:=hid hr;have HS:=hid hs;have HN:=hid hn';have HA:=hid (And.intro h0 (And.intro h1 (And.intro h2 h3)));clear hg hB hr hs hn' h0 h1 h2 h3 h4 hnI hn;have hmm:=@run_makeMap Try.prog;go_enter Try.func95,Try.ntmps95
   go_wp2_with fail
   have hmap:=IMap.made (w.alloc (.cells #[.int .i64 ar,.int .i64 sl,.int .i64 n,.slice a n cap] 104)) Try.prog 3;have hkp:=three_boxes w (.cells #[.int .i64 ar,.int .i64 sl,.int .i64 n,.slice a n cap] 104) (.map #[] 0) (.cells #[.int .i64 ar,.map (some (w.heap.size+1))] 178);obtain ⟨w3,hw3⟩:∃ z,z=((w.alloc (.cells #[.int .i64 ar,.int .i64 sl,.int .i64 n,.slice a n cap] 104)).alloc (.map #[] 0)).alloc (.cells #[.int .i64 ar,.map (some (w.heap.size+1))] 178):=⟨_,rfl⟩
   have hC3:Chk (w.heap.size+1+1) (w.heap.size+1) ar [] w3:=by
    refine ⟨by rw [hw3];exact hkp.2.2.2,?_,by omega,Nat.zero_le _⟩;have:=hmap.alloc (.cells #[.int .i64 ar,.map (some (w.heap.size+1))] 178);rw [show (w.alloc (.cells #[.int .i64 ar,.int .i64 sl,.int .i64 n,.slice a n cap] 104)).heap.size=w.heap.size+1 from by simp] at this;rw [hw3,hadF_nil];exact this
   rw [←hw3] at hkp;have HT3:=hid hkp.1;have HC0:=hid hkp.2.1;have HL3:Hid (GoodL sl ar Ls (w.heap.size+1+1) (w.heap.size+1) w3 0 w3):=⟨⟨ar,[],hC3,rfl,Qm _,by have:=HA.out;omega,by have:=HA.out;omega⟩,Turned.refl _ _⟩;have HW3:=hid hw3;clear hmap hkp hC3;rw [←hw3];clear hw3
   go_loopg [42] n (fun q i wr=>∃ j:Nat,Hid (j+q=n)∧j≤n∧i = .int .i64 j∧Hid (GoodL sl ar Ls (w.heap.size+1+1) (w.heap.size+1) w3 j wr))
   case atStart=>exact ⟨0,Nat.zero_add _,Nat.zero_le _,rfl,HL3⟩
   case round=>
    obtain ⟨j,HG,hj,rfl,HL⟩:=hrel;obtain ⟨⟨k,had,C,hrun,hfew,hk0,hk8⟩,T⟩:=HL.out;have HCr:=hid C;have HRUN:=hid hrun;have HTr:=hid T;have HK:=hid (And.intro hfew (And.intro hk0 hk8));have HB0:=hid ((T.block _ (zL HC0.out) (by omega)).trans HC0.out);clear C hrun hfew hk0 hk8 T;have HNC:=HA.out
    by_cases hjn:j < n
    · have dj:decide ((j:Int) < (n:Int))=true:=decide_eq_true (by omega)
      obtain ⟨s,hsj⟩:∃ s,Ls[j]? = some s:=⟨_,Qa (by have:=HN.out;omega)⟩;have hsm:=HS.out s (Qf hsj);obtain ⟨g,cap',hcv⟩:=HR.out.shape_pos (by omega)
      injection hcv with e1 _ e2
      subst e1 e2;have hrw:=(HR.out.turned0 HT3.out).turned HTr.out (fun q hq e=>by have:=HR.out.lt q hq;omega);have hcells:=step_cells (i:=j) (s:=s) (by have:=hrw;rw [HN.out] at this;exact this) hsj;obtain ⟨e0,e1,e2,e3,e4,e5⟩:=hcells;have HSM:=hid hsm
      have HDROP:Hid (Ls.drop j=s :: Ls.drop (j+1)):=by
       obtain ⟨hl,he⟩:=Qg.1 hsj;show Ls.drop j=_;rw [←he];exact List.drop_eq_getElem_cons hl
      clear hsm hrw hsj;obtain ⟨r0,r1,r2,r3,_⟩:=cells4 HB0.out;obtain ⟨z0,z1⟩:=cells2 HCr.out.b;have TA:=(Turned.refl (fun _=>False) wr).alloc (.cells #[.string s.op,.int .i64 s.a,.int .i64 s.b,.int .i64 s.c,.int .i64 s.n,.string s.name] 139);obtain ⟨za0,za1⟩:=cells2 (HCr.out.turned0 TA).b;obtain ⟨ra0,ra1,ra2,ra3,_⟩:=cells4 ((TA.bt HB0.out));clear TA
      have hneg:¬ ((j:Int) < 0):=by omega
      by_cases hjk:(j:Int) < k
      · have dk:decide (k≤(j:Int))=false:=decide_eq_false (by omega)
        cases hr:oneC sl j k had s with
        | none=>
         have HR1:=hid hr;exfalso
         have hfal:true=false:=by
          rw [HB.out,HRUN.out,HDROP.out,runC,if_pos hjk,hr];rfl
         cases hfal
        | some c=>
         have HR1:=hid hr
         have HST:Hid (runC sl Ls 0 ar []=runC sl (Ls.drop (j+1)) (j+1) c.1 c.2):=by
          show _=_;rw [HRUN.out,HDROP.out,runC,if_pos hjk,hr]
         have HFEW:=hid (oneC_few HSM.out.2 hr);clear hr
         go_wp2_with (go_at_call 149;(with_reducible refine (one149T (HCr.out.turned0 ((Turned.refl _ wr).alloc _)) (by have:=HK.out;omega) (by have:=HK.out;omega) HSM.out.1 HSM.out.2 HR1.out).mono ?_);rintro e W1 ⟨rfl,C1,T1⟩;have HC1:=hid C1;have HT1:=hid ((((Turned.refl _ wr).alloc (.cells #[.string s.op,.int .i64 s.a,.int .i64 s.b,.int .i64 s.c,.int .i64 s.n,.string s.name] 139)).trans T1));clear C1 T1)
         go_roundg (gk - 1)
         case measure=>have:=HG.out;omega
         case rel=>exact ⟨j+1,show _=_ by have:=HG.out;omega,by omega,by go_num,⟨⟨c.1,c.2,HC1.out,HST.out,by have:=HK.out;have:=HFEW.out;omega,by have:=HK.out;have:=HFEW.out;omega,by have:=HK.out;have:=HFEW.out;omega⟩,HTr.out.trans HT1.out⟩⟩
      · have dk:decide (k≤(j:Int))=true:=decide_eq_true (by omega)
        exfalso
        have hfal:true=false:=by
         rw [HB.out,HRUN.out,HDROP.out,runC,if_neg hjk];rfl
        cases hfal
    · obtain rfl:j=n:=by omega
      have dj:decide ((j:Int) < (j:Int))=false:=decide_eq_false (by omega)
      have HEND:Hid (true=(decide (k=(j:Int)) && decide ((had.length:Int)=sl))):=by
       show _=_;rw [HB.out,HRUN.out,List.drop_eq_nil_of_le (by have:=HN.out;omega)];rfl
      have HLEN:=hid (fun W (T:Turned zN wr W)=>(HCr.out.turned0 T).m.len Try.underlying145);have HCK:=hid (fun W (T:Turned zN wr W)=>(HCr.out.turned0 T).b);have HCB:=hid (fun W (T:Turned zN wr W)=>(T.bt HB0.out));have HTE:=hid (HT3.out.step HTr.out (fun i hi e=>by omega))
      by_cases q1:k=(j:Int)
      · have b1:(k == (j:Int))=true:=by simp [q1]
        by_cases q2:(had.length:Int)=sl
        · have b2:((had.length:Int) == sl)=true:=by simp [q2]
          have HE2:Hid (true=true):=rfl;clear q1 q2
          go_wp2_with fail
          refine wp_region_ssa' (G:=(fun dd vv W=>(match dd with | 62=>vv = .pointer (some ⟨w.heap.size+1+1,0,none⟩) | 63=>vv = .pointer (some ⟨w.heap.size+1+1,0,none⟩) | 64=>vv = .pointer (some ⟨w.heap.size+1+1,0,none⟩) | 65=>vv = .int .i64 k | 66=>vv = .pointer (some ⟨w.heap.size,2,none⟩) | 67=>vv = .int .i64 j | 68=>vv = .bool true | 69=>vv = .bool true | 70=>vv = .pointer (some ⟨w.heap.size+1+1,0,none⟩) | 71=>vv = .pointer (some ⟨w.heap.size+1+1,0,none⟩) | 72=>vv = .pointer (some ⟨w.heap.size+1+1,1,none⟩) | 73=>vv = .map (some (w.heap.size+1)) | 74=>vv = .int .i64 had.length | 75=>vv = .pointer (some ⟨w.heap.size,1,none⟩) | 76=>vv = .int .i64 sl | 77=>vv = .bool true | 78=>vv = .bool true | 2=>vv = .bool true  | _=>True:Prop))) [62,63,64,65,66,67,68,69,70,71,72,73,74,75,76,77,78,2] (by kernel_rfl) rfl (by kernel_rfl) ?hG ?hs ?hQ
          case hG=>exact fun d v _ _ _ h=>h
          case hs=>
           refine ⟨?s0,?s1,?s2,?s3,?s4,?s5,?s6,?s7,?s8,?s9,?s10,?s11,?s12,?s13,?s14,?s15,?s16,?s17,trivial⟩
           case s0=>refine zO [] [3] fun ac W hT hI hO=>?_;simp only [execOp,Act.eval,hO 3 (by simp)];go_simp;try exact tq
           case s1=>refine zO [62] [] fun ac W hT hI hO=>?_;have h62:_=_:=hI 62 (by simp);simp only [execOp,Act.eval,h62];go_simp;try exact tq
           case s2=>refine zO [63] [] fun ac W hT hI hO=>?_;have h63:_=_:=hI 63 (by simp);simp only [execOp,Act.eval,h63];go_simp;try exact tq
           case s3=>refine zO [64] [] fun ac W hT hI hO=>?_;have h64:_=_:=hI 64 (by simp);obtain ⟨k0,k1⟩:=cells2 (HCK.out W hT);simp only [execOp,Act.eval,h64];go_simp;try exact tq
           case s4=>refine zO [] [1] fun ac W hT hI hO=>?_;simp only [execOp,Act.eval,hO 1 (by simp)];go_simp;try exact tq
           case s5=>refine zO [66] [] fun ac W hT hI hO=>?_;have h66:_=_:=hI 66 (by simp);obtain ⟨k0,k1,k2,k3,_⟩:=cells4 (HCB.out W hT);simp only [execOp,Act.eval,h66];go_simp;try exact tq
           case s6=>refine zO [65,67] [] fun ac W hT hI hO=>?_;have h65:_=_:=hI 65 (by simp);have h67:_=_:=hI 67 (by simp);simp only [execOp,Act.eval,h65,h67];go_simp;try exact tq
           case s7=>refine zO [68] [] fun ac W hT hI hO=>?_;have h68:_=_:=hI 68 (by simp);simp only [execOp,Act.eval,h68];go_simp;try exact tq
           case s8=>
            refine stepOk_guard [69] [3] (by kernel_rfl) 7 true 69 rfl rfl (by simp) true true (fun _ _ h=>h) (fun hc=>?_) (fun hc=>by cases hc);intro ac W hT hI hO;simp only [execOp,Act.eval,hO 3 (by simp)];go_simp
            try exact tq
           case s9=>
            refine stepOk_guard [70,69] [] (by kernel_rfl) 7 true 69 rfl rfl (by simp) true true (fun _ _ h=>h) (fun hc=>?_) (fun hc=>by cases hc);intro ac W hT hI hO;have h70:_=_:=hI 70 (by simp);simp only [execOp,Act.eval,h70];go_simp
            try exact tq
           case s10=>
            refine stepOk_guard [71,69] [] (by kernel_rfl) 7 true 69 rfl rfl (by simp) true true (fun _ _ h=>h) (fun hc=>?_) (fun hc=>by cases hc);intro ac W hT hI hO;have h71:_=_:=hI 71 (by simp);simp only [execOp,Act.eval,h71];go_simp
            try exact tq
           case s11=>
            refine stepOk_guard [72,69] [] (by kernel_rfl) 7 true 69 rfl rfl (by simp) true true (fun _ _ h=>h) (fun hc=>?_) (fun hc=>by cases hc);intro ac W hT hI hO;have h72:_=_:=hI 72 (by simp);obtain ⟨k0,k1⟩:=cells2 (HCK.out W hT);simp only [execOp,Act.eval,h72];go_simp
            try exact tq
           case s12=>
            refine stepOk_guard [73,69] [] (by kernel_rfl) 7 true 69 rfl rfl (by simp) true true (fun _ _ h=>h) (fun hc=>?_) (fun hc=>by cases hc);intro ac W hT hI hO;have h73:_=_:=hI 73 (by simp);have hln:=HLEN.out W hT;simp only [execOp,Act.eval,h73];go_simp
            try exact tq
           case s13=>
            refine stepOk_guard [69] [1] (by kernel_rfl) 7 true 69 rfl rfl (by simp) true true (fun _ _ h=>h) (fun hc=>?_) (fun hc=>by cases hc);intro ac W hT hI hO;simp only [execOp,Act.eval,hO 1 (by simp)];go_simp
            try exact tq
           case s14=>
            refine stepOk_guard [75,69] [] (by kernel_rfl) 7 true 69 rfl rfl (by simp) true true (fun _ _ h=>h) (fun hc=>?_) (fun hc=>by cases hc);intro ac W hT hI hO;have h75:_=_:=hI 75 (by simp);obtain ⟨k0,k1,k2,k3,_⟩:=cells4 (HCB.out W hT);simp only [execOp,Act.eval,h75];go_simp
            try exact tq
           case s15=>
            refine stepOk_guard [74,76,69] [] (by kernel_rfl) 7 true 69 rfl rfl (by simp) true true (fun _ _ h=>h) (fun hc=>?_) (fun hc=>by cases hc);intro ac W hT hI hO;have h74:_=_:=hI 74 (by simp);have h76:_=_:=hI 76 (by simp);simp only [execOp,Act.eval,h74,h76];go_simp
            try exact tq
           case s16=>refine zO [69,77] [] fun ac W hT hI hO=>?_;have h69:_=_:=hI 69 (by simp);have h77:_=_:=hI 77 (by simp);simp only [execOp,Act.eval,h69,h77];go_simp;try exact tq
           case s17=>
            refine zO [78] [] fun ac W hT hI hO=>?_;have h78:_=_:=hI 78 (by simp);simp only [execOp,Act.eval,h78];go_simp
            try exact tq
          case hQ=>
           intro vs W9 T9 hV;have q2:vs 2 = .bool true:=hV 2 (by simp);simp only [Qq,List.foldl_nil,Qk,Qs,Qr,q2];have HT9:=hid T9;clear hV q2 T9
           go_wp2_with fail
           go_ret;exact ⟨rfl,HTE.out.trans HT9.out⟩
        · exfalso
          have h:=HEND.out;rw [decide_eq_true q1,decide_eq_false q2] at h
          cases h
      · exfalso
        have h:=HEND.out;rw [decide_eq_false q1] at h
        cases h
 · exfalso
   unfold goodC at hgood;rw [if_neg (by first | exact hc | (intro c;exact hc c))] at hgood
   cases hgood
end Go.Proofs.Ytoihjobdfjajfaa
namespace Go.Proofs.Ytoihjobdfjajfaa
open Go.RowKit Go.Maps
open Tm (Stp sVar sVal sInt sAtom sComp cb met steps stepX stepAt goodC)
theorem small_ops:sVar.size≤maxLen∧sVal.size≤maxLen∧sInt.size≤maxLen∧sAtom.size≤maxLen∧sComp.size≤maxLen:=by
 unfold maxLen;decide
theorem step_ok {t x:LT} {p:Nat→Prop} {w:World} {i:Nat} (ht:t.In p w) (hg:goodB t=true) (hx:(Tm.regs t.args)[i]? = some x):stOk (stepX t.vars t.args i x)∧opOk (stepX t.vars t.args i x):=by
 have hm:x∈t.flat:=by rw [Tm.flat_eq];exact Qb _ (Tm.regs_flats x (Qf hx))
 have hxin:=LT.In.flat t ht x hm;have h:=hg;unfold goodB at h;simp only [Qd,decide_eq_true_eq,Qt] at h;have hone:=h.2.2 x hm;have hs:=h.1;rw [Tm.size_eq] at hs
 have hi:i < Tm.sizes t.args:=by have:=(Qg.1 hx).1;rw [Tm.regs_length] at this;exact this
 have hcb:=Tm.cb_le' (l:=t.args) (i:=i) (by omega);have hvf:=vars_few hg;obtain ⟨z1,z2,z3,z4,z5⟩:=small_ops;obtain ⟨n1,n2,n3,n4,n5,n6,n7,n8,n9,n10⟩:=Tm.ne_ops
 have he:ByteArray.empty.size≤maxLen:=by unfold maxLen;decide
 unfold stepX
 by_cases h0:x.kind=0
 · have hv:x.n∈t.vars:=(Tm.mem_fold _ _ _).2 (.inr ⟨x,hm,h0,rfl⟩)
   have hp:=List.idxOf_lt_length_of_mem hv;rw [if_pos h0];refine ⟨⟨?_,by simp only [];unfold I64;omega,by simp only [];unfold I64 Tm.posOf;omega,by simp only [];unfold I64;omega,by simp only [];unfold I64;omega,he⟩,?_,fun c=>?_⟩
   · simp only [];split <;> assumption
   · simp only [];split <;> simp
   · simp only [] at c
     split at c
     · exact absurd c.symm n8
     · exact absurd c.symm n7
 · rw [if_neg h0]
   by_cases h1:x.kind=1
   · rw [if_pos h1]
     exact ⟨⟨z3,by simp only [];unfold I64;omega,by simp only [];unfold I64;omega,by simp only [];unfold I64;omega,hxin.n,he⟩,.inr (.inr (.inl rfl)),fun c=>absurd c.symm n9⟩
   · have h2:x.kind=2:=by
      by_cases h2:x.kind=2
      · exact h2
      · rw [goodOneB_3 x h0 h1 h2] at hone;cases hone
     rw [goodOneB_2 x h2] at hone;simp only [Qd,decide_eq_true_eq] at hone;rw [if_neg h1]
     by_cases ha:x.args.length=0
     · rw [if_pos ha]
       exact ⟨⟨z4,by simp only [];unfold I64;omega,by simp only [];unfold I64;omega,by simp only [];unfold I64;omega,by simp only [];unfold I64;omega,hxin.name⟩,.inr (.inr (.inr (.inl rfl))),fun c=>absurd c.symm n10⟩
     · rw [if_neg ha]
       exact ⟨⟨z5,by simp only [];unfold I64;omega,by simp only [];unfold I64;omega,by simp only [];unfold I64;omega,by simp only [];unfold I64;omega,hxin.name⟩,.inr (.inr (.inr (.inr rfl))),fun _=>⟨by simp only [];omega,by simp only [];omega⟩⟩
theorem steps_ok {t:LT} {p:Nat→Prop} {w:World} {k:Nat} (ht:t.In p w) (hg:goodB t=true) (hk:k≤Tm.sizes t.args):∀ s∈steps t.vars t.args k,stOk s∧opOk s:=by
 intro s hs;unfold steps at hs;obtain ⟨i,hi,rfl⟩:=List.mem_map.1 hs;rw [List.mem_range] at hi;obtain ⟨x,hx,_,_⟩:=Tm.regs_some (l:=t.args) (i:=i) (by omega);unfold stepAt;rw [hx];exact step_ok ht hg hx
theorem goodHead95 {t:LT} {p:Nat→Prop} {w:World} {lv:Value} (ht:t.In p w) (hg:goodB t=true) (hk:t.kind=2) (hr:Row w 139 6 lv (Tm.sizes t.args) ((steps t.vars t.args (Tm.sizes t.args)).flatMap stC)) :
 Calls Try.prog 95 #[.agg #[.int .i64 t.args.length,.int .i64 t.vars.length,.int .i64 (Tm.sizes t.args),lv]] w fun e w'=>e = .returned (.bool true)∧Turned zN w w':=by
 have hl:=Tm.steps_length t.vars t.args (Tm.sizes t.args);have h:=hg;unfold goodB at h;simp only [Qd,decide_eq_true_eq,Qt] at h;have hs:=h.1;rw [Tm.size_eq] at hs;have:=codeGoodT95 (ar:=t.args.length) (sl:=t.vars.length) (rg:=(Tm.sizes t.args:Int)) (lv:=lv) (Ls:=steps t.vars t.args (Tm.sizes t.args)) (w:=w) (by rw [hl];exact hr) (steps_ok ht hg (Qm _)) (by rw [hl];omega) (Tm.head_good hg hk);exact this
end Go.Proofs.Ytoihjobdfjajfaa
namespace Go.Proofs.Ytoihjobdfjajfaa
open Lib (hid)
open Go.RowKit Go.Maps
open Tm (Stp sVar sVal sInt sAtom sComp cb met steps stepX stepAt goodC)
abbrev hdT (a:Option Addr) (c:Nat) (a':Option Addr) (c':Nat):LT:=.mk 2 0 ⟨#[112]⟩ (a,c) [leaf 0 9 ByteArray.empty,.mk 2 0 ⟨#[102]⟩ (a',c') [leaf 0 9 ByteArray.empty]]
abbrev st0:Stp:=⟨⟨#[118,97,114]⟩,0,0,0,0,⟨#[]⟩⟩
abbrev st1:Stp:=⟨⟨#[99,111,109,112]⟩,1,1,2,0,⟨#[102]⟩⟩
abbrev st2:Stp:=⟨⟨#[118,97,108]⟩,2,0,0,0,⟨#[]⟩⟩
section
variable {a a':Option Addr} {c c':Nat} {w:World}
theorem hd_good:goodB (hdT a c a' c')=true:=by kernel_rfl
theorem hd_vars:(hdT a c a' c').vars.length=1:=by kernel_rfl
theorem hd_sizes:Tm.sizes (hdT a c a' c').args=3:=by kernel_rfl
theorem hd_steps:steps (hdT a c a' c').vars (hdT a c a' c').args 3=[st0,st1,st2]:=by kernel_rfl
theorem hdHead (h:(hdT a c a' c').In (fun _=>True) w):Calls Try.prog 93 #[.agg #[.int .i64 2,.int .i64 0,.string ⟨#[112]⟩,.slice a 2 c]] w fun e w'=>∃ lv:Value,e = .returned (.tuple #[.agg #[.int .i64 2,.int .i64 1,.int .i64 3,lv],.int .i64 0])∧Row w' 139 6 lv 3 ([st0,st1,st2].flatMap stC)∧(∀ k,lv.ownBlock=some k→w.heap.size≤k)∧Turned zN w w':=by
 have:=head93 h hd_good rfl;rw [hd_vars,hd_sizes,hd_steps] at this;exact this
theorem hdGood {lv:Value} {w':World} (h:(hdT a c a' c').In (fun _=>True) w') (hr:Row w' 139 6 lv 3 ([st0,st1,st2].flatMap stC)):Calls Try.prog 95 #[.agg #[.int .i64 2,.int .i64 1,.int .i64 3,lv]] w' fun e w2=>e = .returned (.bool true)∧Turned zN w' w2:=by
 have:=goodHead95 (lv:=lv) h hd_good rfl (by rw [hd_sizes,hd_steps];exact hr);rw [hd_vars,hd_sizes] at this;exact this
end
theorem lit_ops:((⟨#[118,97,114]⟩:ByteArray).toList == [118,97,114])=true∧((⟨#[118,97,108]⟩:ByteArray).toList == [118,97,108])=true∧((⟨#[99,111,109,112]⟩:ByteArray).toList == [99,111,109,112])=true∧((⟨#[102]⟩:ByteArray).toList == [102])=true∧((⟨#[]⟩:ByteArray).toList == [])=true:=by
 refine ⟨?_,?_,?_,?_,?_⟩ <;> (rw [ByteArray.toList_eq];rfl)
set_option maxRecDepth 100000 in
theorem awake91 (w:World):Calls Try.prog 91 #[] w fun e w'=>e = .returned (.bool true)∧Turned zN w w':=by
 obtain ⟨l0,l1,l2,l3,l4⟩:=lit_ops;go_enter Try.func91,Try.ntmps91
 go_wp2_with (first
  | (go_at_call 95;have HC6:=HC6;(refine (hdGood HI6.out HR6.out).mono ?_);rintro e w7 ⟨rfl,T7⟩;have HT7:=hid T7;clear T7)
  | (go_at_call 93;refine (hdHead i4).mono ?_;rintro e w5 ⟨lv,rfl,hr5,ho5,T5⟩;obtain ⟨g5,cap5,rfl⟩:=hr5.shape_pos (by omega);have TA:=(Turned.refl (fun _=>False) w5).alloc (.cells #[.int .i64 2,.int .i64 1,.int .i64 3,.slice (some ⟨g5,0,none⟩) 3 cap5] 104);have HR6:=hid (hr5.turned0 TA);have HI6:=hid ((i4.turned0 T5).turned0 TA);obtain ⟨a0,a1,a2,a3,a4,a5⟩:=step_cells (L:=[st0,st1,st2]) (i:=0) (s:=st0) HR6.out rfl;obtain ⟨b0,b1,b2,b3,b4,b5⟩:=step_cells (L:=[st0,st1,st2]) (i:=1) (s:=st1) HR6.out rfl;obtain ⟨d0,d1,d2,d3,d4,d5⟩:=step_cells (L:=[st0,st1,st2]) (i:=2) (s:=st2) HR6.out rfl;simp only [Nat.zero_mul,Nat.one_mul,Nat.zero_add,Nat.reduceMul,Nat.reduceAdd] at a0 a1 a2 a3 a4 a5 b0 b1 b2 b3 b4 b5 d0 d1 d2 d3 d4 d5;have HT6:=hid ((((T1.trans T2).trans T3).trans T4).trans (T5.trans TA));have HC6:=HT6;clear T1 T2 T3 T4 T5 TA hr5 ho5 i1 i2 i3 i4)
  | (go_at_call 37;have:=T3;refine (compV ⟨#[112]⟩ (by unfold maxLen;decide) 2 (by decide) rfl (sl_made (l:=[leaf 0 9 ByteArray.empty,.mk 2 0 ⟨#[102]⟩ (a3,c3) [leaf 0 9 ByteArray.empty]]) ⟨i1.turned0 (T2.trans T3),i3,trivial⟩ 2 (by decide) rfl _ rfl)).mono ?_;rintro e w4 ⟨a4,c4,rfl,i4,T4'⟩;have T4:=((Turned.refl (fun _=>False) w3).alloc _).trans T4';clear T4')
  | (go_at_call 37;have:=T2;refine (compV ⟨#[102]⟩ (by unfold maxLen;decide) 1 (by decide) rfl (sl_made (l:=[leaf 0 9 ByteArray.empty]) ⟨i2,trivial⟩ 1 (by decide) rfl _ rfl)).mono ?_;rintro e w3 ⟨a3,c3,rfl,i3,T3'⟩;have T3:=((Turned.refl (fun _=>False) w2).alloc _).trans T3';clear T3')
  | (go_at_call 62;have:=T1;refine (varV 9 (i64_lit _ (by omega)) _).mono ?_;rintro e w2 ⟨rfl,i2,T2⟩)
  | (go_at_call 62;refine (varV 9 (i64_lit _ (by omega)) _).mono ?_;rintro e w1 ⟨rfl,i1,T1⟩))
 go_ret;exact ⟨rfl,HT6.out.trans HT7.out⟩
end Go.Proofs.Ytoihjobdfjajfaa
namespace Go.Proofs.Ytoihjobdfjajfaa
open Go.RowKit Go.Maps
theorem bothVal {p O:Nat→Prop} {bb m:Nat} {l:TL} {w:World} {x y:LT} {ok:Bool} {c e:Int} {tr:Tm.Trail} (h:BO p bb O m l w) (hx:x.In p w) (sx:slim x) (hy:y.In p w) (sy:slim y) (hR:bothR m (bt l) x.bare y.bare=(ok,c,e,tr)) :
 Calls Try.prog 110 #[.pointer (some ⟨bb,0,none⟩),.agg #[.int .i64 x.kind,.int .i64 x.n,.string x.name,.slice x.at_.1 x.args.length x.at_.2],.agg #[.int .i64 y.kind,.int .i64 y.n,.string y.name,.slice y.at_.1 y.args.length y.at_.2]] w fun E w'=>E = .returned (.tuple #[.bool ok,.int .i64 c,.int .i64 e])∧∃ l2,bt l2=tr∧After p bb O m l2 w w':=by
 have:=bothO110 h hx sx hy sy;rw [LT.val_eq,LT.val_eq,hR] at this;exact this
theorem run_copy_n {P:Program} (w:World) (dT sT ty elem:TypeId) (size g o dLen dCap:Nat) (a:Addr) (sLen sCap:Nat) (cur:Array Value) (t:TypeId) (cs:List Value)
 (hu:P.underlying dT=some (.slice elem)) (hs:(P.info? elem).map (·.size)=some size)
 (hg:w.heap[g]? = some (.cells cur t (0,0))) (hn:cs.length=Nat.min sLen dLen * size)
 (hsrc:∀ j v,cs[j]? = some v→w.cell? (a.add j)=some v) (hfit:o+cs.length≤cur.size) (h1:∀ v∈cs,v.oneCell'=true) :
 (Builtin.copy_ #[dT,sT] ty #[.slice (some ⟨g,o,none⟩) dLen dCap,.slice (some a) sLen sCap]).run P w =
  .ok (goInt (Nat.min sLen dLen)) (w.setRow g (cur.toList.take o++cs++cur.toList.drop (o+cs.length)).toArray):=by
 have hl:=run_loadCells_list (P:=P) w a cs hsrc;have hst:=run_storeCells_at P g o t cs 0 cur w hg (by simpa using hfit) h1
 cases hq:P.info? elem with
 | none=>simp [hq] at hs
 | some i=>
  have hi:i.size=size:=by simpa [hq] using hs
  simp [Builtin.copy_,run_underlying hu,Builtin.lenOf,Builtin.firstCells,sizeOf,typeInfo,hq,hi,←hn,hl,hst]
def MK (N bb mb gr gs R S:Nat) (bx:List (Nat × Obj)) (ts:List LT) (w1:World) (st:Tm.MS) (W:World):Prop:=
 ∃ (q:Nat→Prop) (l:TL) (O:Nat→Prop) (rs ss:List LT),(∀ k,k < N→q k)∧bt l=st.l∧BO q bb O st.m l W∧(∀ k,O k→N≤k)∧Turned zN w1 W∧
  W.heap[mb]? = some (.cells #[.pointer (some ⟨bb,0,none⟩),.slice (some ⟨gr,0,none⟩) R R,.slice (some ⟨gs,0,none⟩) S S] 197 (0,0))∧
  (Row W 27 4 (.slice (some ⟨gr,0,none⟩) R R) R (rs.flatMap LT.cells)∧rs.map Tm.bare=st.rs∧∀ x∈rs,x.In q W)∧(Row W 27 4 (.slice (some ⟨gs,0,none⟩) S S) S (ss.flatMap LT.cells)∧ss.map Tm.bare=st.ss∧∀ x∈ss,x.In q W)∧
  (∀ g,g=mb∨g=gr∨g=gs→N≤g∧¬ O g∧¬ q g)∧(mb≠gr∧mb≠gs∧gr≠gs)∧(∀ b∈bx,W.heap[b.1]? = some b.2∧¬ O b.1∧b.1≠mb∧b.1≠gr∧b.1≠gs∧¬ q b.1)∧∀ x∈ts,x.In q W
section
variable {N bb mb gr gs R S:Nat} {bx:List (Nat × Obj)} {ts:List LT} {w1 W W' W0:World} {st st':Tm.MS} {x t:LT}
theorem MK.turned0 (h:MK N bb mb gr gs R S bx ts w1 st W) (T:Turned zN W W'):MK N bb mb gr gs R S bx ts w1 st W':=by
 obtain ⟨q,l,O,rs,ss,h1,h2,h3,h4,h5,h6,⟨r1,r2,r3⟩,⟨s1,s2,s3⟩,h9,h10,h11,h12⟩:=h;exact ⟨q,l,O,rs,ss,h1,h2,h3.turned0 T,h4,h5.trans T,(T.bt h6),⟨r1.turned0 T,r2,fun x hx=>(r3 x hx).turned0 T⟩,⟨s1.turned0 T,s2,fun x hx=>(s3 x hx).turned0 T⟩,h9,h10,fun b hb=>⟨(T.bt (h11 b hb).1),(h11 b hb).2⟩,fun x hx=>(h12 x hx).turned0 T⟩
theorem MK.old (h:MK N bb mb gr gs R S bx ts w1 st W):Turned zN w1 W:=by
 obtain ⟨q,l,O,rs,ss,h1,h2,h3,h4,h5,_⟩:=h;exact h5
theorem MK.mbox (h:MK N bb mb gr gs R S bx ts w1 st W):W.heap[mb]? = some (.cells #[.pointer (some ⟨bb,0,none⟩),.slice (some ⟨gr,0,none⟩) R R,.slice (some ⟨gs,0,none⟩) S S] 197 (0,0)):=by
 obtain ⟨q,l,O,rs,ss,h1,h2,h3,h4,h5,h6,_⟩:=h;exact h6
theorem MK.boxes (h:MK N bb mb gr gs R S bx ts w1 st W):∀ b∈bx,W.heap[b.1]? = some b.2:=by
 obtain ⟨q,l,O,rs,ss,h1,h2,h3,h4,h5,h6,h7,h8,h9,h10,h11,h12⟩:=h
 exact fun b hb=>(h11 b hb).1
theorem MK.terms (h:MK N bb mb gr gs R S bx ts w1 st W):∀ x∈ts,x.In (fun _=>True) W:=by
 obtain ⟨q,l,O,rs,ss,h1,h2,h3,h4,h5,h6,h7,h8,h9,h10,h11,h12⟩:=h
 exact fun x hx=>(h12 x hx).mono (fun _ _ _=>trivial)
theorem MK.drop (h:MK N bb mb gr gs R S bx ts w1 st W):MK N bb mb gr gs R S [] [] w1 st W:=by
 obtain ⟨q,l,O,rs,ss,h1,h2,h3,h4,h5,h6,h7,h8,h9,h10,h11,h12⟩:=h;exact ⟨q,l,O,rs,ss,h1,h2,h3,h4,h5,h6,h7,h8,h9,h10,(fun b hb=>by cases hb),fun b hb=>by cases hb⟩
theorem MK.ok (h:MK N bb mb gr gs R S bx ts w1 st W):Tm.okT st.m st.l:=by
 obtain ⟨q,l,O,rs,ss,h1,h2,h3,_⟩:=h;rw [←h2];exact h3.ok
theorem MK.most (h:MK N bb mb gr gs R S bx ts w1 st W):st.m≤65536:=by
 obtain ⟨q,l,O,rs,ss,h1,h2,h3,_⟩:=h;exact h3.most
theorem MK.lens (h:MK N bb mb gr gs R S bx ts w1 st W):st.rs.length=R∧st.ss.length=S:=by
 obtain ⟨q,l,O,rs,ss,h1,h2,h3,h4,h5,h6,⟨r1,r2,r3⟩,⟨s1,s2,s3⟩,_⟩:=h;have e1:=r1.1;have e2:=s1.1;rw [LT.flat_length] at e1 e2;rw [←r2,←s2,Qu,Qu];omega
theorem MK.box (h:MK N bb mb gr gs R S bx ts w1 st W) (o:Obj):MK N bb mb gr gs R S ((W.heap.size,o) :: bx) ts w1 st (W.alloc o):=by
 have T:=(Turned.refl (fun _=>False) W).alloc o;obtain ⟨q,l,O,rs,ss,h1,h2,h3,h4,h5,h6,⟨r1,r2,r3⟩,⟨s1,s2,s3⟩,h9,h10,h11,h12⟩:=h;have l1:=(zL h6);have l2:=r1.lt gr rfl;have l3:=s1.lt gs rfl;refine ⟨q,l,O,rs,ss,h1,h2,h3.turned0 T,h4,h5.trans T,(T.block _ l1 (fun f=>f)).trans h6,⟨r1.turned0 T,r2,fun x hx=>(r3 x hx).turned0 T⟩,⟨s1.turned0 T,s2,fun x hx=>(s3 x hx).turned0 T⟩,h9,h10,fun b hb=>?_,fun x hx=>(h12 x hx).turned0 T⟩
 rcases Qw.1 hb with rfl | hb
 · exact ⟨heap_alloc_new W o,fun c=>Qy _ (h3.lt _ c),fun e=>by simp only [] at e;omega,fun e=>by simp only [] at e;omega,fun e=>by simp only [] at e;omega,fun c=>Qy _ (h3.plt _ c)⟩
 · exact ⟨(T.bt (h11 b hb).1),(h11 b hb).2⟩
theorem MK.keep (h:MK N bb mb gr gs R S bx ts w1 st W0) (T:Turned zN W0 W) (hx:x.In (fun k=>k < N∨W0.heap.size≤k) W):MK N bb mb gr gs R S bx (x :: ts) w1 st W:=by
 obtain ⟨q,l,O,rs,ss,h1,h2,h3,h4,h5,h6,⟨r1,r2,r3⟩,⟨s1,s2,s3⟩,h9,h10,h11,h12⟩:=h;have l1:=(zL h6);have l2:=r1.lt gr rfl;have l3:=s1.lt gs rfl
 have up:∀ {y:LT},y.In q W0→y.In (fun k=>q k∨(W0.heap.size≤k∧k < W.heap.size)) W:=fun hy=>(hy.turned0 T).mono (fun _ _ h=>.inl h)
 refine ⟨fun k=>q k∨(W0.heap.size≤k∧k < W.heap.size),l,O,rs,ss,fun k hk=>.inl (h1 k hk),h2,(h3.turned0 T).wide (fun k hk=>.inl hk) (fun k hk=>?_),h4,h5.trans T,(T.block _ l1 (fun f=>f)).trans h6,⟨r1.turned0 T,r2,fun x hx=>up (r3 x hx)⟩,⟨s1.turned0 T,s2,fun x hx=>up (s3 x hx)⟩,fun g hg=>⟨(h9 g hg).1,(h9 g hg).2.1,fun c=>?_⟩,h10,fun b hb=>⟨(T.bt (h11 b hb).1),(h11 b hb).2.1,(h11 b hb).2.2.1,(h11 b hb).2.2.2.1,(h11 b hb).2.2.2.2.1,fun c=>c.elim (h11 b hb).2.2.2.2.2 (fun c=>by have:=(zL (h11 b hb).1);omega)⟩,fun y hy=>?_⟩
 · rcases hk with hk | hk
   · exact ⟨Qo (h3.plt k hk) T.size,h3.sep k hk⟩
   · exact ⟨hk.2,fun c=>by have:=h3.lt k c;omega⟩
 · rcases c with c | c
   · exact (h9 g hg).2.2 c
   · rcases hg with rfl | rfl | rfl <;> omega
 · rcases Qw.1 hy with rfl | hy
   · exact hx.mono (fun k hk h=>h.elim (fun h=>.inl (h1 k h)) (fun h=>.inr ⟨h,hk⟩))
   · exact up (h12 y hy)
theorem MK.call (hN:N=w1.heap.size) (h:MK N bb mb gr gs R S bx ts w1 st W):∃ (q O:Nat→Prop) (l:TL),BO q bb O st.m l W∧bt l=st.l∧(∀ k,k < N→q k)∧(∀ x∈ts,x.In q W)∧∀ m' l' w',After q bb O m' l' W w'→MK N bb mb gr gs R S bx ts w1 ⟨m',bt l',st.rs,st.ss⟩ w':=by
 obtain ⟨q,l,O,rs,ss,h1,h2,h3,h4,h5,h6,⟨r1,r2,r3⟩,⟨s1,s2,s3⟩,h9,h10,h11,h12⟩:=h;refine ⟨q,O,l,h3,h2,h1,h12,fun m' l' w' ha=>?_⟩;obtain ⟨O',a1,a2,a3⟩:=ha;have l1:=(zL h6);have l2:=r1.lt gr rfl;have l3:=s1.lt gs rfl
 have up:∀ {y:LT},y.In q W→y.In q w':=fun hy=>LT.In.turned a3 (fun k _ hk e=>h3.sep k hk e) (fun _ _ q=>q) _ hy
 refine ⟨q,l',O',rs,ss,h1,rfl,a1,fun k hk=>?_,h5.step a3 (fun i hi e=>by have:=h4 i e;omega),(a3.block mb l1 (h9 mb (.inl rfl)).2.1).trans h6,⟨r1.turned a3 (fun k hk e=>?_),r2,fun x hx=>up (r3 x hx)⟩,⟨s1.turned a3 (fun k hk e=>?_),s2,fun x hx=>up (s3 x hx)⟩,fun g hg=>⟨(h9 g hg).1,fun c=>(h9 g hg).2.1 (a2 g c (by rcases hg with rfl | rfl | rfl <;> assumption)),(h9 g hg).2.2⟩,h10,fun b hb=>?_,fun x hx=>up (h12 x hx)⟩
 · rcases Nat.lt_or_ge k W.heap.size with hh | hh
   · exact h4 k (a2 k hk hh)
   · have:=h5.size;omega
 · simp [Value.ownBlock] at hk
   exact (h9 gr (.inr (.inl rfl))).2.1 (hk ▸ e)
 · simp [Value.ownBlock] at hk
   exact (h9 gs (.inr (.inr rfl))).2.1 (hk ▸ e)
 · obtain ⟨c1,c2,c3⟩:=h11 b hb
   have hlt:=(zL c1);exact ⟨(a3.block _ hlt c2).trans c1,fun e=>c2 (a2 _ e hlt),c3⟩
theorem MK.reg (h:MK N bb mb gr gs R S bx ts w1 st W) {i:Nat} {y:Tm Unit} (hy:st.rs[i]? = some y):∃ r:LT,r.bare=y∧(W.cell? ⟨gr,i * 4,none⟩=some (.int .i64 r.kind)∧W.cell? ⟨gr,i * 4+1,none⟩=some (.int .i64 r.n)∧W.cell? ⟨gr,i * 4+2,none⟩=some (.string r.name)∧W.cell? ⟨gr,i * 4+3,none⟩=some (.slice r.at_.1 r.args.length r.at_.2))∧MK N bb mb gr gs R S bx (r :: ts) w1 st W:=by
 obtain ⟨q,l,O,rs,ss,h1,h2,h3,h4,h5,h6,⟨r1,r2,r3⟩,h8,h9,h10,h11,h12⟩:=h;rw [←r2,Qp] at hy;obtain ⟨r,hr,rfl⟩:=Option.map_eq_some_iff.1 hy;obtain ⟨g,hg,c0,c1,c2,c3⟩:=row_at r1 hr
 injection hg with hg
 injection hg with hg
 subst hg;exact ⟨r,rfl,⟨c0,c1,c2,c3⟩,q,l,O,rs,ss,h1,h2,h3,h4,h5,h6,⟨r1,r2,r3⟩,h8,h9,h10,h11,fun x hx=>(Qw.1 hx).elim (fun e=>e ▸ r3 r (Qf hr)) (h12 x)⟩
theorem MK.slot (h:MK N bb mb gr gs R S bx ts w1 st W) {i:Nat} {y:Tm Unit} (hy:st.ss[i]? = some y):∃ r:LT,r.bare=y∧(W.cell? ⟨gs,i * 4,none⟩=some (.int .i64 r.kind)∧W.cell? ⟨gs,i * 4+1,none⟩=some (.int .i64 r.n)∧W.cell? ⟨gs,i * 4+2,none⟩=some (.string r.name)∧W.cell? ⟨gs,i * 4+3,none⟩=some (.slice r.at_.1 r.args.length r.at_.2))∧MK N bb mb gr gs R S bx (r :: ts) w1 st W:=by
 obtain ⟨q,l,O,rs,ss,h1,h2,h3,h4,h5,h6,h7,⟨s1,s2,s3⟩,h9,h10,h11,h12⟩:=h;rw [←s2,Qp] at hy;obtain ⟨r,hr,rfl⟩:=Option.map_eq_some_iff.1 hy;obtain ⟨g,hg,c0,c1,c2,c3⟩:=row_at s1 hr
 injection hg with hg
 injection hg with hg
 subst hg;exact ⟨r,rfl,⟨c0,c1,c2,c3⟩,q,l,O,rs,ss,h1,h2,h3,h4,h5,h6,h7,⟨s1,s2,s3⟩,h9,h10,h11,fun x hx=>(Qw.1 hx).elim (fun e=>e ▸ s3 r (Qf hr)) (h12 x)⟩
theorem MK.setSlot (hN:N=w1.heap.size) (h:MK N bb mb gr gs R S bx (x :: ts) w1 st W) {i:Nat} (hi:i < S) :
 MK N bb mb gr gs R S bx (x :: ts) w1 ⟨st.m,st.l,st.rs,st.ss.set i x.bare⟩ ((((W.setCell ⟨gs,i * 4,none⟩ (.int .i64 x.kind)).setCell ⟨gs,i * 4+1,none⟩ (.int .i64 x.n)).setCell ⟨gs,i * 4+2,none⟩ (.string x.name)).setCell ⟨gs,i * 4+3,none⟩ (.slice x.at_.1 x.args.length x.at_.2)):=by
 obtain ⟨q,l,O,rs,ss,h1,h2,h3,h4,h5,h6,⟨r1,r2,r3⟩,⟨s1,s2,s3⟩,h9,h10,h11,h12⟩:=h
 have Tq:Turned (fun k=>k=gs) W ((((W.setCell ⟨gs,i * 4,none⟩ (.int .i64 x.kind)).setCell ⟨gs,i * 4+1,none⟩ (.int .i64 x.n)).setCell ⟨gs,i * 4+2,none⟩ (.string x.name)).setCell ⟨gs,i * 4+3,none⟩ (.slice x.at_.1 x.args.length x.at_.2)):=
  ((((Turned.refl (fun k=>k=gs) W).setCell (p:=⟨gs,i * 4,none⟩) (.inr rfl) _).setCell (p:=⟨gs,i * 4+1,none⟩) (.inr rfl) _).setCell (p:=⟨gs,i * 4+2,none⟩) (.inr rfl) _).setCell (p:=⟨gs,i * 4+3,none⟩) (.inr rfl) _
 have hgs:=h9 gs (.inr (.inr rfl))
 have up:∀ {y:LT},y.In q W→y.In q _:=fun {y} hy=>LT.In.turned Tq (fun k _ hk e=>hgs.2.2 (e ▸ hk)) (fun _ _ q=>q) y hy
 have e2:=s1.1;rw [LT.flat_length] at e2;have t1:=s1.setAt (off:=i * 4) (by omega) (.int .i64 x.kind);have t2:=t1.setAt (off:=i * 4+1) (by omega) (.int .i64 x.n);have t3:=t2.setAt (off:=i * 4+2) (by omega) (.string x.name);have t4:=t3.setAt (off:=i * 4+3) (by omega) (.slice x.at_.1 x.args.length x.at_.2);rw [flat_set (by omega)] at t4;refine ⟨q,l,O,rs,ss.set i x,h1,h2,h3.turned Tq (fun k hk e=>⟨fun c=>hgs.2.1 (e ▸ c),fun c=>hgs.2.2 (e ▸ c)⟩),h4,h5.step Tq (fun k hk e=>by have:=hgs.1;omega),(Tq.block mb (zL h6) h10.2.1).trans h6,⟨r1.turned Tq (fun k hk e=>by simp [Value.ownBlock] at hk;exact h10.2.2 (hk.trans e)),r2,fun y hy=>up (r3 y hy)⟩,⟨t4,by rw [List.map_set,s2],fun y hy=>?_⟩,h9,h10,fun b hb=>⟨(Tq.block _ (zL (h11 b hb).1) (h11 b hb).2.2.2.2.1).trans (h11 b hb).1,(h11 b hb).2⟩,fun y hy=>up (h12 y hy)⟩
 rcases List.mem_or_eq_of_mem_set hy with hy | rfl
 · exact up (s3 y hy)
 · exact up (h12 y (Qe ..))
end
def ownD (wb:Nat) (tv iv rv:Value) (k:Nat):Prop:=k=wb∨tv.ownBlock=some k∨iv.ownBlock=some k∨rv.ownBlock=some k
structure DB (p:Nat→Prop) (wb:Nat) (tv iv rv:Value) (us:List LT) (is:List Bool) (tr:List Int) (w:World):Prop where
 b:w.heap[wb]? = some (.cells #[tv,iv,rv] 113 (0,0))
 row:Row w 41 4 tv us.length (us.flatMap LT.cells)
 bools:Row w 4 1 iv is.length (is.map Value.bool)
 trail:Row w 2 1 rv tr.length (tr.map (Value.int .i64))
 same:is.length=us.length
 ins:LT.Ins p w us
 most:us.length≤65536
 ne:tv.ownBlock≠some wb∧iv.ownBlock≠some wb∧rv.ownBlock≠some wb∧(∀ k,tv.ownBlock=some k→iv.ownBlock≠some k∧rv.ownBlock≠some k)∧∀ k,iv.ownBlock=some k→rv.ownBlock≠some k
 sep:∀ k,p k→k < w.heap.size∧¬ ownD wb tv iv rv k
section
variable {p:Nat→Prop} {wb:Nat} {tv iv rv:Value} {us:List LT} {is:List Bool} {tr:List Int} {w w':World}
theorem DB.own_lt (h:DB p wb tv iv rv us is tr w):∀ k,ownD wb tv iv rv k→k < w.heap.size:=by
 rintro k (rfl | hk | hk | hk)
 · exact (zL h.b)
 · exact h.row.lt k hk
 · exact h.bools.lt k hk
 · exact h.trail.lt k hk
theorem DB.turned {S:Nat→Prop} (h:DB p wb tv iv rv us is tr w) (ht:Turned S w w') (hS:∀ k,k < w.heap.size→S k→¬ ownD wb tv iv rv k∧¬ p k):DB p wb tv iv rv us is tr w':=by
 have hb:=(zL h.b)
 exact ⟨(ht.block _ hb (fun f=>(hS _ hb f).1 (.inl rfl))).trans h.b,
  h.row.turned ht (fun k hk f=>(hS _ (h.row.lt k hk) f).1 (.inr (.inl hk))),
  h.bools.turned ht (fun k hk f=>(hS _ (h.bools.lt k hk) f).1 (.inr (.inr (.inl hk)))),
  h.trail.turned ht (fun k hk f=>(hS _ (h.trail.lt k hk) f).1 (.inr (.inr (.inr hk)))),h.same,
  LT.Ins.turned ht (fun k hk hq f=>(hS k hk f).2 hq) (fun _ _ q=>q) _ h.ins,h.most,h.ne,fun k hk=>⟨Qo (h.sep k hk).1 ht.size,(h.sep k hk).2⟩⟩
theorem DB.turned0 (h:DB p wb tv iv rv us is tr w) (ht:Turned zN w w'):DB p wb tv iv rv us is tr w':=
 h.turned ht (fun _ _ f=>f.elim)
theorem DB.none {w:World} (hp:∀ k,p k→k < w.heap.size):DB p w.heap.size (.slice none 0 0) (.slice none 0 0) (.slice none 0 0) [] [] [] (w.alloc (.cells #[.slice none 0 0,.slice none 0 0,.slice none 0 0] 113)):=by
 refine ⟨heap_alloc_new w _,Row.nil _ _ _,Row.nil _ _ _,Row.nil _ _ _,rfl,trivial,Nat.zero_le _,⟨by simp [Value.ownBlock],by simp [Value.ownBlock],by simp [Value.ownBlock],fun k hk=>by simp [Value.ownBlock] at hk,fun k hk=>by simp [Value.ownBlock] at hk⟩,fun k hk=>?_⟩;have:=hp k hk;refine ⟨by simp;omega,?_⟩
 rintro (e | e | e | e)
 · omega
 · simp [Value.ownBlock] at e
 · simp [Value.ownBlock] at e
 · simp [Value.ownBlock] at e
end
section
variable {p:Nat→Prop} {wb:Nat} {tv iv rv tv' iv':Value} {us:List LT} {is:List Bool} {tr:List Int} {w w':World}
theorem DB.fresh (h:DB p wb tv iv rv us is tr w) (hm:us.length < 65536) (ht:Turned (fun k=>k=wb∨tv.ownBlock=some k∨iv.ownBlock=some k) w w') (hb:w'.heap[wb]? = some (.cells #[tv',iv',rv] 113 (0,0)))
 (hr:Row w' 41 4 tv' (us.length+1) (us.flatMap LT.cells++(leaf 0 0 ByteArray.empty:LT).cells)) (hi:Row w' 4 1 iv' (is.length+1) (is.map Value.bool++[.bool false]))
 (ho:tv'.ownBlock=tv.ownBlock∨∀ k,tv'.ownBlock=some k→w.heap.size≤k) (ho2:iv'.ownBlock=iv.ownBlock∨∀ k,iv'.ownBlock=some k→w.heap.size≤k) (hd:∀ k,tv'.ownBlock=some k→iv'.ownBlock≠some k) :
 DB p wb tv' iv' rv (us++[leaf 0 0 ByteArray.empty]) (is++[false]) tr w':=by
 obtain ⟨n1,n2,n3,n4,n5⟩:=h.ne;have hbl:=(zL h.b)
 have old:∀ {a a':Value},(a'.ownBlock=a.ownBlock∨∀ k,a'.ownBlock=some k→w.heap.size≤k)→∀ q,q < w.heap.size→a'.ownBlock=some q→a.ownBlock=some q:=fun ho q hq e=>by
  rcases ho with ho | ho
  · exact ho ▸ e
  · have:=ho q e;omega
 have hown:∀ k,k < w.heap.size→ownD wb tv' iv' rv k→ownD wb tv iv rv k:=by
  rintro k hk (rfl | hq | hq | hq)
  · exact .inl rfl
  · exact .inr (.inl (old ho k hk hq))
  · exact .inr (.inr (.inl (old ho2 k hk hq)))
  · exact .inr (.inr (.inr hq))
 refine ⟨hb,?_,?_,h.trail.turned ht (fun k hk e=>?_),by simp [h.same],(LT.ins_append _ _).2 ⟨LT.Ins.turned ht (fun k hk hq e=>?_) (fun _ _ q=>q) _ h.ins,?_⟩,by simp;omega,⟨fun e=>n1 (old ho _ hbl e),fun e=>n2 (old ho2 _ hbl e),n3,fun k hk=>⟨hd k hk,fun e=>?_⟩,fun k hk e=>?_⟩,fun k hk=>⟨Qo (h.sep k hk).1 ht.size,fun c=>(h.sep k hk).2 (hown k (h.sep k hk).1 c)⟩⟩
 · rw [Qi,List.flatMap_append]
   simpa using hr
 · rw [Qi,List.map_append]
   simpa using hi
 · rcases e with e | e | e
   · exact n3 (e ▸ hk)
   · exact (n4 k e).2 hk
   · exact n5 k e hk
 · refine (h.sep k hq).2 ?_
   rcases e with e | e | e
   · exact .inl e
   · exact .inr (.inl e)
   · exact .inr (.inr (.inl e))
 · exact ⟨var_in (i64_lit 0 (by omega)),trivial⟩
 · have hl:=h.trail.lt k e
   exact (n4 k (old ho k hl hk)).2 e
 · have hl:=h.trail.lt k e
   exact n5 k (old ho2 k hl hk) e
end
structure Chain (e:TypeId) (size:Nat) (tv:Value) (n:Nat) (xs news:List Value) (i j:Nat) (w0:World) (hs:Hist) (W:World):Prop where
 old:(∀ v,(j,v)∉hs)→Row W e size tv n xs
 one:∀ v,(i,v)∈hs→(∀ x,(j,x)∉hs)→∃ S,v = .slice (some ⟨S,0,none⟩) 1 1∧w0.heap.size≤S∧W.heap[S]? = some (.cells news.toArray e (0,0))
 new:∀ v,(j,v)∈hs→∃ g cap,v = .slice (some ⟨g,0,none⟩) (n+1) cap∧Row W e size v (n+1) (xs++news)∧(some g=tv.ownBlock∨w0.heap.size≤g)
section
variable {e:TypeId} {size:Nat} {tv:Value} {n:Nat} {xs news:List Value} {i j:Nat} {w0 W W':World} {hs:Hist}
theorem Chain.start (h:Row w0 e size tv n xs) (T:Turned zN w0 W):Chain e size tv n xs news i j w0 [] W:=
 ⟨fun _=>h.turned0 T,fun v h=>(Ql h).elim,fun v h=>(Ql h).elim⟩
theorem Chain.turned {S:Nat→Prop} (h:Chain e size tv n xs news i j w0 hs W) (T:Turned S W W') (hS:∀ k,S k→k < w0.heap.size∧tv.ownBlock≠some k):Chain e size tv n xs news i j w0 hs W':=by
 refine ⟨fun hn=>(h.old hn).turned T (fun k hk c=>(hS k c).2 hk),fun v hv hn=>?_,fun v hv=>?_⟩
 · obtain ⟨B,h1,h2,h3⟩:=h.one v hv hn
   exact ⟨B,h1,h2,(T.block B (zL h3) (fun c=>by have:=(hS B c).1;omega)).trans h3⟩
 · obtain ⟨g,cap,h1,h2,h3⟩:=h.new v hv
   refine ⟨g,cap,h1,h2.turned T (fun k hk c=>?_),h3⟩;rw [h1] at hk;simp only [Value.ownBlock,Option.some.injEq] at hk;subst hk
   rcases h3 with h3 | h3
   · exact (hS _ c).2 h3.symm
   · have:=(hS _ c).1;omega
theorem Chain.turned0 (h:Chain e size tv n xs news i j w0 hs W) (T:Turned zN W W'):Chain e size tv n xs news i j w0 hs W':=h.turned T (fun _ f=>f.elim)
theorem Chain.other {q:Nat} {x:Value} (h:Chain e size tv n xs news i j w0 hs W) (hi:q≠i) (hj:q≠j):Chain e size tv n xs news i j w0 (hs++[(q,x)]) W:=by
 have ne:∀ {a:Nat} {v:Value},a≠q→(a,v)∈hs++[(q,x)]→(a,v)∈hs:=fun ha hm=>by
  rcases mem_snoc hm with hm | ⟨c,_⟩
  · exact hm
  · exact absurd c ha
 exact ⟨fun hn=>h.old (fun v c=>hn v (Qc _ c)),fun v hv hn=>h.one v (ne hi.symm hv) (fun x c=>hn x (Qc _ c)),fun v hv=>h.new v (ne hj.symm hv)⟩
theorem Chain.laid (h:Chain e size tv n xs news i j w0 hs W) (hw:w0.heap.size≤W.heap.size) (hij:i≠j) (hno:∀ v,(i,v)∉hs):Chain e size tv n xs news i j w0 (hs++[(i,.slice (some ⟨W.heap.size,0,none⟩) 1 1)]) (W.alloc (.cells news.toArray e)):=by
 have T:Turned zN W (W.alloc (.cells news.toArray e)):=(Turned.refl _ W).alloc _;have hk:=h.turned0 T;refine ⟨fun hn=>hk.old (fun v c=>hn v (Qc _ c)),fun v hv hn=>?_,fun v hv=>?_⟩
 · rcases mem_snoc hv with hm | ⟨_,c⟩
   · exact absurd hm (hno v)
   · exact ⟨_,c,hw,heap_alloc_new W _⟩
 · rcases mem_snoc hv with hm | ⟨c,_⟩
   · exact hk.new v hm
   · exact absurd c.symm hij
end
abbrev zc:List Value:=(leaf 0 0 ByteArray.empty:LT).cells
structure FsR (wb:Nat) (tv iv rv:Value) (us:List LT) (is:List Bool) (w0:World) (hs:Hist) (W:World):Prop where
 t:Turned (fun k=>k=wb∨tv.ownBlock=some k∨iv.ownBlock=some k) w0 W
 ct:Chain 41 4 tv us.length (us.flatMap LT.cells) zc 7 8 w0 hs W
 ci:Chain 4 1 iv is.length (is.map Value.bool) [.bool false] 13 14 w0 hs W
 blk:∃ a b,W.heap[wb]? = some (.cells #[a,b,rv] 113 (0,0))∧((∀ q,(17,q)∉hs)→a=tv)∧(∀ q,(17,q)∈hs→(8,a)∈hs)∧((∀ q,(20,q)∉hs)→b=iv)∧∀ q,(20,q)∈hs→(14,b)∈hs
section
variable {p:Nat→Prop} {wb:Nat} {tv iv rv:Value} {us:List LT} {is:List Bool} {tr:List Int} {w0 W W':World} {hs:Hist}
theorem FsR.start (h:DB p wb tv iv rv us is tr w0) (T:Turned zN w0 W):FsR wb tv iv rv us is w0 [] W:=by
 have h':=h.turned0 T;exact ⟨T.mono (fun _ _ f=>f.elim),Chain.start h.row T,Chain.start h.bools T,tv,iv,h'.b,fun _=>rfl,fun q hq=>(Ql hq).elim,fun _=>rfl,fun q hq=>(Ql hq).elim⟩
theorem FsR.turned0 (h:FsR wb tv iv rv us is w0 hs W) (T:Turned zN W W'):FsR wb tv iv rv us is w0 hs W':=by
 obtain ⟨a,b,h1,h2,h3,h4,h5⟩:=h.blk;exact ⟨h.t.trans (T.mono (fun _ _ f=>f.elim)),h.ct.turned0 T,h.ci.turned0 T,a,b,(T.block wb (zL h1) (fun f=>f)).trans h1,h2,h3,h4,h5⟩
end
section
variable {p:Nat→Prop} {wb:Nat} {tv iv rv:Value} {us:List LT} {is:List Bool} {tr:List Int} {w0 W W':World} {hs:Hist}
theorem FsR.done (hd:DB p wb tv iv rv us is tr w0) (hm:us.length < 65536) (h:FsR wb tv iv rv us is w0 hs W) (hall:∀ i∈[7,8,13,14,17,20],∃ v,(i,v)∈hs):∃ tv' iv',DB p wb tv' iv' rv (us++[leaf 0 0 ByteArray.empty]) (is++[false]) tr W∧Turned (fun k=>k=wb∨tv.ownBlock=some k∨iv.ownBlock=some k) w0 W∧(tv'.ownBlock=tv.ownBlock∨∀ k,tv'.ownBlock=some k→w0.heap.size≤k)∧(iv'.ownBlock=iv.ownBlock∨∀ k,iv'.ownBlock=some k→w0.heap.size≤k):=by
 obtain ⟨a,b,h1,h2,h3,h4,h5⟩:=h.blk;obtain ⟨q,hq⟩:=hall 17 (by simp);obtain ⟨r,hr⟩:=hall 20 (by simp);obtain ⟨g,cap,rfl,r1,g1⟩:=h.ct.new _ (h3 q hq);obtain ⟨g',cap',rfl,r2,g2⟩:=h.ci.new _ (h5 r hr)
 have o1:(Value.slice (some ⟨g,0,none⟩) (us.length+1) cap).ownBlock=tv.ownBlock∨∀ k,(Value.slice (some ⟨g,0,none⟩) (us.length+1) cap).ownBlock=some k→w0.heap.size≤k:=by
  rcases g1 with g1 | g1
  · exact .inl (by simpa [Value.ownBlock] using g1)
  · exact .inr (fun k hk=>by simp [Value.ownBlock] at hk;omega)
 have o2:(Value.slice (some ⟨g',0,none⟩) (is.length+1) cap').ownBlock=iv.ownBlock∨∀ k,(Value.slice (some ⟨g',0,none⟩) (is.length+1) cap').ownBlock=some k→w0.heap.size≤k:=by
  rcases g2 with g2 | g2
  · exact .inl (by simpa [Value.ownBlock] using g2)
  · exact .inr (fun k hk=>by simp [Value.ownBlock] at hk;omega)
 refine ⟨_,_,hd.fresh hm h.t h1 r1 r2 o1 o2 (fun k k1 k2=>?_),h.t,o1,o2⟩;simp only [Value.ownBlock,Option.some.injEq] at k1 k2;subst k1;subst k2
 rcases r1.2 with ⟨c,_⟩ | ⟨x,xc,cur,e1,e2,_⟩
 · cases c
 rcases r2.2 with ⟨c,_⟩ | ⟨y,yc,cur',f1,f2,_⟩
 · cases c
 injection e1 with e1;injection e1 with e1;injection e1 with e1
 injection f1 with f1;injection f1 with f1;injection f1 with f1
 subst e1;rw [←f1,e2] at f2
 injection f2 with f2
 injection f2 with _ f2
 cases f2
end
theorem rec3b {w:World} {bb:Nat} {x y z:Value} {T:TypeId} (h:w.heap[bb]? = some (.cells #[x,y,z] T (0,0))) :
 w.cell? ⟨bb,0,none⟩=some x∧w.cell? ⟨bb,1,none⟩=some y∧w.cell? ⟨bb,2,none⟩=some z∧w.frozen? ⟨bb,0,none⟩=false∧w.frozen? ⟨bb,1,none⟩=false∧w.frozen? ⟨bb,2,none⟩=false:=
 ⟨by rw [cell_of_row w bb 0 _ T (0,0) h];rfl,by rw [cell_of_row w bb 1 _ T (0,0) h];rfl,by rw [cell_of_row w bb 2 _ T (0,0) h];rfl,frozen_of_row w bb 0 _ T h,frozen_of_row w bb 1 _ T h,frozen_of_row w bb 2 _ T h⟩
end Go.Proofs.Ytoihjobdfjajfaa
namespace Go.Proofs.Ytoihjobdfjajfaa
namespace Tm
noncomputable def UR.andThen (r:UR) (b:List (Tm Unit × Tm Unit)):UR:=
 match r with
 | .ok l left=>unify l left b
 | .no q=>.no q
 | .over=>.over
end Tm
end Go.Proofs.Ytoihjobdfjajfaa
namespace Go.Proofs.Ytoihjobdfjajfaa
open Go.RowKit Go.Maps
structure DT (m:Nat) (l:Tm.Trail) (us:List LT) (is:List Bool) (tr:List Int):Prop where
 ok:Tm.okT m l
 len:us.length=m
 set:∀ i:Nat,i < m→is[i]? = some (decide ((i:Int)∈Tm.dom l))
 val:∀ (i:Int) (t:Tm Unit),Tm.look l i=some t→∃ u:LT,us[i.toNat]? = some u∧u.bare=t
 tr:tr=(Tm.dom l).reverse
structure DO (p:Nat→Prop) (wb:Nat) (O:Nat→Prop) (m:Nat) (l:Tm.Trail) (w:World):Prop where
 db:∃ tv iv rv us is tr,DB p wb tv iv rv us is tr w∧DT m l us is tr∧∀ k,ownD wb tv iv rv k→O k
 lt:∀ k,O k→k < w.heap.size
 sep:∀ k,p k→¬ O k
section
variable {p q O O' S:Nat→Prop} {wb m:Nat} {l:Tm.Trail} {w w':World} {t:LT}
theorem DO.ok (h:DO p wb O m l w):Tm.okT m l:=by obtain ⟨_,_,_,_,_,_,_,T,_⟩:=h.db;exact T.ok
theorem DO.most (h:DO p wb O m l w):m≤65536:=by obtain ⟨_,_,_,_,_,_,D,T,_⟩:=h.db;have:=D.most;have:=T.len;omega
theorem DO.plt (h:DO p wb O m l w):∀ k,p k→k < w.heap.size:=by obtain ⟨_,_,_,_,_,_,D,_⟩:=h.db;exact fun k hk=>(D.sep k hk).1
theorem DO.turned (h:DO p wb O m l w) (T:Turned S w w') (hS:∀ k,k < w.heap.size→S k→¬ O k∧¬ p k):DO p wb O m l w':=by
 obtain ⟨tv,iv,rv,us,is,tr,D,R,hO⟩:=h.db;exact ⟨⟨tv,iv,rv,us,is,tr,D.turned T (fun k hk e=>⟨fun c=>(hS k hk e).1 (hO k c),(hS k hk e).2⟩),R,hO⟩,fun k hk=>Qo (h.lt k hk) T.size,h.sep⟩
theorem DO.turned0 (h:DO p wb O m l w) (T:Turned zN w w'):DO p wb O m l w':=h.turned T (fun _ _ f=>f.elim)
theorem DO.more (h:DO p wb O m l w) (hO:∀ k,O k→O' k) (hl:∀ k,O' k→k < w.heap.size) (hs:∀ k,p k→¬ O' k):DO p wb O' m l w:=by
 obtain ⟨tv,iv,rv,us,is,tr,D,R,h1⟩:=h.db;exact ⟨⟨tv,iv,rv,us,is,tr,D,R,fun k hk=>hO k (h1 k hk)⟩,hl,hs⟩
theorem DB.wide {tv iv rv:Value} {us:List LT} {is:List Bool} {tr:List Int} (h:DB p wb tv iv rv us is tr w) (hp:∀ k,p k→q k) (hq:∀ k,q k→k < w.heap.size∧¬ ownD wb tv iv rv k):DB q wb tv iv rv us is tr w:=
 ⟨h.b,h.row,h.bools,h.trail,h.same,(LT.ins_iff _).2 (fun x hx=>((LT.ins_iff _).1 h.ins x hx).mono (fun k _ hk=>hp k hk)),h.most,h.ne,hq⟩
theorem DO.wide (h:DO p wb O m l w) (hp:∀ k,p k→q k) (hq:∀ k,q k→k < w.heap.size∧¬ O k):DO q wb O m l w:=by
 obtain ⟨tv,iv,rv,us,is,tr,D,R,h1⟩:=h.db;exact ⟨⟨tv,iv,rv,us,is,tr,D.wide hp (fun k hk=>⟨(hq k hk).1,fun c=>(hq k hk).2 (h1 k c)⟩),R,h1⟩,h.lt,fun k hk=>(hq k hk).2⟩
def AfterD (p:Nat→Prop) (wb:Nat) (O:Nat→Prop) (m:Nat) (l:Tm.Trail) (w w':World):Prop:=
 ∃ O':Nat→Prop,DO p wb O' m l w'∧(∀ k,O' k→k < w.heap.size→O k)∧Turned O w w'
theorem AfterD.turned0 {w2:World} (h:AfterD p wb O m l w w') (T:Turned zN w' w2):AfterD p wb O m l w w2:=by
 obtain ⟨O',h1,h2,h3⟩:=h;exact ⟨O',h1.turned0 T,h2,h3.trans (T.mono (fun _ _ f=>f.elim))⟩
theorem AfterD.trans {m' m2:Nat} {l' l2:Tm.Trail} {w2:World} (h:AfterD p wb O m' l' w w') (h2:∀ O',DO p wb O' m' l' w'→AfterD p wb O' m2 l2 w' w2):AfterD p wb O m2 l2 w w2:=by
 obtain ⟨O',a1,a2,a3⟩:=h;obtain ⟨O2,b1,b2,b3⟩:=h2 O' a1;refine ⟨O2,b1,fun k hk hl=>a2 k (b2 k hk (Qo hl a3.size)) hl,a3.step b3 (fun i hi e=>a2 i e hi)⟩
end
structure BD2 (q:Nat→Prop) (bb wb:Nat) (O D:Nat→Prop) (m mw:Nat) (l:TL) (lw:Tm.Trail) (w:World):Prop where
 b:BO q bb O m l w
 d:DO q wb D mw lw w
 dis:∀ k,O k→¬ D k
section
variable {q q' O D:Nat→Prop} {bb wb m mw m':Nat} {l l':TL} {lw lw':Tm.Trail} {w w':World} {N:Nat} {w1 wr:World}
theorem BD2.turned0 (h:BD2 q bb wb O D m mw l lw w) (T:Turned zN w w'):BD2 q bb wb O D m mw l lw w':=
 ⟨h.b.turned0 T,h.d.turned0 T,h.dis⟩
theorem BD2.wide (h:BD2 q bb wb O D m mw l lw w) (hp:∀ k,q k→q' k) (hq:∀ k,q' k→k < w.heap.size∧¬ O k∧¬ D k):BD2 q' bb wb O D m mw l lw w:=
 ⟨h.b.wide hp (fun k hk=>⟨(hq k hk).1,(hq k hk).2.1⟩),h.d.wide hp (fun k hk=>⟨(hq k hk).1,(hq k hk).2.2⟩),h.dis⟩
theorem BD2.grown (h:BD2 q bb wb O D m mw l lw w) (T:Turned zN w w'):BD2 (fun k=>q k∨(w.heap.size≤k∧k < w'.heap.size)) bb wb O D m mw l lw w':=by
 refine (h.turned0 T).wide (fun k hk=>.inl hk) (fun k hk=>?_)
 rcases hk with hk | hk
 · exact ⟨Qo (h.b.plt k hk) T.size,h.b.sep k hk,h.d.sep k hk⟩
 · exact ⟨hk.2,fun c=>by have:=h.b.lt k c;omega,fun c=>by have:=h.d.lt k c;omega⟩
def BDq (q:Nat→Prop) (N bb wb m mw:Nat) (l:TL) (lw:Tm.Trail) (w1 wr:World):Prop:=
 ∃ O D,BD2 q bb wb O D m mw l lw wr∧(∀ k,O k→N≤k)∧(∀ k,D k→N≤k)∧Turned zN w1 wr
theorem BDq.turned0 (h:BDq q N bb wb m mw l lw w1 wr) (T:Turned zN wr w'):BDq q N bb wb m mw l lw w1 w':=by
 obtain ⟨O,D,h1,h3,h4,h5⟩:=h;exact ⟨O,D,h1.turned0 T,h3,h4,h5.trans T⟩
theorem BDq.old (h:BDq q N bb wb m mw l lw w1 wr):Turned zN w1 wr:=by
 obtain ⟨O,D,h1,h3,h4,h5⟩:=h;exact h5
theorem BDq.binds (h:BDq (fun k=>k < N) N bb wb m mw l lw w1 wr):BLoop N bb m l w1 wr:=by
 obtain ⟨O,D,h1,h3,h4,h5⟩:=h;exact ⟨O,h1.b,h3,h5⟩
end
theorem BLoop.grown {N bb m:Nat} {l:TL} {w1 wr w':World} (h:BLoop N bb m l w1 wr) (hN:N=w1.heap.size) (T:Turned zN wr w'):∃ O,BO (fun k=>k < N∨(wr.heap.size≤k∧k < w'.heap.size)) bb O m l w'∧(∀ k,O k→N≤k)∧Turned zN w1 w':=by
 obtain ⟨O,B,hO,T1⟩:=h;have s1:=T1.size;have s2:=T.size;refine ⟨O,(B.turned0 T).wide (fun k hk=>.inl hk) (fun k hk=>?_),hO,T1.trans T⟩
 rcases hk with hk | hk
 · exact ⟨by omega,fun c=>by have:=hO k c;omega⟩
 · exact ⟨hk.2,fun c=>by have:=B.lt k c;omega⟩
end Go.Proofs.Ytoihjobdfjajfaa

/- Merged texts: DP2, DP3, DP4, MN1, MN2, UM1, MP3, MO1, Any7, PX1, Own96, RL6, MX0. -/
import Derived.Test.YtoihjobdfjajfaaCm5
import Derived.OwnWalk
set_option linter.unusedVariables false
set_option linter.unusedSimpArgs false
open List renaming getElem?_eq_getElem → Qa, mem_cons_of_mem → Qb, mem_append_left → Qc, mem_cons_self → Qe, mem_of_getElem? → Qf, getElem?_eq_some_iff → Qg, eq_nil_of_length_eq_zero → Qh, length_append → Qi, mem_append_right → Qj, setIfInBounds_toArray → Qk, not_mem_nil → Ql, mem_append → Qn, getElem?_map → Qp, foldl_cons → Qq, set_cons_succ → Qr, set_cons_zero → Qs, all_eq_true → Qt, length_map → Qu, mem_cons → Qw, map_cons → Qx, length_cons → QB
open Bool renaming and_eq_true → Qd
open Nat renaming le_refl → Qm, lt_of_lt_of_le → Qo, lt_irrefl → Qy, lt_of_le_of_lt → Qz, le_trans → QA
open Array renaming getElem?_toList → Qv, getElem?_eq_some_iff → QC
set_option maxHeartbeats 12800000
namespace Go.Proofs.Ytoihjobdfjajfaa
open Lib (hid)
open Go.RowKit Go.Maps
def PairA (p:Nat→Prop) (wb:Nat) (O:Nat→Prop) (C m:Nat) (l:Tm.Trail) (w w':World):Prop:=
 ∃ O':Nat→Prop,DO p wb O' m l w'∧(∀ k,O' k→k < w.heap.size→O k)∧Turned (fun k=>O k∨k=C) w w'
def PairQ (p:Nat→Prop) (wb:Nat) (O:Nat→Prop) (C m:Nat) (l:Tm.Trail) (w:World):Tm.UR→Ending→World→Prop
 | .ok l' left',e,w'=>e = .returned (.bool true)∧PairA p wb O C m l' w w'∧∃ c':Nat,w'.heap[C]? = some (.cells #[.int .i64 c'] 3 (0,0))∧c'+left'=2000
 | .no q,e,w'=>e = .returned (.bool false)∧∃ (a:Tm.Trail) (c':Nat),PairA p wb O C m (a++l) w w'∧w'.heap[C]? = some (.cells #[.int .i64 c'] 3 (0,0))∧c'+q=2000
 | .over,e,w'=>e = .returned (.bool false)∧∃ (a:Tm.Trail) (c':Nat),PairA p wb O C m (a++l) w w'∧w'.heap[C]? = some (.cells #[.int .i64 c'] 3 (0,0))∧2000 < c'∧c'≤5000
section
variable {p O:Nat→Prop} {wb C m:Nat} {l l':Tm.Trail} {w w2 w6 w':World}
theorem PairA.same (h:DO p wb O m l w) (hO:¬ O C) (hp:¬ p C) (T:Turned (fun k=>k=C) w w'):PairA p wb O C m l w w':=
 ⟨O,h.turned T (fun k hk e=>⟨fun o=>hO (e ▸ o),fun o=>hp (e ▸ o)⟩),fun _ h _=>h,T.mono (fun _ _ e=>.inr e)⟩
theorem PairA.of (T:Turned (fun k=>k=C) w w6) (ha:AfterD p wb O m l' w6 w'):PairA p wb O C m l' w w':=by
 obtain ⟨O',a1,a2,a3⟩:=ha;exact ⟨O',a1,fun k hk hl=>a2 k hk (Qo hl T.size),(T.mono (fun _ _ e=>.inr e)).trans (a3.mono (fun _ _ e=>.inl e))⟩
theorem PairA.from {O2:Nat→Prop} (T:Turned (fun k=>O k∨k=C) w w2) (hO:∀ k,O2 k→k < w.heap.size→O k) (h:PairA p wb O2 C m l w2 w'):PairA p wb O C m l w w':=by
 obtain ⟨O',a1,a2,a3⟩:=h;exact ⟨O',a1,fun k hk hl=>hO k (a2 k hk (Qo hl T.size)) hl,T.step a3 (fun i hi e=>e.elim (fun e=>.inl (hO i e hi)) .inr)⟩
theorem PairQ.from {O2:Nat→Prop} {r:Tm.UR} {e:Ending} {a:Tm.Trail} (hl:l'=a++l) (T:Turned (fun k=>O k∨k=C) w w2) (hO:∀ k,O2 k→k < w.heap.size→O k) (h:PairQ p wb O2 C m l' w2 r e w'):PairQ p wb O C m l w r e w':=by
 subst hl
 cases r with
 | ok l2 q=>obtain ⟨h1,h2,h3⟩:=h;exact ⟨h1,h2.from T hO,h3⟩
 | no q=>obtain ⟨h1,b,c,h2,h3⟩:=h;exact ⟨h1,b++a,c,by rw [List.append_assoc];exact h2.from T hO,h3⟩
 | over=>obtain ⟨h1,b,c,h2,h3⟩:=h;exact ⟨h1,b++a,c,by rw [List.append_assoc];exact h2.from T hO,h3⟩
set_option maxRecDepth 100000 in
theorem stands176 {c:Nat} {t:LT} {n:Int} (h:DO p wb O m l w) (hc:c≤2000) (ht:t.In p w) (hot:Tm.ownB m t.bare=true) (hk:¬ t.kind=0) (h0:0≤n) (h1:n < (m:Int)) (hn:n∉Tm.dom l) (hC:w.heap[C]? = some (.cells #[.int .i64 c] 3 (0,0))) (hO:¬ O C) (hp:¬ p C) :
 Calls Try.prog 176 #[.pointer (some ⟨wb,0,none⟩),.int .i64 n,t.val,.pointer (some ⟨C,0,none⟩)] w (PairQ p wb O C m l w (Tm.tieU l (2000 - c) n t.bare)):=by
 have hCl:=(zL hC);have h2:=twoBox w (.cells #[.int .i64 t.kind,.int .i64 t.n,.string t.name,.slice t.at_.1 t.args.length t.at_.2] 41) (.cells #[.int .i64 0] 3);obtain ⟨w2,hw2⟩:∃ z,z=(w.alloc (.cells #[.int .i64 t.kind,.int .i64 t.n,.string t.name,.slice t.at_.1 t.args.length t.at_.2] 41)).alloc (.cells #[.int .i64 0] 3):=⟨_,rfl⟩;rw [←hw2] at h2;obtain ⟨T2,hs2,hb2,hk2⟩:=h2;have hC2:w2.heap[C]? = some (.cells #[.int .i64 c] 3 (0,0)):=(T2.block C hCl (fun f=>f)).trans hC;obtain ⟨left,hleft⟩:∃ q,q=2000 - c:=⟨_,rfl⟩;rw [←hleft]
 have hcl:c+left=2000:=by omega
 have hD2:=h.turned0 (T2.trans ((Turned.refl _ w2).drew));have hgv:=Tm.ownB_iff.1 hot
 have hcall:Calls Try.prog 150 #[.pointer (some ⟨wb,0,none⟩),.int .i64 n,t.val,.int .i64 (2000 - (c:Int)),.pointer (some ⟨w.heap.size+1,0,none⟩)] w2.drew (HasDQ (Tm.hasL left n 0 (Tm.img l t.bare).flat) (w.heap.size+1) w2.drew):=by
  rw [show (2000 - (c:Int))=((left:Nat):Int) by omega];exact has150 (by omega) (left+1) t 0 (w.heap.size+1) _ (by omega) (Nat.zero_le _) hD2 ((ht.turned0 T2).turned0 ((Turned.refl _ w2).drew)) ⟨Tm.good_ones' hgv.1,hgv.2⟩ (((Turned.refl (fun _=>False) w2).drew.bt hk2)) (fun o=>by have:=h.lt _ o;omega) (fun o=>by have:=h.plt _ o;omega)
 have hspec:=Tm.tieU_spec (left:=left) h.ok h0 h1 hn hot (by rw [Tm.bare_kind];exact hk);have hfalse:=Tm.hasL_false (M:=left) (n:=n) (Tm.img l t.bare).flat (c:=0) (Nat.zero_le _);have hmost:=Tm.hasL_most left n (Tm.img l t.bare).flat 0 (Nat.zero_le _);have htie:Tm.tieU l left n t.bare=(if left < (Tm.hasL left n 0 (Tm.img l t.bare).flat).2 then .over else if (Tm.hasL left n 0 (Tm.img l t.bare).flat).1=true then .no (left - (Tm.hasL left n 0 (Tm.img l t.bare).flat).2) else .ok ((n,t.bare) :: l) (left - (Tm.hasL left n 0 (Tm.img l t.bare).flat).2)):=rfl;obtain ⟨R,hR⟩:∃ z,z=Tm.hasL left n 0 (Tm.img l t.bare).flat:=⟨_,rfl⟩;rw [←hR] at hcall hfalse hmost htie;obtain ⟨b,kk⟩:=R;have HTIE:=hid htie;have HSP:=hid hspec
 have hNC:C≠w.heap.size+1:=by omega
 have hCN:w.heap.size+1≠C:=by omega
 have hCB:w.heap.size≠C:=by omega
 have HH:=hid h;have HT:=hid ht;have HO:=hid hO;have HP:=hid hp;have HW2:=hid hw2;have HT2:=hid T2;have HS2:=hid hs2;have HB2:=hid hb2;have HC2:=hid hC2;have HV:=hid (LT.val_eq t);have HCLL:=hid hCl;have hkk:kk≤left+1:=hmost;obtain ⟨k0,k1⟩:=int1 hk2;obtain ⟨c0,c1,c2,c3,_⟩:=cells4 hb2;obtain ⟨q0,q1⟩:=int1 hC2;rw [LT.val_eq] at hcall ⊢
 cases b with
 | true=>
  have HCA:Hid (Calls Try.prog 150 _ _ (HasDP true kk (w.heap.size+1) w2.drew)):=hid hcall;clear h hC ht hot hk h0 h1 hn hO hp hw2 T2 hb2 hC2 hD2 hgv hcall hspec hfalse hmost htie hR hk2 hs2;go_enter Try.func176,Try.ntmps176
  go_wp2_with fail
  rw [←HW2.out];refine region_tail 7 (by kernel_rfl) (by kernel_rfl) ?_;simp only [List.take_succ_cons,List.take_zero,List.drop_succ_cons,List.drop_zero]
  repeat still_step
  refine wpStill_nil ?_
  go_wp2_with (go_at_call 150;(with_reducible refine HCA.out.mono ?_);rintro e w5 ⟨rfl,hq5,T5⟩;have T5':Turned (fun k=>k=w.heap.size+1) w2 w5:=((Turned.refl _ w2).drew).trans T5;have hc5:=(T5'.block C (zL HC2.out) hNC).trans HC2.out;have HT5:=hid T5';have HQ5:=hid hq5;have HC5:=hid hc5;obtain ⟨p0,p1⟩:=int1 hq5;obtain ⟨r0,r1⟩:=int1 hc5;clear T5 T5' hq5 hc5 k0 k1 c0 c1 c2 c3 q0 q1)
  refine region_tail 7 (by kernel_rfl) (by kernel_rfl) ?_;simp only [List.take_succ_cons,List.take_zero,List.drop_succ_cons,List.drop_zero]
  repeat still_step
  refine wpStill_nil ?_
  go_wp2_with fail
  go_ret;have T6:Turned (fun k=>k=C) w (w5.setCell ⟨C,0,none⟩ (.int .i64 ((c:Int)+kk))).drew:=(((HT2.out.mono (fun _ _ f=>f.elim):Turned (fun k=>k=C) w w2).step HT5.out (fun i hi e=>by omega)).setCell (p:=⟨C,0,none⟩) (.inr rfl) _).drew
  have hC6:(w5.setCell ⟨C,0,none⟩ (.int .i64 ((c:Int)+kk))).drew.heap[C]? = some (.cells #[.int .i64 ((c+kk:Nat):Int)] 3 (0,0)):=by
   have:=int1_set (v':=.int .i64 ((c:Int)+kk)) HC5.out;exact this
  by_cases ho:left < kk
  · have HX:=HTIE.out
    rw [if_pos ho] at HX;rw [HX];exact ⟨rfl,[],c+kk,PairA.same HH.out HO.out HP.out T6,hC6,by omega,by omega⟩
  · have HX:=HTIE.out
    rw [if_neg ho] at HX;simp only [if_true] at HX;rw [HX];exact ⟨rfl,[],c+kk,PairA.same HH.out HO.out HP.out T6,hC6,by omega⟩
 | false=>
  have hle:kk≤left:=hfalse rfl;have HCA:Hid (Calls Try.prog 150 _ _ (HasDP false kk (w.heap.size+1) w2.drew)):=hid hcall
  have htie2:Tm.tieU l left n t.bare = .ok ((n,t.bare) :: l) (left - kk):=by
   rw [htie,if_neg (by simp only [];omega),if_neg (by simp)]
  rw [htie2] at hspec ⊢;have HOK:Hid (Tm.okT m ((n,t.bare) :: l)):=hspec.2.1
  have hbd:=fun W (T:Turned (fun k=>k=C) w W)=>bindD (h.turned T (fun k hk e=>⟨fun o=>hO (e ▸ o),fun o=>hp (e ▸ o)⟩)) (LT.In.turned T (fun k _ hk e=>hp (e ▸ hk)) (fun _ _ q=>q) _ ht) hspec.2.1
  rw [LT.val_eq] at hbd;have HBD:=hid hbd;clear h hC ht hot hk h0 h1 hn hO hp hw2 T2 hb2 hC2 hD2 hgv hcall hspec hfalse hmost htie htie2 hR hk2 hs2 hbd HTIE HSP;go_enter Try.func176,Try.ntmps176
  go_wp2_with fail
  rw [←HW2.out];refine region_tail 7 (by kernel_rfl) (by kernel_rfl) ?_;simp only [List.take_succ_cons,List.take_zero,List.drop_succ_cons,List.drop_zero]
  repeat still_step
  refine wpStill_nil ?_
  go_wp2_with (go_at_call 150;(with_reducible refine HCA.out.mono ?_);rintro e w5 ⟨rfl,hq5,T5⟩;have T5':Turned (fun k=>k=w.heap.size+1) w2 w5:=((Turned.refl _ w2).drew).trans T5;have hc5:=(T5'.block C (zL HC2.out) hNC).trans HC2.out;have hb5:=(T5'.block w.heap.size (zL HB2.out) (by omega)).trans HB2.out;have HB5:=hid hb5;have HT5:=hid T5';have HQ5:=hid hq5;have HC5:=hid hc5;obtain ⟨p0,p1⟩:=int1 hq5;obtain ⟨r0,r1⟩:=int1 hc5;clear T5 T5' hq5 hc5 hb5 k0 k1 c0 c1 c2 c3 q0 q1)
  refine region_tail 7 (by kernel_rfl) (by kernel_rfl) ?_;simp only [List.take_succ_cons,List.take_zero,List.drop_succ_cons,List.drop_zero]
  repeat still_step
  refine wpStill_nil ?_;have T6:Turned (fun k=>k=C) w (w5.setCell ⟨C,0,none⟩ (.int .i64 ((c:Int)+kk))).drew:=(((HT2.out.mono (fun _ _ f=>f.elim):Turned (fun k=>k=C) w w2).step HT5.out (fun i hi e=>by omega)).setCell (p:=⟨C,0,none⟩) (.inr rfl) _).drew
  have hC6:(w5.setCell ⟨C,0,none⟩ (.int .i64 ((c:Int)+kk))).drew.heap[C]? = some (.cells #[.int .i64 ((c+kk:Nat):Int)] 3 (0,0)):=by
   have:=int1_set (v':=.int .i64 ((c:Int)+kk)) HC5.out;exact this
  obtain ⟨e0,e1,e2,e3,_⟩:=cells4 HB5.out
  have hBC:C≠w.heap.size:=fun e=>hCB e.symm
  have HT6:=hid T6;have HC6:=hid hC6;clear T6 hC6
  go_wp2_with (go_at_call 175;(with_reducible refine (HBD.out _ HT6.out).mono ?_);rintro e w7 ⟨rfl,ha⟩;have HA:=hid ha;clear ha)
  go_ret;obtain ⟨O',a1,a2,a3⟩:=HA.out;exact ⟨rfl,PairA.of HT6.out HA.out,c+kk,(a3.block C (zL HC6.out) HO.out).trans HC6.out,by omega⟩
end
def WkD (p:Nat→Prop) (X0 Y0:Tm Unit) (N:Nat) (w2:World):List Value→World→Prop
 | [],W=>Turned zN w2 W
 | [a],W=>Turned zN w2 W∧∃ X:LT,a = .agg #[.int .i64 X.kind,.int .i64 X.n,.string X.name,.slice X.at_.1 X.args.length X.at_.2]∧X.In p W∧X.bare=X0
 | [a,b],W=>Turned zN w2 W∧(∃ X:LT,a = .agg #[.int .i64 X.kind,.int .i64 X.n,.string X.name,.slice X.at_.1 X.args.length X.at_.2]∧X.In p W∧X.bare=X0)∧∃ Y:LT,b = .agg #[.int .i64 Y.kind,.int .i64 Y.n,.string Y.name,.slice Y.at_.1 Y.args.length Y.at_.2]∧Y.In p W∧Y.bare=Y0
 | [_,b,_],W=>Turned (fun k=>k=N) w2 W∧(∃ X:LT,W.heap[N]? = some (.cells #[.int .i64 X.kind,.int .i64 X.n,.string X.name,.slice X.at_.1 X.args.length X.at_.2] 41 (0,0))∧X.In p W∧X.bare=X0)∧∃ Y:LT,b = .agg #[.int .i64 Y.kind,.int .i64 Y.n,.string Y.name,.slice Y.at_.1 Y.args.length Y.at_.2]∧Y.In p W∧Y.bare=Y0
 | [_,_,_,_],W=>Turned (fun k=>k=N∨k=N+1) w2 W∧(∃ X:LT,W.heap[N]? = some (.cells #[.int .i64 X.kind,.int .i64 X.n,.string X.name,.slice X.at_.1 X.args.length X.at_.2] 41 (0,0))∧X.In p W∧X.bare=X0)∧∃ Y:LT,W.heap[N+1]? = some (.cells #[.int .i64 Y.kind,.int .i64 Y.n,.string Y.name,.slice Y.at_.1 Y.args.length Y.at_.2] 41 (0,0))∧Y.In p W∧Y.bare=Y0
 | _,_=>False
section
variable {p:Nat→Prop} {X0 Y0:Tm Unit} {N:Nat} {w2 W W':World}
theorem WkD.turned0:∀ (hs:List Value) (w w':World),WkD p X0 Y0 N w2 hs w→Turned zN w w'→WkD p X0 Y0 N w2 hs w'
 | [],_,_,h,T=>Turned.trans h T
 | [_],_,_,h,T=>by obtain ⟨h1,X,x1,x2,x3⟩:=h;exact ⟨h1.trans T,X,x1,x2.turned0 T,x3⟩
 | [_,_],_,_,h,T=>by obtain ⟨h1,⟨X,x1,x2,x3⟩,Y,y1,y2,y3⟩:=h;exact ⟨h1.trans T,⟨X,x1,x2.turned0 T,x3⟩,Y,y1,y2.turned0 T,y3⟩
 | [_,_,_],_,_,h,T=>by obtain ⟨h1,⟨X,x1,x2,x3⟩,Y,y1,y2,y3⟩:=h;exact ⟨h1.trans (T.mono (fun _ _ f=>f.elim)),⟨X,(T.bt x1),x2.turned0 T,x3⟩,Y,y1,y2.turned0 T,y3⟩
 | [_,_,_,_],_,_,h,T=>by obtain ⟨h1,⟨X,x1,x2,x3⟩,Y,y1,y2,y3⟩:=h;exact ⟨h1.trans (T.mono (fun _ _ f=>f.elim)),⟨X,(T.bt x1),x2.turned0 T,x3⟩,Y,(T.bt y1),y2.turned0 T,y3⟩
 | _ :: _ :: _ :: _ :: _ :: _,_,_,h,_=>h.elim
theorem WkD.turned:∀ (hs:List Value) (W:World),WkD p X0 Y0 N w2 hs W→Turned (fun k=>k=N∨k=N+1) w2 W
 | [],_,h=>Turned.mono h (fun _ _ f=>f.elim)
 | [_],_,h=>h.1.mono (fun _ _ f=>f.elim)
 | [_,_],_,h=>h.1.mono (fun _ _ f=>f.elim)
 | [_,_,_],_,h=>h.1.mono (fun _ _ e=>.inl e)
 | [_,_,_,_],_,h=>h.1
 | _ :: _ :: _ :: _ :: _ :: _,_,h=>h.elim
theorem WkD.early:∀ (hs:List Value) (W:World),hs.length≤2→WkD p X0 Y0 N w2 hs W→Turned zN w2 W
 | [],_,_,h=>h
 | [_],_,_,h=>h.1
 | [_,_],_,_,h=>h.1
theorem WkD.store1 {a b q:Value} {X:LT} (h:WkD p X0 Y0 N w2 [a,b] W) (hX:a = .agg #[.int .i64 X.kind,.int .i64 X.n,.string X.name,.slice X.at_.1 X.args.length X.at_.2]) (hXi:X.In p W) (hXb:X.bare=X0) (hN:∃ a0 b0 c0 d0,W.heap[N]? = some (.cells #[a0,b0,c0,d0] 41 (0,0))) (hp:¬ p N) :
 WkD p X0 Y0 N w2 [a,b,q] ((((W.setCell ⟨N,0,none⟩ (.int .i64 X.kind)).setCell ⟨N,1,none⟩ (.int .i64 X.n)).setCell ⟨N,2,none⟩ (.string X.name)).setCell ⟨N,3,none⟩ (.slice X.at_.1 X.args.length X.at_.2)):=by
 obtain ⟨h1,_,Y,y1,y2,y3⟩:=h;obtain ⟨a0,b0,c0,d0,hN⟩:=hN;have T:=turned_store4 W N (.int .i64 X.kind) (.int .i64 X.n) (.string X.name) (.slice X.at_.1 X.args.length X.at_.2);have hs:=set4 (a':=.int .i64 X.kind) (b':=.int .i64 X.n) (c':=.string X.name) (d':=.slice X.at_.1 X.args.length X.at_.2) hN;exact ⟨(h1.mono (fun _ _ f=>f.elim)).trans T,⟨X,hs,LT.In.turned T (fun k _ hk e=>hp (e ▸ hk)) (fun _ _ hk=>hk) _ hXi,hXb⟩,Y,y1,LT.In.turned T (fun k _ hk e=>hp (e ▸ hk)) (fun _ _ hk=>hk) _ y2,y3⟩
theorem WkD.store2 {a b c q:Value} {Y:LT} (h:WkD p X0 Y0 N w2 [a,b,c] W) (hYi:Y.In p W) (hYb:Y.bare=Y0) (hN:∃ a0 b0 c0 d0,W.heap[N+1]? = some (.cells #[a0,b0,c0,d0] 41 (0,0))) (hp:¬ p (N+1)) :
 WkD p X0 Y0 N w2 [a,b,c,q] ((((W.setCell ⟨N+1,0,none⟩ (.int .i64 Y.kind)).setCell ⟨N+1,1,none⟩ (.int .i64 Y.n)).setCell ⟨N+1,2,none⟩ (.string Y.name)).setCell ⟨N+1,3,none⟩ (.slice Y.at_.1 Y.args.length Y.at_.2)):=by
 obtain ⟨h1,⟨X,x1,x2,x3⟩,_⟩:=h;obtain ⟨a0,b0,c0,d0,hN⟩:=hN;have T:=turned_store4 W (N+1) (.int .i64 Y.kind) (.int .i64 Y.n) (.string Y.name) (.slice Y.at_.1 Y.args.length Y.at_.2);have hs:=set4 (a':=.int .i64 Y.kind) (b':=.int .i64 Y.n) (c':=.string Y.name) (d':=.slice Y.at_.1 Y.args.length Y.at_.2) hN;exact ⟨(h1.mono (fun _ _ e=>.inl e)).trans (T.mono (fun _ _ e=>.inr e)),⟨X,(T.block N (zL x1) (by omega)).trans x1,LT.In.turned T (fun k _ hk e=>hp (e ▸ hk)) (fun _ _ hk=>hk) _ x2,x3⟩,Y,hs,LT.In.turned T (fun k _ hk e=>hp (e ▸ hk)) (fun _ _ hk=>hk) _ hYi,hYb⟩
end
theorem unify_one (l:Tm.Trail) (left:Nat) (x y:Tm Unit):Tm.unify l (left+1) [(x,y)]=(match Tm.oneU l left (Tm.walkT l x) (Tm.walkT l y) with | .more ps=>Tm.unify l left ps | .done r=>r):=by
 cases h:Tm.oneU l left (Tm.walkT l x) (Tm.walkT l y) with
 | more ps=>rw [Tm.unify_more h,List.append_nil]
 | done r=>
  cases r with
  | ok l' q=>rw [Tm.unify_ok h];rfl
  | no q=>rw [Tm.unify_no h]
  | over=>rw [Tm.unify_over h]
def PairL (p:Nat→Prop) (wb:Nat) (O:Nat→Prop) (C m:Nat) (l:Tm.Trail) (c:Nat) (X Y:LT) (UN:Tm.UR) (W4:World) (k:Nat) (i:Value) (wr:World):Prop:=
 ∃ (j cj leftj:Nat) (lj a:Tm.Trail) (Oj:Nat→Prop),Hid (j+k=X.args.length)∧j≤X.args.length∧i = .int .i64 j∧Hid (DO p wb Oj m lj wr)∧Hid (∀ k,Oj k→k < W4.heap.size→O k)∧Hid (Turned (fun k=>O k∨k=C) W4 wr)∧Hid (lj=a++l)∧Hid (wr.heap[C]? = some (.cells #[.int .i64 cj] 3 (0,0)))∧Hid (cj+leftj=2000∧c+1≤cj)∧Hid (Tm.unify lj leftj ((X.bare.args.zip Y.bare.args).drop j)=UN)
theorem zip_at {X Y x y:LT} {j:Nat} (hx:X.args[j]? = some x) (hy:Y.args[j]? = some y):(X.bare.args.zip Y.bare.args).drop j=(x.bare,y.bare) :: (X.bare.args.zip Y.bare.args).drop (j+1):=by
 have h:(X.bare.args.zip Y.bare.args)[j]? = some (x.bare,y.bare):=by
  rw [List.getElem?_zip_eq_some,Tm.bare_args,Tm.bare_args,Tm.bares_eq,Tm.bares_eq,Qp,Qp,hx,hy];exact ⟨rfl,rfl⟩
 obtain ⟨h1,h2⟩:=Qg.1 h;rw [List.drop_eq_getElem_cons h1,h2]
theorem ownB_args {m:Nat} {X x:LT} (h:Tm.ownB m X.bare=true) (hk:¬ X.kind=0) (hx:x∈X.args):Tm.ownB m x.bare=true:=
 Tm.ownB_arg h (by rw [Tm.bare_kind];exact hk) (by rw [Tm.bare_args,Tm.bares_eq];exact List.mem_map_of_mem hx)
section
variable {p O:Nat→Prop} {wb C m:Nat} {l:Tm.Trail} {w:World}
set_option maxRecDepth 100000 in
theorem pair156 (k:Nat):∀ (O:Nat→Prop) (l:Tm.Trail) (x y:LT) (c:Nat) (w:World),2000 < c+k→c≤2000→DO p wb O m l w→x.In p w→Tm.ownB m x.bare=true→y.In p w→Tm.ownB m y.bare=true→w.heap[C]? = some (.cells #[.int .i64 c] 3 (0,0))→¬ O C→¬ p C→
 Calls Try.prog 156 #[.pointer (some ⟨wb,0,none⟩),x.val,y.val,.pointer (some ⟨C,0,none⟩)] w (PairQ p wb O C m l w (Tm.unify l (2000 - c) [(x.bare,y.bare)])):=by
 induction k with
 | zero=>intro O l x y c w h1 h2;omega
 | succ k ih=>
 intro O l x y c w hk hc h hx gx hy gy hC hO hp;have hCl:=(zL hC);have h2:=twoBox w (.cells #[.int .i64 x.kind,.int .i64 x.n,.string x.name,.slice x.at_.1 x.args.length x.at_.2] 41) (.cells #[.int .i64 y.kind,.int .i64 y.n,.string y.name,.slice y.at_.1 y.args.length y.at_.2] 41);obtain ⟨w2,hw2⟩:∃ z,z=(w.alloc (.cells #[.int .i64 x.kind,.int .i64 x.n,.string x.name,.slice x.at_.1 x.args.length x.at_.2] 41)).alloc (.cells #[.int .i64 y.kind,.int .i64 y.n,.string y.name,.slice y.at_.1 y.args.length y.at_.2] 41):=⟨_,rfl⟩;rw [←hw2] at h2
 have hbx:∀ W,Turned zN w2 W→W.heap[w.heap.size]? = some (.cells #[.int .i64 x.kind,.int .i64 x.n,.string x.name,.slice x.at_.1 x.args.length x.at_.2] 41 (0,0))∧W.heap[w.heap.size+1]? = some (.cells #[.int .i64 y.kind,.int .i64 y.n,.string y.name,.slice y.at_.1 y.args.length y.at_.2] 41 (0,0)):=fun W hW=>⟨(hW.block _ (by have:=h2.2.1;omega) (fun f=>f)).trans h2.2.2.1,(hW.block _ (by have:=h2.2.1;omega) (fun f=>f)).trans h2.2.2.2⟩
 have hwx:∀ W,Turned zN w2 W→Calls Try.prog 170 #[.pointer (some ⟨wb,0,none⟩),x.val] W fun e w'=>∃ X:LT,e = .returned X.val∧X.In p w'∧X.bare=Tm.walkT l x.bare∧Turned zN W w':=fun W hW=>walk170 (h.turned0 (h2.1.trans hW)) (hx.turned0 (h2.1.trans hW)) (Tm.good_ones' (Tm.ownB_iff.1 gx).1)
 have hwy:∀ W,Turned zN w2 W→Calls Try.prog 170 #[.pointer (some ⟨wb,0,none⟩),y.val] W fun e w'=>∃ X:LT,e = .returned X.val∧X.In p w'∧X.bare=Tm.walkT l y.bare∧Turned zN W w':=fun W hW=>walk170 (h.turned0 (h2.1.trans hW)) (hy.turned0 (h2.1.trans hW)) (Tm.good_ones' (Tm.ownB_iff.1 gy).1)
 have wdx:=Tm.walked h.ok _ x.bare (Qm _) (Tm.good_ones' (Tm.ownB_iff.1 gx).1);have wdy:=Tm.walked h.ok _ y.bare (Qm _) (Tm.good_ones' (Tm.ownB_iff.1 gy).1);have owx:=Tm.walkT_own h.ok _ x.bare (Qm _) gx;have owy:=Tm.walkT_own h.ok _ y.bare (Qm _) gy
 have hun:=fun left1=>unify_one l left1 x.bare y.bare
 have hz:=Tm.unify_zero l (x.bare,y.bare) [];obtain ⟨X0,hX0⟩:∃ z,z=Tm.walkT l x.bare:=⟨_,rfl⟩;obtain ⟨Y0,hY0⟩:∃ z,z=Tm.walkT l y.bare:=⟨_,rfl⟩;rw [←hX0] at hwx wdx owx hun;rw [←hY0] at hwy wdy owy hun;obtain ⟨UN,hUN⟩:∃ z,z=Tm.unify l (2000 - c) [(x.bare,y.bare)]:=⟨_,rfl⟩;rw [←hUN];rw [LT.val_eq] at hwx hwy ⊢;rw [LT.val_eq y];have HWX:=hid hwx;have HWY:=hid hwy;have WDX:=hid wdx;have WDY:=hid wdy;have OWX:=hid owx;have OWY:=hid owy;have HBX:=hid hbx;have HW2:=hid hw2;have HT2:=hid h2.1;have HS2:=hid h2.2.1;have HC2:Hid (w2.heap[C]? = some (.cells #[.int .i64 c] 3 (0,0))):=(h2.1.block C hCl (fun f=>f)).trans hC
 have hKN:C≠w.heap.size:=by omega
 have hKN1:C≠w.heap.size+1:=by omega
 have hNK:w.heap.size≠C:=by omega
 have hNK1:w.heap.size+1≠C:=by omega
 have HH:=hid h;have HO:=hid hO;have HP:=hid hp;have HIH:=hid ih;have HK:=hid hk;have hm65:=h.most;have hok0:=h.ok;have HOK0:=hid hok0;have HPN:Hid (¬ p w.heap.size∧¬ p (w.heap.size+1)):=⟨fun e=>Qy _ (h.plt _ e),fun e=>by have:=h.plt _ e;omega⟩;have HON:Hid (¬ O w.heap.size∧¬ O (w.heap.size+1)):=⟨fun e=>Qy _ (h.lt _ e),fun e=>by have:=h.lt _ e;omega⟩;have HUN:=hid hUN;have HU1:=hid hun;have HZ:=hid hz;clear hX0 hY0 hwx hwy wdx wdy owx owy hbx hw2 h2 hx hy gx gy h hC hO hp ih hk hUN hun hz hCl hok0;go_enter Try.func156,Try.ntmps156
 go_wp2_with fail
 rw [←HW2.out];refine wp_region_hsW [10,11,12,13,14,15] [2,5,6,7] [0,0,1,1,1,2,3,4] [12,15,100006,100007] (fun dd vv=>(match dd with | 10=>vv = .pointer (some ⟨wb,0,none⟩) | 11=>vv = .agg #[.int .i64 x.kind,.int .i64 x.n,.string x.name,.slice x.at_.1 x.args.length x.at_.2] | 13=>vv = .pointer (some ⟨wb,0,none⟩) | 14=>vv = .agg #[.int .i64 y.kind,.int .i64 y.n,.string y.name,.slice y.at_.1 y.args.length y.at_.2] | _=>True:Prop)) (WkD p X0 Y0 w.heap.size w2) (by kernel_rfl) rfl (by kernel_rfl) (by kernel_rfl) (by kernel_rfl) (by kernel_rfl) (fun w h=>h) (fun hs w w' h T=>WkD.turned0 hs w w' h T) ?hs ?hQ
 case hs=>
  refine ⟨?s0,?s1,?s2,?s3,?s4,?s5,?s6,?s7,trivial⟩
  case s0=>refine fun hs hle=>zG [] [0] fun ac W hT hI hO=>?_;have hle:hs.length≤0:=hle;simp only [execOp,Act.eval,hO 0 (by simp)];go_simp;try exact tq
  case s1=>refine fun hs hle=>zG [] [5] fun ac W hT hI hO=>?_;have hle:hs.length≤0:=hle;obtain ⟨c0,c1,c2,c3,_⟩:=cells4 (HBX.out W (WkD.early hs W (by omega) hT)).1;simp only [execOp,Act.eval,hO 5 (by simp)];go_simp;try exact tq
  case s2=>
   refine fun hs hlen=>zG [10,11] [] fun ac W hT hI hO=>?_;have h10:_=_:=hI 10 (by simp);have h11:_=_:=hI 11 (by simp);obtain rfl:hs=[]:=Qh hlen;replace hT:Turned zN w2 W:=hT;show Brings _ (fun vv w'=>WkD p X0 Y0 w.heap.size w2 [vv] w') _;simp only [execOp,Act.eval,h10,h11];go_simp;show Calls Try.prog 170 _ W _
   (with_reducible refine (HWX.out W hT).mono ?_)
   rintro e w' ⟨X,rfl,g1,g2,T'⟩
   exact ⟨_,rfl,hT.trans T',X,by rw [LT.val_eq],g1,g2⟩
  case s3=>refine fun hs hle=>zG [] [0] fun ac W hT hI hO=>?_;have hle:hs.length≤1:=hle;simp only [execOp,Act.eval,hO 0 (by simp)];go_simp;try exact tq
  case s4=>refine fun hs hle=>zG [] [6] fun ac W hT hI hO=>?_;have hle:hs.length≤1:=hle;obtain ⟨c0,c1,c2,c3,_⟩:=cells4 (HBX.out W (WkD.early hs W (by omega) hT)).2;simp only [execOp,Act.eval,hO 6 (by simp)];go_simp;try exact tq
  case s5=>
   refine fun hs hlen=>zG [13,14] [] fun ac W hT hI hO=>?_;have h13:_=_:=hI 13 (by simp);have h14:_=_:=hI 14 (by simp);obtain ⟨a,rfl⟩:=List.length_eq_one_iff.1 hlen;obtain ⟨hT1,X,x1,x2,x3⟩:=hT;show Brings _ (fun vv w'=>WkD p X0 Y0 w.heap.size w2 [a,vv] w') _;simp only [execOp,Act.eval,h13,h14];go_simp;show Calls Try.prog 170 _ W _
   (with_reducible refine (HWY.out W hT1).mono ?_)
   rintro e w' ⟨Y,rfl,g1,g2,T'⟩
   exact ⟨_,rfl,hT1.trans T',⟨X,by first | rfl | exact x1,x2.turned0 T',x3⟩,Y,by rw [LT.val_eq],g1,g2⟩
  case s6=>
   refine fun hs hlen=>zG [12] [5] fun ac W hT hI hO=>?_;have h12:hs[0]? = some (ac.tmps.getD 12 undef):=hI 12 (by simp);obtain ⟨a,b,rfl⟩:=list2' hlen
   have e12:a=ac.tmps.getD 12 undef:=by simpa using h12
   have hbW:=(HBX.out W hT.1).1;obtain ⟨c0,c1,c2,c3,f0,f1,f2,f3⟩:=cells4 hbW;obtain ⟨X,x1,x2,x3⟩:=hT.2.1;have HST:=hid (fun q=>WkD.store1 (q:=q) hT x1 x2 x3 ⟨_,_,_,_,hbW⟩ HPN.out.1);show Brings _ (fun vv w'=>WkD p X0 Y0 w.heap.size w2 [a,b,vv] w') _;rw [e12] at x1;simp only [execOp,Act.eval,hO 5 (by simp),x1];clear hbW hT x2 x3 e12 x1;go_simp;exact HST.out undef
  case s7=>
   refine fun hs hlen=>zG [15] [6] fun ac W hT hI hO=>?_;have h15:hs[1]? = some (ac.tmps.getD 15 undef):=hI 15 (by simp);obtain ⟨a,b,cc,rfl⟩:=list3' hlen
   have e15:b=ac.tmps.getD 15 undef:=by simpa using h15
   have hbW:W.heap[w.heap.size+1]? = some (.cells #[.int .i64 y.kind,.int .i64 y.n,.string y.name,.slice y.at_.1 y.args.length y.at_.2] 41 (0,0)):=(hT.1.block _ (by have:=HS2.out;omega) (by omega)).trans (HBX.out w2 (Turned.refl _ _)).2;obtain ⟨c0,c1,c2,c3,f0,f1,f2,f3⟩:=cells4 hbW;obtain ⟨Y,y1,y2,y3⟩:=hT.2.2;have HST:=hid (fun q=>WkD.store2 (q:=q) hT y2 y3 ⟨_,_,_,_,hbW⟩ HPN.out.2);show Brings _ (fun vv w'=>WkD p X0 Y0 w.heap.size w2 [a,b,cc,vv] w') _;rw [e15] at y1;simp only [execOp,Act.eval,hO 6 (by simp),y1];clear hbW hT y2 y3 e15 y1;go_simp;exact HST.out undef
 case hQ=>
  intro hs vs w3 hlen hR hV;simp only [Qq,List.foldl_nil,Qk,Qs,Qr];obtain ⟨e1,e2,e3,e4,rfl⟩:=list4' hlen;obtain ⟨T3,⟨X,hbx,hxi,rfl⟩,Y,hby,hyi,rfl⟩:=hR;have HT3:=hid (HT2.out.step T3 (fun i hi e=>by omega));have hC3:w3.heap[C]? = some (.cells #[.int .i64 c] 3 (0,0)):=(T3.block C (zL HC2.out) (fun e=>by omega)).trans HC2.out;have HXB:=hid hbx;have HYB:=hid hby;have HXI:=hid hxi;have HYI:=hid hyi;have HC3:=hid hC3;have T4:Turned (fun k=>k=C) w3 (w3.setCell ⟨C,0,none⟩ (.int .i64 ((c:Int)+1))):=(Turned.refl (fun k=>k=C) w3).setCell (p:=⟨C,0,none⟩) (.inr rfl) _;have HT4:=hid ((HT3.out.mono (fun _ _ f=>f.elim):Turned (fun k=>k=C) w w3).trans T4);have HC4:Hid ((w3.setCell ⟨C,0,none⟩ (.int .i64 ((c:Int)+1))).heap[C]? = some (.cells #[.int .i64 ((c+1:Nat):Int)] 3 (0,0))):=hid (int1_set (v':=.int .i64 ((c:Int)+1)) hC3);have HXB4:=hid ((T4.block _ (zL hbx) hNK).trans hbx);have HYB4:=hid ((T4.block _ (zL hby) hNK1).trans hby);have HXI4:=hid (LT.In.turned T4 (fun k _ hk e=>HP.out (e ▸ hk)) (fun _ _ q=>q) _ hxi);have HYI4:=hid (LT.In.turned T4 (fun k _ hk e=>HP.out (e ▸ hk)) (fun _ _ q=>q) _ hyi);have HD4:=hid (HH.out.turned HT4.out (fun k hk e=>⟨fun o=>HO.out (e ▸ o),fun o=>HP.out (e ▸ o)⟩));obtain ⟨c0,c1,c2,c3,f0,f1,f2,f3⟩:=cells4 hbx;obtain ⟨d0,d1,d2,d3,g0,g1,g2,g3⟩:=cells4 hby;obtain ⟨k0,k1⟩:=int1 hC3;clear T3 hbx hby hxi hyi hlen hV hC3 T4;have hok:=HOK0.out
  by_cases hc2:c=2000
  · have d1:decide ((2000:Int) < (c:Int)+1)=true:=decide_eq_true (by omega)
    have hz:=HZ.out
    have HE:Hid (UN = .over):=by show _=_;rw [HUN.out,hc2];exact hz
    have HC20:=hid hc2;clear hok hz hc2
    go_wp2_with fail
    go_ret;rw [HE.out];exact ⟨rfl,[],c+1,PairA.same HH.out HO.out HP.out HT4.out,HC4.out,by have:=HC20.out;omega,by omega⟩
  · have d1:decide ((2000:Int) < (c:Int)+1)=false:=decide_eq_false (by omega)
    obtain ⟨left1,hl1⟩:∃ q,q=2000 - (c+1):=⟨_,rfl⟩
    have hcl:c+1+left1=2000:=by omega
    have hUU:UN=(match Tm.oneU l left1 X.bare Y.bare with | .more ps=>Tm.unify l left1 ps | .done r=>r):=by
     rw [HUN.out,show 2000 - c=left1+1 by omega];exact HU1.out left1
    clear hc2 hl1;obtain ⟨U,hU⟩:∃ z,z=Tm.oneU l left1 X.bare Y.bare:=⟨_,rfl⟩;rw [←hU] at hUU;have HUU:=hid hUU;have HU:=hid hU;clear hUU hU
    by_cases hxk:X.kind=0
    · have vX:=Tm.ownB_var OWX.out (by rw [Tm.bare_kind];exact hxk)
      have fX:=WDX.out.free (by rw [Tm.bare_kind];exact hxk);rw [Tm.bare_n] at vX fX
      have bx:(X.kind == 0)=true:=by simp [hxk]
      by_cases hyk:Y.kind=0
      · have vY:=Tm.ownB_var OWY.out (by rw [Tm.bare_kind];exact hyk)
        have fY:=WDY.out.free (by rw [Tm.bare_kind];exact hyk);rw [Tm.bare_n] at vY fY
        have by_:(Y.kind == 0)=true:=by simp [hyk]
        by_cases hn:X.n=Y.n
        · have b1:decide (Y.n < X.n)=false:=decide_eq_false (by omega)
          have b2:decide (X.n < Y.n)=false:=decide_eq_false (by omega)
          have HE:Hid (UN = .ok l left1):=by show _=_;rw [HUU.out,HU.out.trans (oneU_same hxk hyk hn)]
          clear hxk hyk hn vX vY fX fY hok
          go_wp2_with fail
          go_ret;rw [HE.out];exact ⟨rfl,PairA.same HH.out HO.out HP.out HT4.out,c+1,HC4.out,hcl⟩
        · by_cases hlt:X.n < Y.n
          · have b1:decide (Y.n < X.n)=false:=decide_eq_false (by omega)
            have b2:decide (X.n < Y.n)=true:=decide_eq_true hlt
            have HE:Hid (UN = .ok ((Y.n,X.bare) :: l) left1):=by
             show _=_;rw [HUU.out,HU.out.trans (oneU_vars hxk hyk hn),Int.max_eq_right (by omega),Int.min_eq_left (by omega),vX.2.2]
            have hE:=Tm.setE_ok hok (setE_vars hok hm65 vY.1 vY.2.1 vX.1 vX.2.1 fY fX (fun e=>hn e.symm));rw [←vX.2.2] at hE;have hbd:=bindD HD4.out HXI4.out hE;rw [LT.val_eq] at hbd;have HBD:=hid hbd;clear hxk hyk hn hlt vX vY fX fY hok hE hbd
            go_wp2_with (go_at_call 175;(with_reducible refine HBD.out.mono ?_);rintro e w5 ⟨rfl,ha⟩;have HA:=hid ha;clear ha)
            go_ret;rw [HE.out];obtain ⟨O',a1,a2,a3⟩:=HA.out;exact ⟨rfl,PairA.of HT4.out HA.out,c+1,(a3.block C (zL HC4.out) HO.out).trans HC4.out,hcl⟩
          · have hgt:Y.n < X.n:=by omega
            have b1:decide (Y.n < X.n)=true:=decide_eq_true hgt
            have HE:Hid (UN = .ok ((X.n,Y.bare) :: l) left1):=by
             show _=_;rw [HUU.out,HU.out.trans (oneU_vars hxk hyk hn),Int.max_eq_left (by omega),Int.min_eq_right (by omega),vY.2.2]
            have hE:=Tm.setE_ok hok (setE_vars hok hm65 vX.1 vX.2.1 vY.1 vY.2.1 fX fY hn);rw [←vY.2.2] at hE;have hbd:=bindD HD4.out HYI4.out hE;rw [LT.val_eq] at hbd;have HBD:=hid hbd;clear hxk hyk hn hlt hgt vX vY fX fY hok hE hbd
            go_wp2_with (go_at_call 175;(with_reducible refine HBD.out.mono ?_);rintro e w5 ⟨rfl,ha⟩;have HA:=hid ha;clear ha)
            go_ret;rw [HE.out];obtain ⟨O',a1,a2,a3⟩:=HA.out;exact ⟨rfl,PairA.of HT4.out HA.out,c+1,(a3.block C (zL HC4.out) HO.out).trans HC4.out,hcl⟩
      · have by_:(Y.kind == 0)=false:=by simp [hyk]
        have HE:Hid (UN=Tm.tieU l left1 X.n Y.bare):=by show _=_;rw [HUU.out,HU.out.trans (oneU_left hxk hyk)]
        have hti:=stands176 HD4.out (by omega) HYI4.out OWY.out hyk vX.1 vX.2.1 fX HC4.out HO.out HP.out;rw [show 2000 - (c+1)=left1 by omega,←HE.out,LT.val_eq] at hti;have HTI:=hid hti;clear hxk hyk vX fX hok hti HE;clear HUN HUU
        cases UN with
        | ok l' left'=>
         go_wp2_with (go_at_call 176;(with_reducible refine HTI.out.mono ?_);rintro e w5 ⟨rfl,h5⟩;have H5:=hid h5;clear h5)
         go_ret;exact PairQ.from (a:=[]) rfl (HT4.out.mono (fun _ _ e=>.inr e)) (fun k hk _=>hk) ⟨rfl,H5.out⟩
        | no q=>
         go_wp2_with (go_at_call 176;(with_reducible refine HTI.out.mono ?_);rintro e w5 ⟨rfl,h5⟩;have H5:=hid h5;clear h5)
         go_ret;exact PairQ.from (a:=[]) rfl (HT4.out.mono (fun _ _ e=>.inr e)) (fun k hk _=>hk) ⟨rfl,H5.out⟩
        | over=>
         go_wp2_with (go_at_call 176;(with_reducible refine HTI.out.mono ?_);rintro e w5 ⟨rfl,h5⟩;have H5:=hid h5;clear h5)
         go_ret;exact PairQ.from (a:=[]) rfl (HT4.out.mono (fun _ _ e=>.inr e)) (fun k hk _=>hk) ⟨rfl,H5.out⟩
    · have bx:(X.kind == 0)=false:=by simp [hxk]
      by_cases hyk:Y.kind=0
      · have vY:=Tm.ownB_var OWY.out (by rw [Tm.bare_kind];exact hyk)
        have fY:=WDY.out.free (by rw [Tm.bare_kind];exact hyk);rw [Tm.bare_n] at vY fY
        have by_:(Y.kind == 0)=true:=by simp [hyk]
        have HE:Hid (UN=Tm.tieU l left1 Y.n X.bare):=by show _=_;rw [HUU.out,HU.out.trans (oneU_right hxk hyk)]
        have hti:=stands176 HD4.out (by omega) HXI4.out OWX.out hxk vY.1 vY.2.1 fY HC4.out HO.out HP.out;rw [show 2000 - (c+1)=left1 by omega,←HE.out,LT.val_eq] at hti;have HTI:=hid hti;clear hxk hyk vY fY hok hti HE;clear HUN HUU
        cases UN with
        | ok l' left'=>
         go_wp2_with (go_at_call 176;(with_reducible refine HTI.out.mono ?_);rintro e w5 ⟨rfl,h5⟩;have H5:=hid h5;clear h5)
         go_ret;exact PairQ.from (a:=[]) rfl (HT4.out.mono (fun _ _ e=>.inr e)) (fun k hk _=>hk) ⟨rfl,H5.out⟩
        | no q=>
         go_wp2_with (go_at_call 176;(with_reducible refine HTI.out.mono ?_);rintro e w5 ⟨rfl,h5⟩;have H5:=hid h5;clear h5)
         go_ret;exact PairQ.from (a:=[]) rfl (HT4.out.mono (fun _ _ e=>.inr e)) (fun k hk _=>hk) ⟨rfl,H5.out⟩
        | over=>
         go_wp2_with (go_at_call 176;(with_reducible refine HTI.out.mono ?_);rintro e w5 ⟨rfl,h5⟩;have H5:=hid h5;clear h5)
         go_ret;exact PairQ.from (a:=[]) rfl (HT4.out.mono (fun _ _ e=>.inr e)) (fun k hk _=>hk) ⟨rfl,H5.out⟩
      · have by_:(Y.kind == 0)=false:=by simp [hyk]
        have HE:=hid (HU.out.trans (oneU_heads hxk hyk));have HXK:=hid hxk;have HYK:=hid hyk;clear hxk hyk hok
        by_cases h1:X.kind=Y.kind
        · have t1:(X.kind != Y.kind)=false:=by simp [h1]
          by_cases h2:X.n=Y.n
          · have t2:(X.n != Y.n)=false:=by simp [h2]
            by_cases h3:X.name=Y.name
            · have t3:(X.name.toList != Y.name.toList)=false:=by simp [h3]
              have t3':(X.name.toList == Y.name.toList)=true:=by simp [h3]
              by_cases h4:X.args.length=Y.args.length
              · have t4:((X.args.length:Int) != (Y.args.length:Int))=false:=by simp [h4]
                have HE2:Hid (UN=Tm.unify l left1 (X.bare.args.zip Y.bare.args)):=by show _=_;rw [HUU.out,HE.out,if_pos ⟨h1,h2,h3,h4⟩]
                have HL4:=hid h4;clear h1 h2 h3 h4
                go_wp2_with fail
                revert HC4 HXB4 HYB4 HXI4 HYI4 HD4 HT4;clear HXB HYB HXI HYI HC3 HUU HU HE HT3 HU1 HZ;generalize (w3.setCell ⟨C,0,none⟩ (.int .i64 ((c:Int)+1)))=W4;intro HT4 HC4 HXB4 HYB4 HXI4 HYI4 HD4;clear c0 c1 c2 c3 f0 f1 f2 f3 d0 d1 d2 d3 g0 g1 g2 g3 k0 k1
                go_loopg [9] X.args.length (fun q i wr=>PairL p wb O C m l c X Y UN W4 q i wr)
                case atStart=>exact ⟨0,c+1,left1,l,[],O,Nat.zero_add _,Nat.zero_le _,rfl,HD4.out,fun _ h _=>h,Turned.refl _ _,rfl,HC4.out,show _∧_ from ⟨hcl,Qm _⟩,HE2.out.symm⟩
                case round=>
                 obtain ⟨j,cj,leftj,lj,a,Oj,HG,hj,rfl,HDJ,HOJ,HTJ,HLJ,HCJ,HLE,HUJ⟩:=hrel;have hxb:=(HTJ.out.block _ (zL HXB4.out) (fun e=>e.elim HON.out.1 hNK)).trans HXB4.out;have hyb:=(HTJ.out.block _ (zL HYB4.out) (fun e=>e.elim HON.out.2 hNK1)).trans HYB4.out;obtain ⟨c0,c1,c2,c3,_⟩:=cells4 hxb;obtain ⟨d0,d1,d2,d3,_⟩:=cells4 hyb;clear hxb hyb
                 by_cases hjl:j < X.args.length
                 · obtain ⟨xj,hx⟩:∃ z:LT,X.args[j]? = some z:=⟨_,Qa hjl⟩
                   have hjy:j < Y.args.length:=by have:=HL4.out;omega
                   obtain ⟨yj,hy⟩:∃ z:LT,Y.args[j]? = some z:=⟨_,Qa hjy⟩;have hXw:X.In p wr:=LT.In.turned HTJ.out (fun k _ hk e=>e.elim (fun e=>HH.out.sep k hk e) (fun e=>HP.out (e ▸ hk))) (fun _ _ q=>q) _ HXI4.out;have hYw:Y.In p wr:=LT.In.turned HTJ.out (fun k _ hk e=>e.elim (fun e=>HH.out.sep k hk e) (fun e=>HP.out (e ▸ hk))) (fun _ _ q=>q) _ HYI4.out;obtain ⟨bX,oX,hbX,_,x0,x1,x2,x3⟩:=hXw.lies.cell hx;obtain ⟨bY,oY,hbY,_,y0,y1,y2,y3⟩:=hYw.lies.cell hy
                   have hOC:¬ Oj C:=fun o=>HO.out (HOJ.out C o (zL HC4.out))
                   have Td:Turned zN wr wr.drew:=(Turned.refl _ wr).drew;have hcy:=HIH.out Oj lj xj yj cj wr.drew (by have:=HK.out;have:=HLE.out.2;omega) (by have:=HLE.out.1;omega) (HDJ.out.turned0 Td) (((LT.ins_iff _).1 hXw.args xj (Qf hx)).turned0 Td) (ownB_args OWX.out HXK.out (Qf hx)) (((LT.ins_iff _).1 hYw.args yj (Qf hy)).turned0 Td) (ownB_args OWY.out HYK.out (Qf hy)) ((Td.block C (zL HCJ.out) (fun f=>f)).trans HCJ.out) hOC HP.out;have hul:=Tm.unify_left leftj leftj (Qm _) lj [(xj.bare,yj.bare)];have huj:=HUJ.out;rw [zip_at hx hy,Tm.unify_cons] at huj;rw [show 2000 - cj=leftj by have:=HLE.out.1;omega,LT.val_eq,LT.val_eq] at hcy;obtain ⟨V,hV⟩:∃ z,z=Tm.unify lj leftj [(xj.bare,yj.bare)]:=⟨_,rfl⟩;rw [←hV] at hcy huj hul;have HUJ2:=hid huj;have HUL:=hid hul;have HCY:=hid hcy;have HTW:Hid (Turned (fun k=>O k∨k=C) w wr.drew):=hid ((HT4.out.mono (fun _ _ e=>.inr e):Turned (fun k=>O k∨k=C) w W4).trans HTJ.out).drew
                   have HOW:Hid (∀ k,Oj k→k < w.heap.size→O k):=fun k hk hl=>HOJ.out k hk (Qo hl HT4.out.size)
                   rw [hbX] at c3;rw [hbY] at d3;have hXl:=hXw.len;have hYl:=hYw.len
                   have hXa:X.args.length≤9223372036854775807:=by have:=hXl.1;have:=hXl.2.1;unfold maxLen at this;omega
                   have hYa:Y.args.length≤9223372036854775807:=by have:=hYl.1;have:=hYl.2.1;unfold maxLen at this;omega
                   have dj:decide ((j:Int) < (X.args.length:Int))=true:=decide_eq_true (by omega);clear hx hy hXw hYw hbX hbY hcy hul huj hV hXl hYl hOC Td
                   cases V with
                   | ok l' left'=>
                    go_wp2_with fail
                    refine region_tail 12 (by kernel_rfl) (by kernel_rfl) ?_;simp only [List.take_succ_cons,List.take_zero,List.drop_succ_cons,List.drop_zero]
                    repeat still_step
                    refine wpStill_nil ?_
                    go_wp2_with (go_at_call 156;(with_reducible refine HCY.out.mono ?_);rintro e w5 ⟨rfl,h5⟩;have H5:=hid h5;clear h5)
                    go_roundg (gk - 1)
                    case measure=>have:=HG.out;omega
                    case rel=>
                     obtain ⟨⟨O',a1,a2,a3⟩,c',g1,g2⟩:=H5.out;obtain ⟨u1,u2,ae,u3⟩:=HUL.out;have u2':=u2 (by simp);exact ⟨j+1,c',left',l',ae++a,O',show _=_ by have:=HG.out;omega,by omega,by go_num,a1,fun k hk hl=>HOJ.out k (a2 k hk (Qo hl HTJ.out.size)) hl,HTJ.out.drew.step a3 (fun i hi e=>e.elim (fun e=>.inl (HOJ.out i e hi)) .inr),(by show _=_;rw [u3,HLJ.out,List.append_assoc]),g1,show _∧_ from ⟨g2,by have:=HLE.out;omega⟩,HUJ2.out⟩
                   | no q=>
                    have HV:Hid (UN = .no q):=HUJ2.out.symm
                    go_wp2_with fail
                    refine region_tail 12 (by kernel_rfl) (by kernel_rfl) ?_;simp only [List.take_succ_cons,List.take_zero,List.drop_succ_cons,List.drop_zero]
                    repeat still_step
                    refine wpStill_nil ?_
                    go_wp2_with (go_at_call 156;(with_reducible refine HCY.out.mono ?_);rintro e w5 ⟨rfl,h5⟩;have H5:=hid h5;clear h5)
                    go_ret;rw [HV.out];exact PairQ.from (r:=.no q) HLJ.out HTW.out HOW.out ⟨rfl,H5.out⟩
                   | over=>
                    have HV:Hid (UN = .over):=HUJ2.out.symm
                    go_wp2_with fail
                    refine region_tail 12 (by kernel_rfl) (by kernel_rfl) ?_;simp only [List.take_succ_cons,List.take_zero,List.drop_succ_cons,List.drop_zero]
                    repeat still_step
                    refine wpStill_nil ?_
                    go_wp2_with (go_at_call 156;(with_reducible refine HCY.out.mono ?_);rintro e w5 ⟨rfl,h5⟩;have H5:=hid h5;clear h5)
                    go_ret;rw [HV.out];exact PairQ.from (r:=.over) HLJ.out HTW.out HOW.out ⟨rfl,H5.out⟩
                 · obtain rfl:j=X.args.length:=by omega
                   have dj:decide ((X.args.length:Int) < (X.args.length:Int))=false:=decide_eq_false (by omega)
                   have hz:(X.bare.args.zip Y.bare.args).drop X.args.length=[]:=List.drop_eq_nil_of_le (by
                    rw [List.length_zip,Tm.bare_arity,Tm.bare_arity];omega)
                   have HV:Hid (UN = .ok lj leftj):=by
                    show _=_;rw [←HUJ.out,hz];rfl
                   have HTW:Hid (Turned (fun k=>O k∨k=C) w wr):=hid ((HT4.out.mono (fun _ _ e=>.inr e):Turned (fun k=>O k∨k=C) w W4).trans HTJ.out)
                   have HOW:Hid (∀ k,Oj k→k < w.heap.size→O k):=fun k hk hl=>HOJ.out k hk (Qo hl HT4.out.size)
                   clear hz
                   go_wp2_with fail
                   go_ret;rw [HV.out];exact ⟨rfl,⟨Oj,HDJ.out,HOW.out,HTW.out⟩,cj,HCJ.out,HLE.out.1⟩
              · have t4:((X.args.length:Int) != (Y.args.length:Int))=true:=by simp;omega
                have HE2:Hid (UN = .no left1):=by show _=_;rw [HUU.out,HE.out,if_neg (fun e=>h4 e.2.2.2)]
                clear h1 h2 h3 h4
                go_wp2_with fail
                go_ret;rw [HE2.out];exact ⟨rfl,[],c+1,PairA.same HH.out HO.out HP.out HT4.out,HC4.out,hcl⟩
            · have t3:(X.name.toList != Y.name.toList)=true:=by rw [bne,str_neq h3];rfl
              have t3':(X.name.toList == Y.name.toList)=false:=str_neq h3
              have HE2:Hid (UN = .no left1):=by show _=_;rw [HUU.out,HE.out,if_neg (fun e=>h3 e.2.2.1)]
              clear h1 h2 h3
              go_wp2_with fail
              go_ret;rw [HE2.out];exact ⟨rfl,[],c+1,PairA.same HH.out HO.out HP.out HT4.out,HC4.out,hcl⟩
          · have t2:(X.n != Y.n)=true:=by simp [h2]
            have HE2:Hid (UN = .no left1):=by show _=_;rw [HUU.out,HE.out,if_neg (fun e=>h2 e.2.1)]
            clear h1 h2
            go_wp2_with fail
            go_ret;rw [HE2.out];exact ⟨rfl,[],c+1,PairA.same HH.out HO.out HP.out HT4.out,HC4.out,hcl⟩
        · have t1:(X.kind != Y.kind)=true:=by simp [h1]
          have HE2:Hid (UN = .no left1):=by show _=_;rw [HUU.out,HE.out,if_neg (fun e=>h1 e.1)]
          clear h1
          go_wp2_with fail
          go_ret;rw [HE2.out];exact ⟨rfl,[],c+1,PairA.same HH.out HO.out HP.out HT4.out,HC4.out,hcl⟩
end
theorem PairA.after {p O:Nat→Prop} {wb m C:Nat} {l':Tm.Trail} {w W w':World} {o:Obj} (T:Turned zN w W) (hC:C=W.heap.size) (h:PairA p wb O C m l' (W.alloc o) w'):AfterD p wb O m l' w w':=by
 obtain ⟨O',a1,a2,a3⟩:=h;have T1:=T.alloc o;exact ⟨O',a1,fun k hk hl=>a2 k hk (Qo hl T1.size),(T1.mono (fun _ _ f=>f.elim):Turned O w (W.alloc o)).step a3 (fun i hi e=>e.elim id (fun e=>by have:=T.size;omega))⟩
def Both117Q (p:Nat→Prop) (wb:Nat) (O:Nat→Prop) (m:Nat) (w:World) (R:Bool × Int × Int × Tm.Trail) (e:Ending) (w':World):Prop:=
 e = .returned (.tuple #[.bool R.1,.int .i64 R.2.1,.int .i64 R.2.2.1])∧AfterD p wb O m R.2.2.2 w w'
theorem DO.afterSame {p O:Nat→Prop} {wb m:Nat} {l:Tm.Trail} {w w':World} (h:DO p wb O m l w) (T:Turned zN w w'):AfterD p wb O m l w w':=
 ⟨O,h.turned0 T,fun _ h _=>h,T.mono (fun _ _ f=>f.elim)⟩
theorem undoPair {p O:Nat→Prop} {wb m C:Nat} {l a:Tm.Trail} {w W w5:World} {o q:Obj} (h:DO p wb O m l w) (T:Turned zN w W) (hC:C=W.heap.size) (ha:PairA p wb O C m (a++l) (W.alloc o) w5) (hq:w5.heap[C]? = some q) :
 Calls Try.prog 102 #[.pointer (some ⟨wb,0,none⟩),.int .i64 (l.length:Int)] w5 fun e w'=>e = .returned (.bool true)∧AfterD p wb O m l w w'∧w'.heap[C]? = some q:=by
 have hA:=PairA.after T hC ha;obtain ⟨O',a1,a2,a3⟩:=ha
 have hlen:l.length≤(a++l).length:=by rw [Qi];omega
 refine (undoD a1 l.length hlen).mono ?_
 rintro e w' ⟨rfl,hu⟩
 rw [show (a++l).length - l.length=a.length by rw [Qi];omega,List.drop_left] at hu;obtain ⟨O2,b1,b2,b3⟩:=hu
 have hOC:¬ O' C:=fun c=>by
  have:=h.lt C (a2 C c (by rw [hC];show W.heap.size < (W.heap.push o).size;rw [Array.size_push];omega));have:=T.size;omega
 refine ⟨rfl,⟨O2,b1,fun k hk hl=>a2 k (b2 k hk (Qo hl (QA (T.alloc o).size a3.size))) (Qo hl (T.alloc o).size),?_⟩,(b3.block C (zL hq) hOC).trans hq⟩;exact (((T.alloc o).mono (fun _ _ f=>f.elim):Turned O w (W.alloc o)).step a3 (fun i hi e=>e.elim id (fun e=>by have:=T.size;omega))).step b3 (fun i hi e=>a2 i e (Qo hi (T.alloc o).size))
set_option maxRecDepth 100000 in
theorem both117 {p O:Nat→Prop} {wb m:Nat} {l:Tm.Trail} {w:World} {x y:LT} (h:DO p wb O m l w) (hx:x.In p w) (hy:y.In p w) :
 Calls Try.prog 117 #[.pointer (some ⟨wb,0,none⟩),x.val,y.val] w (Both117Q p wb O m w (bothR m l x.bare y.bare)):=by
 have h2:=twoBox w (.cells #[.int .i64 x.kind,.int .i64 x.n,.string x.name,.slice x.at_.1 x.args.length x.at_.2] 41) (.cells #[.int .i64 y.kind,.int .i64 y.n,.string y.name,.slice y.at_.1 y.args.length y.at_.2] 41);obtain ⟨w2,hw2⟩:∃ z,z=(w.alloc (.cells #[.int .i64 x.kind,.int .i64 x.n,.string x.name,.slice x.at_.1 x.args.length x.at_.2] 41)).alloc (.cells #[.int .i64 y.kind,.int .i64 y.n,.string y.name,.slice y.at_.1 y.args.length y.at_.2] 41):=⟨_,rfl⟩;rw [←hw2] at h2
 have hbx:∀ W,Turned zN w2 W→W.heap[w.heap.size]? = some (.cells #[.int .i64 x.kind,.int .i64 x.n,.string x.name,.slice x.at_.1 x.args.length x.at_.2] 41 (0,0))∧W.heap[w.heap.size+1]? = some (.cells #[.int .i64 y.kind,.int .i64 y.n,.string y.name,.slice y.at_.1 y.args.length y.at_.2] 41 (0,0)):=fun W hW=>⟨(hW.block _ (by have:=h2.2.1;omega) (fun f=>f)).trans h2.2.2.1,(hW.block _ (by have:=h2.2.1;omega) (fun f=>f)).trans h2.2.2.2⟩
 have hkx:=fun W (hW:Turned zN w2 W)=>known99 (h.turned0 (h2.1.trans hW)) (hx.turned0 (h2.1.trans hW))
 have hky:=fun W (hW:Turned zN w2 W)=>known99 (h.turned0 (h2.1.trans hW)) (hy.turned0 (h2.1.trans hW))
 rw [←ownB_bare] at hkx hky
 have hpa:Tm.ownB m x.bare=true→Tm.ownB m y.bare=true→∀ W,Turned zN w2 W→Calls Try.prog 156 #[.pointer (some ⟨wb,0,none⟩),x.val,y.val,.pointer (some ⟨W.heap.size,0,none⟩)] (W.alloc (.cells #[.int .i64 0] 3)) (PairQ p wb O W.heap.size m l (W.alloc (.cells #[.int .i64 0] 3)) (Tm.unify l 2000 [(x.bare,y.bare)])):=fun g1 g2 W hW=>
  pair156 2001 O l x y 0 _ (by omega) (by omega) (h.turned0 ((h2.1.trans hW).alloc _)) (hx.turned0 ((h2.1.trans hW).alloc _)) g1 (hy.turned0 ((h2.1.trans hW).alloc _)) g2 (heap_alloc_new W _) (h.alloc (h2.1.trans hW)).1 (h.alloc (h2.1.trans hW)).2
 have hdb:∃ (ta ia ra:Option Addr) (tc ic rc:Nat),∀ W,Turned zN w2 W→W.heap[wb]? = some (.cells #[.slice ta m tc,.slice ia m ic,.slice ra l.length rc] 113 (0,0)):=by
  obtain ⟨ta,ia,ra,tc,ic,rc,us,is,D,R,hlu,hli,hO⟩:=h.parts;exact ⟨ta,ia,ra,tc,ic,rc,fun W hW=>(D.turned0 (h2.1.trans hW)).b⟩
 obtain ⟨ta,ia,ra,tc,ic,rc,hdb⟩:=hdb;rw [LT.val_eq x] at hkx hpa ⊢;rw [LT.val_eq y] at hky hpa ⊢;have hwl:=h.lt wb (by obtain ⟨ta,ia,ra,tc,ic,rc,us,is,D,R,hlu,hli,hO⟩:=h.parts;exact hO wb (.inl rfl));have HH:=hid h;have HT2:=hid h2.1;have HW2:=hid hw2;have HBX:=hid hbx;have HDB:=hid hdb;obtain ⟨R,hR⟩:∃ z,z=bothR m l x.bare y.bare:=⟨_,rfl⟩;rw [←hR];unfold bothR at hR;clear h hx hy h2 hw2 hbx hdb
 cases ox:Tm.ownB m x.bare with
 | false=>
  rw [ox] at hkx hR;have HRE:Hid (R=(false,0,1,l)):=hid (by rw [hR,if_neg (by simp)]);have HKX:=hid hkx;clear hkx hky hpa hR ox;go_enter Try.func117,Try.ntmps117
  go_wp2_with (go_at_call 99;rw [←HW2.out];(with_reducible refine (HKX.out _ (Turned.refl _ _)).mono ?_);rintro e w3 ⟨rfl,T3⟩;obtain ⟨c0,c1,c2,c3,_⟩:=cells4 (HBX.out w3 T3).1;obtain ⟨d0,d1,d2,d3,_⟩:=cells4 (HBX.out w3 T3).2;have HT3:=hid T3;clear T3)
  go_ret3
  rw [HRE.out];exact ⟨rfl,HH.out.afterSame (HT2.out.trans HT3.out)⟩
 | true=>
  rw [ox] at hkx hR;have hpa:=hpa ox
  cases oy:Tm.ownB m y.bare with
  | false=>
   rw [oy] at hky hR;have HRE:Hid (R=(false,0,1,l)):=hid (by rw [hR,if_neg (by simp)]);have HKX:=hid hkx;have HKY:=hid hky;clear hkx hky hpa hR ox oy;go_enter Try.func117,Try.ntmps117
   go_wp2_with (first
    | (go_at_call 99;have HT3:=HT3;(with_reducible refine (HKY.out _ HT3.out).mono ?_);rintro e w4 ⟨rfl,T4⟩;have T4':=HT3.out.trans T4;obtain ⟨b0,b1,b2,_⟩:=rec3b (HDB.out w4 T4');obtain ⟨m0,m1,m2,m3,_⟩:=cells4 (HBX.out _ (T4'.alloc (.cells #[.int .i64 0] 3))).1;obtain ⟨n0,n1,n2,n3,_⟩:=cells4 (HBX.out _ (T4'.alloc (.cells #[.int .i64 0] 3))).2;have HT4:=hid T4';clear T4 T4')
    | (go_at_call 99;rw [←HW2.out];(with_reducible refine (HKX.out _ (Turned.refl _ _)).mono ?_);rintro e w3 ⟨rfl,T3⟩;obtain ⟨c0,c1,c2,c3,_⟩:=cells4 (HBX.out w3 T3).1;obtain ⟨d0,d1,d2,d3,_⟩:=cells4 (HBX.out w3 T3).2;have HT3:=hid T3;clear T3))
   go_ret3
   rw [HRE.out];exact ⟨rfl,HH.out.afterSame (HT2.out.trans HT4.out)⟩
  | true=>
   rw [oy] at hky hR;have hpa:=hpa oy;rw [if_pos ⟨rfl,rfl⟩] at hR;have HKX:=hid hkx;have HKY:=hid hky;have HPA:=hid hpa;clear hkx hky hpa ox oy
   cases hU:Tm.unify l 2000 [(x.bare,y.bare)] with
   | ok l' left'=>
    rw [hU] at hR HPA;have HRE:=hid hR;clear hR hU;go_enter Try.func117,Try.ntmps117
    go_wp2_with (first
     | (go_at_call 156;have HT4:=HT4;(with_reducible refine (HPA.out _ HT4.out).mono ?_);rintro e w5 ⟨rfl,ha,c',hq,hcc⟩;obtain ⟨p0,p1⟩:=int1 hq;have d1:decide ((2000:Int) < (c':Int))=false:=decide_eq_false (by omega);have HA:=hid ha;have HCC:=hid hcc;clear ha hq hcc)
     | (go_at_call 99;have HT3:=HT3;(with_reducible refine (HKY.out _ HT3.out).mono ?_);rintro e w4 ⟨rfl,T4⟩;have T4':=HT3.out.trans T4;obtain ⟨b0,b1,b2,_⟩:=rec3b (HDB.out w4 T4');obtain ⟨m0,m1,m2,m3,_⟩:=cells4 (HBX.out _ (T4'.alloc (.cells #[.int .i64 0] 3))).1;obtain ⟨n0,n1,n2,n3,_⟩:=cells4 (HBX.out _ (T4'.alloc (.cells #[.int .i64 0] 3))).2;have HT4:=hid T4';clear T4 T4')
     | (go_at_call 99;rw [←HW2.out];(with_reducible refine (HKX.out _ (Turned.refl _ _)).mono ?_);rintro e w3 ⟨rfl,T3⟩;obtain ⟨c0,c1,c2,c3,_⟩:=cells4 (HBX.out w3 T3).1;obtain ⟨d0,d1,d2,d3,_⟩:=cells4 (HBX.out w3 T3).2;have HT3:=hid T3;clear T3))
    go_quiet (fail)
    go_wp2_with fail
    go_ret3
    rw [HRE.out];refine ⟨?_,(PairA.after (HT2.out.trans HT4.out) rfl HA.out).turned0 ((Turned.refl _ w5).drewN nq)⟩;have:=HCC.out;show Ending.returned (.tuple #[.bool true,.int .i64 (c':Int),.int .i64 0]) = .returned (.tuple #[.bool true,.int .i64 (2000 - (left':Int)),.int .i64 0]);rw [show (2000 - (left':Int))=(c':Int) by omega]
   | no q=>
    rw [hU] at hR HPA;have HRE:=hid hR;clear hR hU;go_enter Try.func117,Try.ntmps117
    go_wp2_with (first
     | (go_at_call 102;have HQ5:=HQ5;(with_reducible refine (undoPair HH.out (HT2.out.trans HT4.out) rfl HPX.out HQ5.out).mono ?_);rintro e w6 ⟨rfl,hb,hq6⟩;obtain ⟨r0,r1⟩:=int1 hq6;have HB:=hid hb;clear hb hq6)
     | (go_at_call 156;have HT4:=HT4;(with_reducible refine (HPA.out _ HT4.out).mono ?_);rintro e w5 ⟨rfl,AL,c',ha,hq,hcc⟩;obtain ⟨p0,p1⟩:=int1 hq;have d1:decide ((2000:Int) < (c':Int))=false:=decide_eq_false (by omega);have HPX:=hid ha;have HQ5:=hid hq;have HCC:=hid hcc;clear ha hq hcc)
     | (go_at_call 99;have HT3:=HT3;(with_reducible refine (HKY.out _ HT3.out).mono ?_);rintro e w4 ⟨rfl,T4⟩;have T4':=HT3.out.trans T4;obtain ⟨b0,b1,b2,_⟩:=rec3b (HDB.out w4 T4');obtain ⟨m0,m1,m2,m3,_⟩:=cells4 (HBX.out _ (T4'.alloc (.cells #[.int .i64 0] 3))).1;obtain ⟨n0,n1,n2,n3,_⟩:=cells4 (HBX.out _ (T4'.alloc (.cells #[.int .i64 0] 3))).2;have HT4:=hid T4';clear T4 T4')
     | (go_at_call 99;rw [←HW2.out];(with_reducible refine (HKX.out _ (Turned.refl _ _)).mono ?_);rintro e w3 ⟨rfl,T3⟩;obtain ⟨c0,c1,c2,c3,_⟩:=cells4 (HBX.out w3 T3).1;obtain ⟨d0,d1,d2,d3,_⟩:=cells4 (HBX.out w3 T3).2;have HT3:=hid T3;clear T3))
    go_quiet (fail)
    go_wp2_with fail
    go_ret3
    rw [HRE.out];refine ⟨?_,HB.out.turned0 ((Turned.refl _ w6).drewN nq)⟩;have:=HCC.out;show Ending.returned (.tuple #[.bool false,.int .i64 (c':Int),.int .i64 0]) = .returned (.tuple #[.bool false,.int .i64 (2000 - (q:Int)),.int .i64 0]);rw [show (2000 - (q:Int))=(c':Int) by omega]
   | over=>
    rw [hU] at hR HPA;have HRE:=hid hR;clear hR hU;go_enter Try.func117,Try.ntmps117
    go_wp2_with (first
     | (go_at_call 102;have HQ5:=HQ5;(with_reducible refine (undoPair HH.out (HT2.out.trans HT4.out) rfl HPX.out HQ5.out).mono ?_);rintro e w6 ⟨rfl,hb,hq6⟩;obtain ⟨r0,r1⟩:=int1 hq6;have HB:=hid hb;clear hb hq6)
     | (go_at_call 156;have HT4:=HT4;(with_reducible refine (HPA.out _ HT4.out).mono ?_);rintro e w5 ⟨rfl,AL,c',ha,hq,hcc⟩;obtain ⟨p0,p1⟩:=int1 hq;have d1:decide ((2000:Int) < (c':Int))=true:=decide_eq_true (by omega);have HPX:=hid ha;have HQ5:=hid hq;have HCC:=hid hcc;clear ha hq hcc)
     | (go_at_call 99;have HT3:=HT3;(with_reducible refine (HKY.out _ HT3.out).mono ?_);rintro e w4 ⟨rfl,T4⟩;have T4':=HT3.out.trans T4;obtain ⟨b0,b1,b2,_⟩:=rec3b (HDB.out w4 T4');obtain ⟨m0,m1,m2,m3,_⟩:=cells4 (HBX.out _ (T4'.alloc (.cells #[.int .i64 0] 3))).1;obtain ⟨n0,n1,n2,n3,_⟩:=cells4 (HBX.out _ (T4'.alloc (.cells #[.int .i64 0] 3))).2;have HT4:=hid T4';clear T4 T4')
     | (go_at_call 99;rw [←HW2.out];(with_reducible refine (HKX.out _ (Turned.refl _ _)).mono ?_);rintro e w3 ⟨rfl,T3⟩;obtain ⟨c0,c1,c2,c3,_⟩:=cells4 (HBX.out w3 T3).1;obtain ⟨d0,d1,d2,d3,_⟩:=cells4 (HBX.out w3 T3).2;have HT3:=hid T3;clear T3))
    go_ret3
    rw [HRE.out];exact ⟨rfl,HB.out⟩
end Go.Proofs.Ytoihjobdfjajfaa
namespace Go.Proofs.Ytoihjobdfjajfaa
open Go.RowKit Go.Maps
theorem Row.blocks {w:World} {e:TypeId} {size n:Nat} {v:Value} {xs:List Value} (h:Row w e size v n xs):∃ bx:List (Nat × Obj),(∀ b∈bx,v.ownBlock=some b.1∧w.heap[b.1]? = some b.2)∧(∀ k,v.ownBlock=some k→∃ b∈bx,b.1=k)∧∀ W:World,(∀ b∈bx,W.heap[b.1]? = some b.2)→Row W e size v n xs:=by
 cases hv:v.ownBlock with
 | none=>exact ⟨[],(fun b hb=>by cases hb),(fun k hk=>by cases hk),fun W _=>h.moved (fun g o hg=>by rw [hv] at hg;cases hg)⟩
 | some g=>
  obtain ⟨o,ho⟩:∃ o,w.heap[g]? = some o:=by
   rcases h.2 with ⟨rfl,_⟩ | ⟨g',cap,cur,rfl,hg,_⟩
   · cases hv
   · have:g'=g:=by simpa [Value.ownBlock] using hv
     exact ⟨_,this ▸ hg⟩
  refine ⟨[(g,o)],fun b hb=>?_,fun k hk=>⟨(g,o),List.mem_singleton.2 rfl,Option.some.inj hk⟩,fun W hW=>h.moved (fun g' o' hg' ho'=>?_)⟩
  · rw [List.mem_singleton.1 hb];exact ⟨rfl,ho⟩
  · rw [hv] at hg'
    obtain rfl:=Option.some.inj hg';rw [ho] at ho';obtain rfl:=Option.some.inj ho';exact hW (g,o) (List.mem_singleton.2 rfl)
theorem DO.kept {q D:Nat→Prop} {wb m:Nat} {l:Tm.Trail} {W:World} (h:DO q wb D m l W) :
 ∃ (bx:List (Nat × Obj)) (us:List LT),(∀ b∈bx,D b.1∧W.heap[b.1]? = some b.2)∧(∀ u∈us,u.In q W)∧
  ∀ (q':Nat→Prop) (W':World),(∀ b∈bx,W'.heap[b.1]? = some b.2)→(∀ u∈us,u.In q' W')→(∀ k,q' k→k < W'.heap.size∧∀ b∈bx,b.1≠k)→DO q' wb (fun k=>∃ b∈bx,b.1=k) m l W':=by
 obtain ⟨tv,iv,rv,us,is,tr,B,R,hO⟩:=h.db;obtain ⟨b1,r1,s1,k1⟩:=B.row.blocks;obtain ⟨b2,r2,s2,k2⟩:=B.bools.blocks;obtain ⟨b3,r3,s3,k3⟩:=B.trail.blocks
 have hown:∀ b∈(wb,Obj.cells #[tv,iv,rv] 113 (0,0)) :: (b1++(b2++b3)),ownD wb tv iv rv b.1∧W.heap[b.1]? = some b.2:=by
  intro b hb
  rcases Qw.1 hb with rfl | hb
  · exact ⟨.inl rfl,B.b⟩
  · rcases Qn.1 hb with hb | hb
    · exact ⟨.inr (.inl (r1 b hb).1),(r1 b hb).2⟩
    · rcases Qn.1 hb with hb | hb
      · exact ⟨.inr (.inr (.inl (r2 b hb).1)),(r2 b hb).2⟩
      · exact ⟨.inr (.inr (.inr (r3 b hb).1)),(r3 b hb).2⟩
 have hall:∀ k,ownD wb tv iv rv k→∃ b∈(wb,Obj.cells #[tv,iv,rv] 113 (0,0)) :: (b1++(b2++b3)),b.1=k:=by
  rintro k (rfl | hk | hk | hk)
  · exact ⟨_,Qe ..,rfl⟩
  · obtain ⟨b,hb,e⟩:=s1 k hk
    exact ⟨b,Qb _ (Qc _ hb),e⟩
  · obtain ⟨b,hb,e⟩:=s2 k hk
    exact ⟨b,Qb _ (Qj _ (Qc _ hb)),e⟩
  · obtain ⟨b,hb,e⟩:=s3 k hk
    exact ⟨b,Qb _ (Qj _ (Qj _ hb)),e⟩
 refine ⟨_,us,fun b hb=>⟨hO _ (hown b hb).1,(hown b hb).2⟩,(LT.ins_iff _).1 B.ins,fun q' W' hb hu hq=>?_⟩;refine ⟨⟨tv,iv,rv,us,is,tr,⟨hb _ (Qe ..),k1 W' (fun b h=>hb b (Qb _ (Qc _ h))),k2 W' (fun b h=>hb b (Qb _ (Qj _ (Qc _ h)))),k3 W' (fun b h=>hb b (Qb _ (Qj _ (Qj _ h)))),B.same,(LT.ins_iff _).2 hu,B.most,B.ne,fun k hk=>⟨(hq k hk).1,fun c=>?_⟩⟩,R,hall⟩,fun k hk=>?_,fun k hk=>?_⟩
 · obtain ⟨b,h1,h2⟩:=hall k c
   exact (hq k hk).2 b h1 h2
 · obtain ⟨b,h1,rfl⟩:=hk
   exact (zL (hb b h1))
 · rintro ⟨b,h1,h2⟩
   exact (hq k hk).2 b h1 h2
def CM (N bb wb m mw:Nat) (tr lw:Tm.Trail) (bx:List (Nat × Obj)) (ts:List LT) (w1 W:World):Prop:=
 ∃ (q:Nat→Prop) (tl:TL) (O D:Nat→Prop),(∀ k,k < N→q k)∧bt tl=tr∧BD2 q bb wb O D m mw tl lw W∧(∀ k,O k→N≤k)∧(∀ k,D k→N≤k)∧Turned zN w1 W∧(∀ b∈bx,W.heap[b.1]? = some b.2∧¬ O b.1∧¬ D b.1∧¬ q b.1)∧∀ x∈ts,x.In q W
section
variable {N bb wb m mw m':Nat} {tr lw tr' lw':Tm.Trail} {bx bx':List (Nat × Obj)} {ts ts':List LT} {w1 w0 W W':World} {x y t:LT}
theorem CM.turned0 (h:CM N bb wb m mw tr lw bx ts w1 W) (T:Turned zN W W'):CM N bb wb m mw tr lw bx ts w1 W':=by
 obtain ⟨q,tl,O,D,h1,h2,h3,h4,h5,h6,h7,h8⟩:=h;exact ⟨q,tl,O,D,h1,h2,h3.turned0 T,h4,h5,h6.trans T,fun b hb=>⟨(T.bt (h7 b hb).1),(h7 b hb).2⟩,fun x hx=>(h8 x hx).turned0 T⟩
theorem CM.old (h:CM N bb wb m mw tr lw bx ts w1 W):Turned zN w1 W:=by obtain ⟨q,tl,O,D,h1,h2,h3,h4,h5,h6,h7,h8⟩:=h;exact h6
theorem CM.boxes (h:CM N bb wb m mw tr lw bx ts w1 W):∀ b∈bx,W.heap[b.1]? = some b.2:=by obtain ⟨q,tl,O,D,h1,h2,h3,h4,h5,h6,h7,h8⟩:=h;exact fun b hb=>(h7 b hb).1
theorem CM.sub (h:CM N bb wb m mw tr lw bx ts w1 W) (hb:∀ b∈bx',b∈bx) (ht:∀ x∈ts',x∈ts):CM N bb wb m mw tr lw bx' ts' w1 W:=by
 obtain ⟨q,tl,O,D,h1,h2,h3,h4,h5,h6,h7,h8⟩:=h;exact ⟨q,tl,O,D,h1,h2,h3,h4,h5,h6,fun b hb'=>h7 b (hb b hb'),fun x hx=>h8 x (ht x hx)⟩
theorem CM.box (h:CM N bb wb m mw tr lw bx ts w1 W) (o:Obj):CM N bb wb m mw tr lw ((W.heap.size,o) :: bx) ts w1 (W.alloc o):=by
 have T:=(Turned.refl (fun _=>False) W).alloc o;obtain ⟨q,tl,O,D,h1,h2,h3,h4,h5,h6,h7,h8⟩:=h;refine ⟨q,tl,O,D,h1,h2,h3.turned0 T,h4,h5,h6.trans T,fun b hb=>?_,fun x hx=>(h8 x hx).turned0 T⟩
 rcases Qw.1 hb with rfl | hb
 · exact ⟨heap_alloc_new W o,fun c=>Qy _ (h3.b.lt _ c),fun c=>Qy _ (h3.d.lt _ c),fun c=>Qy _ (h3.b.plt _ c)⟩
 · exact ⟨(T.bt (h7 b hb).1),(h7 b hb).2⟩
theorem CM.keep (h:CM N bb wb m mw tr lw bx ts w1 w0) (T:Turned zN w0 W) (hx:x.In (fun k=>k < N∨w0.heap.size≤k) W):CM N bb wb m mw tr lw bx (x :: ts) w1 W:=by
 obtain ⟨q,tl,O,D,h1,h2,h3,h4,h5,h6,h7,h8⟩:=h;refine ⟨fun k=>q k∨(w0.heap.size≤k∧k < W.heap.size),tl,O,D,fun k hk=>.inl (h1 k hk),h2,h3.grown T,h4,h5,h6.trans T,fun b hb=>?_,fun y hy=>?_⟩
 · have hlt:=(zL (h7 b hb).1)
   exact ⟨(T.block _ hlt (fun f=>f)).trans (h7 b hb).1,(h7 b hb).2.1,(h7 b hb).2.2.1,fun c=>c.elim (h7 b hb).2.2.2 (fun c=>by omega)⟩
 · rcases Qw.1 hy with rfl | hy
   · exact hx.mono (fun k hk h=>h.elim (fun h=>.inl (h1 k h)) (fun h=>.inr ⟨h,hk⟩))
   · exact ((h8 y hy).turned0 T).mono (fun _ _ h=>.inl h)
theorem CM.stepB {q O D:Nat→Prop} {l l':TL} (hN:N=w1.heap.size) (h1:∀ k,k < N→q k) (b1:BD2 q bb wb O D m mw l lw W) (b2:∀ k,O k→N≤k) (b3:∀ k,D k→N≤k) (b4:Turned zN w1 W) (b5:∀ b∈bx,W.heap[b.1]? = some b.2∧¬ O b.1∧¬ D b.1∧¬ q b.1) (b6:∀ x∈ts,x.In q W) (hl:bt l'=tr') (ha:After q bb O m' l' W W'):CM N bb wb m' mw tr' lw bx ts w1 W':=by
 obtain ⟨O',a1,a2,a3⟩:=b1.stepB ha;refine ⟨q,l',O',D,h1,hl,a1,fun k hk=>?_,b3,b4.step a3 (fun i hi e=>by have:=b2 i e;omega),fun b hb=>?_,fun x hx=>LT.In.turned a3 (fun k hk hq e=>b1.b.sep k hq e) (fun _ _ q=>q) _ (b6 x hx)⟩
 · rcases Nat.lt_or_ge k W.heap.size with h | h
   · exact b2 k (a2 k hk h)
   · have:=b4.size;omega
 · obtain ⟨c1,c2,c3⟩:=b5 b hb
   have hlt:=(zL c1);exact ⟨(a3.block _ hlt c2).trans c1,fun e=>c2 (a2 _ e hlt),c3⟩
theorem CM.stepD {q O D:Nat→Prop} {l:TL} (hN:N=w1.heap.size) (h1:∀ k,k < N→q k) (b1:BD2 q bb wb O D m mw l lw W) (b2:∀ k,O k→N≤k) (b3:∀ k,D k→N≤k) (b4:Turned zN w1 W) (b5:∀ b∈bx,W.heap[b.1]? = some b.2∧¬ O b.1∧¬ D b.1∧¬ q b.1) (b6:∀ x∈ts,x.In q W) (hl:bt l=tr) (ha:AfterD q wb D m' lw' W W'):CM N bb wb m m' tr lw' bx ts w1 W':=by
 obtain ⟨D',a1,a2,a3⟩:=b1.stepD ha;refine ⟨q,l,O,D',h1,hl,a1,b2,fun k hk=>?_,b4.step a3 (fun i hi e=>by have:=b3 i e;omega),fun b hb=>?_,fun x hx=>LT.In.turned a3 (fun k hk hq e=>b1.d.sep k hq e) (fun _ _ q=>q) _ (b6 x hx)⟩
 · rcases Nat.lt_or_ge k W.heap.size with h | h
   · exact b3 k (a2 k hk h)
   · have:=b4.size;omega
 · obtain ⟨c1,c2,c3,c4⟩:=b5 b hb
   have hlt:=(zL c1);exact ⟨(a3.block _ hlt c3).trans c1,c2,fun e=>c3 (a2 _ e hlt),c4⟩
theorem CM.fresh (hN:N=w1.heap.size) (h:CM N bb wb m mw tr lw bx ts w1 W) (hm:m < 65536) :
 Calls Try.prog 87 #[.pointer (some ⟨bb,0,none⟩)] W fun e w'=>e = .returned (.tuple #[.agg #[.int .i64 0,.int .i64 (m:Int),.string ByteArray.empty,.slice none 0 0],.bool true])∧CM N bb wb (m+1) mw tr lw bx ts w1 w':=by
 obtain ⟨q,tl,O,D,h1,rfl,h3,h4,h5,h6,h7,h8⟩:=h;refine (freshO87 h3.b hm).mono ?_
 rintro e w' ⟨rfl,ha⟩
 exact ⟨rfl,CM.stepB hN h1 h3 h4 h5 h6 h7 h8 rfl ha⟩
theorem CM.freshD (hN:N=w1.heap.size) (h:CM N bb wb m mw tr lw bx ts w1 W) (hm:mw < 65536) :
 Calls Try.prog 103 #[.pointer (some ⟨wb,0,none⟩)] W fun e w'=>e = .returned (.tuple #[.agg #[.int .i64 0,.int .i64 (mw:Int),.string ByteArray.empty,.slice none 0 0],.bool true])∧CM N bb wb m (mw+1) tr lw bx ts w1 w':=by
 obtain ⟨q,tl,O,D,h1,rfl,h3,h4,h5,h6,h7,h8⟩:=h;refine (Go.Proofs.Ytoihjobdfjajfaa.freshD h3.d hm).mono ?_
 rintro e w' ⟨rfl,ha⟩
 exact ⟨rfl,CM.stepD hN h1 h3 h4 h5 h6 h7 h8 rfl ha⟩
theorem CM.known (h:CM N bb wb m mw tr lw bx ts w1 W) (hx:x∈ts) {b:Bool} (hb:Tm.ownB mw x.bare=b):Calls Try.prog 99 #[.pointer (some ⟨wb,0,none⟩),.agg #[.int .i64 x.kind,.int .i64 x.n,.string x.name,.slice x.at_.1 x.args.length x.at_.2]] W fun e w'=>e = .returned (.bool b)∧Turned zN W w':=by
 obtain ⟨q,tl,O,D,h1,rfl,h3,h4,h5,h6,h7,h8⟩:=h;have:=known99 h3.d (h8 x hx);rw [←ownB_bare,hb,LT.val_eq] at this;exact this
theorem CM.both (hN:N=w1.heap.size) (h:CM N bb wb m mw tr lw bx ts w1 W) (hx:x∈ts) (hy:y∈ts) {ok:Bool} {c g:Int} (hR:bothR mw lw x.bare y.bare=(ok,c,g,lw')) :
 Calls Try.prog 117 #[.pointer (some ⟨wb,0,none⟩),.agg #[.int .i64 x.kind,.int .i64 x.n,.string x.name,.slice x.at_.1 x.args.length x.at_.2],.agg #[.int .i64 y.kind,.int .i64 y.n,.string y.name,.slice y.at_.1 y.args.length y.at_.2]] W fun e w'=>e = .returned (.tuple #[.bool ok,.int .i64 c,.int .i64 g])∧CM N bb wb m mw tr lw' bx ts w1 w':=by
 obtain ⟨q,tl,O,D,h1,rfl,h3,h4,h5,h6,h7,h8⟩:=h;have:=both117 h3.d (h8 x hx) (h8 y hy);rw [hR,LT.val_eq,LT.val_eq] at this;refine this.mono ?_
 rintro e w' ⟨rfl,ha⟩
 exact ⟨rfl,CM.stepD hN h1 h3 h4 h5 h6 h7 h8 rfl ha⟩
theorem CM.binds (h:CM N bb wb m mw tr lw bx ts w1 W):∃ bxD us,BM N bb (bxD++bx) (us++ts) w1 m tr W∧∀ (W':World) (m':Nat) (tr':Tm.Trail) (ts':List LT) (bx':List (Nat × Obj)),BM N bb bx' (us++ts') w1 m' tr' W'→(∀ b∈bxD,b∈bx')→CM N bb wb m' mw tr' lw [] ts' w1 W':=by
 obtain ⟨q,tl,O,D,h1,rfl,h3,h4,h5,h6,h7,h8⟩:=h;obtain ⟨bxD,us,d1,d2,d3⟩:=h3.d.kept;refine ⟨bxD,us,⟨q,tl,O,h1,rfl,h3.b,h4,h6,fun b hb=>?_,fun x hx=>?_⟩,fun W' m' tr' ts' bx' hB hsub=>?_⟩
 · rcases Qn.1 hb with hb | hb
   · obtain ⟨e1,e2⟩:=d1 b hb
     exact ⟨e2,fun c=>h3.dis _ c e1,fun c=>h3.d.sep _ c e1⟩
   · obtain ⟨e1,e2,e3,e4⟩:=h7 b hb
     exact ⟨e1,e2,e4⟩
 · rcases Qn.1 hx with hx | hx
   · exact d2 x hx
   · exact h8 x hx
 · obtain ⟨q',l',O',g1,g2,g3,g4,g5,g6,g7⟩:=hB
   refine ⟨q',l',O',_,g1,g2,⟨g3,d3 q' W' (fun b hb=>(g6 b (hsub b hb)).1) (fun u hu=>g7 u (Qc _ hu)) (fun k hk=>⟨g3.plt k hk,fun b hb e=>(g6 b (hsub b hb)).2.2 (e ▸ hk)⟩),fun k hk c=>?_⟩,g4,fun k hk=>?_,g5,(fun b hb=>by cases hb),fun x hx=>g7 x (Qj _ hx)⟩
   · obtain ⟨b,hb,rfl⟩:=c
     exact (g6 b (hsub b hb)).2.1 hk
   · obtain ⟨b,hb,rfl⟩:=hk
     exact h5 _ (d1 b hb).1
end
end Go.Proofs.Ytoihjobdfjajfaa
namespace Go.Proofs.Ytoihjobdfjajfaa
open Lib (hid)
open Go.RowKit Go.Maps
theorem closureAny157 {p O:Nat→Prop} {bb m K:Nat} {l:TL} {w:World} {x:LT} {b:Bool} (h:BO p bb O m l w) (hx:x.In p w) (hs:slim x) (ho:Tm.ownB m x=b) (hK:w.heap[K]? = some (.cells #[.pointer (some ⟨bb,0,none⟩)] 93 (0,0))) :
 Calls Try.prog 157 #[.agg #[.int .i64 x.kind,.int .i64 x.n,.string x.name,.slice x.at_.1 x.args.length x.at_.2],.pointer (some ⟨K,0,none⟩)] w fun e w'=>e = .returned (.bool (!b))∧Turned zN w w':=by
 have hk0:=cell_of_row w K 0 _ 93 (0,0) hK;simp only [List.getElem?_toArray,List.getElem?_cons_zero] at hk0;have T1:Turned zN w (w.alloc (.cells #[.int .i64 x.kind,.int .i64 x.n,.string x.name,.slice x.at_.1 x.args.length x.at_.2] 27)):=(Turned.refl _ w).alloc _;have hnew:=heap_alloc_new w (.cells #[.int .i64 x.kind,.int .i64 x.n,.string x.name,.slice x.at_.1 x.args.length x.at_.2] 27)
 have hown:Calls Try.prog 144 #[.pointer (some ⟨bb,0,none⟩),.agg #[.int .i64 x.kind,.int .i64 x.n,.string x.name,.slice x.at_.1 x.args.length x.at_.2]] (w.alloc (.cells #[.int .i64 x.kind,.int .i64 x.n,.string x.name,.slice x.at_.1 x.args.length x.at_.2] 27)) fun e w'=>e = .returned (.bool b)∧Turned zN (w.alloc (.cells #[.int .i64 x.kind,.int .i64 x.n,.string x.name,.slice x.at_.1 x.args.length x.at_.2] 27)) w':=by
  obtain ⟨sb,lv,tv,B,hO⟩:=(h.turned0 T1).bi;have:=own144 B (hx.turned0 T1) hs;rw [LT.val_eq,ho] at this;exact this
 have k0:=(T1.cell0 hk0);obtain ⟨c0,c1,c2,c3,_⟩:=cells4 hnew;have HOW:=hid hown;have HT1:=hid T1;clear h hx hs ho hK T1 hnew hown;go_enter Try.func157,Try.ntmps157
 go_wp2_with (go_at_call 144;(with_reducible refine HOW.out.mono ?_);rintro e w3 ⟨rfl,T3⟩;have HT3:=hid T3;clear T3)
 go_ret;exact ⟨rfl,HT1.out.trans HT3.out⟩
theorem indexSome177 {p:Nat→Prop} {l:List LT} {a:Option Addr} {c:Nat} {cap:Value} {w:World} (B:LT→Bool) (h:LT.Sl p w a c l) (hcall:∀ x∈l,∀ W,Turned zN w W→Calls Try.prog 157 #[.agg #[.int .i64 x.kind,.int .i64 x.n,.string x.name,.slice x.at_.1 x.args.length x.at_.2],cap] W fun e w'=>e = .returned (.bool (B x))∧Turned zN W w') (hB:∃ x∈l,B x=true) :
 Calls Try.prog 177 #[.slice a l.length c,.func (.func 157) #[] #[cap]] w fun e w'=>∃ k:Nat,e = .returned (.int .i64 (k:Int))∧Turned zN w w':=by
 have hc1:=h.cap;have hm1:=h.max;unfold maxLen at hm1;have henter:=enter157;have HL:=hid h;have HC:=hid hcall;have HBX:=hid hB;clear h hcall hB;go_enter Try.func177,Try.ntmps177
 go_wp2_with fail
 go_loopg [8] l.length (fun g i wr=>∃ j:Nat,Hid (j+g=l.length)∧j≤l.length∧i = .int .i64 j∧Hid (∀ x∈l.take j,B x=false)∧Hid (Turned zN w wr))
 case atStart=>exact ⟨0,Nat.zero_add _,Nat.zero_le _,rfl,(fun x hx=>by cases hx),Turned.refl _ _⟩
 case round=>
  obtain ⟨j,HG,hj,rfl,HF,HT⟩:=hrel
  by_cases hjl:j < l.length
  · have dj:decide ((j:Int) < (l.length:Int))=true:=decide_eq_true (by omega)
    obtain ⟨x,hx⟩:∃ x:LT,l[j]? = some x:=⟨_,Qa hjl⟩;obtain ⟨b1,o1,rfl,_,k0,k1,k2,k3⟩:=(HL.out.turned0 HT.out).lies.cell hx;have HCX:=hid (HC.out x (Qf hx));have HXJ:=hid hx;clear hx;obtain ⟨bx,hbx⟩:∃ b,b=B x:=⟨_,rfl⟩;rw [←hbx] at HCX;have HBE:=hid hbx;clear hbx
    cases bx with
    | true=>
     go_wp2_with (go_at_call 157;(with_reducible refine (HCX.out wr HT.out).mono ?_);rintro e w3 ⟨rfl,T3⟩;have HT3:=hid T3;clear T3)
     go_ret;exact ⟨j,rfl,HT.out.trans HT3.out⟩
    | false=>
     go_wp2_with (go_at_call 157;(with_reducible refine (HCX.out wr HT.out).mono ?_);rintro e w3 ⟨rfl,T3⟩;have HT3:=hid T3;clear T3)
     go_roundg (gk - 1)
     case measure=>have:=HG.out;omega
     case rel=>
      refine ⟨j+1,show _=_ by have:=HG.out;omega,by omega,by go_num,fun y hy=>?_,HT.out.trans HT3.out⟩;rw [List.take_add_one,HXJ.out] at hy
      rcases Qn.1 hy with hy | hy
      · exact HF.out y hy
      · obtain rfl:y=x:=by simpa using hy
        exact HBE.out.symm
  · obtain rfl:j=l.length:=by omega
    have:=HF.out;rw [List.take_length] at this;obtain ⟨x,hx,hb⟩:=HBX.out;rw [this x hx] at hb
    cases hb
theorem containsSome158 {p:Nat→Prop} {l:List LT} {a:Option Addr} {c:Nat} {cap:Value} {w:World} (B:LT→Bool) (h:LT.Sl p w a c l) (hcall:∀ x∈l,∀ W,Turned zN w W→Calls Try.prog 157 #[.agg #[.int .i64 x.kind,.int .i64 x.n,.string x.name,.slice x.at_.1 x.args.length x.at_.2],cap] W fun e w'=>e = .returned (.bool (B x))∧Turned zN W w') (hB:∃ x∈l,B x=true) :
 Calls Try.prog 158 #[.slice a l.length c,.func (.func 157) #[] #[cap]] w fun e w'=>e = .returned (.bool true)∧Turned zN w w':=by
 have hi:=indexSome177 B h hcall hB;have HI:=hid hi;clear h hcall hi hB;go_enter Try.func158,Try.ntmps158
 go_wp2_with (go_at_call 177;(with_reducible refine HI.out.mono ?_);rintro e w3 ⟨k,rfl,T3⟩;have dk:decide ((0:Int)≤(k:Int))=true:=decide_eq_true (by omega);have HT3:=hid T3;clear T3)
 go_ret;exact ⟨rfl,HT3.out⟩
section
variable {N bb nL cL m:Nat} {ar sl rg:Int} {aL:Option Addr} {bx:List (Nat × Obj)} {ts:List LT} {w1 w:World} {tr:Tm.Trail} {x:LT}
set_option maxRecDepth 100000 in
theorem matchStrange121 (hN:N=w1.heap.size) (h:BM N bb bx ts w1 m tr w) (hx:x∈ts) (har:ar=(x.args.length:Int))
 (hgood:∀ W,(∀ b∈bx,W.heap[b.1]? = some b.2)→Calls Try.prog 95 #[.agg #[.int .i64 ar,.int .i64 sl,.int .i64 rg,.slice aL nL cL]] W fun e w'=>e = .returned (.bool true)∧Turned zN W w')
 (hsl:∀ y∈x.args,slim y) (hstr:∃ y∈x.args,Tm.ownB m y=false) :
 Calls Try.prog 121 #[.pointer (some ⟨bb,0,none⟩),.agg #[.int .i64 ar,.int .i64 sl,.int .i64 rg,.slice aL nL cL],.slice x.at_.1 x.args.length x.at_.2] w fun e w'=>e = .returned (.tuple #[.slice none 0 0,.bool false,.int .i64 1])∧Turned zN w w':=by
 subst har;have T2:=((Turned.refl (fun _=>False) w).alloc (.cells #[.pointer (some ⟨bb,0,none⟩)] 93)).alloc (.cells #[.int .i64 (x.args.length:Int),.int .i64 sl,.int .i64 rg,.slice aL nL cL] 104)
 have hb2:BM N bb ((w.heap.size+1,.cells #[.int .i64 (x.args.length:Int),.int .i64 sl,.int .i64 rg,.slice aL nL cL] 104 (0,0)) :: (w.heap.size,.cells #[.pointer (some ⟨bb,0,none⟩)] 93 (0,0)) :: bx) ts w1 m tr ((w.alloc (.cells #[.pointer (some ⟨bb,0,none⟩)] 93)).alloc (.cells #[.int .i64 (x.args.length:Int),.int .i64 sl,.int .i64 rg,.slice aL nL cL] 104)):=by
  have:=(h.box (.cells #[.pointer (some ⟨bb,0,none⟩)] 93)).box (.cells #[.int .i64 (x.args.length:Int),.int .i64 sl,.int .i64 rg,.slice aL nL cL] 104);rw [show (w.alloc (.cells #[.pointer (some ⟨bb,0,none⟩)] 93)).heap.size=w.heap.size+1 by simp] at this;exact this
 obtain ⟨w2,hw2⟩:∃ z,z=(w.alloc (.cells #[.pointer (some ⟨bb,0,none⟩)] 93)).alloc (.cells #[.int .i64 (x.args.length:Int),.int .i64 sl,.int .i64 rg,.slice aL nL cL] 104):=⟨_,rfl⟩;rw [←hw2] at hb2 T2
 have hcx:∀ W,Turned zN w2 W→(W.cell? ⟨w.heap.size+1,0,none⟩=some (.int .i64 (x.args.length:Int))∧W.cell? ⟨w.heap.size+1,1,none⟩=some (.int .i64 sl)∧W.cell? ⟨w.heap.size+1,2,none⟩=some (.int .i64 rg)∧W.cell? ⟨w.heap.size+1,3,none⟩=some (.slice aL nL cL))∧W.cell? ⟨w.heap.size,0,none⟩=some (.pointer (some ⟨bb,0,none⟩)):=fun W T=>by
  have hbx:=(hb2.turned0 T).boxes;have c1:=cells4 (hbx _ (Qe ..));have c2:=cell_of_row W w.heap.size 0 _ 93 (0,0) (hbx _ (Qb _ (Qe ..)));exact ⟨⟨c1.1,c1.2.1,c1.2.2.1,c1.2.2.2.1⟩,c2⟩
 have hmf:∀ (fn:Fn) (first cap:Array Value) (w:World),(Instr.makeFunc fn first cap).run Try.prog w = .ok (.func fn first cap) w:=fun _ _ _ _=>rfl
 have hbd:∀ W,Turned zN w2 W→∀ b∈bx,W.heap[b.1]? = some b.2:=fun W T b hb=>(hb2.turned0 T).boxes b (Qb _ (Qb _ hb))
 have hyes:∀ W,Turned zN w2 W→Calls Try.prog 158 #[.slice x.at_.1 x.args.length x.at_.2,.func (.func 157) #[] #[.pointer (some ⟨w.heap.size,0,none⟩)]] W fun e w'=>e = .returned (.bool true)∧Turned zN W w':=fun W T=>by
  refine containsSome158 (fun y=>!Tm.ownB m y) (((hb2.turned0 T).terms x hx).sl) (fun y hy W' T'=>?_) (by obtain ⟨y,hy,e⟩:=hstr;exact ⟨y,hy,by rw [e];rfl⟩);have hb':=hb2.turned0 (T.trans T');have hK:=hb'.boxes _ (Qb _ (Qe ..));obtain ⟨q,O,l,g1,g2,g3,g4,_⟩:=hb'.call hN;exact closureAny157 g1 ((LT.ins_iff _).1 (g4 x hx).args y hy) (hsl y hy) rfl hK
 have HW2:=hid hw2;have HCX:=hid hcx;have HBD:=hid hbd;have HYS:=hid hyes;have HGD:=hid hgood;have HT2:=hid T2;obtain ⟨⟨k0,k1,k2,k3⟩,j0⟩:=hcx w2 (Turned.refl _ _);clear h hb2 hw2 hcx hbd hyes hgood hN hx hsl hstr T2;go_enter Try.func121,Try.ntmps121
 go_wp2_with fail
 rw [←HW2.out]
 go_wp2_with (first
  | (go_at_call 158;have HT3:=HT3;(with_reducible refine (HYS.out _ HT3.out).mono ?_);rintro e w4 ⟨rfl,T4⟩;have HT4:=hid (HT3.out.trans T4);clear T4)
  | (go_at_call 95;(with_reducible refine (HGD.out w2 (HBD.out w2 (Turned.refl _ _))).mono ?_);rintro e w3 ⟨rfl,T3⟩;have HT3:=hid T3;clear T3;obtain ⟨⟨k0,k1,k2,k3⟩,j0⟩:=HCX.out w3 HT3.out))
 go_ret3
 exact ⟨rfl,HT2.out.trans HT4.out⟩
end
end Go.Proofs.Ytoihjobdfjajfaa
namespace Go.Proofs.Ytoihjobdfjajfaa
open Go.RowKit Go.Maps
section
variable {m:Nat} (hm:m≤65536) {x y:Tm Unit} {c1 c2 e1 e2:Int} {t1 t2:Tm.Trail}
include hm
theorem both_own {ok:Bool} (h:bothR m [] x y=(ok,c1,0,t1)):Tm.ownB m x=true∧Tm.ownB m y=true∧Tm.UniOk m [] 2000 [(x,y)] (Tm.unify [] 2000 [(x,y)])∧(ok=true↔∃ q,Tm.unify [] 2000 [(x,y)] = .ok t1 q)∧(ok=false→t1=[]∧∃ q,Tm.unify [] 2000 [(x,y)] = .no q):=by
 unfold bothR at h
 split at h
 · rename_i h1
   have hu:Tm.UniOk m [] 2000 [(x,y)] (Tm.unify [] 2000 [(x,y)]):=Tm.unify_spec hm _ [] 2000 [(x,y)] trivial (fun p hp=>by rw [List.mem_singleton] at hp;rw [hp];exact h1) _ rfl;refine ⟨h1.1,h1.2,hu,?_⟩;clear hu;revert h
   cases Tm.unify [] 2000 [(x,y)] with
   | ok l q=>
    intro h;simp only [Prod.mk.injEq] at h;obtain ⟨rfl,_,_,rfl⟩:=h;exact ⟨⟨fun _=>⟨q,rfl⟩,fun _=>rfl⟩,fun e=>by cases e⟩
   | no q=>
    intro h;simp only [Prod.mk.injEq] at h;obtain ⟨rfl,_,_,rfl⟩:=h;exact ⟨⟨fun e=>(by cases e),fun ⟨q,e⟩=>by cases e⟩,fun _=>⟨rfl,q,rfl⟩⟩
   | over=>
    intro h;simp only [Prod.mk.injEq] at h;obtain ⟨_,_,h,_⟩:=h
    cases h
 · simp only [Prod.mk.injEq] at h
   obtain ⟨_,_,h,_⟩:=h
   cases h
end
theorem plain_size {a b:Tm Unit} (ha:Tm.leafy a) (hb:Tm.leafy b) (h:Tm.plainT a=Tm.plainT b):a.size=b.size∧a.depth=b.depth:=by
 have h1:=congrArg Tm.size h;have h2:=congrArg Tm.depth h;unfold Tm.plainT Tm.fromT at h1 h2;rw [Tm.size_ren _ ha,Tm.size_ren _ hb] at h1;rw [Tm.depth_ren _ a ha,Tm.depth_ren _ b hb] at h2;exact ⟨h1,h2⟩
end Go.Proofs.Ytoihjobdfjajfaa
namespace Go.Proofs.Ytoihjobdfjajfaa
namespace Tm
def nilT:Tm Unit:=.mk 2 0 ⟨#[91,93]⟩ () []
theorem subT_listB (θ:Int→Tm Unit) (l:List (Tm Unit)):subT θ (listB l nilT)=listB (l.map (subT θ)) nilT:=by
 induction l with
 | nil=>
  rw [List.map_nil,listB_nil,subT_node θ (show ¬ nilT.kind=0 by decide)];rfl
 | cons x l ih=>
  rw [Qx,listB_cons,listB_cons,subT_node θ (show ¬ (Tm.mk 2 0 dot () [x,listB l nilT]).kind=0 by simp only [kind];omega)];simp only [kind_mk,n_mk,name_mk,args_mk,Qx,List.map_nil,ih]
theorem listB_flat {x:Tm Unit}:∀ {l:List (Tm Unit)},x∈(listB l nilT).flat→(∃ y∈l,x∈y.flat)∨x=nilT∨∃ a b,x = .mk 2 0 dot () [a,b]
 | [],h=>by
  rw [listB_nil,flat_eq] at h;simp [nilT,flats,args_mk] at h;exact .inr (.inl h)
 | z :: l,h=>by
  rw [listB_cons,flat] at h;simp only [flats,Qw,Qn,Ql,or_false] at h
  rcases h with h | h | h
  · exact .inr (.inr ⟨_,_,h⟩)
  · exact .inl ⟨z,Qe ..,h⟩
  · rcases listB_flat h with ⟨y,hy,h⟩ | h | h
    · exact .inl ⟨y,Qb _ hy,h⟩
    · exact .inr (.inl h)
    · exact .inr (.inr h)
theorem listB_leafy {l:List (Tm Unit)} (h:∀ y∈l,leafy y):leafy (listB l nilT):=by
 intro x hx hk
 rcases listB_flat hx with ⟨y,hy,hx⟩ | rfl | ⟨a,b,rfl⟩
 · exact h y hy x hx hk
 · exact absurd hk (by decide)
 · simp only [kind_mk] at hk;omega
theorem listB_good {X Y:List (Tm Unit)} (hX:goodB (listB X nilT)=true) (hY:∀ y∈Y,goodB y=true) (he:plainT (listB X nilT)=plainT (listB Y nilT)):goodB (listB Y nilT)=true:=by
 have lx:=good_leafy hX;have ly:=listB_leafy (fun y hy=>good_leafy (hY y hy));obtain ⟨e1,e2⟩:=plain_size lx ly he;unfold goodB at hX ⊢;simp only [Qd,decide_eq_true_eq,Qt] at hX ⊢;refine ⟨by omega,by omega,fun x hx=>?_⟩
 rcases listB_flat hx with ⟨y,hy,hx⟩ | rfl | ⟨a,b,rfl⟩
 · exact good_ones' (hY y hy) x hx
 · kernel_rfl
 · rw [goodOneB_2 _ rfl]
   simp only [n_mk,name_mk,args_mk,QB,List.length_nil]
   exact show (decide ((0:Int)=0) && (goodNameB dot && decide ((0:Nat)+1+1≤8)))=true from by kernel_rfl
section
variable {α:Type} {t:Tm α} {a s:List (Tm Unit)} {m mb mw:Nat} {lb lw:Trail}
def lookB (lb:Trail) (a s:List (Tm Unit)):List (Tm Unit):=a.map (img lb)++s.map (img lb)
def lookW (lw:Trail) (a:List (Tm Unit)) (m n:Nat):List (Tm Unit):=a.map (img lw)++(List.range n).map fun (j:Nat)=>img lw (V ((m:Int)+(j:Int)))
theorem look_map {θ:Int→Tm Unit} {l l':Trail} (h1:∀ y∈a,subT θ (img l y)=img l' y) (f g:Nat→Tm Unit) {n:Nat} (h2:∀ j,j < n→subT θ (img l (f j))=img l' (g j)):(a.map (img l)++(List.range n).map (fun j=>img l (f j))).map (subT θ)=a.map (img l')++(List.range n).map (fun j=>img l' (g j)):=by
 rw [List.map_append,List.map_map,List.map_map];congr 1
 · exact List.map_congr_left fun y hy=>h1 y hy
 · exact List.map_congr_left fun j hj=>h2 j (List.mem_range.1 hj)
theorem look_slots (lb:Trail) (s:List (Tm Unit)):s.map (img lb)=(List.range s.length).map fun j=>img lb (s.getD j (V 0)):=by
 refine List.ext_getElem? (fun j=>?_);rw [Qp,Qp]
 by_cases hj:j < s.length
 · rw [List.getElem?_range hj,Qa hj,Option.map_some,Option.map_some,List.getD_eq_getElem?_getD,Qa hj]
   rfl
 · rw [List.getElem?_eq_none (by omega),List.getElem?_eq_none (by rw [List.length_range];omega)]
   rfl
theorem match_plain (E:MEqs t a s m lb lw) (ob:okT mb lb) (ow:okT mw lw) (ha:∀ z∈a,leafy z) (hs:∀ z∈s,leafy z) :
 plainT (listB (lookB lb a s) nilT)=plainT (listB (lookW lw a m s.length) nilT):=by
 have lx:leafy (listB (lookB lb a s) nilT):=listB_leafy (fun y hy=>by
  rcases Qn.1 hy with hy | hy
  · obtain ⟨z,hz,rfl⟩:=List.mem_map.1 hy;exact img_leafy ob (ha z hz)
  · obtain ⟨z,hz,rfl⟩:=List.mem_map.1 hy;exact img_leafy ob (hs z hz))
 have ly:leafy (listB (lookW lw a m s.length) nilT):=listB_leafy (fun y hy=>by
  rcases Qn.1 hy with hy | hy
  · obtain ⟨z,hz,rfl⟩:=List.mem_map.1 hy;exact img_leafy ow (ha z hz)
  · obtain ⟨j,_,rfl⟩:=List.mem_map.1 hy
    refine img_leafy ow (fun x hx hk=>?_);rw [flat_eq] at hx;simp [V,flats,args_mk] at hx
    subst hx;rfl)
 have hg:∀ j,j < s.length→s[j]? = some (s.getD j (V 0)):=fun j hj=>by
  rw [List.getD_eq_getElem?_getD,Qa hj];rfl
 obtain ⟨θ,f1,f2⟩:=E.fwd;obtain ⟨τ,b1,b2⟩:=E.bwd;refine more_alike lx ly ((moreS_iff _ _).2 ⟨θ,?_⟩) ((moreS_iff _ _).2 ⟨τ,?_⟩)
 · rw [subT_listB]
   unfold lookB lookW;rw [look_slots lb s,look_map f1 (fun j=>s.getD j (V 0)) (fun j=>V ((m:Int)+(j:Int))) (fun j hj=>f2 j _ (hg j hj))]
 · rw [subT_listB]
   unfold lookB lookW;rw [look_slots lb s,look_map b1 (fun j=>V ((m:Int)+(j:Int))) (fun j=>s.getD j (V 0)) (fun j hj=>b2 j _ (hg j hj))]
theorem match_alike (E:MEqs t a s m lb lw) (ob:okT mb lb) (ow:okT mw lw) (ha:∀ z∈a,leafy z) (hs:∀ z∈s,leafy z) (hg:goodB (listB (lookB lb a s) nilT)=true) (hw:∀ y∈lookW lw a m s.length,goodB y=true) :
 alikeB (listB (lookB lb a s) nilT) (listB (lookW lw a m s.length) nilT)=true:=by
 have e:=match_plain E ob ow ha hs;have h2:=listB_good hg hw e;unfold alikeB;rw [hg,h2,bare_unit,bare_unit,(same_unit _ _).2 e];rfl
end
end Tm
end Go.Proofs.Ytoihjobdfjajfaa
namespace Go.Proofs.Ytoihjobdfjajfaa
open Lib (hid)
open Go.RowKit Go.Maps
theorem atom123 (s:ByteArray) (w:World):Calls Try.prog 123 #[.string s] w fun e w'=>e = .returned (.agg #[.int .i64 2,.int .i64 0,.string s,.slice none 0 0])∧Turned zN w w':=by
 go_enter Try.func123,Try.ntmps123
 go_wp2_with fail
 exact bodyPost_ret (v:=.agg #[.int .i64 2,.int .i64 0,.string s,.slice none 0 0]) (results_cell_row Try.results123 _ _ w.heap.size 41 _ (0,0) _ rfl (heap_alloc_new w _) Try.underlying41 rfl (by kernel_rfl)) rfl ⟨rfl,(Turned.refl _ _).alloc _⟩
def ListD (w:World) (us:List LT) (tl:LT) (r:Nat) (W:World):Prop:=
 ∃ t:LT,t.bare=Tm.listB ((us.drop r).map Tm.bare) tl.bare∧t.In (fun k=>k≠w.heap.size∧k≠w.heap.size+1) W∧W.heap[w.heap.size]? = some (.cells #[.int .i64 t.kind,.int .i64 t.n,.string t.name,.slice t.at_.1 t.args.length t.at_.2] 41 (0,0))∧W.heap[w.heap.size+1]? = some (.cells #[.int .i64 0,.int .i64 0,.string ⟨#[]⟩,.slice none 0 0] 41 (0,0))∧Turned zN w W
theorem made2 {p:Nat→Prop} {w:World} {x t:LT} (hx:x.In p w) (ht:t.In p w) (hp:p w.heap.size):LT.In p (w.alloc (.cells #[.int .i64 x.kind,.int .i64 x.n,.string x.name,.slice x.at_.1 x.args.length x.at_.2,.int .i64 t.kind,.int .i64 t.n,.string t.name,.slice t.at_.1 t.args.length t.at_.2] 41)) (.mk 2 0 Tm.dot (some ⟨w.heap.size,0,none⟩,2) [x,t]):=by
 have hr:=Row.made w 41 4 ([x,t].flatMap LT.cells).toArray 2 (by rw [List.size_toArray,LT.flat_length];rfl) (by unfold maxLen;omega)
 have e:([x,t].flatMap LT.cells).toArray = #[.int .i64 x.kind,.int .i64 x.n,.string x.name,.slice x.at_.1 x.args.length x.at_.2,.int .i64 t.kind,.int .i64 t.n,.string t.name,.slice t.at_.1 t.args.length t.at_.2]:=by
  rw [show [x,t].flatMap LT.cells=x.cells++(t.cells++[]) from rfl,LT.cells_eq,LT.cells_eq];rfl
 rw [e] at hr;have T:=(Turned.refl (fun _=>False) w).alloc (.cells #[.int .i64 x.kind,.int .i64 x.n,.string x.name,.slice x.at_.1 x.args.length x.at_.2,.int .i64 t.kind,.int .i64 t.n,.string t.name,.slice t.at_.1 t.args.length t.at_.2] 41)
 have hr':Row (w.alloc (.cells #[.int .i64 x.kind,.int .i64 x.n,.string x.name,.slice x.at_.1 x.args.length x.at_.2,.int .i64 t.kind,.int .i64 t.n,.string t.name,.slice t.at_.1 t.args.length t.at_.2] 41)) 41 4 (.slice (some ⟨w.heap.size,0,none⟩) 2 2) 2 ([x,t].flatMap LT.cells):=by
  have:=hr;rw [←e] at this ⊢;exact this
 exact (LT.Sl.of_row (p:=p) hr' (fun k hk=>by simp [Value.ownBlock] at hk;subst hk;exact hp) ⟨hx.turned0 T,ht.turned0 T,trivial⟩).2.in_ (i64_lit 2 (by omega)) (i64_lit 0 (by omega)) (by unfold maxLen;decide)
set_option maxRecDepth 100000 in
theorem list122 {w:World} {a:Option Addr} {n c:Nat} {us:List LT} {tl:LT} (hr:Row w 41 4 (.slice a n c) n (us.flatMap LT.cells)) (hin:∀ u∈us,u.In (fun _=>True) w) (ht:tl.In (fun _=>True) w) :
 Calls Try.prog 122 #[.slice a n c,.agg #[.int .i64 tl.kind,.int .i64 tl.n,.string tl.name,.slice tl.at_.1 tl.args.length tl.at_.2]] w fun e w'=>∃ u:LT,e = .returned (.agg #[.int .i64 u.kind,.int .i64 u.n,.string u.name,.slice u.at_.1 u.args.length u.at_.2])∧u.bare=Tm.listB (us.map Tm.bare) tl.bare∧u.In (fun _=>True) w'∧Turned zN w w':=by
 have hn:n=us.length:=by have:=hr.1;rw [LT.flat_length] at this;omega
 have hm:=hr.max;unfold maxLen at hm;have h2:=twoBox w (.cells #[.int .i64 tl.kind,.int .i64 tl.n,.string tl.name,.slice tl.at_.1 tl.args.length tl.at_.2] 41) (.cells #[.int .i64 0,.int .i64 0,.string ⟨#[]⟩,.slice none 0 0] 41)
 have HL0:Hid (ListD w us tl n ((w.alloc (.cells #[.int .i64 tl.kind,.int .i64 tl.n,.string tl.name,.slice tl.at_.1 tl.args.length tl.at_.2] 41)).alloc (.cells #[.int .i64 0,.int .i64 0,.string ⟨#[]⟩,.slice none 0 0] 41))):=by
  refine ⟨tl,?_,LT.In.turned h2.1 (fun _ _ _ f=>f) (fun k hk _=>⟨by omega,by omega⟩) tl ht,h2.2.2.1,h2.2.2.2,h2.1⟩;rw [hn,List.drop_length];rfl
 have HR:=hid hr;have HI:=hid hin;have HN:=hid hn;clear hr hin hn ht h2;go_enter Try.func122,Try.ntmps122
 go_wp2_with fail
 go_loopg [5] (n+1) (fun k i wr=>∃ r:Nat,Hid (r+1=k)∧r≤n∧i = .int .i64 ((r:Int) - 1)∧Hid (ListD w us tl r wr))
 case atStart=>exact ⟨n,rfl,Qm _,rfl,HL0.out⟩
 case round=>
  obtain ⟨r,HG,hr,rfl,HL⟩:=hrel
  cases r with
  | zero=>
   obtain ⟨t,h1,h2,h3,h4,h5⟩:=HL.out;obtain ⟨c0,c1,c2,c3,_⟩:=cells4 h3;obtain ⟨d0,d1,d2,d3,_⟩:=cells4 h4
   have hneg:decide ((0:Int)≤((0:Nat):Int) - 1)=false:=by decide
   have HB:=hid h4;have HT:=hid h2;have H1:=hid h1;have H5:=hid h5;clear h1 h2 h3 h4 h5
   go_wp2_with fail
   have hset:=set4 (a':=.int .i64 t.kind) (b':=.int .i64 t.n) (c':=.string t.name) (d':=.slice t.at_.1 t.args.length t.at_.2) HB.out;have Tq:Turned (fun k=>k=w.heap.size+1) wr _:=turned_store4 wr (w.heap.size+1) (.int .i64 t.kind) (.int .i64 t.n) (.string t.name) (.slice t.at_.1 t.args.length t.at_.2);refine bodyPost_ret (results_cell_row Try.results122 _ _ (w.heap.size+1) 41 _ (0,0) _ rfl hset Try.underlying41 rfl (by kernel_rfl)) rfl ⟨t,rfl,by rw [H1.out,List.drop_zero],LT.In.turned Tq (fun k _ hk e=>hk.2 e) (fun _ _ _=>trivial) t HT.out,H5.out.step Tq (fun i hi e=>by omega)⟩
  | succ q=>
   obtain ⟨t,h1,h2,h3,h4,h5⟩:=HL.out;obtain ⟨c0,c1,c2,c3,_⟩:=cells4 h3
   have hql:q < us.length:=by have:=HN.out;omega
   obtain ⟨x,hx⟩:∃ x,us[q]? = some x:=⟨_,Qa hql⟩
   have hdrop:us.drop q=x :: us.drop (q+1):=by
    rw [List.drop_eq_getElem_cons hql];congr 1;rw [Qa hql] at hx;exact Option.some.inj hx
   obtain ⟨g,rfl,x0,x1,x2,x3⟩:=row_at (HR.out.turned0 h5) hx;have hpos:decide ((0:Int)≤(q:Int))=true:=decide_eq_true (by omega);have hlt:decide ((q:Int) < (n:Int))=true:=decide_eq_true (by omega)
   have hqn:q < n:=by omega
   have e:(((q+1:Nat)):Int) - 1=(q:Int):=by omega
   rw [e];have hxi:x.In (fun k=>k≠w.heap.size∧k≠w.heap.size+1) wr:=LT.In.turned h5 (fun _ _ _ f=>f) (fun k hk _=>⟨by omega,by omega⟩) x (HI.out x (Qf hx));have l0:=(zL h3);have l1:=(zL h4);have hmd:=made2 (hxi.turned0 (Turned.refl _ wr).drew) (h2.turned0 (Turned.refl _ wr).drew) ⟨by simp;omega,by simp;omega⟩;have HMD:=hid hmd;have H1:=hid h1;have H3:=hid h3;have H4:=hid h4;have H5:=hid h5;have HD:=hid hdrop;clear h1 h2 h3 h4 h5 hx hdrop hxi hmd e
   go_wp2_with fail
   refine region_tail 5 (by kernel_rfl) (by kernel_rfl) ?_;simp only [List.take_succ_cons,List.take_zero,List.drop_succ_cons,List.drop_zero]
   repeat still_step
   refine wpStill_nil ?_
   go_wp2_with (go_at_call 160;(with_reducible refine (rComp160 _ _ _ _ _).mono ?_);rintro e w2 ⟨rfl,T2⟩;have T0:Turned zN wr w2:=(((Turned.refl _ wr).drew).alloc (.cells #[.int .i64 x.kind,.int .i64 x.n,.string x.name,.slice x.at_.1 x.args.length x.at_.2,.int .i64 t.kind,.int .i64 t.n,.string t.name,.slice t.at_.1 t.args.length t.at_.2] 41)).trans T2;have b3:=(T0.block _ l0 (fun f=>f)).trans H3.out;have b4:=(T0.block _ l1 (fun f=>f)).trans H4.out;obtain ⟨c0,c1,c2,c3,f0,f1,f2,f3⟩:=cells4 b3;have HB3:=hid b3;have HB4:=hid b4;have HMI:=hid (HMD.out.turned0 T2);have HT0:=hid T0;clear b3 b4 T2 T0)
   go_roundg (gk - 1)
   case measure=>have:=HG.out;omega
   case rel=>
    have hset:=set4 (a':=.int .i64 2) (b':=.int .i64 0) (c':=.string ⟨#[46]⟩) (d':=.slice (some ⟨wr.heap.size,0,none⟩) 2 2) HB3.out;have Tq:Turned (fun k=>k=w.heap.size) w2 _:=turned_store4 w2 w.heap.size (.int .i64 2) (.int .i64 0) (.string ⟨#[46]⟩) (.slice (some ⟨wr.heap.size,0,none⟩) 2 2);refine ⟨q,show _=_ by have:=HG.out;omega,by omega,rfl,_,?_,LT.In.turned Tq (fun k _ hk e=>hk.1 e) (fun _ _ hk=>hk) _ HMI.out,hset,(Tq.block _ (zL HB4.out) (by omega)).trans HB4.out,(H5.out.trans HT0.out).step Tq (fun i hi e=>by omega)⟩;rw [HD.out,Qx,Tm.listB_cons,←H1.out];rfl
end Go.Proofs.Ytoihjobdfjajfaa
namespace Go.Proofs.Ytoihjobdfjajfaa
open Go
def Looks7 (pre:List Tmp) (G:Tmp→Value→World→Prop) (ops:Array Oper) (a0 a:Act) (w:World) (s:Tmp):Prop:=
 if s∈ops.toList.filterMap (·.dst)∧s∉pre then G s (a.tmps.getD s undef) w else a.tmps.getD s undef=a0.tmps.getD s undef
def chkPair7 (pre:List Tmp) (ops:Array Oper) (N i j:Nat) (oi oj:Oper):Bool:=
 match oj.dst with
 | some d=>decide (d < N) && ((!(oi.looksAt ops).contains d || (match pre.contains d with | true=>waits ops ops.size j i | false=>oi.after.any fun e=>Region.binds .any e && e.on == j)) && (i == j || oi.dst != some d))
 | none=>true
def chkAny7 (pre:List Tmp) (ops:Array Oper) (N:Nat):Bool:=
 (List.range ops.size).all fun i=>((ops[i]?).map fun oi=>chkOrd i oi && (List.range ops.size).all fun j=>((ops[j]?).map fun oj=>chkPair7 pre ops N i j oi oj).getD true).getD true
theorem chkAny7_at {pre:List Tmp} {ops:Array Oper} {N:Nat} (h:chkAny7 pre ops N=true) {i:Nat} {oi:Oper} (hi:ops[i]? = some oi) :
 chkOrd i oi=true∧∀ j oj,ops[j]? = some oj→chkPair7 pre ops N i j oi oj=true:=by
 have hlt:=(zL hi);have:=Qt.1 h i (List.mem_range.2 hlt);rw [hi] at this;simp only [Option.map_some,Option.getD_some,Qd] at this;refine ⟨this.1,fun j oj hj=>?_⟩;have hlj:=(zL hj);have:=Qt.1 this.2 j (List.mem_range.2 hlj);rw [hj] at this;simpa using this
theorem chkPair7_spec {pre:List Tmp} {ops:Array Oper} {N i j:Nat} {oi oj:Oper} (h:chkPair7 pre ops N i j oi oj=true) {d:Tmp} (hd:oj.dst=some d) :
 d < N∧(d∈oi.looksAt ops→(d∈pre∧waits ops ops.size j i=true)∨(d∉pre∧∃ e∈oi.after,Region.binds .any e=true∧e.on=j))∧(i≠j→oi.dst≠some d):=by
 unfold chkPair7 at h;rw [hd] at h;simp only [Qd,decide_eq_true_eq,Bool.or_eq_true,Bool.not_eq_true',beq_iff_eq,bne_iff_ne] at h;obtain ⟨h1,h2,h3⟩:=h;refine ⟨h1,fun hm=>?_,fun hij=>?_⟩
 · rcases h2 with h2 | h2
   · rw [←Bool.not_eq_true,List.contains_iff_mem] at h2
     exact absurd hm h2
   · cases hp:pre.contains d with
     | true=>
      rw [hp] at h2;exact .inl ⟨List.contains_iff_mem.1 hp,h2⟩
     | false=>
      rw [hp] at h2;obtain ⟨e,he,hb⟩:=(Array.any_eq_true' ).1 h2;simp only [Qd,beq_iff_eq] at hb;exact .inr ⟨(fun c=>by rw [List.contains_iff_mem.2 c] at hp;exact Bool.noConfusion hp),e,he,hb⟩
 · rcases h3 with h3 | h3
   · exact absurd h3 hij
   · exact h3
def StepG7 (pre:List Tmp) (P:Program) (G:Tmp→Value→World→Prop) (ops:Array Oper) (a0:Act) (Pre:World→Prop) (Post:Value→World→World→Prop) (o:Oper):Prop:=
 ∀ a w,Pre w→(∀ s∈o.looksAt ops,Looks7 pre G ops a0 a w s)→
  (Region.wanted o (yielded ops a.tmps)=true→Brings P (fun v w'=>Post v w w') ((execOp a.eval o).run P w))∧
  (Region.wanted o (yielded ops a.tmps)=false→Post undef w w)
section
variable {pre:List Tmp} {P:Program} {G:Tmp→Value→World→Prop} {ops:Array Oper} {a0:Act} {w0:World} {Q:Exit→Act→World→Prop} {st:List Nat}
theorem InvA.looks7 {a:Act} {listed:Array Bool} {w:World} (h:InvA G ops a0 a listed w) (hc:chkAny7 pre ops a0.tmps.size=true) (hsh:∀ j o,ops[j]? = some o→listed.getD j false=true→∀ e∈o.after,Region.binds .any e=true→listed.getD e.on false=true) {i:Nat} {oi:Oper} (hi:ops[i]? = some oi) (hr:i∈Region.ready .any ops listed):∀ s∈oi.looksAt ops,Looks7 pre G ops a0 a w s:=by
 intro s hs;obtain ⟨_,o',ho',hall⟩:=mem_ready.1 hr;rw [hi] at ho'
 injection ho' with ho'
 subst ho';unfold Looks7
 split
 · rename_i hm
   obtain ⟨oj,hoj,hd⟩:=List.mem_filterMap.1 hm.1;obtain ⟨j,hj⟩:=List.getElem?_of_mem hoj;rw [Qv] at hj
   rcases (chkPair7_spec ((chkAny7_at hc hi).2 j oj hj) hd).2.1 hs with ⟨c,_⟩ | ⟨_,e,he,hb,hon⟩
   · exact absurd c hm.2
   · exact h.done j oj s hj hd (hon ▸ hall e he hb)
 · rename_i hm
   refine h.rest s fun j oj hj hd=>?_
   rcases (chkPair7_spec ((chkAny7_at hc hi).2 j oj hj) hd).2.1 hs with ⟨_,hw⟩ | ⟨hnp,e,he,hb,hon⟩
   · cases hl:listed.getD j false with
     | false=>rfl
     | true=>
      have:=waits_listed hsh ops.size j i hw hl;rw [unlisted hr] at this
      cases this
   · exact absurd ⟨List.mem_filterMap.2 ⟨oj,Qf (by rw [Qv];exact hj),hd⟩,hnp⟩ hm
theorem InvA.stepG7 {G G':Tmp→Value→World→Prop} {a:Act} {listed:Array Bool} {w w':World} (h:InvA G ops a0 a listed w) (hc:chkAny7 pre ops a0.tmps.size=true) (hG:∀ d v,G d v w→G' d v w') {i:Nat} {oi:Oper} (hi:ops[i]? = some oi) {v:Value} (hv:GD G' oi.dst v w'):InvA G' ops a0 (a.put oi.dst v) (listed.setIfInBounds i true) w':=by
 have hlt:=(zL hi)
 have hli:(listed.setIfInBounds i true).getD i false=true:=by
  have:i < listed.size:=by rw [h.lsize];exact hlt
  simp [this]
 have hbk:∀ j,j≠i→(listed.setIfInBounds i true).getD j false=listed.getD j false:=fun j hj=>getD_set_ne false (Ne.symm hj)
 cases hd:oi.dst with
 | none=>
  refine ⟨h.defers,h.size,by simpa using h.lsize,fun j oj d hj hdj hl=>?_,fun d hall=>h.rest d fun j oj hj hdj=>?_⟩
  · by_cases e:j=i
    · subst e
      rw [hi] at hj
      injection hj with hj
      subst hj;rw [hd] at hdj
      cases hdj
    · rw [hbk j e] at hl
      exact hG _ _ (h.done j oj d hj hdj hl)
  · have h2:=hall j oj hj hdj
    by_cases e:j=i
    · subst e;rw [hli] at h2;cases h2
    · rw [hbk j e] at h2;exact h2
 | some c=>
  have hcN:=(chkPair7_spec ((chkAny7_at hc hi).2 i oi hi) hd).1;rw [hd] at hv
  have hsz:c < a.tmps.size:=by rw [h.size];exact hcN
  refine ⟨h.defers,by simpa [Act.put] using h.size,by simpa using h.lsize,fun j oj d hj hdj hl=>?_,fun d hall=>?_⟩
  · show G' d ((a.tmps.setIfInBounds c v).getD d undef) w'
    rw [getD_set _ _ _ _ hsz]
    by_cases e:j=i
    · subst e
      rw [hi] at hj
      injection hj with hj
      subst hj;rw [hd] at hdj
      injection hdj with hdj
      subst hdj;rw [if_pos rfl];exact hv
    · have hne:=(chkPair7_spec ((chkAny7_at hc hi).2 j oj hj) hdj).2.2 (Ne.symm e)
      rw [hd] at hne
      have hne:d≠c:=fun e'=>hne (by rw [e'])
      rw [if_neg hne];rw [hbk j e] at hl;exact hG _ _ (h.done j oj d hj hdj hl)
  · show (a.tmps.setIfInBounds c v).getD d undef=_
    rw [getD_set _ _ _ _ hsz]
    by_cases e:d=c
    · subst e
      have:=hall i oi hi hd;rw [hli] at this
      cases this
    · rw [if_neg e]
      refine h.rest d fun j oj hj hdj=>?_
      have h2:=hall j oj hj hdj
      by_cases e:j=i
      · subst e;rw [hli] at h2;cases h2
      · rw [hbk j e] at h2;exact h2
theorem all_listed7 (hc:chkAny7 pre ops a0.tmps.size=true) {listed:Array Bool} (hl:listed.size=ops.size) (hr:Region.ready .any ops listed=[]):∀ i,i < ops.size→listed.getD i false=true:=by
 intro i
 induction i using Nat.strongRecOn with
 | ind i ih=>
  intro hi
  cases hlb:listed.getD i false with
  | true=>rfl
  | false=>
   exfalso;have ho:ops[i]? = some ops[i]:=Array.getElem?_eq_getElem hi
   have:i∈Region.ready .any ops listed:=by
    refine mem_ready.2 ⟨?_,_,ho,fun e he hb=>?_⟩
    · have hs:i < listed.size:=by rw [hl];exact hi
      simp [hs] at hlb ⊢;exact hlb
    · have:=Array.all_eq_true_iff_forall_mem.1 (chkAny7_at hc ho).1 e he
      rw [hb] at this;simp at this;exact ih e.on this (by omega)
   rw [hr] at this
   cases this
end
def StepK7 (pre:List Tmp) (P:Program) (hist:List (Tmp × Nat)) (GL:Tmp→Value→Prop) (ops:Array Oper) (a0:Act) (st:List Nat) (R:List (Nat × Value)→World→Prop) (i:Nat) (o:Oper):Prop:=
 match st.contains i with
 | false=>∀ hs,(∀ j n v,waits ops n j i=true→(j,v)∉hs)→StepG7 pre P (fun d v _=>GK hist GL hs d v) ops a0 (R hs) (fun v w w'=>Turned zN w w'∧GDL GL o.dst v) o
 | true=>∀ hs,(∀ v,(i,v)∉hs)→(∀ j n v,waits ops n j i=true→(j,v)∉hs)→StepG7 pre P (fun d v _=>GK hist GL hs d v) ops a0 (R hs) (fun v _ w'=>R (hs++[(i,v)]) w') o
def StepsK7 (pre:List Tmp) (P:Program) (hist:List (Tmp × Nat)) (GL:Tmp→Value→Prop) (ops:Array Oper) (a0:Act) (st:List Nat) (R:List (Nat × Value)→World→Prop):Nat→List Oper→Prop
 | _,[]=>True
 | i,o :: l=>StepK7 pre P hist GL ops a0 st R i o∧StepsK7 pre P hist GL ops a0 st R (i+1) l
theorem StepsK7.at {pre:List Tmp} {P:Program} {hist:List (Tmp × Nat)} {GL:Tmp→Value→Prop} {ops:Array Oper} {a0:Act} {st:List Nat} {R:List (Nat × Value)→World→Prop} {l:List Oper} {b:Nat} (h:StepsK7 pre P hist GL ops a0 st R b l) {j:Nat} {o:Oper} (ho:l[j]? = some o):StepK7 pre P hist GL ops a0 st R (b+j) o:=by
 induction l generalizing b j with
 | nil=>simp at ho
 | cons x l ih=>
  cases j with
  | zero=>simp at ho;subst ho;exact h.1
  | succ j=>
   simp at ho;have:=ih h.2 ho
   rwa [show b+1+j=b+(j+1) from by omega] at this
section
variable {pre:List Tmp} {P:Program} {hist:List (Tmp × Nat)} {GL:Tmp→Value→Prop} {ops:Array Oper} {a0:Act} {w0:World} {Q:Exit→Act→World→Prop} {st:List Nat} {R:List (Nat × Value)→World→Prop}
theorem k7_go (hc:chkAny7 pre ops a0.tmps.size=true) (hk:chkK ops st hist=true) (hRt:∀ hs w w',R hs w→Turned zN w w'→R hs w') (hs:StepsK7 pre P hist GL ops a0 st R 0 ops.toList)
 (hQ:∀ hs a w,(∀ i∈st,∃ v,(i,v)∈hs)→(∀ i v v',(i,v)∈hs→(i,v')∈hs→v=v')→R hs w→(∀ s,Looks (fun d v _=>GK hist GL hs d v) ops a0 a w s)→a.defers=a0.defers→a.tmps.size=a0.tmps.size→Q .normal a w) :
 ∀ (fuel:Nat) (listed:Array Bool) (a:Act) (w:World) (hs:List (Nat × Value)),listed.toList.count false≤fuel→InvK ops st R listed hs w→InvA (fun d v _=>GK hist GL hs d v) ops a0 a listed w→wpAny P .any ops Q fuel listed a w:=by
 have hk1:∀ i∈st,i < ops.size:=by
  simp only [chkK,Qd,Qt] at hk;intro i hi;simpa using hk.1 i hi
 have hk2:∀ i o d,ops[i]? = some o→o.dst=some d→slotOp hist d=(match st.contains i with | true=>some i | false=>none):=by
  intro i o d ho hd;simp only [chkK,Qd,Qt] at hk;have:=hk.2 i (List.mem_range.2 (zL ho));rw [ho] at this;simp only [hd] at this
  cases hp:st.contains i with
  | true=>rw [hp] at this;simpa using this
  | false=>rw [hp] at this;simpa using this
 intro fuel
 have hend:∀ (listed:Array Bool) (a:Act) (w:World) (hs:List (Nat × Value)),InvK ops st R listed hs w→InvA (fun d v _=>GK hist GL hs d v) ops a0 a listed w→Region.ready .any ops listed=[]→Q .normal a w:=by
  intro listed a w hs hT hI hr;have hall:=all_listed7 hc hI.lsize hr;refine hQ hs a w (fun i hi=>(hT.keys i hi).1 (hall i (hk1 i hi))) hT.uniq hT.state (fun s=>?_) hI.defers hI.size;unfold Looks
  split
  · rename_i hm
    obtain ⟨oj,hoj,hd⟩:=List.mem_filterMap.1 hm;obtain ⟨j,hj⟩:=List.getElem?_of_mem hoj;rw [Qv] at hj;exact hI.done j oj s hj hd (hall j (zL hj))
  · rename_i hm
    refine hI.rest s fun j oj hj hd=>absurd (List.mem_filterMap.2 ⟨oj,?_,hd⟩) hm
    exact Qf (by rw [Qv];exact hj)
 induction fuel with
 | zero=>
  intro listed a w hs' hf hT hI
  have hr:Region.ready .any ops listed=[]:=by
   apply List.eq_nil_iff_forall_not_mem.2;intro i hi;obtain ⟨hfalse,o,ho,_⟩:=mem_ready.1 hi
   have hlt:i < listed.size:=by rw [hI.lsize];exact (zL ho)
   simp [hlt] at hfalse
   have:false∈listed.toList:=by rw [←hfalse];exact Array.getElem_mem_toList hlt
   have:=List.count_pos_iff.2 this;omega
  exact ⟨hr,hend _ _ _ _ hT hI hr⟩
 | succ fuel ih=>
  intro listed a w hs' hf hT hI;refine ⟨hend _ _ _ _ hT hI,fun i hi=>?_⟩;obtain ⟨hfalse,o,ho,_⟩:=mem_ready.1 hi
  have hlt:i < listed.size:=by rw [hI.lsize];exact (zL ho)
  have hcnt:(listed.setIfInBounds i true).toList.count false≤fuel:=by
   have h1:listed.toList[i]? = some false:=by
    simp [hlt] at hfalse;rw [Qv,Array.getElem?_eq_getElem hlt,hfalse]
   have:=count_set h1;rw [Array.toList_setIfInBounds];omega
  have hst1:=hs.at (j:=i) (o:=o) (by rw [Qv];exact ho);rw [Nat.zero_add] at hst1;unfold wpOp;simp only [ho];unfold StepK7 at hst1
  have hli:(listed.setIfInBounds i true).getD i false=true:=by simp [hlt]
  cases hp:st.contains i with
  | false=>
   rw [hp] at hst1
   have hni:i∉st:=by intro e;rw [←List.contains_iff_mem,hp] at e;cases e
   have hst2:=hst1 hs' (hT.later hi) a w hT.state (hI.looks7 hc hT.shut ho hi)
   have hg:∀ v,GDL GL o.dst v→∀ w',GD (fun d v _=>GK hist GL hs' d v) o.dst v w':=by
    intro v hv w'
    cases hd:o.dst with
    | none=>trivial
    | some d=>
     rw [hd] at hv;show GK hist GL hs' d v;unfold GK;rw [hk2 i o d ho hd,hp];exact hv
   have hT':∀ w',R hs' w'→InvK ops st R (listed.setIfInBounds i true) hs' w':=fun w' hR=>by
    refine ⟨hR,fun j hj=>?_,hT.sub,hT.uniq,shut_set hT.shut hI.lsize hi⟩;rw [getD_set_ne false (show i≠j from fun e=>hni (by rw [e];exact hj))];exact hT.keys j hj
   split
   · rename_i hw
     refine .inl ?_
     exact Brings.upon (hst2.1 hw) fun v w' hv=>ih _ _ _ hs' hcnt (hT' _ (hRt _ _ _ hT.state hv.1)) (hI.stepG7 hc (fun d v h=>h) ho (hg _ hv.2 _))
   · rename_i hw
     have:=hst2.2 (by simpa using hw);exact ih _ _ _ hs' hcnt (hT' _ hT.state) (hI.stepG7 hc (fun d v h=>h) ho (hg _ this.2 _))
  | true=>
   rw [hp] at hst1
   have hni:i∈st:=by rw [←List.contains_iff_mem];exact hp
   have hst2:=hst1 hs' (hT.not hi) (hT.later hi) a w hT.state (hI.looks7 hc hT.shut ho hi)
   have hg2:∀ v w',GD (fun d u _=>GK hist GL (hs'++[(i,v)]) d u) o.dst v w':=by
    intro v w'
    cases hd:o.dst with
    | none=>trivial
    | some d=>
     show GK hist GL (hs'++[(i,v)]) d v;unfold GK;rw [hk2 i o d ho hd,hp];simp
   have hmono:∀ v d u,GK hist GL hs' d u→GK hist GL (hs'++[(i,v)]) d u:=by
    intro v d u h;unfold GK at h ⊢
    split at h
    · exact Qc _ h
    · exact h
   have hT':∀ v w',R (hs'++[(i,v)]) w'→InvK ops st R (listed.setIfInBounds i true) (hs'++[(i,v)]) w':=fun v w' hR=>by
    refine ⟨hR,fun j hj=>?_,fun j u hm=>?_,fun j u u' h1 h2=>?_,shut_set hT.shut hI.lsize hi⟩
    · by_cases e:j=i
      · subst e
        rw [hli];exact ⟨fun _=>⟨v,by simp⟩,fun _=>rfl⟩
      · rw [getD_set_ne false (Ne.symm e),hT.keys j hj]
        constructor
        · rintro ⟨u,hu⟩;exact ⟨u,Qc _ hu⟩
        · rintro ⟨u,hu⟩
          rcases Qn.1 hu with hu | hu
          · exact ⟨u,hu⟩
          · simp at hu;exact absurd hu.1 e
    · rcases Qn.1 hm with hm | hm
      · exact hT.sub j u hm
      · simp at hm;rw [hm.1];exact hni
    · rcases Qn.1 h1 with h1 | h1 <;> rcases Qn.1 h2 with h2 | h2
      · exact hT.uniq j u u' h1 h2
      · simp at h2;rw [h2.1] at h1;exact absurd h1 (hT.not hi _)
      · simp at h1;rw [h1.1] at h2;exact absurd h2 (hT.not hi _)
      · simp at h1 h2;rw [h1.2,h2.2]
   split
   · rename_i hw
     refine .inl ?_
     exact Brings.upon (hst2.1 hw) fun v w' hv=>ih _ _ _ (hs'++[(i,v)]) hcnt (hT' v _ hv) (hI.stepG7 hc (fun d u h=>hmono v d u h) ho (hg2 v w'))
   · rename_i hw
     have:=hst2.2 (by simpa using hw);exact ih _ _ _ (hs'++[(i,undef)]) hcnt (hT' undef _ this) (hI.stepG7 hc (fun d u h=>hmono undef d u h) ho (hg2 undef w))
theorem wp_region_k7 {id:Nat} (pre:List Tmp) (dl:List Tmp) (st:List Nat) (hist:List (Tmp × Nat)) (GL:Tmp→Value→Prop) (R:List (Nat × Value)→World→Prop) (hdl:ops.toList.filterMap (·.dst)=dl) (hm:P.follows .mixedOrders=true) (hc:chkAny7 pre ops a0.tmps.size=true) (hk:chkK ops st hist=true)
 (hR0:∀ w,Turned zN w0 w→R [] w) (hRt:∀ hs w w',R hs w→Turned zN w w'→R hs w') (hs:StepsK7 pre P hist GL ops a0 st R 0 ops.toList)
 (hQ:∀ (hs:List (Nat × Value)) (vs:Tmp→Value) w,(∀ i∈st,∃ v,(i,v)∈hs)→(∀ i v v',(i,v)∈hs→(i,v')∈hs→v=v')→R hs w→(∀ s∈dl,GK hist GL hs s (vs s))→Q .normal ⟨dl.foldl (fun t d=>t.setIfInBounds d (vs d)) a0.tmps,a0.defers⟩ w):(Code.region id ops true).wp P Q a0 w0:=by
 refine wp_region_any hm (k7_go hc hk hRt hs ?_ _ _ _ _ [] ?_ ⟨hR0 _ ((Turned.refl _ w0).drew),fun i hi=>?_,fun i v h=>(Ql h).elim,fun i v v' h=>(Ql h).elim,fun j o ho hj=>?_⟩ ?_)
 · intro hs a w hall huniq hR hL hd hsz
   have:=hQ hs (fun d=>a.tmps.getD d undef) w hall huniq hR (fun s hs=>by
    have:=hL s;unfold Looks at this;rw [hdl,if_pos hs] at this
    exact this)
   have e:a=⟨dl.foldl (fun t d=>t.setIfInBounds d (a.tmps.getD d undef)) a0.tmps,a0.defers⟩:=by
    cases a with | mk tmps defers=>
    simp only at hd hsz this ⊢;subst hd;congr 1;apply Array.ext
    · rw [fold_size];exact hsz
    · intro i h1 h2
      have h3:i < a0.tmps.size:=by rw [←hsz];exact h1
      have hf:=fold_getD (fun d=>tmps.getD d undef) dl a0.tmps i h3;have hl:=hL i;unfold Looks at hl;rw [hdl] at hl;have e1:=getD_lt tmps i h1;have e2:=getD_lt _ i h2;rw [←e1,←e2,hf]
      by_cases hm:i∈dl
      · rw [if_pos hm]
      · rw [if_neg hm] at hl ⊢
        exact hl
   rw [e];exact this
 · rw [Array.toList_replicate,List.count_replicate_self]
   exact Qm _
 · constructor
   · intro h
     exfalso;simp only [Array.getD_eq_getD_getElem?] at h
     cases hx:(Array.replicate ops.size false)[i]? with
     | none=>rw [hx] at h;cases h
     | some b=>
      rw [hx] at h;rw [Array.getElem?_replicate] at hx
      split at hx
      · injection hx with hx;subst hx;cases h
      · cases hx
   · rintro ⟨v,h⟩;exact (Ql h).elim
 · have hlt:=(zL ho)
   simp [hlt] at hj
 · refine ⟨rfl,rfl,by simp,fun j oj d hj hd hl=>?_,fun d _=>rfl⟩
   have hlt:=(zL hj);simp [hlt] at hl
end
def chkIns7 (pre:List Tmp) (ops:Array Oper) (o:Oper) (ins outs:List Tmp):Bool:=
 (ins.all fun s=>(o.looksAt ops).contains s && ((ops.toList.filterMap (·.dst)).contains s && !pre.contains s)) && (outs.all fun s=>(o.looksAt ops).contains s && (!(ops.toList.filterMap (·.dst)).contains s || pre.contains s))
section
variable {pre:List Tmp} {P:Program} {G:Tmp→Value→World→Prop} {ops:Array Oper} {a0:Act} {w0:World} {o:Oper}
theorem chkIns7_ins {ins outs:List Tmp} (h:chkIns7 pre ops o ins outs=true) {a:Act} {w:World} (hl:∀ s∈o.looksAt ops,Looks7 pre G ops a0 a w s) :
 (∀ s∈ins,G s (a.tmps.getD s undef) w)∧(∀ s∈outs,a.tmps.getD s undef=a0.tmps.getD s undef):=by
 simp only [chkIns7,Qd,Qt,List.contains_iff_mem,Bool.not_eq_true',Bool.or_eq_true,←Bool.not_eq_true] at h;refine ⟨fun s hs=>?_,fun s hs=>?_⟩
 · have h1:=h.1 s hs
   have:=hl s h1.1;unfold Looks7 at this
   rwa [if_pos h1.2] at this
 · have h1:=h.2 s hs
   have:=hl s h1.1;unfold Looks7 at this
   rwa [if_neg (fun c=>h1.2.elim (fun e=>e c.1) (fun e=>c.2 e))] at this
theorem stepG7_free {Pre:World→Prop} {Post:Value→World→World→Prop} (ins outs:List Tmp) (hck:chkIns7 pre ops o ins outs=true) (hg:o.guard=none)
 (h:∀ (a:Act) (w:World),Pre w→(∀ s∈ins,G s (a.tmps.getD s undef) w)→(∀ s∈outs,a.tmps.getD s undef=a0.tmps.getD s undef)→Brings P (fun v w'=>Post v w w') ((execOp a.eval o).run P w)):StepG7 pre P G ops a0 Pre Post o:=by
 intro a w hT hl;obtain ⟨h1,h2⟩:=chkIns7_ins hck hl;refine ⟨fun _=>h a w hT h1 h2,fun hw=>?_⟩;unfold Region.wanted at hw;rw [hg] at hw;simp at hw
theorem zS {Pre : World → Prop} {Post : Value → World → World → Prop} (ins outs : List Tmp)
    (h : ∀ (a : Act) (w : World), Pre w → (∀ s ∈ ins, G s (a.tmps.getD s undef) w) → (∀ s ∈ outs, a.tmps.getD s undef = a0.tmps.getD s undef) → Brings P (fun v w' => Post v w w') ((execOp a.eval o).run P w)) (hck : chkIns7 pre ops o ins outs = true := by kernel_rfl) (hg : o.guard = none := by exact rfl) : StepG7 pre P G ops a0 Pre Post o := stepG7_free ins outs hck hg h
end
end Go.Proofs.Ytoihjobdfjajfaa
namespace Go.Proofs.Ytoihjobdfjajfaa
open Go.RowKit Go.Maps
def agLT (o:LT):Value:=.agg #[.int .i64 o.kind,.int .i64 o.n,.string o.name,.slice o.at_.1 o.args.length o.at_.2]
structure TwoR (X Y:Value) (nx ny:Nat) (xc yc:List Value) (t u:LT) (w0:World) (hs:Hist) (W:World):Prop where
 td:Turned (fun k=>X.ownBlock=some k∨Y.ownBlock=some k) w0 W
 made:∀ v,(2,v)∈hs→∃ o:LT,v=agLT o∧o.bare=t.bare∧o.In (fun k=>w0.heap.size≤k∧(∀ x,(4,x)∈hs→x.ownBlock≠some k)∧∀ x,(8,x)∈hs→x.ownBlock≠some k) W
 old:(∀ v,(4,v)∉hs)→Row W 41 4 X nx xc
 one:∀ v,(3,v)∈hs→(∀ x,(4,x)∉hs)→∃ (S:Nat) (o:LT),(2,agLT o)∈hs∧v = .slice (some ⟨S,0,none⟩) 1 1∧w0.heap.size≤S∧W.heap[S]? = some (.cells o.cells.toArray 41 (0,0))
 new:∀ v,(4,v)∈hs→∃ (g cap:Nat) (o:LT),(2,agLT o)∈hs∧v = .slice (some ⟨g,0,none⟩) (nx+1) cap∧Row W 41 4 v (nx+1) (xc++o.cells)∧(some g=X.ownBlock∨w0.heap.size≤g)
 cy:Chain 41 4 Y ny yc u.cells 7 8 w0 hs W
 ne:∀ v v',(4,v)∈hs→(8,v')∈hs→∀ k,v.ownBlock=some k→v'.ownBlock≠some k
 a9:∀ v,(9,v)∈hs→(4,v)∈hs
 a10:∀ v,(10,v)∈hs→(8,v)∈hs
theorem snoc_ne {a q:Nat} {v x:Value} {hs:Hist} (ha:a≠q) (hm:(a,v)∈hs++[(q,x)]):(a,v)∈hs:=by
 rcases mem_snoc hm with hm | ⟨c,_⟩
 · exact hm
 · exact absurd c ha
theorem snoc_l {a q:Nat} {v x:Value} {hs:Hist} (h:(a,v)∈hs):(a,v)∈hs++[(q,x)]:=Qc _ h
section
variable {X Y:Value} {nx ny:Nat} {xc yc:List Value} {t u:LT} {w0 W W':World} {hs:Hist}
theorem TwoR.start (hX:Row w0 41 4 X nx xc) (hY:Row w0 41 4 Y ny yc) (T:Turned zN w0 W):TwoR X Y nx ny xc yc t u w0 [] W:=
 ⟨T.mono (fun _ _ f=>f.elim),fun v h=>(Ql h).elim,fun _=>hX.turned0 T,fun v h=>(Ql h).elim,fun v h=>(Ql h).elim,Chain.start hY T,fun v v' h=>(Ql h).elim,fun v h=>(Ql h).elim,fun v h=>(Ql h).elim⟩
theorem TwoR.turned0 (h:TwoR X Y nx ny xc yc t u w0 hs W) (T:Turned zN W W'):TwoR X Y nx ny xc yc t u w0 hs W':=by
 refine ⟨h.td.trans (T.mono (fun _ _ f=>f.elim)),fun v hv=>?_,fun hn=>(h.old hn).turned0 T,fun v hv hn=>?_,fun v hv=>?_,h.cy.turned0 T,h.ne,h.a9,h.a10⟩
 · obtain ⟨o,e1,e2,e3⟩:=h.made v hv
   exact ⟨o,e1,e2,e3.turned0 T⟩
 · obtain ⟨S,o,e1,e2,e3,e4⟩:=h.one v hv hn
   exact ⟨S,o,e1,e2,e3,(T.block S (zL e4) (fun f=>f)).trans e4⟩
 · obtain ⟨g,cap,o,e1,e2,e3,e4⟩:=h.new v hv
   exact ⟨g,cap,o,e1,e2,e3.turned0 T,e4⟩
theorem TwoR.yblk (h:TwoR X Y nx ny xc yc t u w0 hs W) {v:Value} (hv:(8,v)∈hs):∀ k,v.ownBlock=some k→k < W.heap.size:=by
 obtain ⟨g,cap,e1,e2,_⟩:=h.cy.new v hv
 exact fun k hk=>e2.lt k hk
theorem TwoR.xblk (h:TwoR X Y nx ny xc yc t u w0 hs W) {v:Value} (hv:(4,v)∈hs):∀ k,v.ownBlock=some k→k < W.heap.size:=by
 obtain ⟨g,cap,o,e0,e1,e2,_⟩:=h.new v hv
 exact fun k hk=>e2.lt k hk
theorem TwoR.own {o:LT} (h:TwoR X Y nx ny xc yc t u w0 hs W) (n3:∀ v,(3,v)∉hs) (n4:∀ v,(4,v)∉hs) (n2:∀ v,(2,v)∉hs) (T:Turned zN W W') (hb:o.bare=t.bare) (hi:o.In (fun k=>W.heap.size≤k) W'):TwoR X Y nx ny xc yc t u w0 (hs++[(2,agLT o)]) W':=by
 have hsz:=h.td.size
 have h8:=fun v (hv:(8,v)∈hs)=>h.yblk hv
 have h':=h.turned0 T;refine ⟨h'.td,fun v hv=>?_,fun hn=>h'.old n4,fun v hv hn=>absurd (snoc_ne (by decide) hv) (n3 v),fun v hv=>absurd (snoc_ne (by decide) hv) (n4 v),h'.cy.other (by decide) (by decide),fun v v' hv=>absurd (snoc_ne (by decide) hv) (n4 v),fun v hv=>snoc_l (h'.a9 v (snoc_ne (by decide) hv)),fun v hv=>snoc_l (h'.a10 v (snoc_ne (by decide) hv))⟩
 rcases mem_snoc hv with hv | ⟨_,rfl⟩
 · exact absurd hv (n2 v)
 · refine ⟨o,rfl,hb,hi.mono (fun k _ hk=>⟨by omega,fun x hx=>absurd (snoc_ne (by decide) hx) (n4 x),fun x hx c=>?_⟩)⟩
   have:=h8 x (snoc_ne (by decide) hx) k c;omega
theorem TwoR.laidX {o:LT} {cs:Array Value} (hcs:cs=o.cells.toArray) (h:TwoR X Y nx ny xc yc t u w0 hs W) (n4:∀ v,(4,v)∉hs) (n3:∀ v,(3,v)∉hs) (h2:(2,agLT o)∈hs):TwoR X Y nx ny xc yc t u w0 (hs++[(3,.slice (some ⟨W.heap.size,0,none⟩) 1 1)]) (W.alloc (.cells cs 41)):=by
 subst hcs;have T:Turned zN W (W.alloc (.cells o.cells.toArray 41)):=(Turned.refl _ W).alloc _;have h':=h.turned0 T;refine ⟨h'.td,fun v hv=>?_,fun hn=>h'.old n4,fun v hv hn=>?_,fun v hv=>absurd (snoc_ne (by decide) hv) (n4 v),h'.cy.other (by decide) (by decide),fun v v' hv=>absurd (snoc_ne (by decide) hv) (n4 v),fun v hv=>snoc_l (h'.a9 v (snoc_ne (by decide) hv)),fun v hv=>snoc_l (h'.a10 v (snoc_ne (by decide) hv))⟩
 · obtain ⟨q,e1,e2,e3⟩:=h'.made v (snoc_ne (by decide) hv)
   exact ⟨q,e1,e2,e3.mono (fun k _ hk=>⟨hk.1,fun x hx=>hk.2.1 x (snoc_ne (by decide) hx),fun x hx=>hk.2.2 x (snoc_ne (by decide) hx)⟩)⟩
 · rcases mem_snoc hv with hv | ⟨_,rfl⟩
   · exact absurd hv (n3 v)
   · exact ⟨_,o,snoc_l h2,rfl,h.td.size,heap_alloc_new W _⟩
theorem TwoR.laidY {cs:Array Value} (hcs:cs=u.cells.toArray) (h:TwoR X Y nx ny xc yc t u w0 hs W) (n7:∀ v,(7,v)∉hs):TwoR X Y nx ny xc yc t u w0 (hs++[(7,.slice (some ⟨W.heap.size,0,none⟩) 1 1)]) (W.alloc (.cells cs 41)):=by
 subst hcs;have T:Turned zN W (W.alloc (.cells u.cells.toArray 41)):=(Turned.refl _ W).alloc _;have h':=h.turned0 T;refine ⟨h'.td,fun v hv=>?_,fun hn=>h'.old (fun v c=>hn v (snoc_l c)),fun v hv hn=>?_,fun v hv=>?_,h.cy.laid h.td.size (by decide) n7,fun v v' hv hv'=>h'.ne v v' (snoc_ne (by decide) hv) (snoc_ne (by decide) hv'),fun v hv=>snoc_l (h'.a9 v (snoc_ne (by decide) hv)),fun v hv=>snoc_l (h'.a10 v (snoc_ne (by decide) hv))⟩
 · obtain ⟨q,e1,e2,e3⟩:=h'.made v (snoc_ne (by decide) hv)
   exact ⟨q,e1,e2,e3.mono (fun k _ hk=>⟨hk.1,fun x hx=>hk.2.1 x (snoc_ne (by decide) hx),fun x hx=>hk.2.2 x (snoc_ne (by decide) hx)⟩)⟩
 · obtain ⟨S,q,e1,e2,e3,e4⟩:=h'.one v (snoc_ne (by decide) hv) (fun x c=>hn x (snoc_l c))
   exact ⟨S,q,snoc_l e1,e2,e3,e4⟩
 · obtain ⟨g,cap,q,e1,e2,e3,e4⟩:=h'.new v (snoc_ne (by decide) hv)
   exact ⟨g,cap,q,snoc_l e1,e2,e3,e4⟩
theorem TwoR.appX {g cap:Nat} {o:LT} (hX:∀ k,X.ownBlock=some k→k < w0.heap.size) (hXY:∀ k,X.ownBlock=some k→Y.ownBlock≠some k) (h:TwoR X Y nx ny xc yc t u w0 hs W) (n4:∀ v,(4,v)∉hs) (n9:∀ v,(9,v)∉hs) (h2:(2,agLT o)∈hs) (T:Turned (fun k=>X.ownBlock=some k) W W') (hr:Row W' 41 4 (.slice (some ⟨g,0,none⟩) (nx+1) cap) (nx+1) (xc++o.cells)) (hg:some g=X.ownBlock∨g=W.heap.size) :
 TwoR X Y nx ny xc yc t u w0 (hs++[(4,.slice (some ⟨g,0,none⟩) (nx+1) cap)]) W':=by
 have hsz:=h.td.size;refine ⟨h.td.step T (fun i hi e=>.inl e),fun v hv=>?_,fun hn=>absurd (Qj _ (List.mem_singleton.2 rfl)) (hn _),fun v hv hn=>absurd (Qj _ (List.mem_singleton.2 rfl)) (hn _),fun v hv=>?_,(h.cy.turned T (fun k hk=>⟨hX k hk,hXY k hk⟩)).other (by decide) (by decide),fun v v' hv hv' k hk c=>?_,fun v hv=>absurd (snoc_ne (by decide) hv) (n9 v),fun v hv=>snoc_l (h.a10 v (snoc_ne (by decide) hv))⟩
 · obtain ⟨q,e1,e2,e3⟩:=h.made v (snoc_ne (by decide) hv)
   refine ⟨q,e1,e2,LT.In.turned T (fun k _ hk c=>by have:=hX k c;omega) (fun k hk hp=>⟨hp.1,fun x hx c=>?_,fun x hx=>hp.2.2 x (snoc_ne (by decide) hx)⟩) q e3⟩
   rcases mem_snoc hx with hx | ⟨_,rfl⟩
   · exact n4 x hx
   · simp only [Value.ownBlock,Option.some.injEq] at c
     subst c
     rcases hg with hg | hg
     · have:=hX g hg.symm;omega
     · omega
 · rcases mem_snoc hv with hv | ⟨_,rfl⟩
   · exact absurd hv (n4 v)
   · exact ⟨g,cap,o,snoc_l h2,rfl,hr,hg.imp_right (fun e=>by omega)⟩
 · rcases mem_snoc hv with hv | ⟨_,rfl⟩
   · exact n4 v hv
   · have hv8:=snoc_ne (by decide) hv'
     simp only [Value.ownBlock,Option.some.injEq] at hk;subst hk;have hl:=h.yblk hv8 g c;obtain ⟨g',cap',e1,_,e3⟩:=h.cy.new v' hv8;rw [e1] at c;simp only [Value.ownBlock,Option.some.injEq] at c;subst c
     rcases hg with hg | hg
     · rcases e3 with e3 | e3
       · exact hXY g' hg.symm e3.symm
       · have:=hX g' hg.symm;omega
     · omega
theorem TwoR.appY {g cap:Nat} (hX:∀ k,X.ownBlock=some k→k < w0.heap.size) (hY:∀ k,Y.ownBlock=some k→k < w0.heap.size) (hXY:∀ k,X.ownBlock=some k→Y.ownBlock≠some k) (h:TwoR X Y nx ny xc yc t u w0 hs W) (n8:∀ v,(8,v)∉hs) (n10:∀ v,(10,v)∉hs) (T:Turned (fun k=>Y.ownBlock=some k) W W') (hr:Row W' 41 4 (.slice (some ⟨g,0,none⟩) (ny+1) cap) (ny+1) (yc++u.cells)) (hg:some g=Y.ownBlock∨g=W.heap.size) :
 TwoR X Y nx ny xc yc t u w0 (hs++[(8,.slice (some ⟨g,0,none⟩) (ny+1) cap)]) W':=by
 have hsz:=h.td.size;refine ⟨h.td.step T (fun i hi e=>.inr e),fun v hv=>?_,fun hn=>(h.old (fun v c=>hn v (snoc_l c))).turned T (fun k hk c=>hXY k hk c),fun v hv hn=>?_,fun v hv=>?_,Chain.appended n8 hr (hg.imp_right fun e=>by omega),fun v v' hv hv' k hk c=>?_,fun v hv=>snoc_l (h.a9 v (snoc_ne (by decide) hv)),fun v hv=>absurd (snoc_ne (by decide) hv) (n10 v)⟩
 · obtain ⟨q,e1,e2,e3⟩:=h.made v (snoc_ne (by decide) hv)
   refine ⟨q,e1,e2,LT.In.turned T (fun k _ hk c=>by have:=hY k c;omega) (fun k hk hp=>⟨hp.1,fun x hx=>hp.2.1 x (snoc_ne (by decide) hx),fun x hx c=>?_⟩) q e3⟩
   rcases mem_snoc hx with hx | ⟨_,rfl⟩
   · exact n8 x hx
   · simp only [Value.ownBlock,Option.some.injEq] at c
     subst c
     rcases hg with hg | hg
     · have:=hY g hg.symm;omega
     · omega
 · obtain ⟨S,q,e1,e2,e3,e4⟩:=h.one v (snoc_ne (by decide) hv) (fun x c=>hn x (snoc_l c))
   exact ⟨S,q,snoc_l e1,e2,e3,(T.block S (zL e4) (fun c=>by have:=hY S c;omega)).trans e4⟩
 · obtain ⟨g',cap',q,e1,e2,e3,e4⟩:=h.new v (snoc_ne (by decide) hv)
   refine ⟨g',cap',q,snoc_l e1,e2,e3.turned T (fun k hk c=>?_),e4⟩;rw [e2] at hk;simp only [Value.ownBlock,Option.some.injEq] at hk;subst hk
   rcases e4 with e4 | e4
   · exact hXY _ e4.symm c
   · have:=hY _ c;omega
 · rcases mem_snoc hv' with hv' | ⟨_,rfl⟩
   · exact n8 v' hv'
   · have hv4:=snoc_ne (by decide) hv
     simp only [Value.ownBlock,Option.some.injEq] at c;subst c;have hl:=h.xblk hv4 g hk;obtain ⟨g',cap',q,_,e1,_,e3⟩:=h.new v hv4;rw [e1] at hk;simp only [Value.ownBlock,Option.some.injEq] at hk;subst hk
     rcases hg with hg | hg
     · rcases e3 with e3 | e3
       · exact hXY g' e3.symm hg.symm
       · have:=hY g' hg.symm;omega
     · omega
theorem TwoR.set9 {v:Value} (h:TwoR X Y nx ny xc yc t u w0 hs W) (n9:∀ v,(9,v)∉hs) (h4:(4,v)∈hs):TwoR X Y nx ny xc yc t u w0 (hs++[(9,v)]) W:=by
 refine ⟨h.td,fun x hx=>?_,fun hn=>h.old (fun x c=>hn x (snoc_l c)),fun x hx hn=>?_,fun x hx=>?_,h.cy.other (by decide) (by decide),fun x x' hx hx'=>h.ne x x' (snoc_ne (by decide) hx) (snoc_ne (by decide) hx'),fun x hx=>?_,fun x hx=>snoc_l (h.a10 x (snoc_ne (by decide) hx))⟩
 · obtain ⟨q,e1,e2,e3⟩:=h.made x (snoc_ne (by decide) hx)
   exact ⟨q,e1,e2,e3.mono (fun k _ hk=>⟨hk.1,fun x hx=>hk.2.1 x (snoc_ne (by decide) hx),fun x hx=>hk.2.2 x (snoc_ne (by decide) hx)⟩)⟩
 · obtain ⟨S,q,e1,e2,e3,e4⟩:=h.one x (snoc_ne (by decide) hx) (fun x c=>hn x (snoc_l c))
   exact ⟨S,q,snoc_l e1,e2,e3,e4⟩
 · obtain ⟨g,cap,q,e1,e2,e3,e4⟩:=h.new x (snoc_ne (by decide) hx)
   exact ⟨g,cap,q,snoc_l e1,e2,e3,e4⟩
 · rcases mem_snoc hx with hx | ⟨_,rfl⟩
   · exact absurd hx (n9 x)
   · exact snoc_l h4
theorem TwoR.set10 {v:Value} (h:TwoR X Y nx ny xc yc t u w0 hs W) (n10:∀ v,(10,v)∉hs) (h8:(8,v)∈hs):TwoR X Y nx ny xc yc t u w0 (hs++[(10,v)]) W:=by
 refine ⟨h.td,fun x hx=>?_,fun hn=>h.old (fun x c=>hn x (snoc_l c)),fun x hx hn=>?_,fun x hx=>?_,h.cy.other (by decide) (by decide),fun x x' hx hx'=>h.ne x x' (snoc_ne (by decide) hx) (snoc_ne (by decide) hx'),fun x hx=>snoc_l (h.a9 x (snoc_ne (by decide) hx)),fun x hx=>?_⟩
 · obtain ⟨q,e1,e2,e3⟩:=h.made x (snoc_ne (by decide) hx)
   exact ⟨q,e1,e2,e3.mono (fun k _ hk=>⟨hk.1,fun x hx=>hk.2.1 x (snoc_ne (by decide) hx),fun x hx=>hk.2.2 x (snoc_ne (by decide) hx)⟩)⟩
 · obtain ⟨S,q,e1,e2,e3,e4⟩:=h.one x (snoc_ne (by decide) hx) (fun x c=>hn x (snoc_l c))
   exact ⟨S,q,snoc_l e1,e2,e3,e4⟩
 · obtain ⟨g,cap,q,e1,e2,e3,e4⟩:=h.new x (snoc_ne (by decide) hx)
   exact ⟨g,cap,q,snoc_l e1,e2,e3,e4⟩
 · rcases mem_snoc hx with hx | ⟨_,rfl⟩
   · exact absurd hx (n10 x)
   · exact snoc_l h8
theorem TwoR.done {v v':Value} (h:TwoR X Y nx ny xc yc t u w0 hs W) (h9:(9,v)∈hs) (h10:(10,v')∈hs) (huniq:∀ i v v',(i,v)∈hs→(i,v')∈hs→v=v') :
 ∃ (g cap g' cap':Nat) (o:LT),v = .slice (some ⟨g,0,none⟩) (nx+1) cap∧v' = .slice (some ⟨g',0,none⟩) (ny+1) cap'∧g≠g'∧o.bare=t.bare∧o.In (fun k=>w0.heap.size≤k∧k≠g∧k≠g') W∧Row W 41 4 (.slice (some ⟨g,0,none⟩) (nx+1) cap) (nx+1) (xc++o.cells)∧Row W 41 4 (.slice (some ⟨g',0,none⟩) (ny+1) cap') (ny+1) (yc++u.cells)∧(some g=X.ownBlock∨w0.heap.size≤g)∧(some g'=Y.ownBlock∨w0.heap.size≤g')∧Turned (fun k=>X.ownBlock=some k∨Y.ownBlock=some k) w0 W:=by
 have h4:=h.a9 v h9;have h8:=h.a10 v' h10;obtain ⟨g,cap,o,e0,e1,e2,e3⟩:=h.new v h4;obtain ⟨g',cap',f1,f2,f3⟩:=h.cy.new v' h8;obtain ⟨q,q1,q2,q3⟩:=h.made _ e0;subst e1 f1
 have hc:o.cells=q.cells:=by
  unfold agLT at q1
  injection q1 with q1
  rw [LT.cells_eq,LT.cells_eq];exact congrArg Array.toList q1
 rw [hc] at e2;have hq:=q3.mono (q:=fun k=>w0.heap.size≤k∧k≠g∧k≠g') (fun k _ hk=>⟨hk.1,fun c=>hk.2.1 _ h4 (by rw [c];rfl),fun c=>hk.2.2 _ h8 (by rw [c];rfl)⟩);refine ⟨g,cap,g',cap',q,rfl,rfl,fun c=>h.ne _ _ h4 h8 g rfl (by rw [c];rfl),q2,hq,e2,f2,e3,f3,h.td⟩
end
end Go.Proofs.Ytoihjobdfjajfaa
namespace Go.Proofs.Ytoihjobdfjajfaa
open Lib (hid)
open Go.RowKit
set_option maxRecDepth 100000 in
theorem own96 {p:Nat→Prop} (n:Nat):∀ (t:LT) (w:World),t.depth≤n→t.In p w→slim t→
 Calls Try.prog 96 #[t.val] w fun e w'=>∃ u:LT,e = .returned u.val∧u.bare=t.bare∧u.In (fun k=>w.heap.size≤k) w'∧Turned zN w w':=by
 induction n with
 | zero=>intro t w h;have:=Tm.depth_pos t;omega
 | succ n ih=>
  intro t w hd ht hsl;obtain ⟨i0,hi0,hz0,hz1,hz2⟩:=info_parts infoR;have hl12:t.args.length≤12:=hsl t (by rw [Tm.flat_eq];exact Qe ..)
  have hcall:∀ x:LT,x∈t.args→∀ W,x.In p W→Calls Try.prog 96 #[x.val] W fun e w'=>∃ u:LT,e = .returned u.val∧u.bare=x.bare∧u.In (fun k=>W.heap.size≤k) w'∧Turned zN W w':=fun x hx W hW=>ih x W (by have:=arg_depth hx;omega) hW (fun y hy=>hsl y (by rw [Tm.flat_eq];exact Qb _ (mem_flats_arg hx hy)))
  have HC:=hid hcall;have HIN:=hid ht
  have hL:=fun W h=>(LT.In.lies (p:=p) (w:=W) (t:=t) h)
  rw [LT.val_eq];obtain ⟨ad,had⟩:∃ z,z=t.at_.1:=⟨_,rfl⟩;obtain ⟨cd,hcd⟩:∃ z,z=t.at_.2:=⟨_,rfl⟩;rw [←had] at hL;rw [←had,←hcd];have HL:=hid hL;have H3:=hid (three w (.cells #[.int .i64 t.kind,.int .i64 t.n,.string t.name,.slice ad t.args.length cd] 27) (.cells #[.int .i64 0,.int .i64 0,.string ⟨#[]⟩,.slice none 0 0] 41) (.cells #[.int .i64 t.kind,.int .i64 t.n,.string t.name,.slice none 0 0] 41));clear ih hd hsl hcall ht hL had hcd;go_enter Try.func96,Try.ntmps96
  go_wp2_with fail
  revert H3;generalize (((w.alloc (.cells #[.int .i64 t.kind,.int .i64 t.n,.string t.name,.slice ad t.args.length cd] 27)).alloc (.cells #[.int .i64 0,.int .i64 0,.string ⟨#[]⟩,.slice none 0 0] 41)).alloc (.cells #[.int .i64 t.kind,.int .i64 t.n,.string t.name,.slice none 0 0] 41))=w1;intro H3;obtain ⟨B0,hB0⟩:∃ z,z=w.heap.size:=⟨_,rfl⟩;obtain ⟨B1,hB1⟩:∃ z,z=w.heap.size+1:=⟨_,rfl⟩;obtain ⟨B2,hB2⟩:∃ z,z=w.heap.size+2:=⟨_,rfl⟩;obtain ⟨N,hN⟩:∃ z,z=w.heap.size+3:=⟨_,rfl⟩;rw [←hB1,←hB2,←hN,←hB0] at H3;have HE:=hid (And.intro hB0 (And.intro hB1 (And.intro hB2 hN)))
  try rw [←hB2]
  try rw [←hB1]
  try rw [←hB0]
  clear hB0 hB1 hB2 hN;have hinit:Hid (OwnI N B2 t w1 0 [] none 0 w1):=⟨rfl,H3.out.2.2.2.1,Row.nil _ _ _,trivial,fun b h=>by simp [Value.ownBlock] at h,Turned.refl _ _⟩
  go_loopg [4] t.args.length (fun g i wr=>∃ j:Nat,Hid (j+g=t.args.length)∧j≤t.args.length∧i = .int .i64 j∧∃ us a c,Hid (OwnI N B2 t w1 j us a c wr))
  case atStart=>exact ⟨0,Nat.zero_add _,Nat.zero_le _,rfl,[],none,0,hinit⟩
  case round=>
   obtain ⟨j,HG,hj,rfl,us,a,c,HOI⟩:=hrel;have HTw:Hid (Turned zN w wr):=H3.out.1.step HOI.out.turned (fun i hi e=>by have:=HE.out;omega);have hb0:=(HOI.out.turned.block B0 (zL H3.out.2.2.1) (fun e=>by have:=HE.out;omega)).trans H3.out.2.2.1;obtain ⟨_,_,_,k3,_⟩:=cells4 hb0
   have hlen':us.length=j:=by have:=congrArg List.length HOI.out.bares;rw [Tm.bares_length,Tm.bares_length,List.length_take] at this;omega
   have HUL:=hid hlen';clear hb0 hlen'
   by_cases hjl:j < t.args.length
   · have hx:t.args[j]? = some t.args[j]:=Qa hjl
     obtain ⟨x,hxe⟩:∃ x:LT,x=t.args[j]:=⟨_,rfl⟩;rw [←hxe] at hx;clear hxe;have tin:=HIN.out.turned0 HTw.out;have xin:=(LT.ins_iff _).1 tin.args x (Qf hx);obtain ⟨b,o,rfl,_,c0,c1,c2,c3⟩:=(HL.out _ tin).cell hx
     have hcx:=fun W (h:Turned zN wr W)=>HC.out x (Qf hx) W (xin.turned0 h)
     rw [LT.val_eq x] at hcx;have HCX:=hid hcx;have HX:=hid hx;have HBN:Hid (B2 < N∧N≤wr.heap.size∧w1.heap.size≤N):=⟨by have:=HE.out;omega,by have:=HOI.out.turned.size;have:=H3.out.2.1;omega,by have:=H3.out.2.1;omega⟩;clear hx hcx xin tin
     go_wp2_with fail
     · skip
       refine wp_region_hs [19,20,21,22,23,24,25,26,27,28,29] [7,8,9,11] [4,2,0,0,0,0,0,4,4,4,4,4] [26,27,28,100011] (fun d v=>(match d with | 19=>v = .pointer (some ⟨B2,3,none⟩) | 20=>v = .slice a j c | 21=>v = .pointer (some ⟨B0,3,none⟩) | 22=>v = .slice (some ⟨b,o,none⟩) t.args.length cd | 23=>v = .int .i64 (j:Int) | 24=>v = .pointer (some ⟨b,o+j * 4,none⟩) | 25=>v = .agg #[.int .i64 x.kind,.int .i64 x.n,.string x.name,.slice x.at_.1 x.args.length x.at_.2] | 29=>v = .pointer (some ⟨B2,3,none⟩) | _=>True:Prop)) (OwnS N B2 t x w1 j us a c wr) (by kernel_rfl) rfl (by kernel_rfl) (by kernel_rfl) (by kernel_rfl) (by kernel_rfl) (fun _ h=>h) (fun hs w w' h ht=>OwnS.turned0 hs w w' h ht) ?hs ?hQ
       case hs=>
        refine ⟨?s0,?s1,?s2,?s3,?s4,?s5,?s6,?s7,?s8,?s9,?s10,?s11,trivial⟩
        case s0=>
         refine fun hs hle=>zG [] [3] ?_
         · intro ac W hT hI hO
           simp only [execOp,Act.eval,hO 3 (by simp)];go_simp
           try exact tq
        case s1=>
         refine fun hs hle=>zG [19] [] ?_
         · intro ac W hT hI hO
           have hle:hs.length≤2:=hle;have h19:_=_:=hI 19 (by simp);obtain ⟨_,_,_,d3⟩:=OwnS.blk HOI.out hs W hle hT;simp only [execOp,Act.eval,h19];go_simp;exact ⟨Turned.refl _ _,rfl⟩
        case s2=>
         refine fun hs hle=>zG [] [1] ?_
         · intro ac W hT hI hO
           have hle:hs.length≤0:=hle;simp only [execOp,Act.eval,hO 1 (by simp)];go_simp
           try exact tq
        case s3=>
         refine fun hs hle=>zG [21] [] ?_
         · intro ac W hT hI hO
           have hle:hs.length≤0:=hle;have h21:_=_:=hI 21 (by simp);have hT0:Turned zN wr W:=own_nil (by omega) hT;have e3:=hT0.cell0 k3;have g0:=hT0.cell0 c0;have g1:=hT0.cell0 c1;have g2:=hT0.cell0 c2;have g3:=hT0.cell0 c3;simp only [execOp,Act.eval,h21];go_simp;exact ⟨Turned.refl _ _,rfl⟩
        case s4=>
         refine fun hs hle=>zG [] [4] ?_
         · intro ac W hT hI hO
           have hle:hs.length≤0:=hle;simp only [execOp,Act.eval,hO 4 (by simp)];go_simp
           try exact tq
        case s5=>
         refine fun hs hle=>zG [22,23] [] ?_
         · intro ac W hT hI hO
           have hle:hs.length≤0:=hle;have h22:_=_:=hI 22 (by simp);have h23:_=_:=hI 23 (by simp);simp only [execOp,Act.eval,h22,h23];go_simp
           try rw [if_pos (by omega)]
           try exact tq
        case s6=>
         refine fun hs hle=>zG [24] [] ?_
         · intro ac W hT hI hO
           have hle:hs.length≤0:=hle;have h24:_=_:=hI 24 (by simp);have hT0:Turned zN wr W:=own_nil (by omega) hT;have e3:=hT0.cell0 k3;have g0:=hT0.cell0 c0;have g1:=hT0.cell0 c1;have g2:=hT0.cell0 c2;have g3:=hT0.cell0 c3;simp only [execOp,Act.eval,h24];go_simp;exact ⟨Turned.refl _ _,rfl⟩
        case s7=>
         refine fun hs hlen=>zG [25] [] ?_
         · intro ac W hT hI hO
           have h25:_=_:=hI 25 (by simp);show Brings _ (fun v w'=>OwnS N B2 t x w1 j us a c wr (hs++[v]) w') _;obtain rfl:hs=[]:=Qh hlen;replace hT:Turned zN wr W:=hT;simp only [execOp,Act.eval,h25];go_simp;show Calls Try.prog 96 _ W _
           (with_reducible refine (HCX.out W hT).mono ?_)
           rintro e w' ⟨u,rfl,hb,hu,T'⟩
           exact ⟨_,rfl,hT.trans T',u,rfl,hb,hu.mono (fun k hk h=>QA hT.size h)⟩
        case s8=>
         refine fun hs hlen=>zG [26] [] ?_
         · intro ac W hT hI hO
           have h26:hs[0]? = some (ac.tmps.getD 26 undef):=hI 26 (by simp);show Brings _ (fun v w'=>OwnS N B2 t x w1 j us a c wr (hs++[v]) w') _;obtain ⟨uv,rfl⟩:=List.length_eq_one_iff.1 hlen;obtain ⟨hT1,u,rfl,hb,hu⟩:=hT
           replace h26:ac.tmps.getD 26 undef=u.val:=by simpa using h26.symm
           rw [LT.val_eq] at h26
           have h26':ac.tmps[26]?.getD undef = .agg #[.int .i64 u.kind,.int .i64 u.n,.string u.name,.slice u.at_.1 u.args.length u.at_.2]:=by rw [←Array.getD_eq_getD_getElem?];exact h26
           simp only [execOp,Act.eval,h26];go_simp;have hnew:=heap_alloc_new W (.cells #[.int .i64 u.kind,.int .i64 u.n,.string u.name,.slice u.at_.1 u.args.length u.at_.2] 41);refine ⟨hT1.alloc _,u,W.heap.size,rfl,hb,hu.turned0 ((Turned.refl _ W).alloc _),?_⟩;rw [LT.cells_eq];exact hnew
        case s9=>
         refine fun hs hlen=>zG [20,27] [] ?_
         · intro ac W hT hI hO
           have h20:_=_:=hI 20 (by simp);have h27:hs[1]? = some (ac.tmps.getD 27 undef):=hI 27 (by simp);show Brings _ (fun v w'=>OwnS N B2 t x w1 j us a c wr (hs++[v]) w') _;obtain ⟨uv,sv,rfl⟩:=list2' hlen;obtain ⟨hT1,u,g,rfl,hb,hu,hg⟩:=hT
           replace h27:ac.tmps.getD 27 undef = .slice (some ⟨g,0,none⟩) 1 1:=by simpa using h27.symm
           refine brings_append (.tmp 20) (.tmp 27) 39 rfl 41 i0 zeroR 4 56 Try.underlying39 hi0 hz0 hz1 hz2 rfl (by decide) _ _ _ h20 (HOI.out.row.turned0 hT1) ⟨g,0,none⟩ 1 1 u.cells h27 (LT.cells_length u) (news_block hg) (LT.cells_one u) (by omega) (by unfold maxLen;omega) (by omega) ?_;intro g2 cap2 w2 hrow2 T2 hl2
           have hgw:some g2=(Value.slice a j c).ownBlock∨wr.heap.size≤g2:=by
            rcases hl2 with e | e
            · exact .inl e
            · have:=hT1.size;exact .inr (by omega)
           refine ⟨u,g2,cap2,rfl,hb,hrow2,?_,(hT1.mono (fun _ _ f=>f.elim)).trans T2,hgw⟩;refine hu.turned T2 (fun k hk h e=>?_) (fun k hk h=>⟨h,fun e=>?_⟩)
           · have:=HOI.out.row.lt k e;omega
           · subst e
             rcases hl2 with e | e
             · have:=HOI.out.row.lt k e.symm;omega
             · omega
        case s10=>
         refine fun hs hle=>zG [] [3] ?_
         · intro ac W hT hI hO
           simp only [execOp,Act.eval,hO 3 (by simp)];go_simp
           try exact tq
        case s11=>
         refine fun hs hlen=>zG [29,28] [] ?_
         · intro ac W hT hI hO
           have h29:_=_:=hI 29 (by simp);have h28:hs[2]? = some (ac.tmps.getD 28 undef):=hI 28 (by simp);show Brings _ (fun v w'=>OwnS N B2 t x w1 j us a c wr (hs++[v]) w') _;obtain ⟨uv,sv,av,rfl⟩:=list3' hlen;obtain ⟨u,g,cap,rfl,hb,hrow,hu,hT2,hg⟩:=hT
           replace h28:ac.tmps.getD 28 undef = .slice (some ⟨g,0,none⟩) (j+1) cap:=by simpa using h28.symm
           have hbl:=(hT2.block B2 (zL HOI.out.blk) (fun e=>by have:=HOI.out.own B2 e;have:=HBN.out.1;omega)).trans HOI.out.blk;obtain ⟨_,_,_,d3,_,_,_,f3⟩:=cells4 hbl;simp only [execOp,Act.eval,h29,h28];go_simp;exact ⟨_,_,_,own_close HBN.out.1 HBN.out.2.1 HOI.out HX.out hb hrow hu hT2 hg HBN.out.2.2⟩
       case hQ=>
        intro hs vs w2 hlen hR hV;obtain ⟨e1,e2,e3,e4,rfl⟩:∃ a b c d,hs=[a,b,c,d]:=list4' hlen;obtain ⟨us',a',c',hI⟩:=hR;have HI':=hid hI;simp only [Qq,List.foldl_nil,Qk,Qs,Qr];clear hV hlen hI
        go_wp2_with fail
        go_roundg (gk - 1)
        case measure=>have:=HG.out;omega
        case rel=>exact ⟨j+1,show _=_ by have:=HG.out;omega,by omega,by go_num,us',a',c',HI'⟩
   · obtain rfl:j=t.args.length:=by omega
     have hb1:=(HOI.out.turned.block B1 (zL H3.out.2.2.2.2) (fun e=>by have:=HE.out;omega)).trans H3.out.2.2.2.2;obtain ⟨d0,d1,d2,d3,f0,f1,f2,f3⟩:=cells4 hb1;obtain ⟨g0,g1,g2,g3,_⟩:=cells4 HOI.out.blk;have HB1:=hid hb1;clear hb1
     go_wp2_with fail
     have hset:=set4 (a':=.int .i64 t.kind) (b':=.int .i64 t.n) (c':=.string t.name) (d':=.slice a t.args.length c) HB1.out
     have hge:w.heap.size≤B1:=by have:=HE.out;omega
     have T4:=turned4 (a:=.int .i64 t.kind) (b:=.int .i64 t.n) (c:=.string t.name) (d:=.slice a t.args.length c) HTw.out hge;refine bodyPost_ret (v:=.agg #[.int .i64 t.kind,.int .i64 t.n,.string t.name,.slice a t.args.length c]) (results_cell_row Try.results96 _ _ B1 41 _ (0,0) _ rfl hset Try.underlying41 rfl (by kernel_rfl)) rfl ?_
     have hne:∀ q,(Value.slice a t.args.length c).ownBlock≠some (Addr.block ⟨B1,q,none⟩):=fun q e=>by have h1:N≤B1:=HOI.out.own _ e;have:=HE.out;omega
     have hrow:=((((HOI.out.row.setCell (hne 0) (.int .i64 t.kind)).setCell (hne 1) (.int .i64 t.n)).setCell (hne 2) (.string t.name)).setCell (hne 3) (.slice a t.args.length c));have Tq:Turned (fun k=>k=B1) wr _:=((((Turned.refl (fun k=>k=B1) wr).setCell (p:=⟨B1,0,none⟩) (.inr rfl) (.int .i64 t.kind)).setCell (p:=⟨B1,1,none⟩) (.inr rfl) (.int .i64 t.n)).setCell (p:=⟨B1,2,none⟩) (.inr rfl) (.string t.name)).setCell (p:=⟨B1,3,none⟩) (.inr rfl) (.slice a t.args.length c);have hins:=HOI.out.ins.turned (q:=fun k=>w.heap.size≤k) Tq (fun k _ hk e=>by have:=HE.out;omega) (fun k _ hk=>by have:=HE.out;omega);obtain ⟨e1,e2⟩:=LT.Sl.of_row (p:=fun k=>w.heap.size≤k) hrow (fun k hk=>by have:=HOI.out.own k hk;have:=HE.out;omega) hins;refine ⟨.mk t.kind t.n t.name (a,c) us,?_,?_,e2.in_ HIN.out.kind HIN.out.n HIN.out.name,T4⟩
     · show _=Ending.returned (LT.val (.mk t.kind t.n t.name (a,c) us))
       rw [LT.val_eq];show _=Ending.returned (.agg #[.int .i64 t.kind,.int .i64 t.n,.string t.name,.slice a us.length c]);rw [HUL.out]
     · rw [mk_bare t,Tm.bare,HOI.out.bares,List.take_length]
end Go.Proofs.Ytoihjobdfjajfaa
namespace Go.Proofs.Ytoihjobdfjajfaa
open Lib (hid)
open Go.RowKit Go.Maps
set_option maxRecDepth 100000 in
theorem rFrom80 {p:Nat→Prop} {t:LT} {w:World} {first:Int} (ht:t.In p w) (hf:I64 first) :
 Calls Try.prog 80 #[t.val,.int .i64 first] w fun e w'=>∃ (u:LT) (m er:Int),e = .returned (.tuple #[u.val,.int .i64 m,.int .i64 er])∧FromR t.bare first u.bare m er∧u.In (fun k=>p k∨w.heap.size≤k) w'∧Turned zN w w':=by
 have h2:=twoBox w (.cells #[.int .i64 t.kind,.int .i64 t.n,.string t.name,.slice t.at_.1 t.args.length t.at_.2] 41) (.cells #[.int .i64 0,.int .i64 0,.string ⟨#[]⟩,.slice none 0 0] 41);have hgo:=rGood45 (ht.turned0 h2.1);obtain ⟨hf1,hf2⟩:=hf;have H2:=hid h2
 obtain ⟨p',hp'⟩:∃ q:Nat→Prop,q=fun k=>p k∧k < w.heap.size:=⟨_,rfl⟩
 have HPL:Hid (∀ k,p' k→p k∧k < w.heap.size):=by intro k hq;rw [hp'] at hq;exact hq
 have ht':t.In p' w:=ht.mono (fun k hk h=>by rw [hp'];exact ⟨h,hk⟩);have HIN:=hid ht';clear hp' ht';rw [LT.val_eq] at hgo ⊢;clear ht h2
 have hboxes:∀ W,Turned zN ((w.alloc (.cells #[.int .i64 t.kind,.int .i64 t.n,.string t.name,.slice t.at_.1 t.args.length t.at_.2] 41)).alloc (.cells #[.int .i64 0,.int .i64 0,.string ⟨#[]⟩,.slice none 0 0] 41)) W→
  W.heap[w.heap.size]? = some (.cells #[.int .i64 t.kind,.int .i64 t.n,.string t.name,.slice t.at_.1 t.args.length t.at_.2] 41 (0,0))∧W.heap[w.heap.size+1]? = some (.cells #[.int .i64 0,.int .i64 0,.string ⟨#[]⟩,.slice none 0 0] 41 (0,0)):=fun W h=>
  ⟨(h.bt H2.out.2.2.1),(h.bt H2.out.2.2.2)⟩
 have HBX:=hid hboxes;clear hboxes
 have fin:∀ W,Turned zN ((w.alloc (.cells #[.int .i64 t.kind,.int .i64 t.n,.string t.name,.slice t.at_.1 t.args.length t.at_.2] 41)).alloc (.cells #[.int .i64 0,.int .i64 0,.string ⟨#[]⟩,.slice none 0 0] 41)) W→
  W.heap[w.heap.size+1]? = some (.cells #[.int .i64 0,.int .i64 0,.string ⟨#[]⟩,.slice none 0 0] 41 (0,0))∧
  ((((W.setCell ⟨w.heap.size+1,0,none⟩ (.int .i64 0)).setCell ⟨w.heap.size+1,1,none⟩ (.int .i64 0)).setCell ⟨w.heap.size+1,2,none⟩ (.string ⟨#[]⟩)).setCell ⟨w.heap.size+1,3,none⟩ (.slice none 0 0)).heap[w.heap.size+1]? = some (.cells #[.int .i64 0,.int .i64 0,.string ⟨#[]⟩,.slice none 0 0] 41 (0,0))∧
  Turned zN w ((((W.setCell ⟨w.heap.size+1,0,none⟩ (.int .i64 0)).setCell ⟨w.heap.size+1,1,none⟩ (.int .i64 0)).setCell ⟨w.heap.size+1,2,none⟩ (.string ⟨#[]⟩)).setCell ⟨w.heap.size+1,3,none⟩ (.slice none 0 0)):=fun W h=>by
  obtain ⟨_,b1⟩:=HBX.out W h;exact ⟨b1,set4 b1,turned4 (H2.out.1.trans h) (by omega)⟩
 have FIN:=hid fin;clear fin
 by_cases hall:goodB t=true∧0≤first∧first≤2147483647
 · obtain ⟨hg,h0,h1⟩:=hall
   have hvars:=fun W (h:Turned zN w W)=>rVars51 (HIN.out.turned0 h)
   rw [LT.val_eq] at hvars
   have ev:varsB t=t.vars:=by unfold varsB;rw [if_pos hg]
   have hle:t.vars.length≤2000:=by have:=varsB_le t;rw [ev] at this;exact this
   rw [ev] at hvars;obtain ⟨vs,hvs⟩:∃ z,z=t.vars:=⟨_,rfl⟩;rw [←hvs] at hvars hle;have HV:=hid hvars;have HVS:=hid hvs;have HG:=hid hg;rw [hg] at hgo;have HGO:=hid hgo
   have hnum:∀ x∈t.flat,x.kind=0→x.n∈vs:=fun x hx hk=>by
    rw [hvs,←Tm.vars_bare];exact (Tm.vars_mem x.n).2 ⟨x.bare,by rw [Tm.flat_bare];exact List.mem_map_of_mem hx,by rw [Tm.bare_kind];exact hk,Tm.bare_n x⟩
   have HNUM:=hid hnum;clear hgo hvars hvs hg ev hnum;have d1:decide (first < 0)=false:=decide_eq_false (by omega);have d2:decide (first≥2147483648)=false:=decide_eq_false (by omega);have d2':decide (2147483648≤first)=false:=decide_eq_false (by omega)
   by_cases hov:first+(vs.length:Int)≤2147483648
   · have d3:decide (2147483648 < first+(vs.length:Int))=false:=decide_eq_false (by omega)
     have HREN:=hid (fun va vc W (h:Turned zN w W) hrow=>rename140 (va:=va) (vc:=vc) h0 (by omega) hle t.depth p' t W (Qm _) (HIN.out.turned0 h) (good_ones HG.out) HNUM.out hrow);rw [LT.val_eq t] at HREN;go_enter Try.func80,Try.ntmps80
     go_wp2_with (first
      | (go_at_call 45;(with_reducible refine HGO.out.mono ?_);rintro e w3 ⟨rfl,T3⟩;obtain ⟨b0,b1⟩:=HBX.out _ T3;obtain ⟨c0,c1,c2,c3,_⟩:=cells4 b0;clear b0 b1)
      | (go_at_call 51;(with_reducible refine (HV.out _ (H2.out.1.trans T3)).mono ?_);rintro e w4 ⟨v,rfl,hrow,hown,T4⟩;obtain ⟨va,vc,rfl⟩:=hrow.shape;obtain ⟨b0,b1⟩:=HBX.out _ (T3.trans T4);obtain ⟨g0,g1,g2,g3,_⟩:=cells4 b0;have hmx:=hrow.max;have HROW:=hid hrow;have TT:=H2.out.1.trans (T3.trans T4);clear b0 b1 hrow)
      | (go_at_call 140;(with_reducible refine (HREN.out va vc _ TT HROW.out).mono ?_);rintro e w5 ⟨u,rfl,hub,hui,T5⟩;rw [LT.val_eq u];obtain ⟨b0,b1⟩:=HBX.out _ ((T3.trans T4).trans T5);obtain ⟨_,_,_,_,f0,f1,f2,f3⟩:=cells4 b1;have HB1:=hid b1;have HU:=hid (And.intro hub hui);clear b0 b1 hub hui))
     have hset:=set4 (a':=.int .i64 u.kind) (b':=.int .i64 u.n) (c':=.string u.name) (d':=.slice u.at_.1 u.args.length u.at_.2) HB1.out;have T4':=turned4 (a:=.int .i64 u.kind) (b:=.int .i64 u.n) (c:=.string u.name) (d:=.slice u.at_.1 u.args.length u.at_.2) (TT.trans T5) (g:=w.heap.size+1) (by omega);refine bodyPost_ret (results_cell_tmp2 Try.results80 _ _ (w.heap.size+1) 41 _ (0,0) _ rfl hset Try.underlying41 rfl (by kernel_rfl)) rfl ⟨u,first+(vs.length:Int),0,by rw [LT.val_eq u];rfl,?_,?_,T4'⟩
     · unfold FromR
       rw [if_pos ⟨by rw [goodB_bare];exact HG.out,h0,h1⟩,Tm.vars_bare,←HVS.out,if_pos hov];refine ⟨rfl,rfl,?_⟩;rw [HU.out.1,HVS.out];unfold Tm.fromT;rw [Tm.vars_bare]
     · have Tq:Turned (fun k=>k=w.heap.size+1) w5 _:=((((Turned.refl (fun k=>k=w.heap.size+1) w5).setCell (p:=⟨w.heap.size+1,0,none⟩) (.inr rfl) (.int .i64 u.kind)).setCell (p:=⟨w.heap.size+1,1,none⟩) (.inr rfl) (.int .i64 u.n)).setCell (p:=⟨w.heap.size+1,2,none⟩) (.inr rfl) (.string u.name)).setCell (p:=⟨w.heap.size+1,3,none⟩) (.inr rfl) (.slice u.at_.1 u.args.length u.at_.2)
       have hpl:=HPL.out
       have hsz:w.heap.size+2≤w4.heap.size:=by have:=(T3.trans T4).size;have:=H2.out.2.1;omega
       refine LT.In.turned Tq (fun k _ hk e=>?_) (fun k _ hk=>?_) u HU.out.2
       · rcases hk with h | h
         · have:=(hpl k h).2;omega
         · omega
       · rcases hk with h | h
         · exact .inl (hpl k h).1
         · exact .inr (by omega)
   · have d3:decide (2147483648 < first+(vs.length:Int))=true:=decide_eq_true (by omega)
     go_enter Try.func80,Try.ntmps80
     go_wp2_with (first
      | (go_at_call 45;(with_reducible refine HGO.out.mono ?_);rintro e w3 ⟨rfl,T3⟩;obtain ⟨b0,b1⟩:=HBX.out _ T3;obtain ⟨c0,c1,c2,c3,_⟩:=cells4 b0;clear b0 b1)
      | (go_at_call 51;(with_reducible refine (HV.out _ (H2.out.1.trans T3)).mono ?_);rintro e w4 ⟨v,rfl,hrow,hown,T4⟩;obtain ⟨va,vc,rfl⟩:=hrow.shape;have hmx:=hrow.max;obtain ⟨b1,hset,T4'⟩:=FIN.out _ (T3.trans T4);obtain ⟨d0,d1,d2,d3,f0,f1,f2,f3⟩:=cells4 b1;have HSET:=hid hset;clear hset b1 hrow))
     refine bodyPost_ret (results_cell_tmp2 Try.results80 _ _ (w.heap.size+1) 41 _ (0,0) _ rfl HSET.out Try.underlying41 rfl (by kernel_rfl)) rfl ⟨leaf 0 0 ByteArray.empty,0,3,rfl,?_,vtIn,T4'⟩;unfold FromR;rw [if_pos ⟨by rw [goodB_bare];exact HG.out,h0,h1⟩,Tm.vars_bare,←HVS.out,if_neg (by omega)];exact ⟨rfl,rfl,rfl⟩
 · have hbad:∀ (u:Tm Unit) (m er:Int),FromR t.bare first u m er=(er=1∧m=0∧u=Tm.V 0):=fun u m er=>by
    unfold FromR;rw [if_neg (by rw [goodB_bare];exact hall)]
   have HBAD:=hid hbad;clear hbad
   cases hg:goodB t with
   | false=>
    rw [hg] at hgo;have HGO:=hid hgo;clear hgo hg hall;go_enter Try.func80,Try.ntmps80
    go_wp2_with (go_at_call 45;(with_reducible refine HGO.out.mono ?_);rintro e w3 ⟨rfl,T3⟩;obtain ⟨b1,hset,T4⟩:=FIN.out _ T3;obtain ⟨d0,d1,d2,d3,f0,f1,f2,f3⟩:=cells4 b1;have HSET:=hid hset;clear hset b1)
    refine bodyPost_ret (results_cell_tmp2 Try.results80 _ _ (w.heap.size+1) 41 _ (0,0) _ rfl HSET.out Try.underlying41 rfl (by kernel_rfl)) rfl ⟨leaf 0 0 ByteArray.empty,0,1,rfl,?_,vtIn,T4⟩;rw [HBAD.out];exact ⟨rfl,rfl,rfl⟩
   | true=>
    rw [hg] at hgo;have HGO:=hid hgo
    have hout:first < 0∨2147483647 < first:=by
     rcases Int.lt_or_le first 0 with h | h
     · exact .inl h
     · rcases Int.lt_or_le 2147483647 first with h' | h'
       · exact .inr h'
       · exact absurd ⟨hg,h,h'⟩ hall
    clear hgo hg hall
    rcases hout with hout | hout
    · have d1:decide (first < 0)=true:=decide_eq_true hout
      go_enter Try.func80,Try.ntmps80
      go_wp2_with (go_at_call 45;(with_reducible refine HGO.out.mono ?_);rintro e w3 ⟨rfl,T3⟩;obtain ⟨b1,hset,T4⟩:=FIN.out _ T3;obtain ⟨d0,d1,d2,d3,f0,f1,f2,f3⟩:=cells4 b1;have HSET:=hid hset;clear hset b1)
      refine bodyPost_ret (results_cell_tmp2 Try.results80 _ _ (w.heap.size+1) 41 _ (0,0) _ rfl HSET.out Try.underlying41 rfl (by kernel_rfl)) rfl ⟨leaf 0 0 ByteArray.empty,0,1,rfl,?_,vtIn,T4⟩;rw [HBAD.out];exact ⟨rfl,rfl,rfl⟩
    · have d1:decide (first < 0)=false:=decide_eq_false (by omega)
      have d2:decide (2147483648≤first)=true:=decide_eq_true (by omega);go_enter Try.func80,Try.ntmps80
      go_wp2_with (go_at_call 45;(with_reducible refine HGO.out.mono ?_);rintro e w3 ⟨rfl,T3⟩;obtain ⟨b1,hset,T4⟩:=FIN.out _ T3;obtain ⟨d0,d1,d2,d3,f0,f1,f2,f3⟩:=cells4 b1;have HSET:=hid hset;clear hset b1)
      refine bodyPost_ret (results_cell_tmp2 Try.results80 _ _ (w.heap.size+1) 41 _ (0,0) _ rfl HSET.out Try.underlying41 rfl (by kernel_rfl)) rfl ⟨leaf 0 0 ByteArray.empty,0,1,rfl,?_,vtIn,T4⟩;rw [HBAD.out];exact ⟨rfl,rfl,rfl⟩
theorem rFromGood {p:Nat→Prop} {t:LT} {w:World} (ht:t.In p w) (hg:goodB t=true) :
 Calls Try.prog 80 #[.agg #[.int .i64 t.kind,.int .i64 t.n,.string t.name,.slice t.at_.1 t.args.length t.at_.2],.int .i64 0] w fun e w'=>∃ (u:LT),e = .returned (.tuple #[.agg #[.int .i64 u.kind,.int .i64 u.n,.string u.name,.slice u.at_.1 u.args.length u.at_.2],.int .i64 (t.vars.length:Int),.int .i64 0])∧u.bare=Tm.plainT t.bare∧u.In (fun _=>True) w'∧Turned zN w w':=by
 have h:=rFrom80 ht (first:=0) (i64_lit 0 (by omega));rw [LT.val_eq] at h;refine h.mono ?_
 rintro e w' ⟨u,m,er,rfl,hR,hi,hT⟩
 obtain ⟨rfl,rfl,hR2⟩:=fromR_good (by rw [goodB_bare];exact hg) hR;exact ⟨u,by rw [LT.val_eq u,Tm.vars_bare],hR2,hi.mono (fun _ _ _=>trivial),hT⟩
theorem rFromBad {p:Nat→Prop} {t:LT} {w:World} (ht:t.In p w) (hg:goodB t=false) :
 Calls Try.prog 80 #[.agg #[.int .i64 t.kind,.int .i64 t.n,.string t.name,.slice t.at_.1 t.args.length t.at_.2],.int .i64 0] w fun e w'=>∃ (u:LT),e = .returned (.tuple #[.agg #[.int .i64 u.kind,.int .i64 u.n,.string u.name,.slice u.at_.1 u.args.length u.at_.2],.int .i64 0,.int .i64 1])∧u.bare=Tm.V 0∧u.In (fun _=>True) w'∧Turned zN w w':=by
 have h:=rFrom80 ht (first:=0) (i64_lit 0 (by omega));rw [LT.val_eq] at h;refine h.mono ?_
 rintro e w' ⟨u,m,er,rfl,hR,hi,hT⟩
 obtain ⟨rfl,rfl,hR2⟩:=fromR_bad (by rw [goodB_bare];exact hg) hR;exact ⟨u,by rw [LT.val_eq u],hR2,hi.mono (fun _ _ _=>trivial),hT⟩
set_option maxRecDepth 100000 in
theorem rAlike82 {p:Nat→Prop} {a b:LT} {w:World} (ha:a.In p w) (hb:b.In p w) :
 Calls Try.prog 82 #[a.val,b.val] w fun e w'=>e = .returned (.bool (alikeB a b))∧Turned zN w w':=by
 have h2:=twoBox w (.cells #[.int .i64 a.kind,.int .i64 a.n,.string a.name,.slice a.at_.1 a.args.length a.at_.2] 41) (.cells #[.int .i64 b.kind,.int .i64 b.n,.string b.name,.slice b.at_.1 b.args.length b.at_.2] 41);have ha1:=ha.turned0 h2.1;have hb1:=hb.turned0 h2.1;rw [LT.val_eq a,LT.val_eq b];have H2:=hid h2;have HA:=hid ha1;have HB:=hid hb1
 have hbx:∀ W,Turned zN ((w.alloc (.cells #[.int .i64 a.kind,.int .i64 a.n,.string a.name,.slice a.at_.1 a.args.length a.at_.2] 41)).alloc (.cells #[.int .i64 b.kind,.int .i64 b.n,.string b.name,.slice b.at_.1 b.args.length b.at_.2] 41)) W→W.heap[w.heap.size+1]? = some (.cells #[.int .i64 b.kind,.int .i64 b.n,.string b.name,.slice b.at_.1 b.args.length b.at_.2] 41 (0,0)):=fun W h=>(h.bt H2.out.2.2.2)
 have HBX:=hid hbx;clear ha hb ha1 hb1 h2 hbx
 cases ga:goodB a with
 | false=>
  have e1:alikeB a b=false:=by unfold alikeB;rw [ga];rfl
  rw [e1];have h1:=rFromBad HA.out ga;have H1:=hid h1;clear h1 e1 ga
  cases gb:goodB b with
  | false=>
   have h3:=fun W (h:Turned zN _ W)=>rFromBad (HB.out.turned0 h) gb
   have H3:=hid h3;clear h3 gb;go_enter Try.func82,Try.ntmps82
   go_wp2_with (first
    | (go_at_call 80;(with_reducible refine H1.out.mono ?_);rintro e w3 ⟨u,rfl,hub,hui,T3⟩;have TU:=T3.alloc (.cells #[.int .i64 u.kind,.int .i64 u.n,.string u.name,.slice u.at_.1 u.args.length u.at_.2] 41);obtain ⟨d0,d1,d2,d3,_⟩:=cells4 (HBX.out _ TU))
    | (go_at_call 80;(with_reducible refine (H3.out _ TU).mono ?_);rintro e w4 ⟨v,rfl,hvb,hvi,T4⟩))
   go_ret;exact ⟨rfl,H2.out.1.trans ((TU.trans T4).alloc _)⟩
  | true=>
   have h3:=fun W (h:Turned zN _ W)=>rFromGood (HB.out.turned0 h) gb
   have H3:=hid h3;clear h3 gb;go_enter Try.func82,Try.ntmps82
   go_wp2_with (first
    | (go_at_call 80;(with_reducible refine H1.out.mono ?_);rintro e w3 ⟨u,rfl,hub,hui,T3⟩;have TU:=T3.alloc (.cells #[.int .i64 u.kind,.int .i64 u.n,.string u.name,.slice u.at_.1 u.args.length u.at_.2] 41);obtain ⟨d0,d1,d2,d3,_⟩:=cells4 (HBX.out _ TU))
    | (go_at_call 80;(with_reducible refine (H3.out _ TU).mono ?_);rintro e w4 ⟨v,rfl,hvb,hvi,T4⟩))
   go_ret;exact ⟨rfl,H2.out.1.trans ((TU.trans T4).alloc _)⟩
 | true=>
  have h1:=rFromGood HA.out ga;have H1:=hid h1;clear h1
  cases gb:goodB b with
  | false=>
   have e1:alikeB a b=false:=by unfold alikeB;rw [ga,gb];rfl
   rw [e1]
   have h3:=fun W (h:Turned zN _ W)=>rFromBad (HB.out.turned0 h) gb
   have H3:=hid h3;clear h3 gb ga e1;go_enter Try.func82,Try.ntmps82
   go_wp2_with (first
    | (go_at_call 80;(with_reducible refine H1.out.mono ?_);rintro e w3 ⟨u,rfl,hub,hui,T3⟩;have TU:=T3.alloc (.cells #[.int .i64 u.kind,.int .i64 u.n,.string u.name,.slice u.at_.1 u.args.length u.at_.2] 41);obtain ⟨d0,d1,d2,d3,_⟩:=cells4 (HBX.out _ TU))
    | (go_at_call 80;(with_reducible refine (H3.out _ TU).mono ?_);rintro e w4 ⟨v,rfl,hvb,hvi,T4⟩))
   go_ret;exact ⟨rfl,H2.out.1.trans ((TU.trans T4).alloc _)⟩
  | true=>
   have h3:=fun W (h:Turned zN _ W)=>rFromGood (HB.out.turned0 h) gb
   have H3:=hid h3;have GA:=hid ga;have GB:=hid gb;clear h3 ga gb;go_enter Try.func82,Try.ntmps82
   go_wp2_with (first
    | (go_at_call 80;(with_reducible refine H1.out.mono ?_);rintro e w3 ⟨u,rfl,hub,hui,T3⟩;have TU:=T3.alloc (.cells #[.int .i64 u.kind,.int .i64 u.n,.string u.name,.slice u.at_.1 u.args.length u.at_.2] 41);obtain ⟨d0,d1,d2,d3,_⟩:=cells4 (HBX.out _ TU);have HUB:=hid hub;have HUI:=hid hui;have hbu:=heap_alloc_new w3 (.cells #[.int .i64 u.kind,.int .i64 u.n,.string u.name,.slice u.at_.1 u.args.length u.at_.2] 41);have HBU:=hid hbu;clear hub hui hbu)
    | (go_at_call 80;(with_reducible refine (H3.out _ TU).mono ?_);rintro e w4 ⟨v,rfl,hvb,hvi,T4⟩;have HVB:=hid hvb;have HVI:=hid hvi;have T4v:=T4.alloc (.cells #[.int .i64 v.kind,.int .i64 v.n,.string v.name,.slice v.at_.1 v.args.length v.at_.2] 41);obtain ⟨e0,e1,e2,e3,_⟩:=cells4 ((T4v.bt HBU.out));clear hvb hvi))
   have hgu:goodB u=true:=by rw [←goodB_bare,HUB.out];exact plain_good (by rw [goodB_bare];exact GA.out)
   have hgv:goodB v=true:=by rw [←goodB_bare,HVB.out];exact plain_good (by rw [goodB_bare];exact GB.out)
   have hsm:=rSame48 u.depth u v _ (Qm _) (HUI.out.turned0 (((Turned.refl _ w3).alloc _).trans T4v)) (HVI.out.turned0 ((Turned.refl _ w4).alloc _))
   have hal:Tm.same u v=alikeB a b:=by
    unfold alikeB;rw [GA.out,GB.out,←HUB.out,←HVB.out,←same_bares];rfl
   rw [LT.val_eq u,LT.val_eq v,hal] at hsm
   (with_reducible refine hsm.mono ?_)
   rintro e w5 ⟨rfl,T5⟩
   have T5':=H2.out.1.trans ((TU.trans T4v).trans T5)
   go_wp2_with fail
   go_ret;exact ⟨rfl,T5'⟩
end Go.Proofs.Ytoihjobdfjajfaa
namespace Go.Proofs.Ytoihjobdfjajfaa
open Go.RowKit Go.Maps
theorem ownVal96 {p:Nat→Prop} {t:LT} {w:World} (ht:t.In p w) (hs:slim t):Calls Try.prog 96 #[.agg #[.int .i64 t.kind,.int .i64 t.n,.string t.name,.slice t.at_.1 t.args.length t.at_.2]] w fun e w'=>∃ u:LT,e = .returned (.agg #[.int .i64 u.kind,.int .i64 u.n,.string u.name,.slice u.at_.1 u.args.length u.at_.2])∧u.bare=t.bare∧u.In (fun k=>w.heap.size≤k) w'∧Turned zN w w':=by
 have:=own96 t.depth t w (Qm _) ht hs;rw [LT.val_eq] at this;refine this.mono ?_
 rintro e w' ⟨u,rfl,h1,h2,h3⟩
 exact ⟨u,by rw [LT.val_eq],h1,h2,h3⟩
theorem alikeV82 {p:Nat→Prop} {a b:LT} {w:World} {r:Bool} (ha:a.In p w) (hb:b.In p w) (hr:alikeB a b=r):Calls Try.prog 82 #[.agg #[.int .i64 a.kind,.int .i64 a.n,.string a.name,.slice a.at_.1 a.args.length a.at_.2],.agg #[.int .i64 b.kind,.int .i64 b.n,.string b.name,.slice b.at_.1 b.args.length b.at_.2]] w fun e w'=>e = .returned (.bool r)∧Turned zN w w':=by
 have:=rAlike82 ha hb;rw [LT.val_eq,LT.val_eq,hr] at this;exact this
theorem goodV45 {p:Nat→Prop} {t:LT} {w:World} {r:Bool} (ht:t.In p w) (hr:goodB t=r):Calls Try.prog 45 #[.agg #[.int .i64 t.kind,.int .i64 t.n,.string t.name,.slice t.at_.1 t.args.length t.at_.2]] w fun e w'=>e = .returned (.bool r)∧Turned zN w w':=by
 have:=rGood45 ht;rw [LT.val_eq,hr] at this;exact this
theorem from8 {p:Nat→Prop} {t:LT} {w:World} (ht:t.In p w) (g:goodB t.bare=true) (hl:t.bare.vars.length≤1000):Calls Try.prog 80 #[.agg #[.int .i64 t.kind,.int .i64 t.n,.string t.name,.slice t.at_.1 t.args.length t.at_.2],.int .i64 8] w fun e w'=>∃ u:LT,e = .returned (.tuple #[.agg #[.int .i64 u.kind,.int .i64 u.n,.string u.name,.slice u.at_.1 u.args.length u.at_.2],.int .i64 (8+(t.bare.vars.length:Int)),.int .i64 0])∧u.bare=Tm.fromT t.bare 8∧u.In (fun k=>p k∨w.heap.size≤k) w'∧Turned zN w w':=by
 have h:=rFrom80 ht (first:=8) (i64_lit 8 (by omega));rw [LT.val_eq] at h;refine h.mono ?_
 rintro e w' ⟨u,m,er,rfl,hR,hi,hT⟩
 unfold FromR at hR;rw [if_pos ⟨g,by omega,by omega⟩,if_pos (by omega)] at hR;obtain ⟨rfl,rfl,h3⟩:=hR;exact ⟨u,by rw [LT.val_eq],h3,hi,hT⟩
theorem CM.new {N bb:Nat} {O:Nat→Prop} {bx:List (Nat × Obj)} {ts:List LT} {w1 W1 W:World} (hN:N=w1.heap.size) (T1:Turned zN w1 W1) (B:BO (fun k=>k < N) bb O 0 [] W) (hO:∀ k,O k→W1.heap.size≤k) (T:Turned zN W1 W) (hb:∀ b∈bx,W1.heap[b.1]? = some b.2∧N≤b.1) (ht:∀ x∈ts,x.In (fun k=>k < N) w1) :
 CM N bb W.heap.size 0 0 [] [] bx ts w1 (W.alloc (.cells #[.slice none 0 0,.slice none 0 0,.slice none 0 0] 113)):=by
 have T3:=(Turned.refl (fun _=>False) W).alloc (.cells #[.slice none 0 0,.slice none 0 0,.slice none 0 0] 113);have hs:=T.size;have hs1:=T1.size;refine ⟨fun k=>k < N,[],O,_,fun _ h=>h,rfl,⟨B.turned0 T3,newD W (fun k hk=>by omega),fun k hk c=>by have:=B.lt k hk;omega⟩,fun k hk=>by have:=hO k hk;omega,fun k hk=>by omega,(T1.trans T).trans T3,fun b h=>?_,fun x hx=>(ht x hx).turned0 ((T1.trans T).trans T3)⟩;obtain ⟨h1,h2⟩:=hb b h;have hlt:=(zL h1);exact ⟨((T.trans T3).block _ hlt (fun f=>f)).trans h1,fun c=>by have:=hO _ c;omega,fun c=>by omega,fun c=>by omega⟩
section
variable {N bb:Nat} {bx:List (Nat × Obj)} {ts:List LT} {w1 W:World} {t x:LT} {m:Nat} {tr:Tm.Trail}
theorem headMatch121 {aL:Option Addr} {cL:Nat} (hN:N=w1.heap.size) (h:BM N bb bx ts w1 m [] W) (hx:x∈ts) (hin:t.In (fun _=>True) W) (hg:goodB t=true) (hk:t.kind=2) (hal:x.args.length=t.args.length) (hsz:t.size≤100) (hvl:t.vars.length≤100) (hm:m≤1000)
 (hoa:∀ y∈x.args,Tm.ownB m y.bare=true)
 (hrow:∀ W',(∀ b∈bx,W'.heap[b.1]? = some b.2)→Row W' 139 6 (.slice aL (Tm.sizes t.args) cL) (Tm.sizes t.args) ((Tm.steps t.vars t.args (Tm.sizes t.args)).flatMap stC)) :
 Calls Try.prog 121 #[.pointer (some ⟨bb,0,none⟩),.agg #[.int .i64 (x.args.length:Int),.int .i64 (t.vars.length:Int),.int .i64 (Tm.sizes t.args:Int),.slice aL (Tm.sizes t.args) cL],.slice x.at_.1 x.args.length x.at_.2] W (MatchQ N bb t.vars.length m bx ts w1 [] (Tm.matchR t m (x.args.map Tm.bare))):=by
 have hs:Tm.sizes t.args+1≤100:=by rw [Tm.size_eq] at hsz;omega
 have hl:=Tm.lens_le t.args;have hL:=Tm.steps_length t.vars t.args (Tm.sizes t.args)
 have hbe:x.bare.args=x.args.map Tm.bare:=by rw [Tm.bare_args,Tm.bares_eq]
 have hstart:(⟨m,[],Tm.putAt ((blanks (Tm.sizes t.args)).map Tm.bare) 0 x.bare.args,(blanks t.vars.length).map Tm.bare⟩:Tm.MS)=Tm.startM t m (x.args.map Tm.bare):=by
  unfold Tm.startM;rw [blanks_V,blanks_V,hbe]
 have hrun:=runOk_head (tr:=[]) hg (fun y hy=>by
  have:=LT.In.flat t hin y (by rw [Tm.flat_eq];exact Qb _ (Tm.regs_flats y hy))
  exact ⟨this.n,this.name⟩)
 have hinv:=Tm.start_inv (t:=t) (m:=m) (a:=x.args.map Tm.bare) (by omega) (by rw [Qu];exact hal) (fun z hz=>by obtain ⟨y,hy,rfl⟩:=List.mem_map.1 hz;exact hoa y hy)
 have hmm:=match121 (R:=Tm.sizes t.args) (S:=t.vars.length) (L:=Tm.steps t.vars t.args (Tm.sizes t.args)) (Inv:=HInv t []) (aL:=aL) (cL:=cL) (x:=x) hN h hx ⟨by omega,by omega⟩ (by omega) (by rw [hL];omega)
  (fun W' hW=>by rw [hL];exact hrow W' hW) (fun W' hW=>by
   rw [hL,hal]
   exact goodHead95' hin hg hk (hrow W' hW)) (fun y hy=>by rw [←ownB_bare];exact hoa y hy) hrun (by rw [hstart];exact ⟨Nat.zero_le _,hinv,⟨[],rfl⟩,by show m+_≤_;omega⟩)
 rw [hL,hstart] at hmm;exact hmm
theorem law_go {a:List (Tm Unit)} {st:Tm.MS} {l:Tm.Trail} {n:Nat} {r:Tm.UR} (hM:Tm.matchR t m a = .go st) (hg:goodB t=true) (hk:t.kind=2) (hm:m+t.vars.length≤65536) (hl:a.length=t.args.length) (ha:∀ z∈a,Tm.ownB m z=true)
 (hr:Tm.UniOk (m+t.vars.length) [] 2000 [(Tm.fromT t.bare (m:Int),.mk 2 0 t.name () a)] r) (hq:r = .ok l n):Tm.MEqs t a st.ss m st.l l∧Tm.okT st.m st.l∧st.ss.length=t.vars.length∧st.m≤65536∧m≤st.m∧∀ z∈st.ss,Tm.ownB st.m z=true:=by
 subst hq;have h:=Tm.match_law hg hk hm hl ha hr;rw [hM] at h;exact h
theorem law_no {a:List (Tm Unit)} {st:Tm.MS} {n:Nat} {r:Tm.UR} (hM:Tm.matchR t m a = .go st) (hg:goodB t=true) (hk:t.kind=2) (hm:m+t.vars.length≤65536) (hl:a.length=t.args.length) (ha:∀ z∈a,Tm.ownB m z=true)
 (hr:Tm.UniOk (m+t.vars.length) [] 2000 [(Tm.fromT t.bare (m:Int),.mk 2 0 t.name () a)] r) (hq:r = .no n):False:=by
 subst hq;have h:=Tm.match_law hg hk hm hl ha hr;rw [hM] at h;exact h
theorem law_stop {a:List (Tm Unit)} {E:Int} {m':Nat} {l:Tm.Trail} {n:Nat} {r:Tm.UR} (hM:Tm.matchR t m a = .stop E m') (hg:goodB t=true) (hk:t.kind=2) (hm:m+t.vars.length≤65536) (hl:a.length=t.args.length) (ha:∀ z∈a,Tm.ownB m z=true)
 (hr:Tm.UniOk (m+t.vars.length) [] 2000 [(Tm.fromT t.bare (m:Int),.mk 2 0 t.name () a)] r) (hq:r = .ok l n):E≠0:=by
 subst hq;have h:=Tm.match_law hg hk hm hl ha hr;rw [hM] at h;exact h
theorem strange_arg {m:Nat} {k n:Int} {s:ByteArray} {l:List (Tm Unit)} (hg:goodB (Tm.mk k n s () l)=true) (hk:¬ k=0) (ho:Tm.ownB m (Tm.mk k n s () l)=false):∃ y∈l,Tm.ownB m y=false:=by
 refine Classical.byContradiction fun hno=>?_
 have hall:∀ y∈l,Tm.ownB m y=true:=fun y hy=>by
  cases h:Tm.ownB m y with
  | true=>rfl
  | false=>exact absurd ⟨y,hy,h⟩ hno
 have:Tm.ownB m (Tm.mk k n s () l)=true:=Tm.ownB_iff.2 ⟨hg,fun v hv=>by
  obtain ⟨y,hy,hv⟩:=(Tm.numsIn_args (y:=Tm.mk k n s () l) hk).1 hv
  exact (Tm.ownB_iff.1 (hall y hy)).2 v hv⟩
 rw [this] at ho
 cases ho
end
def TwoC (b:Tm Unit) (V:Value) (Q:World→Prop) (w0:World):List Value→World→Prop
 | [],W=>Turned zN w0 W
 | [a],W=>Turned zN w0 W∧∃ o:LT,a=agLT o∧o.bare=b∧o.In (fun k=>w0.heap.size≤k) W
 | [_,c],W=>c=V∧Q W
 | _,_=>False
theorem TwoC.turned0 {b:Tm Unit} {V:Value} {Q:World→Prop} {w0:World} (hQ:∀ W W',Q W→Turned zN W W'→Q W'):∀ (hs:List Value) (w w':World),TwoC b V Q w0 hs w→Turned zN w w'→TwoC b V Q w0 hs w'
 | [],_,_,h,T=>Turned.trans h T
 | [_],_,_,⟨h,o,h1,h2,h3⟩,T=>⟨h.trans T,o,h1,h2,h3.turned0 T⟩
 | [_,_],_,_,h,T=>⟨h.1,hQ _ _ h.2 T⟩
 | _ :: _ :: _ :: _,_,_,h,_=>h.elim
theorem TwoC.early {b:Tm Unit} {V:Value} {Q:World→Prop} {w0:World}:∀ (hs:List Value) (W:World),hs.length≤1→TwoC b V Q w0 hs W→Turned zN w0 W
 | [],_,_,h=>h
 | [_],_,_,h=>h.1
theorem TwoC.val {b:Tm Unit} {V:Value} {Q:World→Prop} {w0:World}:∀ (hs:List Value) (W:World) {x:Value},TwoC b V Q w0 hs W→hs[1]? = some x→x=V
 | [],_,_,_,e=>by simp at e
 | [_],_,_,_,e=>by simp at e
 | [_,_],_,_,h,e=>by simp at e;rw [←e];exact h.1
 | _ :: _ :: _ :: _,_,_,h,_=>h.elim
theorem TwoC.end_ {b:Tm Unit} {V:Value} {Q:World→Prop} {w0:World}:∀ (hs:List Value) (W:World),TwoC b V Q w0 hs W→hs.length=2→Q W
 | [_,_],_,h,_=>h.2
theorem CM.mark {N bb wb m mw:Nat} {lw:Tm.Trail} {bx:List (Nat × Obj)} {ts:List LT} {w1 W:World} (h:CM N bb wb m mw [] lw bx ts w1 W):Calls Try.prog 111 #[.pointer (some ⟨bb,0,none⟩)] W fun e w'=>e = .returned (.int .i64 0)∧Turned zN W w':=by
 obtain ⟨q,tl,O,D,h1,h2,h3,h4,h5,h6,h7,h8⟩:=h
 have hl:tl=[]:=by cases tl with | nil=>rfl | cons x tl=>cases h2
 subst hl;exact markO111 h3.b
section
variable {q O D:Nat→Prop} {bb wb m mw:Nat} {tl:TL} {lw:Tm.Trail} {w12 W0 W:World} {x X:LT} {E:Int}
theorem wholeB89 (HB:BO q bb O m tl w12) (T:Turned zN w12 W) (hx:x.In q w12) (hs:slim x) (hE:wholeE m (bt tl) x.bare=E) :
 Calls Try.prog 89 #[.pointer (some ⟨bb,0,none⟩),.agg #[.int .i64 x.kind,.int .i64 x.n,.string x.name,.slice x.at_.1 x.args.length x.at_.2]] W fun e w'=>∃ u:LT,e = .returned (.tuple #[.agg #[.int .i64 u.kind,.int .i64 u.n,.string u.name,.slice u.at_.1 u.args.length u.at_.2],.int .i64 E])∧u.bare=wholeT m (bt tl) x.bare∧u.In (fun k=>k < w12.heap.size∨W.heap.size≤k) w'∧slim u∧Turned zN W w':=by
 have hp:=HB.plt;refine (wholeVal (HB.turned0 T) (hx.turned0 T) hs hE).mono ?_
 rintro e w' ⟨u,rfl,hu,hi,T'⟩
 exact ⟨u,rfl,hu,hi.mono (fun k _ hk=>hk.imp_left (hp k)),wholeSlim HB.ok hu,T'⟩
theorem wholeD105 (HD:DO q wb D mw lw w12) (T0:Turned zN w12 W0) (T:Turned zN W0 W) (hX:X.In (fun k=>W0.heap.size≤k) W) (hE:wholeE mw lw X.bare=E) :
 Calls Try.prog 105 #[.pointer (some ⟨wb,0,none⟩),.agg #[.int .i64 X.kind,.int .i64 X.n,.string X.name,.slice X.at_.1 X.args.length X.at_.2]] W fun e w'=>∃ u:LT,e = .returned (.tuple #[.agg #[.int .i64 u.kind,.int .i64 u.n,.string u.name,.slice u.at_.1 u.args.length u.at_.2],.int .i64 E])∧u.bare=wholeT mw lw X.bare∧u.In (fun k=>k < w12.heap.size∨W0.heap.size≤k) w'∧Turned zN W w':=by
 have hp:=HD.plt;have hl:=HD.lt;have hs:=T0.size
 have hd:DO (fun k=>q k∨(W0.heap.size≤k∧k < W.heap.size)) wb D mw lw W:=(HD.turned0 (T0.trans T)).wide (fun k hk=>.inl hk) (fun k hk=>by
  have:=T.size
  rcases hk with hk | hk
  · exact ⟨by have:=hp k hk;omega,HD.sep k hk⟩
  · exact ⟨hk.2,fun c=>by have:=hl k c;omega⟩)
 have:=whole105 hd (hX.mono (fun k hk h=>.inr ⟨h,hk⟩));rw [LT.val_eq] at this;refine this.mono ?_
 rintro e w' ⟨u,rfl,h1,h2,h3⟩
 refine ⟨u,by rw [hE],h1,h2.mono (fun k _ hk=>?_),h3⟩;have:=T.size
 rcases hk with (hk | hk) | hk
 · exact .inl (hp k hk)
 · exact .inr hk.1
 · exact .inr (by omega)
end
theorem wholeT_zero {m:Nat} {l:Tm.Trail} {x:Tm Unit} (h:wholeE m l x=0):wholeT m l x=Tm.img l x:=by
 unfold wholeT;rw [h];rfl
theorem In.apart {u:LT} {w12 wr W:World} {X Y:Value} (h:u.In (fun k=>k < w12.heap.size∨wr.heap.size≤k) W) (hX:∀ k,X.ownBlock=some k→w12.heap.size≤k∧k < wr.heap.size) (hY:∀ k,Y.ownBlock=some k→w12.heap.size≤k∧k < wr.heap.size):u.In (fun k=>X.ownBlock≠some k∧Y.ownBlock≠some k) W:=
 h.mono (fun k _ hk=>⟨fun c=>by have:=hX k c;omega,fun c=>by have:=hY k c;omega⟩)
theorem alike_of {a b:LT} {x y:Tm Unit} (ha:a.bare=x) (hb:b.bare=y) (h:alikeB x y=true):alikeB a b=true:=by
 unfold alikeB at h ⊢;rw [Tm.bare_unit,Tm.bare_unit] at h;rw [←goodB_bare a,←goodB_bare b,ha,hb];exact h
structure Pre48 (X Y:Value) (B28 B30:Nat) (u v:LT) (W0:World):Prop where
 c28:∀ W,Turned (fun k=>X.ownBlock=some k∨Y.ownBlock=some k) W0 W→W.cell? ⟨B28,0,none⟩=some (.int .i64 u.kind)∧W.cell? ⟨B28,1,none⟩=some (.int .i64 u.n)∧W.cell? ⟨B28,2,none⟩=some (.string u.name)∧W.cell? ⟨B28,3,none⟩=some (.slice u.at_.1 u.args.length u.at_.2)
 c30:∀ W,Turned (fun k=>X.ownBlock=some k∨Y.ownBlock=some k) W0 W→W.cell? ⟨B30,0,none⟩=some (.int .i64 v.kind)∧W.cell? ⟨B30,1,none⟩=some (.int .i64 v.n)∧W.cell? ⟨B30,2,none⟩=some (.string v.name)∧W.cell? ⟨B30,3,none⟩=some (.slice v.at_.1 v.args.length v.at_.2)
 xr:∀ k,X.ownBlock=some k→k < W0.heap.size
 yr:∀ k,Y.ownBlock=some k→k < W0.heap.size
 ux:u.In (fun k=>X.ownBlock≠some k∧Y.ownBlock≠some k) W0
 vx:v.In (fun k=>X.ownBlock≠some k∧Y.ownBlock≠some k) W0
theorem pre48 {w31 wr w32 w36:World} {X Y:Value} {u v:LT} (hX:∀ k,X.ownBlock=some k→w31.heap.size≤k∧k < wr.heap.size) (hY:∀ k,Y.ownBlock=some k→w31.heap.size≤k∧k < wr.heap.size) (T33:Turned zN wr (w32.alloc (.cells #[.int .i64 u.kind,.int .i64 u.n,.string u.name,.slice u.at_.1 u.args.length u.at_.2] 27))) (T36:Turned zN (w32.alloc (.cells #[.int .i64 u.kind,.int .i64 u.n,.string u.name,.slice u.at_.1 u.args.length u.at_.2] 27)) (w36.alloc (.cells #[.int .i64 v.kind,.int .i64 v.n,.string v.name,.slice v.at_.1 v.args.length v.at_.2] 41))) (h32:wr.heap.size≤w32.heap.size) (h36:w32.heap.size+1≤w36.heap.size)
 (hu:u.In (fun k=>k < w31.heap.size∨wr.heap.size≤k) w32) (hv:v.In (fun k=>k < w31.heap.size∨(w32.alloc (.cells #[.int .i64 u.kind,.int .i64 u.n,.string u.name,.slice u.at_.1 u.args.length u.at_.2] 27)).heap.size≤k) w36):Pre48 X Y w32.heap.size w36.heap.size u v (w36.alloc (.cells #[.int .i64 v.kind,.int .i64 v.n,.string v.name,.slice v.at_.1 v.args.length v.at_.2] 41)):=by
 have hb28:=(T36.block w32.heap.size (by simp) (fun f=>f)).trans (heap_alloc_new w32 (.cells #[.int .i64 u.kind,.int .i64 u.n,.string u.name,.slice u.at_.1 u.args.length u.at_.2] 27));have hb30:=heap_alloc_new w36 (.cells #[.int .i64 v.kind,.int .i64 v.n,.string v.name,.slice v.at_.1 v.args.length v.at_.2] 41);have hs:=T33.size;have Tu:Turned zN w32 (w36.alloc (.cells #[.int .i64 v.kind,.int .i64 v.n,.string v.name,.slice v.at_.1 v.args.length v.at_.2] 41)):=((Turned.refl (fun _=>False) w32).alloc (.cells #[.int .i64 u.kind,.int .i64 u.n,.string u.name,.slice u.at_.1 u.args.length u.at_.2] 27)).trans T36;have Tv:Turned zN w36 (w36.alloc (.cells #[.int .i64 v.kind,.int .i64 v.n,.string v.name,.slice v.at_.1 v.args.length v.at_.2] 41)):=(Turned.refl (fun _=>False) w36).alloc (.cells #[.int .i64 v.kind,.int .i64 v.n,.string v.name,.slice v.at_.1 v.args.length v.at_.2] 41);have hu2:=hu.turned0 Tu;have hv2:=hv.turned0 Tv
 have hn28:¬ (X.ownBlock=some w32.heap.size∨Y.ownBlock=some w32.heap.size):=fun c=>c.elim (fun c=>by have:=(hX _ c).2;omega) (fun c=>by have:=(hY _ c).2;omega)
 have hn30:¬ (X.ownBlock=some w36.heap.size∨Y.ownBlock=some w36.heap.size):=fun c=>c.elim (fun c=>by have:=(hX _ c).2;omega) (fun c=>by have:=(hY _ c).2;omega)
 have hsz:w36.heap.size < (w36.alloc (.cells #[.int .i64 v.kind,.int .i64 v.n,.string v.name,.slice v.at_.1 v.args.length v.at_.2] 41)).heap.size:=by simp
 revert hb28 hb30 hu2 hv2 hsz hs;generalize (w36.alloc (.cells #[.int .i64 v.kind,.int .i64 v.n,.string v.name,.slice v.at_.1 v.args.length v.at_.2] 41))=W0;generalize (w32.alloc (.cells #[.int .i64 u.kind,.int .i64 u.n,.string u.name,.slice u.at_.1 u.args.length u.at_.2] 27)).heap.size=n33;intro hb28 hb30 hs hu2 hv2 hsz;refine ⟨fun W T=>?_,fun W T=>?_,fun k hk=>?_,fun k hk=>?_,In.apart hu2 hX hY,In.apart (hv2.mono (fun k _ hk=>hk.imp_right (fun c=>QA hs c))) hX hY⟩
 · have c:=cells4 ((T.block _ (zL hb28) hn28).trans hb28)
   exact ⟨c.1,c.2.1,c.2.2.1,c.2.2.2.1⟩
 · have c:=cells4 ((T.block _ (zL hb30) hn30).trans hb30)
   exact ⟨c.1,c.2.1,c.2.2.1,c.2.2.2.1⟩
 · have:=(hX k hk).2;omega
 · have:=(hY k hk).2;omega
def LkS (w12:World) (X Y:Value) (n:Nat) (xb yb:List (Tm Unit)) (wr:World):Prop:=
 ∃ xs ys:List LT,xs.map Tm.bare=xb∧ys.map Tm.bare=yb∧Row wr 41 4 X n (xs.flatMap LT.cells)∧Row wr 41 4 Y n (ys.flatMap LT.cells)∧(∀ k,X.ownBlock=some k→w12.heap.size≤k∧Y.ownBlock≠some k)∧(∀ k,Y.ownBlock=some k→w12.heap.size≤k)∧(∀ u,u∈xs∨u∈ys→u.In (fun k=>X.ownBlock≠some k∧Y.ownBlock≠some k) wr)∧Turned zN w12 wr
theorem LkS.start (w12:World):LkS w12 (.slice none 0 0) (.slice none 0 0) 0 [] [] w12:=
 ⟨[],[],rfl,rfl,Row.nil _ _ _,Row.nil _ _ _,fun k hk=>(by cases hk),fun k hk=>(by cases hk),fun u hu=>(by rcases hu with hu | hu <;> cases hu),Turned.refl _ _⟩
theorem LkS.turned0 {w12 wr W:World} {X Y:Value} {n:Nat} {xb yb:List (Tm Unit)} (h:LkS w12 X Y n xb yb wr) (T:Turned zN wr W):LkS w12 X Y n xb yb W:=by
 obtain ⟨xs,ys,h1,h2,h3,h4,h5,h6,h7,h8⟩:=h;exact ⟨xs,ys,h1,h2,h3.turned0 T,h4.turned0 T,h5,h6,fun u hu=>(h7 u hu).turned0 T,h8.trans T⟩
theorem LkS.step {w12 w0 W:World} {X Y:Value} {n g cap g' cap':Nat} {xs ys:List LT} {xb yb:List (Tm Unit)} {o u:LT} (h1:xs.map Tm.bare=xb) (h2:ys.map Tm.bare=yb) (h3:Row w0 41 4 X n (xs.flatMap LT.cells)) (h4:Row w0 41 4 Y n (ys.flatMap LT.cells)) (h5:∀ k,X.ownBlock=some k→w12.heap.size≤k∧Y.ownBlock≠some k) (h6:∀ k,Y.ownBlock=some k→w12.heap.size≤k) (h7:∀ u,u∈xs∨u∈ys→u.In (fun k=>X.ownBlock≠some k∧Y.ownBlock≠some k) w0) (h8:Turned zN w12 w0)
 (hu:u.In (fun k=>X.ownBlock≠some k∧Y.ownBlock≠some k) w0) (hne:g≠g') (ho:o.In (fun k=>w0.heap.size≤k∧k≠g∧k≠g') W)
 (r1:Row W 41 4 (.slice (some ⟨g,0,none⟩) (n+1) cap) (n+1) (xs.flatMap LT.cells++o.cells)) (r2:Row W 41 4 (.slice (some ⟨g',0,none⟩) (n+1) cap') (n+1) (ys.flatMap LT.cells++u.cells)) (g1:some g=X.ownBlock∨w0.heap.size≤g) (g2:some g'=Y.ownBlock∨w0.heap.size≤g') (T:Turned (fun k=>X.ownBlock=some k∨Y.ownBlock=some k) w0 W) :
 LkS w12 (.slice (some ⟨g,0,none⟩) (n+1) cap) (.slice (some ⟨g',0,none⟩) (n+1) cap') (n+1) (xb++[o.bare]) (yb++[u.bare]) W:=by
 have hs:=h8.size
 have up:∀ z:LT,z.In (fun k=>X.ownBlock≠some k∧Y.ownBlock≠some k) w0→z.In (fun k=>(Value.slice (some ⟨g,0,none⟩) (n+1) cap).ownBlock≠some k∧(Value.slice (some ⟨g',0,none⟩) (n+1) cap').ownBlock≠some k) W:=by
  intro z hz;refine LT.In.turned T (fun k _ hk c=>c.elim hk.1 hk.2) (fun k hk hp=>⟨fun c=>?_,fun c=>?_⟩) z hz
  · simp only [Value.ownBlock,Option.some.injEq] at c
    subst c;exact g1.elim (fun e=>hp.1 e.symm) (fun e=>by omega)
  · simp only [Value.ownBlock,Option.some.injEq] at c
    subst c;exact g2.elim (fun e=>hp.2 e.symm) (fun e=>by omega)
 refine ⟨xs++[o],ys++[u],by rw [List.map_append,h1];rfl,by rw [List.map_append,h2];rfl,?_,?_,fun k hk=>?_,fun k hk=>?_,fun z hz=>?_,h8.step T (fun i hi e=>?_)⟩
 · rw [List.flatMap_append,List.flatMap_cons,List.flatMap_nil,List.append_nil];exact r1
 · rw [List.flatMap_append,List.flatMap_cons,List.flatMap_nil,List.append_nil];exact r2
 · simp only [Value.ownBlock,Option.some.injEq] at hk ⊢
   subst hk;exact ⟨g1.elim (fun e=>(h5 _ e.symm).1) (fun e=>by omega),fun e=>by cases e;exact hne rfl⟩
 · simp only [Value.ownBlock,Option.some.injEq] at hk
   subst hk;exact g2.elim (fun e=>h6 _ e.symm) (fun e=>by omega)
 · have hz':(z∈xs∨z∈ys)∨z=u∨z=o:=by
    rcases hz with hz | hz <;> rcases Qn.1 hz with hz | hz
    · exact .inl (.inl hz)
    · exact .inr (.inr (List.mem_singleton.1 hz))
    · exact .inl (.inr hz)
    · exact .inr (.inl (List.mem_singleton.1 hz))
   rcases hz' with hz | rfl | rfl
   · exact up z (h7 z hz)
   · exact up _ hu
   · exact ho.mono (fun k _ hk=>⟨fun c=>by simp only [Value.ownBlock,Option.some.injEq] at c;exact hk.2.1 c.symm,fun c=>by simp only [Value.ownBlock,Option.some.injEq] at c;exact hk.2.2 c.symm⟩)
 · rcases e with e | e
   · have:=(h5 i e).1;omega
   · have:=h6 i e;omega
end Go.Proofs.Ytoihjobdfjajfaa

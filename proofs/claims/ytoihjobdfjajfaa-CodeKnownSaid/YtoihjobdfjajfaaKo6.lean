/- Merged texts: BB2, KN3, KN4, CK1. -/
import Derived.Test.YtoihjobdfjajfaaKo5
set_option linter.unusedVariables false
set_option linter.unusedSimpArgs false
open List renaming getElem?_eq_getElem → Qa, mem_cons_of_mem → Qb, mem_append_left → Qc, mem_cons_self → Qe, mem_of_getElem? → Qf, getElem?_eq_some_iff → Qg, eq_nil_of_length_eq_zero → Qh, length_append → Qi, mem_append_right → Qj, setIfInBounds_toArray → Qk, not_mem_nil → Ql, mem_append → Qn, getElem?_map → Qp, foldl_cons → Qq, set_cons_succ → Qr, set_cons_zero → Qs, all_eq_true → Qt, length_map → Qu, mem_cons → Qw, map_cons → Qx, length_cons → QB
open Bool renaming and_eq_true → Qd
open Nat renaming le_refl → Qm, lt_of_lt_of_le → Qo, lt_irrefl → Qy, lt_of_le_of_lt → Qz, le_trans → QA
open Array renaming getElem?_toList → Qv, getElem?_eq_some_iff → QC
set_option maxHeartbeats 12800000
namespace Go.Proofs.Ytoihjobdfjajfaa
open Lib (hid)
open Go.RowKit Go.Shelf
attribute [local go_sem] Oper.semAt_some
theorem make_blanksB (n:Nat) (hn:n≤5000) (W:World):(Instr.makeSlice 22 (.int .i64 n) (.int .i64 n)).run Try.prog W = .ok (.slice (some ⟨W.heap.size,0,none⟩) n n) (W.alloc (.cells (madeCells zeroT.cells (n * 4)) 27))∧
 Row (W.alloc (.cells (madeCells zeroT.cells (n * 4)) 27)) 27 4 (.slice (some ⟨W.heap.size,0,none⟩) n n) n ((blanks n).flatMap LT.cells):=by
 obtain ⟨i0,hi0,hz0,hz1,hz2⟩:=info_parts infoT;refine ⟨?_,?_⟩
 · have h:=run_make (P:=Try.prog) W 22 27 i0 zeroT Try.underlying22 hi0 hz0 .i64 .i64 n n (by omega) (Int.le_refl _) (by rw [hz2];omega) (by omega)
   rw [hz1] at h;simpa using h
 · have h:=Row.made W 27 4 (madeCells zeroT.cells (n * 4)) n (size_madeCells _ _) (by unfold maxLen;omega)
   rw [made_blanksT] at h;exact h
theorem varV62b (n:Int) (hn:I64 n) (w:World):Calls Try.prog 62 #[.int .i64 n] w fun e w'=>e = .returned (.agg #[.int .i64 0,.int .i64 n,.string ByteArray.empty,.slice none 0 0])∧Turned zN w w':=
 (var62 n hn w).mono fun e w' h=>⟨h.1,h.2.2⟩
theorem intV61 (n:Int) (hn:I64 n) (w:World):Calls Try.prog 61 #[.int .i64 n] w fun e w'=>e = .returned (.agg #[.int .i64 1,.int .i64 n,.string ByteArray.empty,.slice none 0 0])∧Turned zN w w':=
 (int61 n hn w).mono fun e w' h=>⟨h.1,h.2.2⟩
theorem atomV63b (s:ByteArray) (hs:s.size≤maxLen) (w:World):Calls Try.prog 63 #[.string s] w fun e w'=>e = .returned (.agg #[.int .i64 2,.int .i64 0,.string s,.slice none 0 0])∧Turned zN w w':=
 (atom63 s hs w).mono fun e w' h=>⟨h.1,h.2.2⟩
def foldR (L:List Tm.Stp) (rs:List (Tm Unit)) (pre:List Nat):List (Tm Unit):=pre.foldl (fun rs q=>rs.set (idx L.length q) (Tm.madeS (L.getD (idx L.length q) noS) rs)) rs
theorem foldR_snoc (L:List Tm.Stp) (rs:List (Tm Unit)) (pre:List Nat) (q:Nat):foldR L rs (pre++[q])=(foldR L rs pre).set (idx L.length q) (Tm.madeS (L.getD (idx L.length q) noS) (foldR L rs pre)):=by
 unfold foldR;rw [List.foldl_append];rfl
theorem foldR_all (L:List Tm.Stp) (rs:List (Tm Unit)):foldR L rs (List.range L.length).reverse=Tm.backs L 0 rs:=by
 have key:∀ j i,i+j=L.length→foldR L rs ((List.range' i j).reverse)=Tm.backs (L.drop i) i rs:=by
  intro j
  induction j with
  | zero=>
   intro i hi;rw [List.drop_eq_nil_of_le (by omega)];rfl
  | succ j ih=>
   intro i hi
   have hl:i < L.length:=by omega
   rw [List.range'_succ,List.reverse_cons,foldR_snoc,ih (i+1) (by omega),List.drop_eq_getElem_cons hl,idx_of hl]
   have hgd:L.getD i noS=L[i]:=by rw [List.getD_eq_getElem?_getD,Qa hl];rfl
   rw [hgd];rfl
 have:=key L.length 0 (by omega);rw [List.range_eq_range'];exact this
def BackI (w:World) (gr B0 B6:Nat) (C0:Array Value) (L:List Tm.Stp) (pre:List Nat) (W:World):Prop:=
 ∃ rs:List LT,rs.map Tm.bare=foldR L (List.replicate L.length (Tm.V 0)) pre∧Row W 27 4 (.slice (some ⟨gr,0,none⟩) L.length L.length) L.length (rs.flatMap LT.cells)∧(∀ x∈rs,x.In (fun k=>k≠gr∧k≠w.heap.size+1) W)∧
  W.heap[B0]? = some (.cells C0 104 (0,0))∧W.heap[B0+1]? = some (.cells #[.int .i64 0,.int .i64 0,.string ⟨#[]⟩,.slice none 0 0] 27 (0,0))∧W.heap[B6]? = some (.cells #[.slice (some ⟨gr,0,none⟩) L.length L.length] 22 (0,0))∧Turned zN w W
theorem Row.own_kept {w W:World} {e:TypeId} {size n:Nat} {v:Value} {xs:List Value} (h:Row w e size v n xs) (hk:∀ (g:Nat) (c:Array Value) (T:TypeId) (z:Nat × Nat),w.heap[g]? = some (Obj.cells c T z)→W.heap[g]? = some (Obj.cells c T z)):Row W e size v n xs:=by
 refine ⟨h.1,?_⟩
 rcases h.2 with h2 | ⟨g,cap,cur,h1,h2,h3⟩
 · exact .inl h2
 · exact .inr ⟨g,cap,cur,h1,hk _ _ _ _ h2,h3⟩
theorem backI_own {w:World} {B gr B0 B6:Nat} {C0:Array Value} {L:List Tm.Stp} (hB:w.heap.size≤B):OwnFrom B (BackI w gr B0 B6 C0 L):=by
 rintro pre A B' row ⟨rs,h1,h2,h3,h4,h5,h6,h7⟩ hg hr
 have hr':=fun r e=>(hr r e).2
 exact ⟨rs,h1,h2.own_kept (fun g c T z h=>(grownBy_keeps_cells hg hr' h rfl).trans h),fun x hx=>LT.In.kept (fun a v h=>cell_kept h hg hr') x (h3 x hx),(grownBy_keeps_cells hg hr' h4 rfl).trans h4,(grownBy_keeps_cells hg hr' h5 rfl).trans h5,(grownBy_keeps_cells hg hr' h6 rfl).trans h6,h7.grown hg (fun k e=>.inl (by have:=(hr k e).1;omega))⟩
def store4 (W:World) (gr j:Nat) (a b c d:Value):World:=(((W.setCell ⟨gr,j * 4,none⟩ a).setCell ⟨gr,j * 4+1,none⟩ b).setCell ⟨gr,j * 4+2,none⟩ c).setCell ⟨gr,j * 4+3,none⟩ d
def StoreR (gr j:Nat) (a b c d:Value) (w0:World):List (Nat × Value)→World→Prop
 | [],W=>Turned zN w0 W
 | [(6,_)],W=>∃ W1,Turned zN w0 W1∧Turned zN (store4 W1 gr j a b c d) W
 | _,_=>False
theorem StoreR.turned0 {gr j:Nat} {a b c d:Value} {w0:World} (hs:List (Nat × Value)) (w w':World) (h:StoreR gr j a b c d w0 hs w) (T:Turned zN w w'):StoreR gr j a b c d w0 hs w':=by
 unfold StoreR at h ⊢
 split at h
 · exact h.trans T
 · obtain ⟨W1,h1,h2⟩:=h
   exact ⟨W1,h1,h2.trans T⟩
 · exact h.elim
theorem StoreR.early {gr j:Nat} {a b c d:Value} {w0:World} {hs:List (Nat × Value)} {W:World} (h:StoreR gr j a b c d w0 hs W) (hn:∀ v,(6,v)∉hs):hs=[]∧Turned zN w0 W:=by
 unfold StoreR at h
 split at h
 · exact ⟨rfl,h⟩
 · exact absurd (List.mem_singleton.2 rfl) (hn _)
 · exact h.elim
theorem StoreR.done {gr j:Nat} {a b c d:Value} {w0:World} {hs:List (Nat × Value)} {W:World} {v:Value} (h:StoreR gr j a b c d w0 hs W) (hv:(6,v)∈hs):∃ W1,Turned zN w0 W1∧Turned zN (store4 W1 gr j a b c d) W:=by
 unfold StoreR at h
 split at h
 · cases hv
 · exact h
 · exact h.elim
theorem BackI.next {w W W1 W2:World} {gr B0 B6:Nat} {C0:Array Value} {L:List Tm.Stp} {pre:List Nat} {q i:Nat} {s:Tm.Stp} {u:LT} {rs:List LT} (hw:w.heap.size≤gr) (hn1:gr≠w.heap.size+1) (hn0:B0≠gr) (hn2:B0+1≠gr) (hn6:B6≠gr) (hi:i=idx L.length q) (hil:i < L.length) (hs:s=L.getD i noS) (i1:rs.map Tm.bare=foldR L (List.replicate L.length (Tm.V 0)) pre) (i2:Row W 27 4 (.slice (some ⟨gr,0,none⟩) L.length L.length) L.length (rs.flatMap LT.cells)) (i3:∀ x∈rs,x.In (fun k=>k≠gr∧k≠w.heap.size+1) W)
 (i4:W.heap[B0]? = some (.cells C0 104 (0,0))) (i5:W.heap[B0+1]? = some (.cells #[.int .i64 0,.int .i64 0,.string ⟨#[]⟩,.slice none 0 0] 27 (0,0))) (i6:W.heap[B6]? = some (.cells #[.slice (some ⟨gr,0,none⟩) L.length L.length] 22 (0,0))) (i7:Turned zN w W)
 (T1:Turned zN W W1) (hu:u.In (fun k=>k≠gr∧k≠w.heap.size+1) W1) (hb:u.bare=Tm.madeS s (foldR L (List.replicate L.length (Tm.V 0)) pre)) (T2:Turned zN (store4 W1 gr i (.int .i64 u.kind) (.int .i64 u.n) (.string u.name) (.slice u.at_.1 u.args.length u.at_.2)) W2) :
 Turned (fun k=>k=gr) W W2∧BackI w gr B0 B6 C0 L (pre++[q]) W2:=by
 have Tq:Turned (fun k=>k=gr) W1 (store4 W1 gr i (.int .i64 u.kind) (.int .i64 u.n) (.string u.name) (.slice u.at_.1 u.args.length u.at_.2)):=turned_store4g W1 gr i _ _ _ _;have TW:Turned (fun k=>k=gr) W W2:=((T1.mono (fun _ _ f=>f.elim)).trans Tq).trans (T2.mono (fun _ _ f=>f.elim))
 have hrl:rs.length=L.length:=by have:=i2.1;rw [LT.flat_length] at this;omega
 refine ⟨TW,rs.set i u,?_,?_,fun x hx=>?_,(TW.block _ (zL i4) hn0).trans i4,(TW.block _ (zL i5) hn2).trans i5,(TW.block _ (zL i6) hn6).trans i6,i7.step TW (fun k hk e=>by omega)⟩
 · rw [List.map_set,i1,hb,foldR_snoc,←hi,←hs]
 · have t1:=(i2.turned0 T1).setAt (off:=i * 4) (by omega) (.int .i64 u.kind)
   have t2:=t1.setAt (off:=i * 4+1) (by omega) (.int .i64 u.n);have t3:=t2.setAt (off:=i * 4+2) (by omega) (.string u.name);have t4:=t3.setAt (off:=i * 4+3) (by omega) (.slice u.at_.1 u.args.length u.at_.2);rw [flat_set (by omega)] at t4;exact t4.turned0 T2
 · have up:∀ y:LT,y.In (fun k=>k≠gr∧k≠w.heap.size+1) W1→y.In (fun k=>k≠gr∧k≠w.heap.size+1) W2:=fun y hy=>(LT.In.turned Tq (fun k _ hk e=>hk.1 e) (fun _ _ h=>h) y hy).turned0 T2
   rcases List.mem_or_eq_of_mem_set hx with hx | rfl
   · exact up x ((i3 x hx).turned0 T1)
   · exact up _ hu
def CompR (gr j:Nat) (b:Tm Unit) (p:Nat→Prop) (w0:World):List (Nat × Value)→World→Prop
 | [],W=>Turned zN w0 W
 | [(13,v)],W=>Turned zN w0 W∧∃ u:LT,v = .agg #[.int .i64 u.kind,.int .i64 u.n,.string u.name,.slice u.at_.1 u.args.length u.at_.2]∧u.bare=b∧u.In p W
 | [(13,_),(15,_)],W=>∃ (W1:World) (u:LT),Turned zN w0 W1∧u.bare=b∧u.In p W1∧Turned zN (store4 W1 gr j (.int .i64 u.kind) (.int .i64 u.n) (.string u.name) (.slice u.at_.1 u.args.length u.at_.2)) W
 | _,_=>False
section
variable {gr j:Nat} {b:Tm Unit} {p:Nat→Prop} {w0:World} {hs:List (Nat × Value)} {W W':World}
theorem CompR.turned0 (hs:List (Nat × Value)) (W W':World) (h:CompR gr j b p w0 hs W) (T:Turned zN W W'):CompR gr j b p w0 hs W':=by
 unfold CompR at h ⊢
 split at h
 · exact h.trans T
 · obtain ⟨h1,u,h2,h3,h4⟩:=h
   exact ⟨h1.trans T,u,h2,h3,h4.turned0 T⟩
 · obtain ⟨W1,u,h1,h2,h3,h4⟩:=h
   exact ⟨W1,u,h1,h2,h3,h4.trans T⟩
 · exact h.elim
theorem CompR.early (h:CompR gr j b p w0 hs W) (hn:∀ v,(15,v)∉hs):Turned zN w0 W:=by
 unfold CompR at h
 split at h
 · exact h
 · exact h.1
 · exact absurd (Qb _ (List.mem_singleton.2 rfl)) (hn _)
 · exact h.elim
theorem CompR.first (h:CompR gr j b p w0 hs W) (h13:∀ v,(13,v)∉hs):hs=[]:=by
 unfold CompR at h
 split at h
 · rfl
 · exact absurd (List.mem_singleton.2 rfl) (h13 _)
 · exact absurd (Qe ..) (h13 _)
 · exact h.elim
theorem CompR.second {v:Value} (h:CompR gr j b p w0 hs W) (h15:∀ v,(15,v)∉hs) (hv:(13,v)∈hs):hs=[(13,v)]∧Turned zN w0 W∧∃ u:LT,v = .agg #[.int .i64 u.kind,.int .i64 u.n,.string u.name,.slice u.at_.1 u.args.length u.at_.2]∧u.bare=b∧u.In p W:=by
 unfold CompR at h
 split at h
 · cases hv
 · have e:=List.mem_singleton.1 hv
   injection e with _ e
   subst e;exact ⟨rfl,h⟩
 · exact absurd (Qb _ (List.mem_singleton.2 rfl)) (h15 _)
 · exact h.elim
theorem CompR.done {v:Value} (h:CompR gr j b p w0 hs W) (hv:(15,v)∈hs):∃ (W1:World) (u:LT),Turned zN w0 W1∧u.bare=b∧u.In p W1∧Turned zN (store4 W1 gr j (.int .i64 u.kind) (.int .i64 u.n) (.string u.name) (.slice u.at_.1 u.args.length u.at_.2)) W:=by
 unfold CompR at h
 split at h
 · cases hv
 · have e:=List.mem_singleton.1 hv
   cases e
 · exact h
 · exact h.elim
end
theorem backComp37 {W:World} {gr R b c:Nat} {rs:List LT} {p:Nat→Prop} (r1:Row W 27 4 (.slice (some ⟨gr,0,none⟩) R R) R (rs.flatMap LT.cells)) (r3:∀ x∈rs,x.In p W) (s:ByteArray) (hs:s.size≤maxLen) (hc:c+b≤R) (hR:R≤5000) :
 Calls Try.prog 37 #[.string s,.slice (some ⟨gr,c * 4,none⟩) b (R - c)] W fun e w'=>∃ u:LT,e = .returned (.agg #[.int .i64 u.kind,.int .i64 u.n,.string u.name,.slice u.at_.1 u.args.length u.at_.2])∧u.bare = .mk 2 0 s () (((rs.map Tm.bare).drop c).take b)∧u.In (fun k=>p k∨W.heap.size≤k) w'∧Turned zN W w':=by
 have e2:=r1.1;rw [LT.flat_length] at e2
 have hL:((rs.drop c).take b).map Tm.bare=((rs.map Tm.bare).drop c).take b:=by rw [List.map_take,List.map_drop]
 have hlen:((rs.drop c).take b).length=b:=by rw [List.length_take,List.length_drop];omega
 have hin:LT.Ins p W ((rs.drop c).take b):=(LT.ins_iff _).2 (fun y hy=>r3 y (List.mem_of_mem_drop (List.mem_of_mem_take hy)))
 have hsl:LT.Sl (fun _=>True) W (some ⟨gr,c * 4,none⟩) (R - c) ((rs.drop c).take b):=by
  refine ⟨fun e=>(by cases e),fun _=>⟨gr,c * 4,rfl,trivial,fun j v hv=>r1.cells rfl _ _ ?_⟩,LT.Ins.mono hin (fun _ _ _=>trivial),by rw [hlen];omega,by unfold maxLen;omega⟩
  have hj:j < b * 4:=by
   have:=(Qg.1 hv).1;rw [LT.flat_length,hlen] at this;exact this
  have hf:=(flat_take (rs.drop c) b (by rw [List.length_drop];omega)).1;rw [hf,List.getElem?_take,if_pos hj,(flat_take rs c (by omega)).2,List.getElem?_drop] at hv;exact hv
 have hcl:=comp37q (q:=p) s hs hsl hin (by rw [hlen];omega);rw [hlen] at hcl;refine hcl.mono ?_
 rintro e w' ⟨d,rfl,hy,T⟩
 refine ⟨_,by rw [LT.val_eq],?_,hy,T⟩;rw [Tm.bare,Tm.bares_eq,hL]
def BackA (w:World) (t:LT) (gr B6 Bn:Nat) (aL:Option Addr) (cL:Nat) (L:List Tm.Stp) (q:Nat) (a':Act) (W:World):Prop:=
 ∃ (g i:Nat) (s:Tm.Stp),i=idx L.length q∧s=L.getD i noS∧a'={ tmps:=#[.agg #[.int .i64 (t.args.length:Int),.int .i64 (t.vars.length:Int),.int .i64 (L.length:Int),.slice aL L.length cL],.string t.name,.pointer (some ⟨w.heap.size,0,none⟩),undef,.pointer (some ⟨w.heap.size+1,0,none⟩),.int .i64 0,.pointer (some ⟨B6,0,none⟩),.int .i64 i,.pointer (some ⟨g,0,none⟩),undef,.agg #[.int .i64 (t.args.length:Int),.int .i64 (t.vars.length:Int),.int .i64 (L.length:Int),.slice aL L.length cL],.bool true,.bool false,undef,.pointer (some ⟨w.heap.size,2,none⟩),.int .i64 L.length,.slice (some ⟨gr,0,none⟩) L.length L.length,.pointer (some ⟨w.heap.size,3,none⟩),.slice aL L.length cL,.func (.func 169) #[] #[.pointer (some ⟨Bn,0,none⟩)],.int .i64 i,stW s,undef,undef,undef,undef,undef,undef,undef,undef,undef,undef,undef,undef,undef,undef,undef,undef,undef,undef,undef,undef,undef,undef,undef,undef,undef,undef,undef,undef,undef,undef,undef,undef,undef,undef,undef,undef,undef,undef,undef,undef,undef,undef,undef,undef,undef,undef,undef,undef,undef,undef,undef,undef,undef],defers:=[] }∧
  W.heap[g]? = some (.cells #[.string s.op,.int .i64 s.a,.int .i64 s.b,.int .i64 s.c,.int .i64 s.n,.string s.name] 139 (0,0))
theorem backA_own {B:Nat} {w:World} {t:LT} {gr B6 Bn:Nat} {aL:Option Addr} {cL:Nat} {L:List Tm.Stp} (q:Nat) (a':Act):OwnFrom B (fun (_:Unit) W=>BackA w t gr B6 Bn aL cL L q a' W):=by
 rintro _ A B' row ⟨g,i,s,h0,h1,h2,h3⟩ hg hr
 exact ⟨g,i,s,h0,h1,h2,(grownBy_keeps_cells hg (fun r e=>(hr r e).2) h3 rfl).trans h3⟩
set_option maxRecDepth 100000 in
theorem back94 {p:Nat→Prop} {t:LT} {w:World} {aL:Option Addr} {cL n:Nat} {L:List Tm.Stp} (hin:t.In p w) (hg:goodB t=true) (hk:t.kind=2) (hn:n=Tm.sizes t.args) (hL:L=Tm.steps t.vars t.args n) (hr:Row w 139 6 (.slice aL L.length cL) L.length (L.flatMap stC)) :
 Calls Try.prog 94 #[.agg #[.int .i64 (t.args.length:Int),.int .i64 (t.vars.length:Int),.int .i64 (L.length:Int),.slice aL L.length cL],.string t.name] w fun e w'=>∃ u:LT,e = .returned (.tuple #[.agg #[.int .i64 u.kind,.int .i64 u.n,.string u.name,.slice u.at_.1 u.args.length u.at_.2],.int .i64 0])∧u.bare=Tm.fromT t.bare 0∧u.In (fun _=>True) w'∧Turned zN w w':=by
 have h2:=twoBox w (.cells #[.int .i64 (t.args.length:Int),.int .i64 (t.vars.length:Int),.int .i64 (L.length:Int),.slice aL L.length cL] 104) (.cells #[.int .i64 0,.int .i64 0,.string ⟨#[]⟩,.slice none 0 0] 27)
 have hlen:L.length=n:=by rw [hL,Tm.steps_length]
 have hgood:∀ W,Turned zN w W→Calls Try.prog 95 #[.agg #[.int .i64 (t.args.length:Int),.int .i64 (t.vars.length:Int),.int .i64 (L.length:Int),.slice aL L.length cL]] W fun e w'=>e = .returned (.bool true)∧Turned zN W w':=fun W T=>by
  have h:=goodHead95' (lv:=.slice aL L.length cL) (hin.turned0 T) hg hk (by rw [←hn,←hL,←hlen];exact hr.turned0 T);rw [←hn,←hlen] at h;exact h
 have hsz:L.length≤5000:=by
  have h:=hg;unfold goodB at h;simp only [Qd,decide_eq_true_eq] at h;have:=Tm.size_eq t;omega
 have H2:=hid h2;have HGOOD:=hid hgood;have HIN:=hid hin;have HR:=hid hr;have HN:=hid hn;have HL:=hid hL;have HLEN:=hid hlen;clear h2 hgood hin hr hn hL hlen;refine (callsIn_wide (n:=3)).1 ?_;refine callsIn_of_wp_marks Try.func94 rfl trivial ?_ rfl;simp only [Try.ntmps94,List.size_toArray,QB,List.length_nil,Nat.reduceAdd,Nat.reduceSub,Array.replicate_succ,Array.replicate_zero,List.push_toArray,List.append_toArray,List.nil_append,List.cons_append]
 gi_wp2_with (first
  | (refine ⟨trivial,?_⟩;gi_at_call 95;refine (callsIn_wide.2 (HGOOD.out _ H2.out.1)).mono ?_;rintro e w3 ⟨rfl,T3⟩;have hb0:=(T3.block _ (by have:=H2.out.2.1;omega) (fun f=>f)).trans H2.out.2.2.1;have hb1:=(T3.block _ (by have:=H2.out.2.1;omega) (fun f=>f)).trans H2.out.2.2.2;obtain ⟨k0,k1,k2,k3,_⟩:=cells4 hb0;obtain ⟨ZZ,hZZ⟩:∃ z,z=madeCells zeroT.cells (L.length * 4):=⟨_,rfl⟩;have hmk:=(make_blanksB L.length hsz w3).1;rw [←hZZ] at hmk;have hmk2:=(make_blanksB L.length hsz w3).2;rw [←hZZ] at hmk2;have HMK:=hid hmk2;clear hmk2;have HB0:=hid hb0;have HB1:=hid hb1;have HT3:=hid (H2.out.1.trans T3);obtain ⟨m0,m1,m2,m3,_⟩:=cells4 (((((Turned.refl (fun _=>False) w3).alloc (.cells ZZ 27)).alloc (.cells #[.slice (some ⟨w3.heap.size,0,none⟩) L.length L.length] 22)).bt hb0));clear hb0 hb1 T3 hZZ)
  | (refine ⟨trivial,?_⟩;gi_at_call 148;refine (back148 Fence.wide _ trivial rfl _ _ _ _).mono ?_;rintro e w' ⟨rfl,rfl⟩))
 have hT4:Turned zN w3 (((w3.alloc (.cells ZZ 27)).alloc (.cells #[.slice (some ⟨w3.heap.size,0,none⟩) L.length L.length] 22)).alloc (.cells #[.slice aL L.length cL] 102)):=(((Turned.refl (fun _=>False) w3).alloc _).alloc _).alloc _;have h3:=three_boxes w3 (.cells ZZ 27) (.cells #[.slice (some ⟨w3.heap.size,0,none⟩) L.length L.length] 22) (.cells #[.slice aL L.length cL] 102);have hrow4:Row (((w3.alloc (.cells ZZ 27)).alloc (.cells #[.slice (some ⟨w3.heap.size,0,none⟩) L.length L.length] 22)).alloc (.cells #[.slice aL L.length cL] 102)) 27 4 (.slice (some ⟨w3.heap.size,0,none⟩) L.length L.length) L.length ((blanks L.length).flatMap LT.cells):=HMK.out.turned0 (((Turned.refl (fun _=>False) _).alloc _).alloc _)
 have hsz4:(((w3.alloc (.cells ZZ 27)).alloc (.cells #[.slice (some ⟨w3.heap.size,0,none⟩) L.length L.length] 22)).alloc (.cells #[.slice aL L.length cL] 102)).heap.size=w3.heap.size+3:=by simp
 have hcc:L.length=0∨(L.length≤cL∧cL≤maxLen):=by
  rcases HR.out.2 with ⟨h,h'⟩ | ⟨g,cap,cur,h,_,h1,h2,_⟩
  · exact .inl h'
  · injection h with _ _ h
    subst h;exact .inr ⟨h1,h2⟩
 have hcc2:L.length≤cL∧cL≤maxLen:=by
  rcases HR.out.2 with ⟨h,h'⟩ | ⟨g,cap,cur,h,_,h1,h2,_⟩
  · injection h with _ h1 h2
    subst h2;exact ⟨by omega,by unfold maxLen;omega⟩
  · injection h with _ _ h
    subst h;exact ⟨h1,h2⟩
 have hws:w.heap.size+2≤w3.heap.size:=by
  have h1:=H2.out.2.1;have:=(zL HB1.out);omega
 clear hcc;revert hT4 h3 hrow4 hsz4;generalize (((w3.alloc (.cells ZZ 27)).alloc (.cells #[.slice (some ⟨w3.heap.size,0,none⟩) L.length L.length] 22)).alloc (.cells #[.slice aL L.length cL] 102))=w4;intro hT4 h3 hrow4 hsz4
 have hlt:∀ k,(Value.slice aL L.length cL).ownBlock=some k→k < w3.heap.size+3∧k≠w3.heap.size:=fun k hk=>by have:=HR.out.lt k hk;omega
 have hBn:w4.cell? ⟨w3.heap.size+1+1,0,none⟩=some (.slice aL L.length cL):=cell_of_row w4 (w3.heap.size+1+1) 0 _ 102 (0,0) h3.2.2.2
 refine wpIn_rangeFunc_ownH rfl (by omega) (gf:=169) (lb:=#[.pointer (some ⟨w3.heap.size+1+1,0,none⟩)]) rfl trivial (enters_of Try.func169 (by kernel_rfl) rfl)
  (back_stops169 Fence.wide (3 - 1) trivial rfl (by omega) (w3.heap.size+1+1) (w3.heap.size+3) w3.heap.size w4 (by omega) ⟨by omega,by omega⟩ hBn (HR.out.turned0 (HT3.out.trans hT4)) hlt hcc2.1 hcc2.2) kpB_t (kpB_b (by omega)) (Below.refl _ _) (fun _=>rfl)
  (BackI w w3.heap.size w.heap.size (w3.heap.size+1) #[.int .i64 (t.args.length:Int),.int .i64 (t.vars.length:Int),.int .i64 (L.length:Int),.slice aL L.length cL] L) (fun _ _ _=>False) (backI_own (by omega)) (fun _ _ _ _ _ hs _ _=>hs) ?start
  (BackA w t w3.heap.size (w3.heap.size+1) (w3.heap.size+1+1) aL cL L) (fun q a'=>backA_own q a') ?assign ?body ?done ?stop
 case start=>
  exact ⟨blanks L.length,blanks_V L.length,hrow4,fun x hx=>blanks_leaf L.length x hx _ _,(hT4.bt HB0.out),(hT4.bt HB1.out),h3.2.2.1,HT3.out.trans hT4⟩
 case assign=>
  intro lp pre q W K hI hK;have HK:=hid hK;have HI:=hid hI;clear hK hI;unfold stW;gi_wp2;have TA:=(Turned.refl (fun _=>False) W).alloc (.cells #[.string (L.getD (idx L.length q) noS).op,.int .i64 (L.getD (idx L.length q) noS).a,.int .i64 (L.getD (idx L.length q) noS).b,.int .i64 (L.getD (idx L.length q) noS).c,.int .i64 (L.getD (idx L.length q) noS).n,.string (L.getD (idx L.length q) noS).name] 139);obtain ⟨rs,i1,i2,i3,i4,i5,i6,i7⟩:=HI.out;refine HK.out _ _ (keepsFrom_turned0 TA) (kpB_of0 TA) ⟨rs,i1,i2.turned0 TA,fun x hx=>(i3 x hx).turned0 TA,(TA.bt i4),(TA.bt i5),(TA.bt i6),i7.trans TA⟩ ⟨W.heap.size,idx L.length q,L.getD (idx L.length q) noS,rfl,rfl,rfl,heap_alloc_new W _⟩
 case body=>
  rintro lp pre q a' W hlp - ⟨rs,i1,i2,i3,i4,i5,i6,i7⟩ ⟨g,i,s,hi,hs,rfl,hgc⟩ hplen
  have hil:i < L.length:=by rw [hi];exact idx_lt (by omega)
  have hLi:L[i]? = some s:=by rw [hs,List.getD_eq_getElem?_getD,Qa hil];rfl
  obtain ⟨x,hx,hsx⟩:=steps_at (t:=t) (i:=i) (s:=s) (by rw [←HN.out,←HL.out];exact hLi);have hxf:=LT.In.flat t HIN.out x (by rw [Tm.flat_eq];exact Qb _ (Tm.regs_flats x (Qf hx)))
  have hgg:W.heap[w3.heap.size]?≠some (.cells #[.string s.op,.int .i64 s.a,.int .i64 s.b,.int .i64 s.c,.int .i64 s.n,.string s.name] 139 (0,0)):=by
   rcases i2.2 with ⟨h,_⟩ | ⟨g',cap,cur,h,h',_⟩
   · cases h
   · injection h with h
     injection h with h
     injection h with h
     rw [h,h'];intro c
     injection c with c
     injection c with _ c
     cases c
  have hg3:g≠w3.heap.size:=fun e=>hgg (e ▸ hgc)
  obtain ⟨n0,n1,n2,n3,n4,n5⟩:=cells6 hgc;have c6:=cell_of_row W (w3.heap.size+1) 0 _ 22 (0,0) i6;simp only [List.getElem?_toArray,List.getElem?_cons_zero] at c6
  have hnext:=fun (W1 W2:World) (u:LT) (T1:Turned zN W W1) (hu:u.In (fun k=>k≠w3.heap.size∧k≠w.heap.size+1) W1) (hb:u.bare=Tm.madeS s (foldR L (List.replicate L.length (Tm.V 0)) pre)) T2=>BackI.next (B0:=w.heap.size) (B6:=w3.heap.size+1) (W2:=W2) (by omega) (by omega) (by omega) (by omega) (by omega) hi hil hs i1 i2 i3 i4 i5 i6 i7 T1 hu hb T2
  have HNX:=hid hnext;have HI2:=hid i2;have HI1:=hid i1;have HI3:=hid i3;have HC6:=hid (fun W' (T:Turned zN W W')=>(T.cell0 c6));have HNC:=hid (fun W' (T:Turned zN W W')=>cells6 ((T.bt hgc)));have HXF:=hid hxf;have HX:=hid hx
  obtain ⟨cur,hcur⟩:∃ cur,W.heap[w3.heap.size]? = some (.cells cur 27 (0,0)):=by
   rcases i2.2 with ⟨h,_⟩ | ⟨g',cap,cur,h,h',_⟩
   · cases h
   · injection h with h
     injection h with h
     injection h with h
     exact ⟨cur,by rw [h];exact h'⟩
  have HCUR:=hid hcur;clear hnext i1 i2 i3 i4 i5 i6 i7 hgg hxf hi hs hgc hcur hLi;unfold stW
  by_cases h0:x.kind=0
  · have hse:∃ op,(op=Tm.sVar∨op=Tm.sVal)∧s=⟨op,(i:Int),(Tm.posOf t.vars x.n:Int),0,0,ByteArray.empty⟩:=by
     rw [hsx];unfold Tm.stepX;rw [if_pos h0];refine ⟨_,?_,rfl⟩
     split <;> simp
    obtain ⟨op,hop,hse⟩:=hse;clear hsx hx
    have HB0:Hid (∀ (u:LT),u=leaf 0 (Tm.posOf t.vars x.n:Int) ByteArray.empty→u.bare=Tm.madeS s (foldR L (List.replicate L.length (Tm.V 0)) pre)):=fun u hu=>by
     rw [hu,hse];unfold Tm.madeS;rw [if_pos (by simpa using hop)];rfl
    have hpos:Tm.posOf t.vars x.n≤5000:=by
     have h1:Tm.posOf t.vars x.n≤t.vars.length:=List.idxOf_le_length;have h2:=vars_le t;have h:=hg;unfold goodB at h;simp only [Qd,decide_eq_true_eq] at h;omega
    subst hse;simp only [] at n0 n1 n2 n3 n4 n5
    rcases hop with rfl | rfl
    · have o0:=op_Var_Var
      have o1:=op_Var_Val;gi_wp2;refine wpIn_region_k [42,43,44,45,46,47] [6] [] (fun dd vv=>(match dd with | 42=>vv = .slice (some ⟨w3.heap.size,0,none⟩) L.length L.length | 43=>vv = .int .i64 (i:Int) | 44=>vv = .pointer (some ⟨g,2,none⟩) | 45=>vv = .int .i64 (Tm.posOf t.vars x.n:Int) | 46=>vv = .agg #[.int .i64 0,.int .i64 (Tm.posOf t.vars x.n:Int),.string ByteArray.empty,.slice none 0 0] | 47=>vv = .pointer (some ⟨w3.heap.size,i * 4,none⟩) | _=>True:Prop)) (StoreR w3.heap.size i (.int .i64 0) (.int .i64 (Tm.posOf t.vars x.n:Int)) (.string ByteArray.empty) (.slice none 0 0) W) (by kernel_rfl) rfl (by kernel_rfl) (by kernel_rfl) (fun W' T=>T) (fun hs w w' h T=>StoreR.turned0 hs w w' h T) ?hs ?hQ (by kernel_rfl)
      case hs=>
       refine ⟨?s0,?s1,?s2,?s3,?s4,?s5,?s6,trivial⟩
       case s0=>
        refine fun hs hl=>zG [] [6] ?_
        intro ac W8 hT hI hO;have hE:=(hT.early (fun v=>hl 6 8 v (by kernel_rfl))).2;have c6:=HC6.out W8 hE;show Brings _ (fun vv w'=>Turned zN W8 w'∧vv = .slice (some ⟨w3.heap.size,0,none⟩) L.length L.length) _;simp only [execOp,Act.eval,hO 6 (by simp)];go_simp
        try exact tq
       case s1=>
        refine fun hs hl=>zG [] [7] ?_
        intro ac W8 hT hI hO;show Brings _ (fun vv w'=>Turned zN W8 w'∧vv = .int .i64 (i:Int)) _;simp only [execOp,Act.eval,hO 7 (by simp)];go_simp
        try exact tq
       case s2=>
        refine fun hs hl=>zG [] [8] ?_
        intro ac W8 hT hI hO;show Brings _ (fun vv w'=>Turned zN W8 w'∧vv = .pointer (some ⟨g,2,none⟩)) _;simp only [execOp,Act.eval,hO 8 (by simp)];go_simp
        try exact tq
       case s3=>
        refine fun hs hl=>zG [44] [] ?_
        intro ac W8 hT hI hO;have h44:_=_:=hI 44 (by simp);have hE:=(hT.early (fun v=>hl 6 8 v (by kernel_rfl))).2;obtain ⟨n0,n1,n2,n3,n4,n5⟩:=HNC.out W8 hE;show Brings _ (fun vv w'=>Turned zN W8 w'∧vv = .int .i64 (Tm.posOf t.vars x.n:Int)) _;simp only [execOp,Act.eval,h44];go_simp
        try exact tq
       case s4=>
        refine fun hs hl=>zG [45] [] ?_
        intro ac W8 hT hI hO;have h45:_=_:=hI 45 (by simp);show Brings _ (fun vv w'=>Turned zN W8 w'∧vv = .agg #[.int .i64 0,.int .i64 (Tm.posOf t.vars x.n:Int),.string ByteArray.empty,.slice none 0 0]) _;simp only [execOp,Act.eval,h45];go_simp;show Calls Try.prog 62 _ W8 _
        (with_reducible refine (varV62b (Tm.posOf t.vars x.n:Int) (by unfold I64;omega) W8).mono ?_)
        rintro e w' ⟨rfl,T'⟩
        exact ⟨_,rfl,T',rfl⟩
       case s5=>
        refine fun hs hl=>zG [42,43] [] ?_
        intro ac W8 hT hI hO;have h42:_=_:=hI 42 (by simp);have h43:_=_:=hI 43 (by simp);have hii:i < L.length:=hil;show Brings _ (fun vv w'=>Turned zN W8 w'∧vv = .pointer (some ⟨w3.heap.size,i * 4,none⟩)) _;simp only [execOp,Act.eval,h42,h43];go_simp
        try exact tq
       case s6=>
        refine fun hs hno hl=>zG [47,46] [] ?_
        intro ac W8 hT hI hO;have h47:_=_:=hI 47 (by simp);have h46:_=_:=hI 46 (by simp);have hE:=(hT.early hno);obtain ⟨rfl,hE⟩:=hE;have hcw:=(hE.bt HCUR.out);obtain ⟨y0,c0⟩:=row_some (HI2.out.turned0 hE) (i * 4) (by omega);obtain ⟨y1,c1⟩:=row_some (HI2.out.turned0 hE) (i * 4+1) (by omega);obtain ⟨y2,c2⟩:=row_some (HI2.out.turned0 hE) (i * 4+2) (by omega);obtain ⟨y3,c3⟩:=row_some (HI2.out.turned0 hE) (i * 4+3) (by omega);have f0:=(HI2.out.turned0 hE).free rfl (i * 4);have f1:=(HI2.out.turned0 hE).free rfl (i * 4+1);have f2:=(HI2.out.turned0 hE).free rfl (i * 4+2);have f3:=(HI2.out.turned0 hE).free rfl (i * 4+3);show Brings _ (fun vv w'=>StoreR w3.heap.size i (.int .i64 0) (.int .i64 (Tm.posOf t.vars x.n:Int)) (.string ByteArray.empty) (.slice none 0 0) W [(6,vv)] w') _;simp only [execOp,Act.eval,h47,h46];go_simp;exact ⟨W8,hE,Turned.refl _ _⟩
      case hQ=>
       intro hs vs W9 hall huniq hR hV;obtain ⟨v6,h6⟩:=hall 6 (by simp);obtain ⟨W1,T1,T2⟩:=hR.done h6;simp only [Qq,List.foldl_nil,Qk,Qs,Qr];obtain ⟨TW,hnx⟩:=HNX.out W1 W9 (leaf 0 (Tm.posOf t.vars x.n:Int) ByteArray.empty:LT) T1 (var_in (by unfold I64;omega)) (HB0.out _ rfl) T2;clear hall huniq hR hV h6;gi_wp2;exact ⟨keepsFrom_turned TW HCUR.out,kpB_of TW,hnx⟩
    · have o0:=op_Val_Var
      have o1:=op_Val_Val;gi_wp2;refine wpIn_region_k [42,43,44,45,46,47] [6] [] (fun dd vv=>(match dd with | 42=>vv = .slice (some ⟨w3.heap.size,0,none⟩) L.length L.length | 43=>vv = .int .i64 (i:Int) | 44=>vv = .pointer (some ⟨g,2,none⟩) | 45=>vv = .int .i64 (Tm.posOf t.vars x.n:Int) | 46=>vv = .agg #[.int .i64 0,.int .i64 (Tm.posOf t.vars x.n:Int),.string ByteArray.empty,.slice none 0 0] | 47=>vv = .pointer (some ⟨w3.heap.size,i * 4,none⟩) | _=>True:Prop)) (StoreR w3.heap.size i (.int .i64 0) (.int .i64 (Tm.posOf t.vars x.n:Int)) (.string ByteArray.empty) (.slice none 0 0) W) (by kernel_rfl) rfl (by kernel_rfl) (by kernel_rfl) (fun W' T=>T) (fun hs w w' h T=>StoreR.turned0 hs w w' h T) ?hs ?hQ (by kernel_rfl)
      case hs=>
       refine ⟨?s0,?s1,?s2,?s3,?s4,?s5,?s6,trivial⟩
       case s0=>
        refine fun hs hl=>zG [] [6] ?_
        intro ac W8 hT hI hO;have hE:=(hT.early (fun v=>hl 6 8 v (by kernel_rfl))).2;have c6:=HC6.out W8 hE;show Brings _ (fun vv w'=>Turned zN W8 w'∧vv = .slice (some ⟨w3.heap.size,0,none⟩) L.length L.length) _;simp only [execOp,Act.eval,hO 6 (by simp)];go_simp
        try exact tq
       case s1=>
        refine fun hs hl=>zG [] [7] ?_
        intro ac W8 hT hI hO;show Brings _ (fun vv w'=>Turned zN W8 w'∧vv = .int .i64 (i:Int)) _;simp only [execOp,Act.eval,hO 7 (by simp)];go_simp
        try exact tq
       case s2=>
        refine fun hs hl=>zG [] [8] ?_
        intro ac W8 hT hI hO;show Brings _ (fun vv w'=>Turned zN W8 w'∧vv = .pointer (some ⟨g,2,none⟩)) _;simp only [execOp,Act.eval,hO 8 (by simp)];go_simp
        try exact tq
       case s3=>
        refine fun hs hl=>zG [44] [] ?_
        intro ac W8 hT hI hO;have h44:_=_:=hI 44 (by simp);have hE:=(hT.early (fun v=>hl 6 8 v (by kernel_rfl))).2;obtain ⟨n0,n1,n2,n3,n4,n5⟩:=HNC.out W8 hE;show Brings _ (fun vv w'=>Turned zN W8 w'∧vv = .int .i64 (Tm.posOf t.vars x.n:Int)) _;simp only [execOp,Act.eval,h44];go_simp
        try exact tq
       case s4=>
        refine fun hs hl=>zG [45] [] ?_
        intro ac W8 hT hI hO;have h45:_=_:=hI 45 (by simp);show Brings _ (fun vv w'=>Turned zN W8 w'∧vv = .agg #[.int .i64 0,.int .i64 (Tm.posOf t.vars x.n:Int),.string ByteArray.empty,.slice none 0 0]) _;simp only [execOp,Act.eval,h45];go_simp;show Calls Try.prog 62 _ W8 _
        (with_reducible refine (varV62b (Tm.posOf t.vars x.n:Int) (by unfold I64;omega) W8).mono ?_)
        rintro e w' ⟨rfl,T'⟩
        exact ⟨_,rfl,T',rfl⟩
       case s5=>
        refine fun hs hl=>zG [42,43] [] ?_
        intro ac W8 hT hI hO;have h42:_=_:=hI 42 (by simp);have h43:_=_:=hI 43 (by simp);have hii:i < L.length:=hil;show Brings _ (fun vv w'=>Turned zN W8 w'∧vv = .pointer (some ⟨w3.heap.size,i * 4,none⟩)) _;simp only [execOp,Act.eval,h42,h43];go_simp
        try exact tq
       case s6=>
        refine fun hs hno hl=>zG [47,46] [] ?_
        intro ac W8 hT hI hO;have h47:_=_:=hI 47 (by simp);have h46:_=_:=hI 46 (by simp);have hE:=(hT.early hno);obtain ⟨rfl,hE⟩:=hE;have hcw:=(hE.bt HCUR.out);obtain ⟨y0,c0⟩:=row_some (HI2.out.turned0 hE) (i * 4) (by omega);obtain ⟨y1,c1⟩:=row_some (HI2.out.turned0 hE) (i * 4+1) (by omega);obtain ⟨y2,c2⟩:=row_some (HI2.out.turned0 hE) (i * 4+2) (by omega);obtain ⟨y3,c3⟩:=row_some (HI2.out.turned0 hE) (i * 4+3) (by omega);have f0:=(HI2.out.turned0 hE).free rfl (i * 4);have f1:=(HI2.out.turned0 hE).free rfl (i * 4+1);have f2:=(HI2.out.turned0 hE).free rfl (i * 4+2);have f3:=(HI2.out.turned0 hE).free rfl (i * 4+3);show Brings _ (fun vv w'=>StoreR w3.heap.size i (.int .i64 0) (.int .i64 (Tm.posOf t.vars x.n:Int)) (.string ByteArray.empty) (.slice none 0 0) W [(6,vv)] w') _;simp only [execOp,Act.eval,h47,h46];go_simp;exact ⟨W8,hE,Turned.refl _ _⟩
      case hQ=>
       intro hs vs W9 hall huniq hR hV;obtain ⟨v6,h6⟩:=hall 6 (by simp);obtain ⟨W1,T1,T2⟩:=hR.done h6;simp only [Qq,List.foldl_nil,Qk,Qs,Qr];obtain ⟨TW,hnx⟩:=HNX.out W1 W9 (leaf 0 (Tm.posOf t.vars x.n:Int) ByteArray.empty:LT) T1 (var_in (by unfold I64;omega)) (HB0.out _ rfl) T2;clear hall huniq hR hV h6;gi_wp2;exact ⟨keepsFrom_turned TW HCUR.out,kpB_of TW,hnx⟩
  by_cases h1:x.kind=1
  · have hse:s=⟨Tm.sInt,(i:Int),0,0,x.n,ByteArray.empty⟩:=by
     rw [hsx];unfold Tm.stepX;rw [if_neg h0,if_pos h1]
    clear hsx hx
    have HB0:Hid (∀ (u:LT),u=leaf 1 x.n ByteArray.empty→u.bare=Tm.madeS s (foldR L (List.replicate L.length (Tm.V 0)) pre)):=fun u hu=>by
     obtain ⟨e1,e2,e3,e4,e5,e6,e7,e8,e9,e10⟩:=Tm.ne_ops;rw [hu,hse];unfold Tm.madeS;rw [if_neg (by simp [e2,e3]),if_pos rfl];rfl
    have h64:=HXF.out.n;subst hse;simp only [] at n0 n1 n2 n3 n4 n5;have o0:=op_Int_Var;have o1:=op_Int_Val;have o2:=op_Int_Int;have HX64:=hid h64;clear h0 h1 h64;gi_wp2;refine wpIn_region_k [50,51,52,53,54,55] [6] [] (fun dd vv=>(match dd with | 50=>vv = .slice (some ⟨w3.heap.size,0,none⟩) L.length L.length | 51=>vv = .int .i64 (i:Int) | 52=>vv = .pointer (some ⟨g,4,none⟩) | 53=>vv = .int .i64 x.n | 54=>vv = .agg #[.int .i64 1,.int .i64 x.n,.string ByteArray.empty,.slice none 0 0] | 55=>vv = .pointer (some ⟨w3.heap.size,i * 4,none⟩) | _=>True:Prop)) (StoreR w3.heap.size i (.int .i64 1) (.int .i64 x.n) (.string ByteArray.empty) (.slice none 0 0) W) (by kernel_rfl) rfl (by kernel_rfl) (by kernel_rfl) (fun W' T=>T) (fun hs w w' h T=>StoreR.turned0 hs w w' h T) ?hs ?hQ (by kernel_rfl)
    case hs=>
     refine ⟨?s0,?s1,?s2,?s3,?s4,?s5,?s6,trivial⟩
     case s0=>
      refine fun hs hl=>zG [] [6] ?_
      intro ac W8 hT hI hO;have hE:=(hT.early (fun v=>hl 6 8 v (by kernel_rfl))).2;have c6:=HC6.out W8 hE;show Brings _ (fun vv w'=>Turned zN W8 w'∧vv = .slice (some ⟨w3.heap.size,0,none⟩) L.length L.length) _;simp only [execOp,Act.eval,hO 6 (by simp)];go_simp
      try exact tq
     case s1=>
      refine fun hs hl=>zG [] [7] ?_
      intro ac W8 hT hI hO;show Brings _ (fun vv w'=>Turned zN W8 w'∧vv = .int .i64 (i:Int)) _;simp only [execOp,Act.eval,hO 7 (by simp)];go_simp
      try exact tq
     case s2=>
      refine fun hs hl=>zG [] [8] ?_
      intro ac W8 hT hI hO;show Brings _ (fun vv w'=>Turned zN W8 w'∧vv = .pointer (some ⟨g,4,none⟩)) _;simp only [execOp,Act.eval,hO 8 (by simp)];go_simp
      try exact tq
     case s3=>
      refine fun hs hl=>zG [52] [] ?_
      intro ac W8 hT hI hO;have h52:_=_:=hI 52 (by simp);have hE:=(hT.early (fun v=>hl 6 8 v (by kernel_rfl))).2;obtain ⟨n0,n1,n2,n3,n4,n5⟩:=HNC.out W8 hE;show Brings _ (fun vv w'=>Turned zN W8 w'∧vv = .int .i64 x.n) _;simp only [execOp,Act.eval,h52];go_simp
      try exact tq
     case s4=>
      refine fun hs hl=>zG [53] [] ?_
      intro ac W8 hT hI hO;have h53:_=_:=hI 53 (by simp);show Brings _ (fun vv w'=>Turned zN W8 w'∧vv = .agg #[.int .i64 1,.int .i64 x.n,.string ByteArray.empty,.slice none 0 0]) _;simp only [execOp,Act.eval,h53];go_simp;show Calls Try.prog 61 _ W8 _
      (with_reducible refine (intV61 x.n HX64.out W8).mono ?_)
      rintro e w' ⟨rfl,T'⟩
      exact ⟨_,rfl,T',rfl⟩
     case s5=>
      refine fun hs hl=>zG [50,51] [] ?_
      intro ac W8 hT hI hO;have h50:_=_:=hI 50 (by simp);have h51:_=_:=hI 51 (by simp);have hii:i < L.length:=hil;show Brings _ (fun vv w'=>Turned zN W8 w'∧vv = .pointer (some ⟨w3.heap.size,i * 4,none⟩)) _;simp only [execOp,Act.eval,h50,h51];go_simp
      try exact tq
     case s6=>
      refine fun hs hno hl=>zG [55,54] [] ?_
      intro ac W8 hT hI hO;have h55:_=_:=hI 55 (by simp);have h54:_=_:=hI 54 (by simp);have hE:=(hT.early hno);obtain ⟨rfl,hE⟩:=hE;have hcw:=(hE.bt HCUR.out);obtain ⟨y0,c0⟩:=row_some (HI2.out.turned0 hE) (i * 4) (by omega);obtain ⟨y1,c1⟩:=row_some (HI2.out.turned0 hE) (i * 4+1) (by omega);obtain ⟨y2,c2⟩:=row_some (HI2.out.turned0 hE) (i * 4+2) (by omega);obtain ⟨y3,c3⟩:=row_some (HI2.out.turned0 hE) (i * 4+3) (by omega);have f0:=(HI2.out.turned0 hE).free rfl (i * 4);have f1:=(HI2.out.turned0 hE).free rfl (i * 4+1);have f2:=(HI2.out.turned0 hE).free rfl (i * 4+2);have f3:=(HI2.out.turned0 hE).free rfl (i * 4+3);show Brings _ (fun vv w'=>StoreR w3.heap.size i (.int .i64 1) (.int .i64 x.n) (.string ByteArray.empty) (.slice none 0 0) W [(6,vv)] w') _;simp only [execOp,Act.eval,h55,h54];go_simp;exact ⟨W8,hE,Turned.refl _ _⟩
    case hQ=>
     intro hs vs W9 hall huniq hR hV;obtain ⟨v6,h6⟩:=hall 6 (by simp);obtain ⟨W1,T1,T2⟩:=hR.done h6;simp only [Qq,List.foldl_nil,Qk,Qs,Qr];obtain ⟨TW,hnx⟩:=HNX.out W1 W9 (leaf 1 x.n ByteArray.empty:LT) T1 (leafIn' (i64_lit 1 (by omega)) HX64.out (by unfold maxLen;decide)) (HB0.out _ rfl) T2;clear hall huniq hR hV h6;gi_wp2;exact ⟨keepsFrom_turned TW HCUR.out,kpB_of TW,hnx⟩
  by_cases ha:x.args.length=0
  · have hse:s=⟨Tm.sAtom,(i:Int),0,0,0,x.name⟩:=by
     rw [hsx];unfold Tm.stepX;rw [if_neg h0,if_neg h1,if_pos ha]
    clear hsx hx
    have HB0:Hid (∀ (u:LT),u=leaf 2 0 x.name→u.bare=Tm.madeS s (foldR L (List.replicate L.length (Tm.V 0)) pre)):=fun u hu=>by
     obtain ⟨e1,e2,e3,e4,e5,e6,e7,e8,e9,e10⟩:=Tm.ne_ops;rw [hu,hse];unfold Tm.madeS;rw [if_neg (by simp [e4,e5]),if_neg e6,if_pos rfl];rfl
    have hnm:=HXF.out.name;subst hse;simp only [] at n0 n1 n2 n3 n4 n5;have o0:=op_Atom_Var;have o1:=op_Atom_Val;have o2:=op_Atom_Int;have o3:=op_Atom_Atom;have HNM:=hid hnm;clear h0 h1 ha hnm;gi_wp2;refine wpIn_region_k [58,59,60,61,62,63] [6] [] (fun dd vv=>(match dd with | 58=>vv = .slice (some ⟨w3.heap.size,0,none⟩) L.length L.length | 59=>vv = .int .i64 (i:Int) | 60=>vv = .pointer (some ⟨g,5,none⟩) | 61=>vv = .string x.name | 62=>vv = .agg #[.int .i64 2,.int .i64 0,.string x.name,.slice none 0 0] | 63=>vv = .pointer (some ⟨w3.heap.size,i * 4,none⟩) | _=>True:Prop)) (StoreR w3.heap.size i (.int .i64 2) (.int .i64 0) (.string x.name) (.slice none 0 0) W) (by kernel_rfl) rfl (by kernel_rfl) (by kernel_rfl) (fun W' T=>T) (fun hs w w' h T=>StoreR.turned0 hs w w' h T) ?hs ?hQ (by kernel_rfl)
    case hs=>
     refine ⟨?s0,?s1,?s2,?s3,?s4,?s5,?s6,trivial⟩
     case s0=>
      refine fun hs hl=>zG [] [6] ?_
      intro ac W8 hT hI hO;have hE:=(hT.early (fun v=>hl 6 8 v (by kernel_rfl))).2;have c6:=HC6.out W8 hE;show Brings _ (fun vv w'=>Turned zN W8 w'∧vv = .slice (some ⟨w3.heap.size,0,none⟩) L.length L.length) _;simp only [execOp,Act.eval,hO 6 (by simp)];go_simp
      try exact tq
     case s1=>
      refine fun hs hl=>zG [] [7] ?_
      intro ac W8 hT hI hO;show Brings _ (fun vv w'=>Turned zN W8 w'∧vv = .int .i64 (i:Int)) _;simp only [execOp,Act.eval,hO 7 (by simp)];go_simp
      try exact tq
     case s2=>
      refine fun hs hl=>zG [] [8] ?_
      intro ac W8 hT hI hO;show Brings _ (fun vv w'=>Turned zN W8 w'∧vv = .pointer (some ⟨g,5,none⟩)) _;simp only [execOp,Act.eval,hO 8 (by simp)];go_simp
      try exact tq
     case s3=>
      refine fun hs hl=>zG [60] [] ?_
      intro ac W8 hT hI hO;have h60:_=_:=hI 60 (by simp);have hE:=(hT.early (fun v=>hl 6 8 v (by kernel_rfl))).2;obtain ⟨n0,n1,n2,n3,n4,n5⟩:=HNC.out W8 hE;show Brings _ (fun vv w'=>Turned zN W8 w'∧vv = .string x.name) _;simp only [execOp,Act.eval,h60];go_simp
      try exact tq
     case s4=>
      refine fun hs hl=>zG [61] [] ?_
      intro ac W8 hT hI hO;have h61:_=_:=hI 61 (by simp);show Brings _ (fun vv w'=>Turned zN W8 w'∧vv = .agg #[.int .i64 2,.int .i64 0,.string x.name,.slice none 0 0]) _;simp only [execOp,Act.eval,h61];go_simp;show Calls Try.prog 63 _ W8 _
      (with_reducible refine (atomV63b x.name HNM.out W8).mono ?_)
      rintro e w' ⟨rfl,T'⟩
      exact ⟨_,rfl,T',rfl⟩
     case s5=>
      refine fun hs hl=>zG [58,59] [] ?_
      intro ac W8 hT hI hO;have h58:_=_:=hI 58 (by simp);have h59:_=_:=hI 59 (by simp);have hii:i < L.length:=hil;show Brings _ (fun vv w'=>Turned zN W8 w'∧vv = .pointer (some ⟨w3.heap.size,i * 4,none⟩)) _;simp only [execOp,Act.eval,h58,h59];go_simp
      try exact tq
     case s6=>
      refine fun hs hno hl=>zG [63,62] [] ?_
      intro ac W8 hT hI hO;have h63:_=_:=hI 63 (by simp);have h62:_=_:=hI 62 (by simp);have hE:=(hT.early hno);obtain ⟨rfl,hE⟩:=hE;have hcw:=(hE.bt HCUR.out);obtain ⟨y0,c0⟩:=row_some (HI2.out.turned0 hE) (i * 4) (by omega);obtain ⟨y1,c1⟩:=row_some (HI2.out.turned0 hE) (i * 4+1) (by omega);obtain ⟨y2,c2⟩:=row_some (HI2.out.turned0 hE) (i * 4+2) (by omega);obtain ⟨y3,c3⟩:=row_some (HI2.out.turned0 hE) (i * 4+3) (by omega);have f0:=(HI2.out.turned0 hE).free rfl (i * 4);have f1:=(HI2.out.turned0 hE).free rfl (i * 4+1);have f2:=(HI2.out.turned0 hE).free rfl (i * 4+2);have f3:=(HI2.out.turned0 hE).free rfl (i * 4+3);show Brings _ (fun vv w'=>StoreR w3.heap.size i (.int .i64 2) (.int .i64 0) (.string x.name) (.slice none 0 0) W [(6,vv)] w') _;simp only [execOp,Act.eval,h63,h62];go_simp;exact ⟨W8,hE,Turned.refl _ _⟩
    case hQ=>
     intro hs vs W9 hall huniq hR hV;obtain ⟨v6,h6⟩:=hall 6 (by simp);obtain ⟨W1,T1,T2⟩:=hR.done h6;simp only [Qq,List.foldl_nil,Qk,Qs,Qr];obtain ⟨TW,hnx⟩:=HNX.out W1 W9 (leaf 2 0 x.name:LT) T1 (leafIn' (i64_lit 2 (by omega)) (i64_lit 0 (by omega)) HNM.out) (HB0.out _ rfl) T2;clear hall huniq hR hV h6;gi_wp2;exact ⟨keepsFrom_turned TW HCUR.out,kpB_of TW,hnx⟩
  · have hgo:goodOneB x=true:=by
     have h:=hg;unfold goodB at h;simp only [Qd,decide_eq_true_eq,Qt] at h;exact h.2.2 x (by rw [Tm.flat_eq];exact Qb _ (Tm.regs_flats x (Qf hx)))
    have hse:s=⟨Tm.sComp,(i:Int),(x.args.length:Int),(Tm.cb t.args i:Int),0,x.name⟩:=by
     rw [hsx];unfold Tm.stepX;rw [if_neg h0,if_neg h1,if_neg ha]
    obtain ⟨_,_,hcb,_⟩:=Tm.cb_next hx;clear hsx hx;obtain ⟨cb,hcbe⟩:∃ z,z=Tm.cb t.args i:=⟨_,rfl⟩;obtain ⟨ab,habe⟩:∃ z,z=x.args.length:=⟨_,rfl⟩;rw [←hcbe,←habe] at hse hcb
    have hcb2:cb+ab≤L.length:=by have:=HN.out;have:=HLEN.out;omega
    have HB0:Hid (∀ (u:LT),u.bare = .mk 2 0 x.name () (((rs.map Tm.bare).drop cb).take ab)→u.bare=Tm.madeS s (foldR L (List.replicate L.length (Tm.V 0)) pre)):=fun u hu=>by
     obtain ⟨e1,e2,e3,e4,e5,e6,e7,e8,e9,e10⟩:=Tm.ne_ops;rw [hu,hse,HI1.out];unfold Tm.madeS;rw [if_neg (by simp [e7,e8]),if_neg e9,if_neg e10];simp only [Int.toNat_natCast]
    have hnm:=HXF.out.name;subst hse;simp only [] at n0 n1 n2 n3 n4 n5;have o0:=op_Comp_Var;have o1:=op_Comp_Val;have o2:=op_Comp_Int;have o3:=op_Comp_Atom;have HNM:=hid hnm;have hW6:=(zL HCUR.out);have HCP:=hid (fun W' (T:Turned zN W W')=>backComp37 (c:=cb) (b:=ab) (HI2.out.turned0 T) (fun x hx=>(HI3.out x hx).turned0 T) x.name HNM.out hcb2 hsz);have HW6:=hid hW6;have HWS:=hid hws;obtain ⟨ce,hce⟩:∃ z,z=cb+ab:=⟨_,rfl⟩
    have hw:IntKind.i64.wrap ((cb:Int)+(ab:Int))=(ce:Int):=by rw [wrapI (by omega) (by omega)];omega
    have HWR:=hid hw;have HCB2:Hid (cb≤ce∧ce≤L.length∧cb≤L.length∧ce - cb=ab∧¬ L.length=cb):=⟨by omega,by omega,by omega,by omega,by omega⟩;clear h0 h1 ha hnm hcb hcbe habe hW6 hw hgo hce hcb2;gi_wp2;refine wpIn_region_k [24,25,26,27,28,29,30,31,32,33,34,35,36,37,38] [13,15] [(37,13)] (fun dd vv=>(match dd with | 24=>vv = .slice (some ⟨w3.heap.size,0,none⟩) L.length L.length | 25=>vv = .int .i64 (i:Int) | 26=>vv = .pointer (some ⟨g,5,none⟩) | 27=>vv = .string x.name | 28=>vv = .slice (some ⟨w3.heap.size,0,none⟩) L.length L.length | 29=>vv = .pointer (some ⟨g,3,none⟩) | 30=>vv = .int .i64 (cb:Int) | 31=>vv = .pointer (some ⟨g,3,none⟩) | 32=>vv = .int .i64 (cb:Int) | 33=>vv = .pointer (some ⟨g,2,none⟩) | 34=>vv = .int .i64 (ab:Int) | 35=>vv = .int .i64 (ce:Int) | 36=>vv = .slice (some ⟨w3.heap.size,cb * 4,none⟩) ab (L.length - cb) | 38=>vv = .pointer (some ⟨w3.heap.size,i * 4,none⟩) | _=>True:Prop)) (CompR w3.heap.size i (.mk 2 0 x.name () (((rs.map Tm.bare).drop cb).take ab)) (fun k=>k≠w3.heap.size∧k≠w.heap.size+1) W) (by kernel_rfl) rfl (by kernel_rfl) (by kernel_rfl) (fun W' T=>T) (fun hs w w' h T=>CompR.turned0 hs w w' h T) ?hs ?hQ (by kernel_rfl)
    case hs=>
     refine ⟨?s0,?s1,?s2,?s3,?s4,?s5,?s6,?s7,?s8,?s9,?s10,?s11,?s12,?s13,?s14,?s15,trivial⟩
     case s0=>
      refine fun hs hl=>zG [] [6] ?_
      intro ac W8 hT hI hO;have hE:=hT.early (fun v=>hl 15 17 v (by kernel_rfl));have c6:=HC6.out W8 hE;show Brings _ (fun vv w'=>Turned zN W8 w'∧vv = .slice (some ⟨w3.heap.size,0,none⟩) L.length L.length) _;simp only [execOp,Act.eval,hO 6 (by simp)];go_simp
      try exact tq
     case s1=>
      refine fun hs hl=>zG [] [7] ?_
      intro ac W8 hT hI hO;show Brings _ (fun vv w'=>Turned zN W8 w'∧vv = .int .i64 (i:Int)) _;simp only [execOp,Act.eval,hO 7 (by simp)];go_simp
      try exact tq
     case s2=>
      refine fun hs hl=>zG [] [8] ?_
      intro ac W8 hT hI hO;show Brings _ (fun vv w'=>Turned zN W8 w'∧vv = .pointer (some ⟨g,5,none⟩)) _;simp only [execOp,Act.eval,hO 8 (by simp)];go_simp
      try exact tq
     case s3=>
      refine fun hs hl=>zG [26] [] ?_
      intro ac W8 hT hI hO;have h26:_=_:=hI 26 (by simp);have hE:=hT.early (fun v=>hl 15 17 v (by kernel_rfl));obtain ⟨n0,n1,n2,n3,n4,n5⟩:=HNC.out W8 hE;show Brings _ (fun vv w'=>Turned zN W8 w'∧vv = .string x.name) _;simp only [execOp,Act.eval,h26];go_simp
      try exact tq
     case s4=>
      refine fun hs hl=>zG [] [6] ?_
      intro ac W8 hT hI hO;have hE:=hT.early (fun v=>hl 15 17 v (by kernel_rfl));have c6:=HC6.out W8 hE;show Brings _ (fun vv w'=>Turned zN W8 w'∧vv = .slice (some ⟨w3.heap.size,0,none⟩) L.length L.length) _;simp only [execOp,Act.eval,hO 6 (by simp)];go_simp
      try exact tq
     case s5=>
      refine fun hs hl=>zG [] [8] ?_
      intro ac W8 hT hI hO;show Brings _ (fun vv w'=>Turned zN W8 w'∧vv = .pointer (some ⟨g,3,none⟩)) _;simp only [execOp,Act.eval,hO 8 (by simp)];go_simp
      try exact tq
     case s6=>
      refine fun hs hl=>zG [29] [] ?_
      intro ac W8 hT hI hO;have h29:_=_:=hI 29 (by simp);have hE:=hT.early (fun v=>hl 15 17 v (by kernel_rfl));obtain ⟨n0,n1,n2,n3,n4,n5⟩:=HNC.out W8 hE;show Brings _ (fun vv w'=>Turned zN W8 w'∧vv = .int .i64 (cb:Int)) _;simp only [execOp,Act.eval,h29];go_simp
      try exact tq
     case s7=>
      refine fun hs hl=>zG [] [8] ?_
      intro ac W8 hT hI hO;show Brings _ (fun vv w'=>Turned zN W8 w'∧vv = .pointer (some ⟨g,3,none⟩)) _;simp only [execOp,Act.eval,hO 8 (by simp)];go_simp
      try exact tq
     case s8=>
      refine fun hs hl=>zG [31] [] ?_
      intro ac W8 hT hI hO;have h31:_=_:=hI 31 (by simp);have hE:=hT.early (fun v=>hl 15 17 v (by kernel_rfl));obtain ⟨n0,n1,n2,n3,n4,n5⟩:=HNC.out W8 hE;show Brings _ (fun vv w'=>Turned zN W8 w'∧vv = .int .i64 (cb:Int)) _;simp only [execOp,Act.eval,h31];go_simp
      try exact tq
     case s9=>
      refine fun hs hl=>zG [] [8] ?_
      intro ac W8 hT hI hO;show Brings _ (fun vv w'=>Turned zN W8 w'∧vv = .pointer (some ⟨g,2,none⟩)) _;simp only [execOp,Act.eval,hO 8 (by simp)];go_simp
      try exact tq
     case s10=>
      refine fun hs hl=>zG [33] [] ?_
      intro ac W8 hT hI hO;have h33:_=_:=hI 33 (by simp);have hE:=hT.early (fun v=>hl 15 17 v (by kernel_rfl));obtain ⟨n0,n1,n2,n3,n4,n5⟩:=HNC.out W8 hE;show Brings _ (fun vv w'=>Turned zN W8 w'∧vv = .int .i64 (ab:Int)) _;simp only [execOp,Act.eval,h33];go_simp
      try exact tq
     case s11=>
      refine fun hs hl=>zG [32,34] [] ?_
      intro ac W8 hT hI hO;have h32:_=_:=hI 32 (by simp);have h34:_=_:=hI 34 (by simp);have hw:=HWR.out;show Brings _ (fun vv w'=>Turned zN W8 w'∧vv = .int .i64 (ce:Int)) _;simp only [execOp,Act.eval,h32,h34];go_simp
      try exact tq
     case s12=>
      refine fun hs hl=>zG [28,30,35] [] ?_
      intro ac W8 hT hI hO;have h28:_=_:=hI 28 (by simp);have h30:_=_:=hI 30 (by simp);have h35:_=_:=hI 35 (by simp);obtain ⟨q1,q2,q3,q4,q5⟩:=HCB2.out;show Brings _ (fun vv w'=>Turned zN W8 w'∧vv = .slice (some ⟨w3.heap.size,cb * 4,none⟩) ab (L.length - cb)) _;simp only [execOp,Act.eval,h28,h30,h35];go_simp
      try exact tq
     case s13=>
      refine fun hs hno hl=>zG [27,36] [] ?_
      intro ac W8 hT hI hO;have h27:_=_:=hI 27 (by simp);have h36:_=_:=hI 36 (by simp);have hE:=hT.early (fun v=>hl 15 17 v (by kernel_rfl));obtain rfl:=hT.first hno;show Brings _ (fun vv w'=>CompR w3.heap.size i (.mk 2 0 x.name () (((rs.map Tm.bare).drop cb).take ab)) (fun k=>k≠w3.heap.size∧k≠w.heap.size+1) W [(13,vv)] w') _;simp only [execOp,Act.eval,h27,h36];go_simp;show Calls Try.prog 37 _ W8 _
      (with_reducible refine (HCP.out W8 hE).mono ?_)
      rintro e w' ⟨u,rfl,g1,g2,T'⟩
      exact ⟨_,rfl,hE.trans T',u,rfl,g1,g2.mono (fun k _ hk=>hk.elim id (fun c=>by have:=hE.size;have:=HW6.out;have:=HWS.out;omega))⟩
     case s14=>
      refine fun hs hl=>zG [24,25] [] ?_
      intro ac W8 hT hI hO;have h24:_=_:=hI 24 (by simp);have h25:_=_:=hI 25 (by simp);have hii:i < L.length:=hil;show Brings _ (fun vv w'=>Turned zN W8 w'∧vv = .pointer (some ⟨w3.heap.size,i * 4,none⟩)) _;simp only [execOp,Act.eval,h24,h25];go_simp
      try exact tq
     case s15=>
      refine fun hs hno hl=>zG [38,37] [] ?_
      intro ac W8 hT hI hO;have h38:_=_:=hI 38 (by simp);have h37:(13,ac.tmps.getD 37 undef)∈hs:=hI 37 (by simp);obtain ⟨e0,hE,u,x1,x2,x3⟩:=hT.second hno h37;have hcw:=(hE.bt HCUR.out);obtain ⟨y0,c0⟩:=row_some (HI2.out.turned0 hE) (i * 4) (by omega);obtain ⟨y1,c1⟩:=row_some (HI2.out.turned0 hE) (i * 4+1) (by omega);obtain ⟨y2,c2⟩:=row_some (HI2.out.turned0 hE) (i * 4+2) (by omega);obtain ⟨y3,c3⟩:=row_some (HI2.out.turned0 hE) (i * 4+3) (by omega);have f0:=(HI2.out.turned0 hE).free rfl (i * 4);have f1:=(HI2.out.turned0 hE).free rfl (i * 4+1);have f2:=(HI2.out.turned0 hE).free rfl (i * 4+2);have f3:=(HI2.out.turned0 hE).free rfl (i * 4+3);show Brings _ (fun vv w'=>CompR w3.heap.size i (.mk 2 0 x.name () (((rs.map Tm.bare).drop cb).take ab)) (fun k=>k≠w3.heap.size∧k≠w.heap.size+1) W (hs++[(15,vv)]) w') _;rw [e0];clear e0 hT;simp only [execOp,Act.eval,h38,x1];go_simp;exact ⟨W8,u,hE,x2,x3,Turned.refl _ _⟩
    case hQ=>
     intro hs vs W9 hall huniq hR hV;obtain ⟨v15,h15⟩:=hall 15 (by simp);obtain ⟨W1,u,T1,g1,g2,T2⟩:=hR.done h15;simp only [Qq,List.foldl_nil,Qk,Qs,Qr];obtain ⟨TW,hnx⟩:=HNX.out W1 W9 u T1 g2 (HB0.out u g1) T2;clear hall huniq hR hV h15;gi_wp2;exact ⟨keepsFrom_turned TW HCUR.out,kpB_of TW,hnx⟩
 case done=>
  rintro D ys W hD rfl ⟨rs,i1,i2,i3,i4,i5,i6,i7⟩ hKk
  have hal:t.args.length≤L.length:=by have:=Tm.lens_le t.args;have:=HN.out;have:=HLEN.out;omega
  have hnm:t.name.size≤maxLen:=(LT.In.flat t HIN.out t (by rw [Tm.flat_eq];exact Qe ..)).name
  have hbk:(.mk 2 0 t.name () ((rs.map Tm.bare).take t.args.length):Tm Unit)=Tm.fromT t.bare 0:=by
   have h:=Tm.back_head hg hk;unfold Tm.backT at h;rw [i1,foldR_all,HLEN.out,HL.out,HN.out];exact h
  have hcp:=backComp37 (c:=0) (b:=t.args.length) i2 i3 t.name hnm (by omega) hsz;rw [Nat.zero_mul,Nat.sub_zero,List.drop_zero,hbk] at hcp;obtain ⟨k0,k1,k2,k3,_⟩:=cells4 i4;have c6:=cell_of_row W (w3.heap.size+1) 0 _ 22 (0,0) i6;simp only [List.getElem?_toArray,List.getElem?_cons_zero] at c6
  have hgf:goodB (Tm.fromT t.bare 0)=true:=goodB_fromT (by rw [goodB_bare];exact hg) (Int.le_refl _) (by
   have h1:=vars_le t;have h:=hg;unfold goodB at h;simp only [Qd,decide_eq_true_eq] at h;rw [Tm.vars_bare]
   omega)
  have HCP:=hid hcp;have HGF:=hid hgf;have H5:=hid i5;have H7:=hid i7;have HK:=hid hKk;have hlo:decide ((t.args.length:Int)≤(L.length:Int))=true:=decide_eq_true (by omega);have hlo0:decide ((0:Int)≤(t.args.length:Int))=true:=decide_eq_true (by omega);have hW1:=(zL i5);have HW1:=hid hW1;have hDl:=(zL hKk);have HDL:=hid hDl;clear hbk hcp hgf i1 i2 i3 i4 i5 i6 i7 hKk hnm
  gi_wp2_with (first
   | (refine ⟨trivial,?_⟩;gi_at_call 38;have HU:=HU;refine (callsIn_wide.2 (goodVal' (b:=true) HU.out.2 (good_slimB (by rw [HU.out.1];exact HGF.out)) (by rw [←goodB_bare,HU.out.1];exact HGF.out))).mono ?_;rintro e w7 ⟨rfl,T7⟩;obtain ⟨c0,c1,c2,c3,_⟩:=cells4 ((T7.block _ (by simp) (fun f=>f)).trans (heap_alloc_new w6 (.cells #[.int .i64 u.kind,.int .i64 u.n,.string u.name,.slice u.at_.1 u.args.length u.at_.2] 27)));have hb1:=((HT6.out.trans T7).block _ HW1.out (fun f=>f)).trans H5.out;obtain ⟨d0,d1,d2,d3,f0,f1,f2,f3⟩:=cells4 hb1;have HB1F:=hid hb1;have HT7:=hid T7;clear hb1 T7)
   | (refine ⟨trivial,?_⟩;gi_at_call 37;refine (callsIn_wide.2 HCP.out).mono ?_;rintro e w6 ⟨u,rfl,hub,hui,T6⟩;have hb9:=heap_alloc_new w6 (.cells #[.int .i64 u.kind,.int .i64 u.n,.string u.name,.slice u.at_.1 u.args.length u.at_.2] 27);obtain ⟨c0,c1,c2,c3,_⟩:=cells4 hb9;have HU:=hid (And.intro hub (hui.turned0 ((Turned.refl (fun _=>False) w6).alloc (.cells #[.int .i64 u.kind,.int .i64 u.n,.string u.name,.slice u.at_.1 u.args.length u.at_.2] 27))));have HT6:Hid (Turned zN W (w6.alloc (.cells #[.int .i64 u.kind,.int .i64 u.n,.string u.name,.slice u.at_.1 u.args.length u.at_.2] 27))):=T6.alloc (.cells #[.int .i64 u.kind,.int .i64 u.n,.string u.name,.slice u.at_.1 u.args.length u.at_.2] 27);clear hb9 hub hui T6))
  have hset:=set4 (a':=.int .i64 u.kind) (b':=.int .i64 u.n) (c':=.string u.name) (d':=.slice u.at_.1 u.args.length u.at_.2) HB1F.out;have Tq:=turned_store4 w7 (w.heap.size+1) (.int .i64 u.kind) (.int .i64 u.n) (.string u.name) (.slice u.at_.1 u.args.length u.at_.2);have hD7:w7.heap[D]? = some (.deferred (some [])):=((HT6.out.trans HT7.out).block _ HDL.out (fun f=>f)).trans HK.out;have hD2:=(Tq.block D (zL hD7) (by omega)).trans hD7;refine ⟨by simp,.inl ⟨_,_,rfl,run_takeDeferred hD2,?_⟩⟩;have hgr:=grownBy_putObj' ((((w7.setCell ⟨w.heap.size+1,0,none⟩ (.int .i64 u.kind)).setCell ⟨w.heap.size+1,1,none⟩ (.int .i64 u.n)).setCell ⟨w.heap.size+1,2,none⟩ (.string u.name)).setCell ⟨w.heap.size+1,3,none⟩ (.slice u.at_.1 u.args.length u.at_.2)) D (.deferred none)
  have hr:∀ r,some D=some r→∃ o:Obj,((((w7.setCell ⟨w.heap.size+1,0,none⟩ (.int .i64 u.kind)).setCell ⟨w.heap.size+1,1,none⟩ (.int .i64 u.n)).setCell ⟨w.heap.size+1,2,none⟩ (.string u.name)).setCell ⟨w.heap.size+1,3,none⟩ (.slice u.at_.1 u.args.length u.at_.2)).heap[r]? = some o∧o.isCells=false:=fun r e=>by cases e;exact ⟨_,hD2,rfl⟩
  have hset':=(grownBy_keeps_cells hgr hr hset rfl).trans hset;refine ⟨.tuple #[.agg #[.int .i64 u.kind,.int .i64 u.n,.string u.name,.slice u.at_.1 u.args.length u.at_.2],.int .i64 0],results_cell_tmp1 Try.results94 _ _ (w.heap.size+1) 27 _ (0,0) _ rfl hset' Try.underlying27 rfl (by kernel_rfl),u,rfl,HU.out.1,?_,?_⟩
  · have hi:=LT.In.turned (q:=fun _=>True) Tq (fun k _ h e=>h.elim (fun h=>h.2 e) (fun h=>by have:=HW1.out;omega)) (fun _ _ _=>trivial) u (HU.out.2.turned0 HT7.out)
    exact LT.In.kept (fun a v h=>cell_kept h hgr hr) u hi
  · have T4:Turned zN w ((((w7.setCell ⟨w.heap.size+1,0,none⟩ (.int .i64 u.kind)).setCell ⟨w.heap.size+1,1,none⟩ (.int .i64 u.n)).setCell ⟨w.heap.size+1,2,none⟩ (.string u.name)).setCell ⟨w.heap.size+1,3,none⟩ (.slice u.at_.1 u.args.length u.at_.2)):=((H7.out.trans HT6.out).trans HT7.out).step Tq (fun i hi e=>by omega)
    exact T4.grown hgr (fun k e=>by cases e;exact .inl (by omega))
 case stop=>
  rintro D cc pre W hD _ h _
  exact h.elim
end Go.Proofs.Ytoihjobdfjajfaa
namespace Go.Proofs.Ytoihjobdfjajfaa
open Lib (hid)
open Go.RowKit Go.Maps
set_option maxRecDepth 100000 in
theorem backNo94 {ar sl rg:Int} {aL:Option Addr} {n cL:Nat} {s:ByteArray} {Ls:List Tm.Stp} {w:World} (hn:Ls.length=n) (hr:Row w 139 6 (.slice aL n cL) n (Ls.flatMap stC)) (hs:∀ s∈Ls,stOk s∧opOk s) (h5:n≤100000) (hbad:Tm.goodC ar sl rg Ls=false) :
 Calls Try.prog 94 #[.agg #[.int .i64 ar,.int .i64 sl,.int .i64 rg,.slice aL n cL],.string s] w fun e w'=>e = .returned (.tuple #[.agg #[.int .i64 0,.int .i64 0,.string ⟨#[]⟩,.slice none 0 0],.int .i64 1])∧Turned zN w w':=by
 subst hn;have h2:=twoBox w (.cells #[.int .i64 ar,.int .i64 sl,.int .i64 rg,.slice aL Ls.length cL] 104) (.cells #[.int .i64 0,.int .i64 0,.string ⟨#[]⟩,.slice none 0 0] 27)
 have hgood:∀ W,Turned zN w W→Calls Try.prog 95 #[.agg #[.int .i64 ar,.int .i64 sl,.int .i64 rg,.slice aL Ls.length cL]] W fun e w'=>e = .returned (.bool false)∧Turned zN W w':=fun W T=>by
  have h:=codeGood95 (ar:=ar) (sl:=sl) (rg:=rg) (hr.turned0 T) hs h5;rw [hbad] at h;exact h
 have H2:=hid h2;have HGOOD:=hid hgood;clear h2 hgood hr hs h5 hbad;go_enter Try.func94,Try.ntmps94
 go_wp2_with (go_at_call 95;(with_reducible refine (HGOOD.out _ H2.out.1).mono ?_);rintro e w3 ⟨rfl,T3⟩;have hb1:=(T3.block _ (by have:=H2.out.2.1;omega) (fun f=>f)).trans H2.out.2.2.2;obtain ⟨r0,r1,r2,r3,f0,f1,f2,f3⟩:=cells4 hb1)
 refine bodyPost_ret (results_cell_tmp1 Try.results94 _ _ (w.heap.size+1) 27 _ (0,0) _ rfl (set4 (a':=.int .i64 0) (b':=.int .i64 0) (c':=.string ⟨#[]⟩) (d':=.slice none 0 0) hb1) Try.underlying27 rfl (by kernel_rfl)) rfl ⟨rfl,(H2.out.1.trans T3).step (turned_store4 w3 (w.heap.size+1) _ _ _ _) (fun i hi e=>by omega)⟩
structure YR (w0:World) (cs:List Value) (hs:List (Nat × Value)) (W:World):Prop where
 t:Turned zN w0 W
 e:∀ v,(6,v)∈hs→(∀ u,(9,u)∉hs)→Row W 139 6 v 0 []∧∀ k,v.ownBlock=some k→w0.heap.size≤k
 a:∀ v,(9,v)∈hs→∃ (g:Nat) (c:Nat),v = .slice (some ⟨g,0,none⟩) 3 c∧w0.heap.size≤g∧Row W 139 6 v 3 cs
 b:∀ v,(10,v)∈hs→∃ s,(9,s)∈hs∧v = .agg #[.int .i64 2,.int .i64 1,.int .i64 3,s]
 x:∀ v,(11,v)∈hs→∃ g:Nat,v = .pointer (some ⟨g,0,none⟩)∧w0.heap.size≤g∧∃ c0 c1 c2 c3,W.heap[g]? = some (.cells #[c0,c1,c2,c3] 104 (0,0))
 d:∀ v,(12,v)∈hs→∃ (g:Nat) (s:Value),(11,.pointer (some ⟨g,0,none⟩))∈hs∧(9,s)∈hs∧W.heap[g]? = some (.cells #[.int .i64 2,.int .i64 1,.int .i64 3,s] 104 (0,0))
theorem kn_snoc {i j:Nat} {u v:Value} {hs:List (Nat × Value)}:(i,u)∈hs++[(j,v)]↔(i,u)∈hs∨(i=j∧u=v):=by
 simp [Qn]
theorem row_type {w:World} {e:TypeId} {size n g:Nat} {v:Value} {xs:List Value} (h:Row w e size v n xs) (hv:v.ownBlock=some g):∃ cur z,w.heap[g]? = some (.cells cur e z):=by
 rcases h.2 with ⟨rfl,_⟩ | ⟨g',cap,cur,rfl,hg,_⟩
 · cases hv
 · injection hv with hv
   subst hv;exact ⟨_,_,hg⟩
theorem cells_ne {w:World} {g g':Nat} {c c':Array Value} {e e':TypeId} {z z':Nat × Nat} (h:w.heap[g]? = some (.cells c e z)) (h':w.heap[g']? = some (.cells c' e' z')) (he:¬ e=e'):g≠g':=by
 rintro rfl
 rw [h] at h'
 injection h' with h'
 injection h' with _ h'
 exact he h'
section
variable {w0 W W':World} {cs:List Value} {hs:List (Nat × Value)}
theorem YR.start (T:Turned zN w0 W):YR w0 cs [] W:=⟨T,fun v h=>(by cases h),fun v h=>(by cases h),fun v h=>(by cases h),fun v h=>(by cases h),fun v h=>(by cases h)⟩
theorem YR.turned0 (h:YR w0 cs hs W) (T:Turned zN W W'):YR w0 cs hs W':=by
 have kp:∀ {g:Nat} {o:Obj},W.heap[g]? = some o→W'.heap[g]? = some o:=fun hg=>(T.bt hg)
 refine ⟨h.t.trans T,fun v hv hn=>?_,fun v hv=>?_,h.b,fun v hv=>?_,fun v hv=>?_⟩
 · obtain ⟨h1,h2⟩:=h.e v hv hn
   exact ⟨h1.turned0 T,h2⟩
 · obtain ⟨g,c,h1,h2,h3⟩:=h.a v hv
   exact ⟨g,c,h1,h2,h3.turned0 T⟩
 · obtain ⟨g,h1,h2,c0,c1,c2,c3,h3⟩:=h.x v hv
   exact ⟨g,h1,h2,c0,c1,c2,c3,kp h3⟩
 · obtain ⟨g,s,h1,h2,h3⟩:=h.d v hv
   exact ⟨g,s,h1,h2,kp h3⟩
theorem YR.empty (h:YR w0 cs hs W) (hno:∀ v,(6,v)∉hs) (hno9:∀ v,(9,v)∉hs):YR w0 cs (hs++[(6,.slice (some ⟨W.heap.size,0,none⟩) 0 0)]) (W.alloc (.cells #[] 139)):=by
 have h':=h.turned0 ((Turned.refl (fun _=>False) W).alloc (.cells #[] 139));have hs0:=h.t.size;refine ⟨h'.t,fun v hv hn=>?_,fun v hv=>?_,fun v hv=>?_,fun v hv=>?_,fun v hv=>?_⟩
 · rcases kn_snoc.1 hv with hv | ⟨_,rfl⟩
   · exact absurd hv (hno v)
   · refine ⟨Row.made W 139 6 #[] 0 rfl (by unfold maxLen;omega),fun k hk=>?_⟩
     simp only [Value.ownBlock,Option.some.injEq] at hk;omega
 · rcases kn_snoc.1 hv with hv | ⟨e,_⟩
   · exact absurd hv (hno9 v)
   · omega
 · rcases kn_snoc.1 hv with hv | ⟨e,_⟩
   · obtain ⟨s,h1,h2⟩:=h'.b v hv
     exact ⟨s,kn_snoc.2 (.inl h1),h2⟩
   · omega
 · rcases kn_snoc.1 hv with hv | ⟨e,_⟩
   · exact h'.x v hv
   · omega
 · rcases kn_snoc.1 hv with hv | ⟨e,_⟩
   · obtain ⟨g,s,h1,h2,h3⟩:=h'.d v hv
     exact ⟨g,s,kn_snoc.2 (.inl h1),kn_snoc.2 (.inl h2),h3⟩
   · omega
theorem YR.app (h:YR w0 cs hs W) (hno:∀ v,(9,v)∉hs) {v6:Value} (h6:(6,v6)∈hs) {g c:Nat} (hr:Row W' 139 6 (.slice (some ⟨g,0,none⟩) 3 c) 3 cs) (T:Turned (fun k=>v6.ownBlock=some k) W W') (hg:some g=v6.ownBlock∨g=W.heap.size):YR w0 cs (hs++[(9,.slice (some ⟨g,0,none⟩) 3 c)]) W':=by
 obtain ⟨e1,e2⟩:=h.e v6 h6 hno;have hs0:=h.t.size
 have hg0:w0.heap.size≤g:=by
  rcases hg with hg | hg
  · exact e2 g hg.symm
  · omega
 have kp:∀ {k:Nat} {a:Array Value} {z:Nat × Nat},W.heap[k]? = some (.cells a 104 z)→W'.heap[k]? = some (.cells a 104 z):=fun {k a z} hk=>by
  refine (T.block _ (zL hk) (fun e=>?_)).trans hk;obtain ⟨cur,z',hc⟩:=row_type e1 e;exact cells_ne hk hc (by decide) rfl
 refine ⟨h.t.step T (fun i hi e=>by have:=e2 i e;omega),fun v hv hn=>?_,fun v hv=>?_,fun v hv=>?_,fun v hv=>?_,fun v hv=>?_⟩
 · exact absurd (kn_snoc.2 (.inr ⟨rfl,rfl⟩)) (hn (.slice (some ⟨g,0,none⟩) 3 c))
 · rcases kn_snoc.1 hv with hv | ⟨_,rfl⟩
   · exact absurd hv (hno v)
   · exact ⟨g,c,rfl,hg0,hr⟩
 · rcases kn_snoc.1 hv with hv | ⟨e,_⟩
   · obtain ⟨s,h1,_⟩:=h.b v hv
     exact absurd h1 (hno s)
   · omega
 · rcases kn_snoc.1 hv with hv | ⟨e,_⟩
   · obtain ⟨g,h1,h2,c0,c1,c2,c3,h3⟩:=h.x v hv
     exact ⟨g,h1,h2,c0,c1,c2,c3,kp h3⟩
   · omega
 · rcases kn_snoc.1 hv with hv | ⟨e,_⟩
   · obtain ⟨g,s,h1,h2,h3⟩:=h.d v hv
     exact absurd h2 (hno s)
   · omega
theorem YR.agg (h:YR w0 cs hs W) {s:Value} (h9:(9,s)∈hs):YR w0 cs (hs++[(10,.agg #[.int .i64 2,.int .i64 1,.int .i64 3,s])]) W:=by
 refine ⟨h.t,fun v hv hn=>?_,fun v hv=>?_,fun v hv=>?_,fun v hv=>?_,fun v hv=>?_⟩
 · exact absurd (kn_snoc.2 (.inl h9)) (hn s)
 · rcases kn_snoc.1 hv with hv | ⟨e,_⟩
   · exact h.a v hv
   · omega
 · rcases kn_snoc.1 hv with hv | ⟨_,rfl⟩
   · obtain ⟨s,h1,h2⟩:=h.b v hv
     exact ⟨s,kn_snoc.2 (.inl h1),h2⟩
   · exact ⟨s,kn_snoc.2 (.inl h9),rfl⟩
 · rcases kn_snoc.1 hv with hv | ⟨e,_⟩
   · exact h.x v hv
   · omega
 · rcases kn_snoc.1 hv with hv | ⟨e,_⟩
   · obtain ⟨g,s,h1,h2,h3⟩:=h.d v hv
     exact ⟨g,s,kn_snoc.2 (.inl h1),kn_snoc.2 (.inl h2),h3⟩
   · omega
theorem YR.box (h:YR w0 cs hs W) (hno:∀ v,(11,v)∉hs) {c0 c1 c2 c3:Value}:YR w0 cs (hs++[(11,.pointer (some ⟨W.heap.size,0,none⟩))]) (W.alloc (.cells #[c0,c1,c2,c3] 104)):=by
 have h':=h.turned0 ((Turned.refl (fun _=>False) W).alloc (.cells #[c0,c1,c2,c3] 104));have hs0:=h.t.size;refine ⟨h'.t,fun v hv hn=>?_,fun v hv=>?_,fun v hv=>?_,fun v hv=>?_,fun v hv=>?_⟩
 · rcases kn_snoc.1 hv with hv | ⟨e,_⟩
   · exact h'.e v hv (fun u hu=>hn u (kn_snoc.2 (.inl hu)))
   · omega
 · rcases kn_snoc.1 hv with hv | ⟨e,_⟩
   · exact h'.a v hv
   · omega
 · rcases kn_snoc.1 hv with hv | ⟨e,_⟩
   · obtain ⟨s,h1,h2⟩:=h'.b v hv
     exact ⟨s,kn_snoc.2 (.inl h1),h2⟩
   · omega
 · rcases kn_snoc.1 hv with hv | ⟨_,rfl⟩
   · exact absurd hv (hno v)
   · exact ⟨W.heap.size,rfl,hs0,c0,c1,c2,c3,heap_alloc_new W _⟩
 · rcases kn_snoc.1 hv with hv | ⟨e,_⟩
   · obtain ⟨g,s,h1,h2,h3⟩:=h'.d v hv
     exact absurd h1 (hno _)
   · omega
theorem YR.store (h:YR w0 cs hs W) (hno:∀ v,(12,v)∉hs) {g:Nat} {s u:Value} (h9:(9,s)∈hs) (h11:(11,.pointer (some ⟨g,0,none⟩))∈hs):YR w0 cs (hs++[(12,u)]) ((((W.setCell ⟨g,0,none⟩ (.int .i64 2)).setCell ⟨g,1,none⟩ (.int .i64 1)).setCell ⟨g,2,none⟩ (.int .i64 3)).setCell ⟨g,3,none⟩ s):=by
 obtain ⟨g',e',hg0,c0,c1,c2,c3,hb⟩:=h.x _ h11
 injection e' with e'
 injection e' with e'
 injection e' with e'
 subst e';have T:=turned_store4 W g (.int .i64 2) (.int .i64 1) (.int .i64 3) s;have hset:=set4 (a':=.int .i64 2) (b':=.int .i64 1) (c':=.int .i64 3) (d':=s) hb
 have kp:∀ {v:Value},Row W 139 6 v 3 cs→Row ((((W.setCell ⟨g,0,none⟩ (.int .i64 2)).setCell ⟨g,1,none⟩ (.int .i64 1)).setCell ⟨g,2,none⟩ (.int .i64 3)).setCell ⟨g,3,none⟩ s) 139 6 v 3 cs:=fun {v} hv=>by
  refine hv.turned T (fun k hk e=>?_);subst e;obtain ⟨cur,z',hc⟩:=row_type hv hk;exact cells_ne hb hc (by decide) rfl
 refine ⟨h.t.step T (fun i hi e=>by omega),fun v hv hn=>?_,fun v hv=>?_,fun v hv=>?_,fun v hv=>?_,fun v hv=>?_⟩
 · exact absurd (kn_snoc.2 (.inl h9)) (hn s)
 · rcases kn_snoc.1 hv with hv | ⟨e,_⟩
   · obtain ⟨g,c,h1,h2,h3⟩:=h.a v hv
     exact ⟨g,c,h1,h2,kp h3⟩
   · omega
 · rcases kn_snoc.1 hv with hv | ⟨e,_⟩
   · obtain ⟨s,h1,h2⟩:=h.b v hv
     exact ⟨s,kn_snoc.2 (.inl h1),h2⟩
   · omega
 · rcases kn_snoc.1 hv with hv | ⟨e,_⟩
   · obtain ⟨k,h1,h2,d0,d1,d2,d3,h3⟩:=h.x v hv
     by_cases e:k=g
     · subst e
       exact ⟨k,h1,h2,_,_,_,_,hset⟩
     · exact ⟨k,h1,h2,d0,d1,d2,d3,(T.block _ (zL h3) e).trans h3⟩
   · omega
 · rcases kn_snoc.1 hv with hv | ⟨_,rfl⟩
   · exact absurd hv (hno v)
   · exact ⟨g,s,kn_snoc.2 (.inl h11),kn_snoc.2 (.inl h9),hset⟩
theorem YR.done (h:YR w0 cs hs W) (hu:∀ i v v',(i,v)∈hs→(i,v')∈hs→v=v') {p q:Value} (h11:(11,p)∈hs) (h12:(12,q)∈hs):∃ (g l c:Nat),p = .pointer (some ⟨g,0,none⟩)∧w0.heap.size≤g∧w0.heap.size≤l∧l≠g∧W.heap[g]? = some (.cells #[.int .i64 2,.int .i64 1,.int .i64 3,.slice (some ⟨l,0,none⟩) 3 c] 104 (0,0))∧Row W 139 6 (.slice (some ⟨l,0,none⟩) 3 c) 3 cs∧Turned zN w0 W:=by
 obtain ⟨g,s,d1,d2,d3⟩:=h.d q h12;obtain rfl:=hu 11 _ _ h11 d1;obtain ⟨g',e',hg0,_⟩:=h.x _ d1
 injection e' with e'
 injection e' with e'
 injection e' with e'
 subst e';obtain ⟨l,c,rfl,hl,hr⟩:=h.a s d2;obtain ⟨cur,z,hc⟩:=row_type hr (g:=l) rfl;exact ⟨g,l,c,rfl,hg0,hl,cells_ne hc d3 (by decide),d3,hr,h.t⟩
end
abbrev kst0 (op:ByteArray) (n:Int):Tm.Stp:=⟨op,0,0,0,n,⟨#[]⟩⟩
abbrev kst1 (a c:Int):Tm.Stp:=⟨⟨#[99,111,109,112]⟩,a,1,c,0,⟨#[102]⟩⟩
abbrev kst2 (b:Int):Tm.Stp:=⟨⟨#[118,97,108]⟩,2,b,0,0,⟨#[]⟩⟩
theorem kst_ok (op:ByteArray) (ho:op=⟨#[118,97,114]⟩∨op=⟨#[118,97,108]⟩) (n a c b:Int) (h:I64 n∧I64 a∧I64 c∧I64 b):∀ s∈[kst0 op n,kst1 a c,kst2 b],stOk s∧opOk s:=by
 have l0:I64 0:=i64_lit _ (by omega);have l1:I64 1:=i64_lit _ (by omega);have l2:I64 2:=i64_lit _ (by omega)
 have z:(⟨#[]⟩:ByteArray).size≤maxLen∧(⟨#[102]⟩:ByteArray).size≤maxLen∧(⟨#[118,97,114]⟩:ByteArray).size≤maxLen∧(⟨#[118,97,108]⟩:ByteArray).size≤maxLen∧(⟨#[99,111,109,112]⟩:ByteArray).size≤maxLen:=by unfold maxLen;decide
 intro s hs;simp only [Qw,Ql,or_false] at hs
 rcases hs with rfl | rfl | rfl
 · refine ⟨⟨?_,l0,l0,l0,h.1,z.1⟩,?_,fun c=>?_⟩
   · rcases ho with rfl | rfl
     · exact z.2.2.1
     · exact z.2.2.2.1
   · rcases ho with rfl | rfl
     · exact .inl rfl
     · exact .inr (.inl rfl)
   · rcases ho with rfl | rfl <;> exact absurd c (of_decide_eq_false (by kernel_rfl))
 · exact ⟨⟨z.2.2.2.2,h.2.1,l1,h.2.2.1,l0,z.2.1⟩,.inr (.inr (.inr (.inr rfl))),fun _=>⟨by show (1:Int)≤1;omega,by show (1:Int)≤8;omega⟩⟩
 · exact ⟨⟨z.2.2.2.1,l2,h.2.2.2,l0,l0,z.1⟩,.inr (.inl rfl),fun c=>absurd c (of_decide_eq_false (by kernel_rfl))⟩
structure KBad (sl rg:Int) (aL:Option Addr) (n cL:Nat) (W:World):Prop where
 back:Calls Try.prog 94 #[.agg #[.int .i64 2,.int .i64 sl,.int .i64 rg,.slice aL n cL],.string ⟨#[112]⟩] W fun e w'=>e = .returned (.tuple #[.agg #[.int .i64 0,.int .i64 0,.string ⟨#[]⟩,.slice none 0 0],.int .i64 1])∧Turned zN W w'
 good:∀ W',Turned zN W W'→Calls Try.prog 95 #[.agg #[.int .i64 2,.int .i64 sl,.int .i64 rg,.slice aL n cL]] W' fun e w'=>e = .returned (.bool false)∧Turned zN W' w'
theorem KBad.of {sl rg:Int} {aL:Option Addr} {n cL:Nat} {Ls:List Tm.Stp} {w:World} (hn:Ls.length=n) (hr:Row w 139 6 (.slice aL n cL) n (Ls.flatMap stC)) (hs:∀ s∈Ls,stOk s∧opOk s) (h5:n≤100000) (hbad:Tm.goodC 2 sl rg Ls=false):KBad sl rg aL n cL w:=by
 refine ⟨backNo94 hn hr hs h5 hbad,fun W T=>?_⟩;subst hn;have h:=codeGood95 (ar:=2) (sl:=sl) (rg:=rg) (hr.turned0 T) hs h5;rw [hbad] at h;exact h
end Go.Proofs.Ytoihjobdfjajfaa
namespace Go.Proofs.Ytoihjobdfjajfaa
open Go.RowKit Go.Maps
def MtG (w0:World) (B Q:Value→World→Prop) (b:Bool) (E:Int):List Value→World→Prop
 | [],W=>Turned zN w0 W
 | [v],W=>B v W
 | [_,r],W=>∃ s,r = .tuple #[s,.bool b,.int .i64 E]∧Q s W
 | [_,_,r],W=>∃ s,r = .tuple #[s,.bool b,.int .i64 E]∧Q s W
 | [_,_,r,s],W=>r = .tuple #[s,.bool b,.int .i64 E]∧Q s W
 | [_,_,r,s,s'],W=>r = .tuple #[s,.bool b,.int .i64 E]∧s=s'∧Q s' W
 | _,_=>False
section
variable {w0:World} {B Q:Value→World→Prop} {b:Bool} {E:Int}
theorem MtG.turned0 (hB:∀ v W W',B v W→Turned zN W W'→B v W') (hQ:∀ v W W',Q v W→Turned zN W W'→Q v W'):∀ (hs:List Value) (w w':World),MtG w0 B Q b E hs w→Turned zN w w'→MtG w0 B Q b E hs w'
 | [],_,_,h,T=>Turned.trans h T
 | [_],_,_,h,T=>hB _ _ _ h T
 | [_,_],_,_,⟨s,h,q⟩,T=>⟨s,h,hQ _ _ _ q T⟩
 | [_,_,_],_,_,⟨s,h,q⟩,T=>⟨s,h,hQ _ _ _ q T⟩
 | [_,_,_,_],_,_,⟨h,q⟩,T=>⟨h,hQ _ _ _ q T⟩
 | [_,_,_,_,_],_,_,⟨h,e,q⟩,T=>⟨h,e,hQ _ _ _ q T⟩
 | _ :: _ :: _ :: _ :: _ :: _ :: _,_,_,h,_=>h.elim
theorem MtG.early (hB:∀ v W,B v W→Turned zN w0 W):∀ (hs:List Value) (W:World),hs.length≤1→MtG w0 B Q b E hs W→Turned zN w0 W
 | [],_,_,h=>h
 | [_],_,_,h=>hB _ _ h
 | _ :: _ :: _,_,h,_=>absurd h (by simp)
theorem MtG.val:∀ (hs:List Value) (W:World) {x:Value},MtG w0 B Q b E hs W→hs[2]? = some x→∃ s,x = .tuple #[s,.bool b,.int .i64 E]
 | [],_,_,_,e=>by simp at e
 | [_],_,_,_,e=>by simp at e
 | [_,_],_,_,_,e=>by simp at e
 | [_,_,_],_,_,⟨s,h,_⟩,e=>by simp at e;exact ⟨s,by rw [←e,h]⟩
 | [_,_,_,s],_,_,h,e=>by simp at e;exact ⟨s,by rw [←e,h.1]⟩
 | [_,_,_,s,_],_,_,h,e=>by simp at e;exact ⟨s,by rw [←e,h.1]⟩
 | _ :: _ :: _ :: _ :: _ :: _ :: _,_,_,h,_=>h.elim
theorem MtG.end_:∀ (hs:List Value) (W:World) {x:Value},MtG w0 B Q b E hs W→hs.length=5→hs[4]? = some x→Q x W
 | [_,_,_,_,_],_,_,h,_,e=>by simp at e;rw [←e];exact h.2.2
end
theorem KArgs.old {a b:LT} {w0:World} (v:Value) (W:World) (h:KArgs a b w0 v W):Turned zN w0 W:=by
 obtain ⟨g,_,T,_⟩:=h;exact T
def KArg1 (w0:World) (v:Value) (W:World):Prop:=∃ (a:Option Addr) (c:Nat),v = .slice a 1 c∧Turned zN w0 W
theorem brings_two {o:Oper} {a:Act} {w:World} {F:Value→World→Prop} (x y:Tmp) (ho:o.op=Op.buildSlice 22 2 #[(0,.tmp x),(1,.tmp y)]) {a0 a1 a2 a3 b0 b1 b2 b3:Value} (hx:a.tmps.getD x undef = .agg #[a0,a1,a2,a3]) (hy:a.tmps.getD y undef = .agg #[b0,b1,b2,b3])
 (h:F (.slice (some ⟨w.heap.size,0,none⟩) 2 2) (w.alloc (.cells #[a0,a1,a2,a3,b0,b1,b2,b3] 27))):Brings Try.prog F ((execOp a.eval o).run Try.prog w):=by
 have hx':a.tmps[x]?.getD undef = .agg #[a0,a1,a2,a3]:=by rw [←Array.getD_eq_getD_getElem?];exact hx
 have hy':a.tmps[y]?.getD undef = .agg #[b0,b1,b2,b3]:=by rw [←Array.getD_eq_getD_getElem?];exact hy
 simp only [execOp,ho,Act.eval];go_simp;exact h
theorem brings_one {o:Oper} {a:Act} {w:World} {F:Value→World→Prop} (x:Tmp) (ho:o.op=Op.buildSlice 22 1 #[(0,.tmp x)]) {a0 a1 a2 a3:Value} (hx:a.tmps.getD x undef = .agg #[a0,a1,a2,a3])
 (h:F (.slice (some ⟨w.heap.size,0,none⟩) 1 1) (w.alloc (.cells #[a0,a1,a2,a3] 27))):Brings Try.prog F ((execOp a.eval o).run Try.prog w):=by
 have hx':a.tmps[x]?.getD undef = .agg #[a0,a1,a2,a3]:=by rw [←Array.getD_eq_getD_getElem?];exact hx
 simp only [execOp,ho,Act.eval];go_simp;exact h
theorem kn_head (k:Int) (hk:k=0∨k=1) (w:World):Calls Try.prog 93 #[.agg #[.int .i64 k,.int .i64 0,.string ByteArray.empty,.slice none 0 0]] w fun e w'=>e = .returned (.tuple #[.agg #[.int .i64 0,.int .i64 0,.int .i64 0,.slice none 0 0],.int .i64 1])∧Turned zN w w':=
 head93_no (t:=leaf k 0 ByteArray.empty) (leafIn' (by rcases hk with rfl | rfl <;> exact i64_lit _ (by omega)) (i64_lit _ (by omega)) (by unfold maxLen;decide)) (slim_leaf _ _ _) (fun c=>by have h:2≤k:=c.2;omega)
theorem kn_headA (w:World):Calls Try.prog 93 #[.agg #[.int .i64 2,.int .i64 0,.string ⟨#[112]⟩,.slice none 0 0]] w fun e w'=>∃ (a:Option Addr) (c:Nat),e = .returned (.tuple #[.agg #[.int .i64 0,.int .i64 0,.int .i64 0,.slice a 0 c],.int .i64 0])∧Turned zN w w':=by
 have h:=head93 (t:=leaf 2 0 ⟨#[112]⟩) (w:=w) (leafIn' (i64_lit _ (by omega)) (i64_lit _ (by omega)) (by unfold maxLen;decide)) (by kernel_rfl) rfl;refine h.mono ?_
 rintro e w' ⟨lv,rfl,hr,_,T⟩
 obtain ⟨a,c,rfl⟩:=hr.shape;exact ⟨a,c,rfl,T⟩
abbrev knP:Tm Unit:=.mk 2 0 ⟨#[112]⟩ () [Tm.V 0,.mk 2 0 ⟨#[102]⟩ () [Tm.V 0]]
theorem kn_back {a a' aL:Option Addr} {c c' cL:Nat} {w:World} (hi:(hdT a c a' c').In (fun _=>True) w) (hr:Row w 139 6 (.slice aL 3 cL) 3 ([st0,st1,st2].flatMap stC)) :
 Calls Try.prog 94 #[.agg #[.int .i64 2,.int .i64 1,.int .i64 3,.slice aL 3 cL],.string ⟨#[112]⟩] w fun e w'=>∃ u:LT,e = .returned (.tuple #[.agg #[.int .i64 u.kind,.int .i64 u.n,.string u.name,.slice u.at_.1 u.args.length u.at_.2],.int .i64 0])∧u.bare=knP∧u.In (fun _=>True) w'∧Turned zN w w':=by
 have h:=back94 (aL:=aL) (cL:=cL) (L:=[st0,st1,st2]) (n:=3) hi hd_good rfl hd_sizes.symm hd_steps.symm hr;rw [hd_vars] at h;refine Calls.mono h ?_
 rintro e w' ⟨u,rfl,h1,h2,h3⟩
 exact ⟨u,rfl,h1.trans (by kernel_rfl),h2,h3⟩
theorem kn_whole:wholeE 2 Tm.kn2 (Tm.V 0)=0∧wholeT 2 Tm.kn2 (Tm.V 0) = .mk 2 0 ⟨#[102]⟩ () [Tm.knI 3]:=⟨by kernel_rfl,by kernel_rfl⟩
abbrev KBox (W:World) (g:Nat) (sl rg:Int) (s:Value):Prop:=Row W 104 1 (.slice (some ⟨g,0,none⟩) 4 4) 4 [.int .i64 2,.int .i64 sl,.int .i64 rg,s]
theorem KBox.of {W:World} {g:Nat} {sl rg:Int} {s:Value} (h:W.heap[g]? = some (.cells #[.int .i64 2,.int .i64 sl,.int .i64 rg,s] 104 (0,0))):KBox W g sl rg s:=
 ⟨rfl,.inr ⟨g,4,_,rfl,h,Qm _,by unfold maxLen;omega,Qm _,rfl⟩⟩
theorem KBox.cells {W W':World} {g:Nat} {sl rg:Int} {s:Value} (h:KBox W g sl rg s) (T:Turned zN W W'):W'.cell? ⟨g,0,none⟩=some (.int .i64 2)∧W'.cell? ⟨g,1,none⟩=some (.int .i64 sl)∧W'.cell? ⟨g,2,none⟩=some (.int .i64 rg)∧W'.cell? ⟨g,3,none⟩=some s:=by
 have h':=Row.turned0 h T;exact ⟨Row.cells h' rfl 0 _ rfl,Row.cells h' rfl 1 _ rfl,Row.cells h' rfl 2 _ rfl,Row.cells h' rfl 3 _ rfl⟩
structure KArm (w0:World) (gy:Nat) (sl rg:Int) (ly n cy:Nat) (W:World):Prop where
 bad:KBad sl rg (some ⟨ly,0,none⟩) n cy W
 box:KBox W gy sl rg (.slice (some ⟨ly,0,none⟩) n cy)
 t:Turned zN w0 W
section
variable {w0 W:World} {gy ly cy:Nat}
theorem kn_cell (W:World) (a:Addr) (v:Value):Turned (fun k=>k=a.block) W (W.setCell a v):=Turned.setCell (S:=fun k=>k=a.block) (Turned.refl _ W) (p:=a) (.inr rfl) v
theorem KArm.box_ (hb:W.heap[gy]? = some (.cells #[.int .i64 2,.int .i64 1,.int .i64 3,.slice (some ⟨ly,0,none⟩) 3 cy] 104 (0,0))) (hr:Row W 139 6 (.slice (some ⟨ly,0,none⟩) 3 cy) 3 ([st0,st1,st2].flatMap stC)) (hg:w0.heap.size≤gy) (hl:w0.heap.size≤ly) (hne:ly≠gy) (T:Turned zN w0 W)
 (i:Nat) (v:Value) {sl rg:Int} (hi:i < 4) (hs:[Value.int .i64 2,.int .i64 1,.int .i64 3,.slice (some ⟨ly,0,none⟩) 3 cy].set i v=[.int .i64 2,.int .i64 sl,.int .i64 rg,.slice (some ⟨ly,0,none⟩) 3 cy]) (hbad:Tm.goodC 2 sl rg [st0,st1,st2]=false):KArm w0 gy sl rg ly 3 cy (W.setCell ⟨gy,i,none⟩ v):=by
 have hr':Row (W.setCell ⟨gy,i,none⟩ v) 139 6 (.slice (some ⟨ly,0,none⟩) 3 cy) 3 ([st0,st1,st2].flatMap stC):=hr.setCell (fun c=>by simp only [Value.ownBlock,Option.some.injEq] at c;exact hne c) v;have hbx:=Row.setAt (KBox.of hb) (off:=i) (by omega) v;rw [hs] at hbx;exact ⟨KBad.of (Ls:=[kst0 ⟨#[118,97,114]⟩ 0,kst1 1 2,kst2 0]) rfl hr' (kst_ok _ (.inl rfl) 0 1 2 0 ⟨i64_lit _ (by omega),i64_lit _ (by omega),i64_lit _ (by omega),i64_lit _ (by omega)⟩) (by omega) hbad,hbx,T.step (kn_cell W ⟨gy,i,none⟩ v) (fun k hk e=>by have e':k=gy:=e;omega)⟩
theorem KArm.row_ (hb:W.heap[gy]? = some (.cells #[.int .i64 2,.int .i64 1,.int .i64 3,.slice (some ⟨ly,0,none⟩) 3 cy] 104 (0,0))) (hr:Row W 139 6 (.slice (some ⟨ly,0,none⟩) 3 cy) 3 ([st0,st1,st2].flatMap stC)) (hg:w0.heap.size≤gy) (hl:w0.heap.size≤ly) (hne:ly≠gy) (T:Turned zN w0 W)
 (i:Nat) (v:Value) (op:ByteArray) (ho:op=⟨#[118,97,114]⟩∨op=⟨#[118,97,108]⟩) (n a c b:Int) (h64:I64 n∧I64 a∧I64 c∧I64 b) (hi:i < 18) (hs:([st0,st1,st2].flatMap stC).set i v=[kst0 op n,kst1 a c,kst2 b].flatMap stC) (hbad:Tm.goodC 2 1 3 [kst0 op n,kst1 a c,kst2 b]=false):KArm w0 gy 1 3 ly 3 cy (W.setCell ⟨ly,i,none⟩ v):=by
 have hr':=hr.setAt (off:=i) (by omega) v;rw [hs] at hr';have Tc:=kn_cell W ⟨ly,i,none⟩ v;have hbx:KBox (W.setCell ⟨ly,i,none⟩ v) gy 1 3 (.slice (some ⟨ly,0,none⟩) 3 cy):=Row.setCell (KBox.of hb) (fun c=>by simp only [Value.ownBlock,Option.some.injEq] at c;exact hne c.symm) v;exact ⟨KBad.of (Ls:=[kst0 op n,kst1 a c,kst2 b]) rfl hr' (kst_ok op ho n a c b h64) (by omega) hbad,hbx,T.step Tc (fun k hk e=>by have e':k=ly:=e;omega)⟩
theorem KArm.cut_ (hb:W.heap[gy]? = some (.cells #[.int .i64 2,.int .i64 1,.int .i64 3,.slice (some ⟨ly,0,none⟩) 3 cy] 104 (0,0))) (hr:Row W 139 6 (.slice (some ⟨ly,0,none⟩) 3 cy) 3 ([st0,st1,st2].flatMap stC)) (hg:w0.heap.size≤gy) (hl:w0.heap.size≤ly) (hne:ly≠gy) (T:Turned zN w0 W):KArm w0 gy 1 3 ly 2 cy (W.setCell ⟨gy,3,none⟩ (.slice (some ⟨ly,0,none⟩) 2 cy)):=by
 have hm:=hr.max;have hr':Row (W.setCell ⟨gy,3,none⟩ (.slice (some ⟨ly,0,none⟩) 2 cy)) 139 6 (.slice (some ⟨ly,0,none⟩) 2 cy) 2 ([st0,st1].flatMap stC):=Row.setCell (hr.take (m:=2) (c:=cy) (by omega) (by omega) (Qm _)) (fun c=>by simp only [Value.ownBlock,Option.some.injEq] at c;exact hne c) _;have hbx:=Row.setAt (KBox.of hb) (off:=3) (by omega) (.slice (some ⟨ly,0,none⟩) 2 cy)
 exact ⟨KBad.of (Ls:=[kst0 ⟨#[118,97,114]⟩ 0,kst1 1 2]) rfl hr' (fun s hs=>kst_ok ⟨#[118,97,114]⟩ (.inl rfl) 0 1 2 0 ⟨i64_lit _ (by omega),i64_lit _ (by omega),i64_lit _ (by omega),i64_lit _ (by omega)⟩ s (by
  simp only [Qw,Ql,or_false] at hs ⊢
  exact hs.imp_right .inl)) (by omega) (by kernel_rfl),hbx,T.step (kn_cell W ⟨gy,3,none⟩ _) (fun k hk e=>by have e':k=gy:=e;omega)⟩
end
def KnS (l:LT) (v:Value) (W:World):Prop:=∃ q:Option Addr × Nat,v = .slice q.1 1 q.2∧LT.Sl (fun _=>True) W q.1 q.2 [l]∧True
def KnC (l:LT) (v:Value) (W:World):Prop:=∃ q:Option Addr × Nat,v = .agg #[.int .i64 2,.int .i64 0,.string ⟨#[102]⟩,.slice q.1 1 q.2]∧LT.In (fun _=>True) W (Tm.mk 2 0 ⟨#[102]⟩ q [l])∧True
def KnT (l:LT) (v:Value) (W:World):Prop:=∃ q:(Option Addr × Nat) × (Option Addr × Nat),v = .slice q.1.1 2 q.1.2∧LT.Sl (fun _=>True) W q.1.1 q.1.2 [l,Tm.mk 2 0 ⟨#[102]⟩ q.2 [l]]∧True
def KnP (l:LT) (v:Value) (W:World):Prop:=∃ q:(Option Addr × Nat) × (Option Addr × Nat),v = .agg #[.int .i64 2,.int .i64 0,.string ⟨#[112]⟩,.slice q.1.1 2 q.1.2]∧LT.In (fun _=>True) W (Tm.mk 2 0 ⟨#[112]⟩ q.1 [l,Tm.mk 2 0 ⟨#[102]⟩ q.2 [l]])∧True
section
variable {u v:LT} {w:World}
theorem kn_sameV (hu:u.In (fun _=>True) w) (hv:v.In (fun _=>True) w) (h:u.bare=v.bare) (hg:goodB u.bare=true):Calls Try.prog 52 #[.agg #[.int .i64 u.kind,.int .i64 u.n,.string u.name,.slice u.at_.1 u.args.length u.at_.2],.agg #[.int .i64 v.kind,.int .i64 v.n,.string v.name,.slice v.at_.1 v.args.length v.at_.2]] w fun e w'=>e = .returned (.bool true)∧Turned zN w w':=
 sameVal' hu hv (good_slimB hg) (good_slimB (by rw [←h];exact hg)) (sameB_eq h hg)
theorem kn_same1 {q:(Option Addr × Nat) × (Option Addr × Nat)} (hu:u.In (fun _=>True) w) (hb:u.bare=knP) (hv:LT.In (fun _=>True) w (Tm.mk 2 0 ⟨#[112]⟩ q.1 [leaf 0 0 ByteArray.empty,Tm.mk 2 0 ⟨#[102]⟩ q.2 [leaf 0 0 ByteArray.empty]])):Calls Try.prog 52 #[.agg #[.int .i64 u.kind,.int .i64 u.n,.string u.name,.slice u.at_.1 u.args.length u.at_.2],.agg #[.int .i64 2,.int .i64 0,.string ⟨#[112]⟩,.slice q.1.1 2 q.1.2]] w fun e w'=>e = .returned (.bool true)∧Turned zN w w':=
 kn_sameV (v:=Tm.mk 2 0 ⟨#[112]⟩ q.1 [leaf 0 0 ByteArray.empty,Tm.mk 2 0 ⟨#[102]⟩ q.2 [leaf 0 0 ByteArray.empty]]) hu hv (hb.trans rfl) (by rw [hb];kernel_rfl)
theorem kn_same2 (hu:u.In (fun _=>True) w) (hb:u.bare=Tm.knI 3):Calls Try.prog 52 #[.agg #[.int .i64 u.kind,.int .i64 u.n,.string u.name,.slice u.at_.1 u.args.length u.at_.2],.agg #[.int .i64 1,.int .i64 3,.string ByteArray.empty,.slice none 0 0]] w fun e w'=>e = .returned (.bool true)∧Turned zN w w':=
 kn_sameV (v:=leaf 1 3 ByteArray.empty) hu (leafIn' (i64_lit _ (by omega)) (i64_lit _ (by omega)) (by unfold maxLen;decide)) (hb.trans rfl) (by rw [hb];kernel_rfl)
theorem kn_same3 {q:Option Addr × Nat} (hu:u.In (fun _=>True) w) (hb:u.bare = .mk 2 0 ⟨#[102]⟩ () [Tm.knI 3]) (hv:LT.In (fun _=>True) w (Tm.mk 2 0 ⟨#[102]⟩ q [leaf 1 3 ByteArray.empty])):Calls Try.prog 52 #[.agg #[.int .i64 u.kind,.int .i64 u.n,.string u.name,.slice u.at_.1 u.args.length u.at_.2],.agg #[.int .i64 2,.int .i64 0,.string ⟨#[102]⟩,.slice q.1 1 q.2]] w fun e w'=>e = .returned (.bool true)∧Turned zN w w':=
 kn_sameV (v:=Tm.mk 2 0 ⟨#[102]⟩ q [leaf 1 3 ByteArray.empty]) hu hv (hb.trans rfl) (by rw [hb];kernel_rfl)
end
end Go.Proofs.Ytoihjobdfjajfaa
namespace Go.Proofs.Ytoihjobdfjajfaa
open Lib (hid)
open Go.RowKit Go.Maps
structure KFirst (w wx:World) (bx bc gL cL:Nat) (a7:Option Addr) (c7:Nat) (aH aF:Option Addr) (cH cF:Nat):Prop where
 t:Turned zN w wx
 code:KCode wx (some ⟨gL,0,none⟩) cL
 head:(hdT aH cH aF cF).In (fun _=>True) wx
 box:∀ W,Turned zN wx W→W.cell? ⟨bx,0,none⟩=some (.int .i64 2)∧W.cell? ⟨bx,1,none⟩=some (.int .i64 1)∧W.cell? ⟨bx,2,none⟩=some (.int .i64 3)∧W.cell? ⟨bx,3,none⟩=some (.slice (some ⟨gL,0,none⟩) 3 cL)
 atom:∀ W,Turned zN wx W→W.cell? ⟨bc,0,none⟩=some (.int .i64 0)∧W.cell? ⟨bc,1,none⟩=some (.int .i64 0)∧W.cell? ⟨bc,2,none⟩=some (.int .i64 0)∧W.cell? ⟨bc,3,none⟩=some (.slice a7 0 c7)
theorem kn_first {w w1 w2 w3 w4 w5 w6 w7 w8 w9 w10 w11 w12:World} {gL cL:Nat} {a7:Option Addr} {c7:Nat} {aH aF:Option Addr} {cH cF:Nat} (T1:Turned zN w w1) (T2:Turned zN w1 w2) (T3:Turned zN w2 w3) (T4:Turned zN (w3.alloc (.cells #[.int .i64 0,.int .i64 0,.int .i64 0,.slice none 0 0] 104)) w4) (T5:Turned zN w4 w5) (T6:Turned zN (w5.alloc (.cells #[.int .i64 0,.int .i64 0,.int .i64 0,.slice none 0 0] 104)) w6) (T7:Turned zN w6 w7) (T8:Turned zN (w7.alloc (.cells #[.int .i64 0,.int .i64 0,.int .i64 0,.slice a7 0 c7] 104)) w8) (T9:Turned zN w8 w9) (T10:Turned zN w9 w10) (T11:Turned zN w10 w11) (T12:Turned zN w11 w12)
 (hi:(hdT aH cH aF cF).In (fun _=>True) w11) (hr:Row w12 139 6 (.slice (some ⟨gL,0,none⟩) 3 cL) 3 ([st0,st1,st2].flatMap stC)):KFirst w (w12.alloc (.cells #[.int .i64 2,.int .i64 1,.int .i64 3,.slice (some ⟨gL,0,none⟩) 3 cL] 104)) w12.heap.size w7.heap.size gL cL a7 c7 aH aF cH cF:=by
 have TX:=(Turned.refl (fun _=>False) w12).alloc (.cells #[.int .i64 2,.int .i64 1,.int .i64 3,.slice (some ⟨gL,0,none⟩) 3 cL] 104);have TC:Turned zN (w7.alloc (.cells #[.int .i64 0,.int .i64 0,.int .i64 0,.slice a7 0 c7] 104)) (w12.alloc (.cells #[.int .i64 2,.int .i64 1,.int .i64 3,.slice (some ⟨gL,0,none⟩) 3 cL] 104)):=((((T8.trans T9).trans T10).trans T11).trans T12).trans TX;have T0:Turned zN w (w7.alloc (.cells #[.int .i64 0,.int .i64 0,.int .i64 0,.slice a7 0 c7] 104)):=((((((((T1.trans T2).trans T3).alloc _).trans T4).trans T5).alloc _).trans T6).trans T7).alloc _;have hi':=(hi.turned0 T12).turned0 TX;have hr':=hr.turned0 TX;refine ⟨T0.trans TC,⟨fun W T=>hr'.turned0 T,fun W T=>hdGood (hi'.turned0 T) (hr'.turned0 T)⟩,hi',fun W T=>?_,fun W T=>?_⟩
 · have hb:=heap_alloc_new w12 (.cells #[.int .i64 2,.int .i64 1,.int .i64 3,.slice (some ⟨gL,0,none⟩) 3 cL] 104)
   have c:=cells4 ((T.bt hb));exact ⟨c.1,c.2.1,c.2.2.1,c.2.2.2.1⟩
 · have hb:=heap_alloc_new w7 (.cells #[.int .i64 0,.int .i64 0,.int .i64 0,.slice a7 0 c7] 104)
   have c:=cells4 (((TC.trans T).bt hb));exact ⟨c.1,c.2.1,c.2.2.1,c.2.2.2.1⟩
theorem brings_code {o:Oper} {a:Act} {w:World} {F:Value→World→Prop} (x y z s:Tmp) (ho:o.op=Op.build 104 #[(0,.tmp x),(1,.tmp y),(2,.tmp z),(3,.tmp s)]) {n0 n1 n2:Int} {sa:Option Addr} {sn sc:Nat} (hx:a.tmps.getD x undef = .int .i64 n0) (hy:a.tmps.getD y undef = .int .i64 n1) (hz:a.tmps.getD z undef = .int .i64 n2) (hs:a.tmps.getD s undef = .slice sa sn sc)
 (h:F (.agg #[.int .i64 n0,.int .i64 n1,.int .i64 n2,.slice sa sn sc]) w):Brings Try.prog F ((execOp a.eval o).run Try.prog w):=by
 have e:∀ q,a.eval (.tmp q)=a.tmps.getD q undef:=fun _=>rfl
 unfold execOp;simp only [ho,List.map_toArray,Qx,List.map_nil,e,hx,hy,hz,hs];go_simp;exact h
theorem KArgs.of {a b:LT} {w0 W:World} {g:Nat} (T:Turned zN w0 W) (hi:LT.In (fun k=>w0.heap.size≤k) W (.mk 2 0 ByteArray.empty (some ⟨g,0,none⟩,2) [a,b])):KArgs a b w0 (.slice (some ⟨g,0,none⟩) 2 2) W:=⟨g,rfl,T,hi⟩
theorem kn_len2 {hs:List Value} (h:hs.length=2):∃ a b,hs=[a,b]:=by
 match hs,h with
 | [a,b],_=>exact ⟨a,b,rfl⟩
theorem kn_len3 {hs:List Value} (h:hs.length=3):∃ a b c,hs=[a,b,c]:=by
 match hs,h with
 | [a,b,c],_=>exact ⟨a,b,c,rfl⟩
theorem kn_len4 {hs:List Value} (h:hs.length=4):∃ a b c d,hs=[a,b,c,d]:=by
 match hs,h with
 | [a,b,c,d],_=>exact ⟨a,b,c,d,rfl⟩
theorem KArg1.old {w0:World} (v:Value) (W:World) (h:KArg1 w0 v W):Turned zN w0 W:=by
 obtain ⟨a,c,_,T⟩:=h;exact T
theorem KArg1.turned0 {w0 W W':World} {v:Value} (h:KArg1 w0 v W) (T:Turned zN W W'):KArg1 w0 v W':=by
 obtain ⟨a,c,e,T0⟩:=h;exact ⟨a,c,e,T0.trans T⟩
theorem KCode.at {w w':World} {aL:Option Addr} {cL:Nat} (h:KCode w aL cL) (T:Turned zN w w'):KCode w' aL cL:=⟨fun W T'=>h.row W (T.trans T'),fun W T'=>h.good W (T.trans T')⟩
structure KBack (w wn:World) (bx bc bt gL cL:Nat) (a7:Option Addr) (c7:Nat) (u:LT):Prop where
 t:Turned zN w wn
 code:KCode wn (some ⟨gL,0,none⟩) cL
 box:∀ W,Turned zN wn W→W.cell? ⟨bx,0,none⟩=some (.int .i64 2)∧W.cell? ⟨bx,1,none⟩=some (.int .i64 1)∧W.cell? ⟨bx,2,none⟩=some (.int .i64 3)∧W.cell? ⟨bx,3,none⟩=some (.slice (some ⟨gL,0,none⟩) 3 cL)
 atom:∀ W,Turned zN wn W→W.cell? ⟨bc,0,none⟩=some (.int .i64 0)∧W.cell? ⟨bc,1,none⟩=some (.int .i64 0)∧W.cell? ⟨bc,2,none⟩=some (.int .i64 0)∧W.cell? ⟨bc,3,none⟩=some (.slice a7 0 c7)
 made:∀ W,Turned zN wn W→W.cell? ⟨bt,0,none⟩=some (.int .i64 u.kind)∧W.cell? ⟨bt,1,none⟩=some (.int .i64 u.n)∧W.cell? ⟨bt,2,none⟩=some (.string u.name)∧W.cell? ⟨bt,3,none⟩=some (.slice u.at_.1 u.args.length u.at_.2)
 bare:u.bare=knP
 tm:u.In (fun _=>True) wn
theorem KFirst.back {w wx wr w20:World} {bx bc gL cL c7 cH cF:Nat} {a7 aH aF:Option Addr} {u:LT} (h:KFirst w wx bx bc gL cL a7 c7 aH aF cH cF) (T:Turned zN wx wr) (hb:u.bare=knP) (hi:u.In (fun _=>True) w20) (T2:Turned zN wr w20):KBack w (w20.alloc (.cells #[.int .i64 u.kind,.int .i64 u.n,.string u.name,.slice u.at_.1 u.args.length u.at_.2] 27)) bx bc w20.heap.size gL cL a7 c7 u:=by
 have TX:=(Turned.refl (fun _=>False) w20).alloc (.cells #[.int .i64 u.kind,.int .i64 u.n,.string u.name,.slice u.at_.1 u.args.length u.at_.2] 27);have T3:=(T.trans T2).trans TX;refine ⟨h.t.trans T3,h.code.at T3,fun W T'=>h.box W (T3.trans T'),fun W T'=>h.atom W (T3.trans T'),fun W T'=>?_,hb,hi.turned0 TX⟩;have hn:=heap_alloc_new w20 (.cells #[.int .i64 u.kind,.int .i64 u.n,.string u.name,.slice u.at_.1 u.args.length u.at_.2] 27);have c:=cells4 ((T'.bt hn));exact ⟨c.1,c.2.1,c.2.2.1,c.2.2.2.1⟩
theorem KBack.at {w wn wn':World} {bx bc bt gL cL c7:Nat} {a7:Option Addr} {u:LT} (h:KBack w wn bx bc bt gL cL a7 c7 u) (T:Turned zN wn wn'):KBack w wn' bx bc bt gL cL a7 c7 u:=
 ⟨h.t.trans T,h.code.at T,fun W T'=>h.box W (T.trans T'),fun W T'=>h.atom W (T.trans T'),fun W T'=>h.made W (T.trans T'),h.bare,h.tm.turned0 T⟩
theorem kn_slot {w w':World} {gs:Nat} {x:LT} {cur:Array Value} {z:Nat × Nat} (h:Row w 27 4 (.slice (some ⟨gs,0,none⟩) 1 1) 1 ([x].flatMap LT.cells)) (h1:w.heap[gs]? = some (.cells cur 27 z)) (h2:w'.heap[gs]? = some (.cells cur 27 z)) :
 w'.cell? ⟨gs,0,none⟩=some (.int .i64 x.kind)∧w'.cell? ⟨gs,1,none⟩=some (.int .i64 x.n)∧w'.cell? ⟨gs,2,none⟩=some (.string x.name)∧w'.cell? ⟨gs,3,none⟩=some (.slice x.at_.1 x.args.length x.at_.2):=by
 have h':Row w' 27 4 (.slice (some ⟨gs,0,none⟩) 1 1) 1 ([x].flatMap LT.cells):=h.moved (fun g o hg ho=>by
  injection hg with hg
  subst hg;rw [h1] at ho
  rw [h2,←ho])
 obtain ⟨g,hg,x0,x1,x2,x3⟩:=row_at (us:=[x]) (j:=0) h' rfl
 injection hg with hg
 injection hg with hg
 subst hg;exact ⟨x0,x1,x2,x3⟩
set_option maxRecDepth 100000 in
theorem codeKnown (w:World):Calls Try.prog 31 #[] w fun e w'=>e = .returned (.bool true)∧Turned zN w w':=by
 go_enter Try.func31,Try.ntmps31
 go_wp2_with (first
  | (go_at_call 93;have:=G11;refine (hdHead i11).mono ?_;rintro e w12 ⟨lv,rfl,hr12,_,T12⟩;obtain ⟨gL,cL,rfl⟩:=hr12.shape_pos (by omega);have HF:=hid (kn_first T1 T2 T3 T4 T5 T6 T7 T8 T9 T10 T11 T12 i11 hr12);clear T1 T2 T3 T4 T5 T6 T7 T8 T9 T10 T11 T12 i8 i9 i10 i11 hr12;have G12:True:=trivial)
  | (go_at_call 37;have:=G10;refine (compV ⟨#[112]⟩ (by unfold maxLen;decide) 2 (by decide) rfl (sl_made (l:=[leaf 0 9 ByteArray.empty,.mk 2 0 ⟨#[102]⟩ (a10,c10) [leaf 0 9 ByteArray.empty]]) ⟨i8.turned0 (T9.trans T10),i10,trivial⟩ 2 (by decide) rfl _ rfl)).mono ?_;rintro e w11 ⟨a11,c11,rfl,i11,T11⟩;have T11:=((Turned.refl (fun _=>False) w10).alloc _).trans T11;have G11:True:=trivial)
  | (go_at_call 37;have:=G9;refine (compV ⟨#[102]⟩ (by unfold maxLen;decide) 1 (by decide) rfl (sl_made (l:=[leaf 0 9 ByteArray.empty]) ⟨i9,trivial⟩ 1 (by decide) rfl _ rfl)).mono ?_;rintro e w10 ⟨a10,c10,rfl,i10,T10⟩;have T10:=((Turned.refl (fun _=>False) w9).alloc _).trans T10;have G10:True:=trivial)
  | (go_at_call 62;have:=G8;refine (varV 9 (i64_lit _ (by omega)) _).mono ?_;rintro e w9 ⟨rfl,i9,T9⟩;have G9:True:=trivial)
  | (go_at_call 62;have:=G7;refine (varV 9 (i64_lit _ (by omega)) _).mono ?_;rintro e w8 ⟨rfl,i8,T8⟩;have G8:True:=trivial)
  | (go_at_call 93;have:=G6;refine (kn_headA _).mono ?_;rintro e w7 ⟨a7,c7,rfl,T7⟩;have G7:True:=trivial)
  | (go_at_call 63;have:=G5;refine (atomV ⟨#[112]⟩ (by unfold maxLen;decide) _).mono ?_;rintro e w6 ⟨rfl,_,T6⟩;have G6:True:=trivial)
  | (go_at_call 93;have:=G4;refine (kn_head 1 (.inr rfl) _).mono ?_;rintro e w5 ⟨rfl,T5⟩;have G5:True:=trivial)
  | (go_at_call 61;have:=G3;refine (intV 0 (i64_lit _ (by omega)) _).mono ?_;rintro e w4 ⟨rfl,_,T4⟩;have G4:True:=trivial)
  | (go_at_call 93;have:=G2;refine (kn_head 0 (.inl rfl) _).mono ?_;rintro e w3 ⟨rfl,T3⟩;have G3:True:=trivial)
  | (go_at_call 62;have:=G1;refine (varV 0 (i64_lit _ (by omega)) _).mono ?_;rintro e w2 ⟨rfl,_,T2⟩;have G2:True:=trivial)
  | (go_at_call 91;refine (awake91 _).mono ?_;rintro e w1 ⟨rfl,T1⟩;have G1:True:=trivial))
 obtain ⟨wx,hwx⟩:∃ z,z=w12.alloc (.cells #[.int .i64 2,.int .i64 1,.int .i64 3,.slice (some ⟨gL,0,none⟩) 3 cL] 104):=⟨_,rfl⟩;rw [←hwx] at HF ⊢;clear hwx G1 G2 G3 G4 G5 G6 G7 G8 G9 G10 G11 G12
 go_loopg [9] 8 (fun k i wr=>∃ n:Int,Hid (n+k=8)∧0≤n∧n≤8∧i = .int .i64 n∧Hid (Turned zN wx wr))
 case atStart=>exact ⟨0,rfl,by omega,by omega,rfl,Turned.refl _ _⟩
 case round=>
  obtain ⟨n,HG,hn0,hn8,rfl,HTr⟩:=hrel
  by_cases hlt:n < 8
  · have dn:decide (n < 8)=true:=decide_eq_true hlt
    go_wp2_with fail
    refine wp_region_k [69,70,71,72,73,74,75,76,77,78,79,10] [6,9,10,11,12] [(75,6),(78,9),(79,10),(10,11)] (fun dd vv=>(match dd with | 69=>vv = .pointer (some ⟨w12.heap.size,0,none⟩) | 70=>vv = .int .i64 2 | 71=>vv = .pointer (some ⟨w12.heap.size,1,none⟩) | 72=>vv = .int .i64 1 | 73=>vv = .pointer (some ⟨w12.heap.size,2,none⟩) | 74=>vv = .int .i64 3 | 76=>vv = .pointer (some ⟨w12.heap.size,3,none⟩) | 77=>vv = .slice (some ⟨gL,0,none⟩) 3 cL | _=>True:Prop)) (YR wr ([st0,st1,st2].flatMap stC)) (by kernel_rfl) rfl (by kernel_rfl) (by kernel_rfl) (fun W T=>YR.start T) (fun hs W W' h T=>h.turned0 T) ?hs ?hQ
    case hs=>
     refine ⟨?s0,?s1,?s2,?s3,?s4,?s5,?s6,?s7,?s8,?s9,?s10,?s11,?s12,trivial⟩
     case s0=>refine fun hs hl=>zG [] [7] fun ac W hT hI hO=>?_;simp only [execOp,Act.eval,hO 7 (by simp)];go_simp;try exact tq
     case s1=>refine fun hs hl=>zG [69] [] fun ac W hT hI hO=>?_;have h69:_=_:=hI 69 (by simp);obtain ⟨k0,k1,k2,k3⟩:=HF.out.box W (HTr.out.trans hT.t);simp only [execOp,Act.eval,h69];go_simp;try exact tq
     case s2=>refine fun hs hl=>zG [] [7] fun ac W hT hI hO=>?_;simp only [execOp,Act.eval,hO 7 (by simp)];go_simp;try exact tq
     case s3=>refine fun hs hl=>zG [71] [] fun ac W hT hI hO=>?_;have h71:_=_:=hI 71 (by simp);obtain ⟨k0,k1,k2,k3⟩:=HF.out.box W (HTr.out.trans hT.t);simp only [execOp,Act.eval,h71];go_simp;try exact tq
     case s4=>refine fun hs hl=>zG [] [7] fun ac W hT hI hO=>?_;simp only [execOp,Act.eval,hO 7 (by simp)];go_simp;try exact tq
     case s5=>refine fun hs hl=>zG [73] [] fun ac W hT hI hO=>?_;have h73:_=_:=hI 73 (by simp);obtain ⟨k0,k1,k2,k3⟩:=HF.out.box W (HTr.out.trans hT.t);simp only [execOp,Act.eval,h73];go_simp;try exact tq
     case s6=>
      refine fun hs hno hl=>zG [] [] fun ac W hT hI hO=>?_;show Brings _ (fun vv w'=>YR wr ([st0,st1,st2].flatMap stC) (hs++[(6,vv)]) w') _;simp only [execOp,Act.eval];go_simp;exact hT.empty hno (fun v=>hl 9 1 v (by kernel_rfl))
     case s7=>refine fun hs hl=>zG [] [7] fun ac W hT hI hO=>?_;simp only [execOp,Act.eval,hO 7 (by simp)];go_simp;try exact tq
     case s8=>refine fun hs hl=>zG [76] [] fun ac W hT hI hO=>?_;have h76:_=_:=hI 76 (by simp);obtain ⟨k0,k1,k2,k3⟩:=HF.out.box W (HTr.out.trans hT.t);simp only [execOp,Act.eval,h76];go_simp;try exact tq
     case s9=>
      refine fun hs hno hl=>zG [75,77] [] fun ac W hT hI hO=>?_;have h75:(6,ac.tmps.getD 75 undef)∈hs:=hI 75 (by simp);have h77:_=_:=hI 77 (by simp);show Brings _ (fun vv w'=>YR wr ([st0,st1,st2].flatMap stC) (hs++[(9,vv)]) w') _;obtain ⟨i0,hi0,hz0,hz1,hz2⟩:=info_parts infoS;have hcd:=HF.out.code.row W (HTr.out.trans hT.t);refine brings_append (.tmp 75) (.tmp 77) 102 rfl 139 i0 _ 6 64 Try.underlying102 hi0 hz0 hz1 hz2 rfl (by decide) _ 0 [] rfl (hT.e _ h75 hno).1 ⟨gL,0,none⟩ 3 cL ([st0,st1,st2].flatMap stC) h77 rfl (fun j u hu=>by rw [Addr.add_lit,Nat.zero_add];exact hcd.cells rfl j u hu) (stCs_one _) (by omega) (by unfold maxLen;omega) (by omega) ?_
      exact fun g c w' r T hg=>hT.app hno h75 r T hg
     case s10=>
      refine fun hs hno hl=>zG [70,72,74,78] [] fun ac W hT hI hO=>?_;have h70:_=_:=hI 70 (by simp);have h72:_=_:=hI 72 (by simp);have h74:_=_:=hI 74 (by simp);have h78:(9,ac.tmps.getD 78 undef)∈hs:=hI 78 (by simp);obtain ⟨g9,c9,e78,_⟩:=hT.a _ h78;rw [e78] at h78;show Brings _ (fun vv w'=>YR wr ([st0,st1,st2].flatMap stC) (hs++[(10,vv)]) w') _;exact brings_code 70 72 74 78 rfl h70 h72 h74 e78 (hT.agg h78)
     case s11=>
      refine fun hs hno hl=>zG [] [] fun ac W hT hI hO=>?_;show Brings _ (fun vv w'=>YR wr ([st0,st1,st2].flatMap stC) (hs++[(11,vv)]) w') _;simp only [execOp,Act.eval];go_simp;exact hT.box hno
     case s12=>
      refine fun hs hno hl=>zG [10,79] [] fun ac W hT hI hO=>?_;have h10:(11,ac.tmps.getD 10 undef)∈hs:=hI 10 (by simp);have h79:(10,ac.tmps.getD 79 undef)∈hs:=hI 79 (by simp);obtain ⟨g,e10,_,c0,c1,c2,c3,hb⟩:=hT.x _ h10;obtain ⟨s,h9,e79⟩:=hT.b _ h79;obtain ⟨g9,c9,rfl,_⟩:=hT.a _ h9;rw [e10] at h10;obtain ⟨z0,z1,z2,z3,f0,f1,f2,f3⟩:=cells4 hb;show Brings _ (fun vv w'=>YR wr ([st0,st1,st2].flatMap stC) (hs++[(12,vv)]) w') _;simp only [execOp,Act.eval,e10,e79];go_simp;exact hT.store hno h9 h10
    case hQ=>
     intro hs vs w5 hall huniq hR hV;have q10:(11,vs 10)∈hs:=hV 10 (by simp);obtain ⟨v12,h12⟩:=hall 12 (by simp);obtain ⟨gy,ly,cy,e10,hgy,hly,hne,hby,hry,hT5⟩:=hR.done huniq q10 h12;simp only [Qq,List.foldl_nil,Qk,Qs,Qr,e10];clear hall huniq hR hV q10 h12 v12 e10
     have hcs:n=0∨n=1∨n=2∨n=3∨n=4∨n=5∨n=6∨n=7:=by omega
     clear dn hlt hn0 hn8
     rcases hcs with rfl | rfl | rfl | rfl | rfl | rfl | rfl | rfl
     · have hk:=KArm.box_ hby hry hgy hly hne hT5 2 (.int .i64 4) (sl:=1) (rg:=4) (by omega) rfl (by kernel_rfl)
       have HK:=hid hk;obtain ⟨y0,y1,y2,y3,f0,f1,f2,f3⟩:=cells4 hby;have hne2:=Ne.symm hne;clear hk hby hry hgy hly hT5
       go_wp2_with (first
        | (go_at_call 95;have HT7:=HT7;(with_reducible refine (HK.out.bad.good _ (HT7.out.alloc _)).mono ?_);rintro e w8 ⟨rfl,T8⟩;have HT8:=hid T8;clear T8)
        | (go_at_call 94;(with_reducible refine (HK.out.bad.back).mono ?_);rintro e w7 ⟨rfl,T7⟩;have HT7:=hid T7;obtain ⟨v0,v1,v2,v3⟩:=HK.out.box.cells (T7.alloc (.cells #[.int .i64 0,.int .i64 0,.string ⟨#[]⟩,.slice none 0 0] 27));clear T7 y0 y1 y2 y3 f0 f1 f2 f3))
       go_roundg (gk - 1)
       case measure=>have:=HG.out;omega
       case rel=>exact ⟨1,show _=_ by have:=HG.out;omega,by omega,by omega,rfl,((HTr.out.trans HK.out.t).trans (HT7.out.alloc _)).trans HT8.out⟩
     · have hk:=KArm.box_ hby hry hgy hly hne hT5 1 (.int .i64 2) (sl:=2) (rg:=3) (by omega) rfl (by kernel_rfl)
       have HK:=hid hk;obtain ⟨y0,y1,y2,y3,f0,f1,f2,f3⟩:=cells4 hby;have hne2:=Ne.symm hne;clear hk hby hry hgy hly hT5
       go_wp2_with (first
        | (go_at_call 95;have HT7:=HT7;(with_reducible refine (HK.out.bad.good _ (HT7.out.alloc _)).mono ?_);rintro e w8 ⟨rfl,T8⟩;have HT8:=hid T8;clear T8)
        | (go_at_call 94;(with_reducible refine (HK.out.bad.back).mono ?_);rintro e w7 ⟨rfl,T7⟩;have HT7:=hid T7;obtain ⟨v0,v1,v2,v3⟩:=HK.out.box.cells (T7.alloc (.cells #[.int .i64 0,.int .i64 0,.string ⟨#[]⟩,.slice none 0 0] 27));clear T7 y0 y1 y2 y3 f0 f1 f2 f3))
       go_roundg (gk - 1)
       case measure=>have:=HG.out;omega
       case rel=>exact ⟨2,show _=_ by have:=HG.out;omega,by omega,by omega,rfl,((HTr.out.trans HK.out.t).trans (HT7.out.alloc _)).trans HT8.out⟩
     · have hk:=KArm.row_ hby hry hgy hly hne hT5 0 (.string ⟨#[118,97,108]⟩) ⟨#[118,97,108]⟩ (.inr rfl) 0 1 2 0 ⟨i64_lit _ (by omega),i64_lit _ (by omega),i64_lit _ (by omega),i64_lit _ (by omega)⟩ (by omega) rfl (by kernel_rfl)
       have HK:=hid hk;obtain ⟨y0,y1,y2,y3,f0,f1,f2,f3⟩:=cells4 hby;obtain ⟨zz,hzz⟩:=row_some hry 0 (by decide);have hff:=hry.free rfl 0;have hne2:=Ne.symm hne;clear hk hby hry hgy hly hT5
       go_wp2_with (first
        | (go_at_call 95;have HT7:=HT7;(with_reducible refine (HK.out.bad.good _ (HT7.out.alloc _)).mono ?_);rintro e w8 ⟨rfl,T8⟩;have HT8:=hid T8;clear T8)
        | (go_at_call 94;(with_reducible refine (HK.out.bad.back).mono ?_);rintro e w7 ⟨rfl,T7⟩;have HT7:=hid T7;obtain ⟨v0,v1,v2,v3⟩:=HK.out.box.cells (T7.alloc (.cells #[.int .i64 0,.int .i64 0,.string ⟨#[]⟩,.slice none 0 0] 27));clear T7 y0 y1 y2 y3 f0 f1 f2 f3))
       go_roundg (gk - 1)
       case measure=>have:=HG.out;omega
       case rel=>exact ⟨3,show _=_ by have:=HG.out;omega,by omega,by omega,rfl,((HTr.out.trans HK.out.t).trans (HT7.out.alloc _)).trans HT8.out⟩
     · have hk:=KArm.row_ hby hry hgy hly hne hT5 9 (.int .i64 1) ⟨#[118,97,114]⟩ (.inl rfl) 0 1 1 0 ⟨i64_lit _ (by omega),i64_lit _ (by omega),i64_lit _ (by omega),i64_lit _ (by omega)⟩ (by omega) rfl (by kernel_rfl)
       have HK:=hid hk;obtain ⟨y0,y1,y2,y3,f0,f1,f2,f3⟩:=cells4 hby;obtain ⟨zz,hzz⟩:=row_some hry 9 (by decide);have hff:=hry.free rfl 9;have hne2:=Ne.symm hne;clear hk hby hry hgy hly hT5
       go_wp2_with (first
        | (go_at_call 95;have HT7:=HT7;(with_reducible refine (HK.out.bad.good _ (HT7.out.alloc _)).mono ?_);rintro e w8 ⟨rfl,T8⟩;have HT8:=hid T8;clear T8)
        | (go_at_call 94;(with_reducible refine (HK.out.bad.back).mono ?_);rintro e w7 ⟨rfl,T7⟩;have HT7:=hid T7;obtain ⟨v0,v1,v2,v3⟩:=HK.out.box.cells (T7.alloc (.cells #[.int .i64 0,.int .i64 0,.string ⟨#[]⟩,.slice none 0 0] 27));clear T7 y0 y1 y2 y3 f0 f1 f2 f3))
       go_roundg (gk - 1)
       case measure=>have:=HG.out;omega
       case rel=>exact ⟨4,show _=_ by have:=HG.out;omega,by omega,by omega,rfl,((HTr.out.trans HK.out.t).trans (HT7.out.alloc _)).trans HT8.out⟩
     · have hk:=KArm.row_ hby hry hgy hly hne hT5 14 (.int .i64 1) ⟨#[118,97,114]⟩ (.inl rfl) 0 1 2 1 ⟨i64_lit _ (by omega),i64_lit _ (by omega),i64_lit _ (by omega),i64_lit _ (by omega)⟩ (by omega) rfl (by kernel_rfl)
       have HK:=hid hk;obtain ⟨y0,y1,y2,y3,f0,f1,f2,f3⟩:=cells4 hby;obtain ⟨zz,hzz⟩:=row_some hry 14 (by decide);have hff:=hry.free rfl 14;have hne2:=Ne.symm hne;clear hk hby hry hgy hly hT5
       go_wp2_with (first
        | (go_at_call 95;have HT7:=HT7;(with_reducible refine (HK.out.bad.good _ (HT7.out.alloc _)).mono ?_);rintro e w8 ⟨rfl,T8⟩;have HT8:=hid T8;clear T8)
        | (go_at_call 94;(with_reducible refine (HK.out.bad.back).mono ?_);rintro e w7 ⟨rfl,T7⟩;have HT7:=hid T7;obtain ⟨v0,v1,v2,v3⟩:=HK.out.box.cells (T7.alloc (.cells #[.int .i64 0,.int .i64 0,.string ⟨#[]⟩,.slice none 0 0] 27));clear T7 y0 y1 y2 y3 f0 f1 f2 f3))
       go_roundg (gk - 1)
       case measure=>have:=HG.out;omega
       case rel=>exact ⟨5,show _=_ by have:=HG.out;omega,by omega,by omega,rfl,((HTr.out.trans HK.out.t).trans (HT7.out.alloc _)).trans HT8.out⟩
     · have hk:=KArm.row_ hby hry hgy hly hne hT5 7 (.int .i64 0) ⟨#[118,97,114]⟩ (.inl rfl) 0 0 2 0 ⟨i64_lit _ (by omega),i64_lit _ (by omega),i64_lit _ (by omega),i64_lit _ (by omega)⟩ (by omega) rfl (by kernel_rfl)
       have HK:=hid hk;obtain ⟨y0,y1,y2,y3,f0,f1,f2,f3⟩:=cells4 hby;obtain ⟨zz,hzz⟩:=row_some hry 7 (by decide);have hff:=hry.free rfl 7;have hne2:=Ne.symm hne;clear hk hby hry hgy hly hT5
       go_wp2_with (first
        | (go_at_call 95;have HT7:=HT7;(with_reducible refine (HK.out.bad.good _ (HT7.out.alloc _)).mono ?_);rintro e w8 ⟨rfl,T8⟩;have HT8:=hid T8;clear T8)
        | (go_at_call 94;(with_reducible refine (HK.out.bad.back).mono ?_);rintro e w7 ⟨rfl,T7⟩;have HT7:=hid T7;obtain ⟨v0,v1,v2,v3⟩:=HK.out.box.cells (T7.alloc (.cells #[.int .i64 0,.int .i64 0,.string ⟨#[]⟩,.slice none 0 0] 27));clear T7 y0 y1 y2 y3 f0 f1 f2 f3))
       go_roundg (gk - 1)
       case measure=>have:=HG.out;omega
       case rel=>exact ⟨6,show _=_ by have:=HG.out;omega,by omega,by omega,rfl,((HTr.out.trans HK.out.t).trans (HT7.out.alloc _)).trans HT8.out⟩
     · have hk:=KArm.cut_ hby hry hgy hly hne hT5 
       have HK:=hid hk;obtain ⟨y0,y1,y2,y3,f0,f1,f2,f3⟩:=cells4 hby;have hm:=hry.max;have d2:decide ((2:Int)≤(cy:Int))=true:=decide_eq_true (by omega);have hne2:=Ne.symm hne;clear hk hby hry hgy hly hT5
       go_wp2_with (first
        | (go_at_call 95;have HT7:=HT7;(with_reducible refine (HK.out.bad.good _ (HT7.out.alloc _)).mono ?_);rintro e w8 ⟨rfl,T8⟩;have HT8:=hid T8;clear T8)
        | (go_at_call 94;(with_reducible refine (HK.out.bad.back).mono ?_);rintro e w7 ⟨rfl,T7⟩;have HT7:=hid T7;obtain ⟨v0,v1,v2,v3⟩:=HK.out.box.cells (T7.alloc (.cells #[.int .i64 0,.int .i64 0,.string ⟨#[]⟩,.slice none 0 0] 27));clear T7 y0 y1 y2 y3 f0 f1 f2 f3))
       go_roundg (gk - 1)
       case measure=>have:=HG.out;omega
       case rel=>exact ⟨7,show _=_ by have:=HG.out;omega,by omega,by omega,rfl,((HTr.out.trans HK.out.t).trans (HT7.out.alloc _)).trans HT8.out⟩
     · have hk:=KArm.row_ hby hry hgy hly hne hT5 4 (.int .i64 1) ⟨#[118,97,114]⟩ (.inl rfl) 1 1 2 0 ⟨i64_lit _ (by omega),i64_lit _ (by omega),i64_lit _ (by omega),i64_lit _ (by omega)⟩ (by omega) rfl (by kernel_rfl)
       have HK:=hid hk;obtain ⟨y0,y1,y2,y3,f0,f1,f2,f3⟩:=cells4 hby;obtain ⟨zz,hzz⟩:=row_some hry 4 (by decide);have hff:=hry.free rfl 4;have hne2:=Ne.symm hne;clear hk hby hry hgy hly hT5
       go_wp2_with (first
        | (go_at_call 95;have HT7:=HT7;(with_reducible refine (HK.out.bad.good _ (HT7.out.alloc _)).mono ?_);rintro e w8 ⟨rfl,T8⟩;have HT8:=hid T8;clear T8)
        | (go_at_call 94;(with_reducible refine (HK.out.bad.back).mono ?_);rintro e w7 ⟨rfl,T7⟩;have HT7:=hid T7;obtain ⟨v0,v1,v2,v3⟩:=HK.out.box.cells (T7.alloc (.cells #[.int .i64 0,.int .i64 0,.string ⟨#[]⟩,.slice none 0 0] 27));clear T7 y0 y1 y2 y3 f0 f1 f2 f3))
       go_roundg (gk - 1)
       case measure=>have:=HG.out;omega
       case rel=>exact ⟨8,show _=_ by have:=HG.out;omega,by omega,by omega,rfl,((HTr.out.trans HK.out.t).trans (HT7.out.alloc _)).trans HT8.out⟩
  · obtain rfl:n=8:=by omega
    have HWR:=HTr;clear HG hn0 hn8 hlt;obtain ⟨k0,k1,k2,k3⟩:=HF.out.box wr HWR.out
    go_wp2_with (first
     | (go_at_call 87;have HB21:=HB21;refine (BM.fresh rfl HB21.out (by omega)).mono ?_;rintro e w22 ⟨rfl,h22⟩;have HB22:Hid (BM (w20.alloc (.cells #[.int .i64 u.kind,.int .i64 u.n,.string u.name,.slice u.at_.1 u.args.length u.at_.2] 27)).heap.size bb [] [] (w20.alloc (.cells #[.int .i64 u.kind,.int .i64 u.n,.string u.name,.slice u.at_.1 u.args.length u.at_.2] 27)) 1 [] w22):=h22;clear h22)
     | (go_at_call 86;have HK20:=HK20;refine (newO86 (p:=fun k=>k < (w20.alloc (.cells #[.int .i64 u.kind,.int .i64 u.n,.string u.name,.slice u.at_.1 u.args.length u.at_.2] 27)).heap.size) _ (fun _ h=>h)).mono ?_;rintro e w21 ⟨bb,rfl,B21,hbb,T21⟩;have HB21:Hid (BM (w20.alloc (.cells #[.int .i64 u.kind,.int .i64 u.n,.string u.name,.slice u.at_.1 u.args.length u.at_.2] 27)).heap.size bb [] [] (w20.alloc (.cells #[.int .i64 u.kind,.int .i64 u.n,.string u.name,.slice u.at_.1 u.args.length u.at_.2] 27)) 0 [] w21):=BM.begin B21 (fun k hk=>hk.1) T21;clear B21 hbb T21)
     | (go_at_call 94;refine (kn_back (HF.out.head.turned0 HWR.out) (HF.out.code.row _ HWR.out)).mono ?_;rintro e w20 ⟨u,rfl,hub,hui,T20⟩;have HK20:=hid (HF.out.back HWR.out hub hui T20);clear hub hui T20))
    obtain ⟨wn,hwn⟩:∃ z,z=(w20.alloc (.cells #[.int .i64 u.kind,.int .i64 u.n,.string u.name,.slice u.at_.1 u.args.length u.at_.2] 27)):=⟨_,rfl⟩;rw [←hwn] at HK20 HB21 HB22;have HK:=HK20;clear hwn k0 k1 k2 k3 HK20 HB21;refine wp_region_hsW [141,142,143,144,145,146,140,147,148,149,16,17,18] [4,5,6,7,10] [1,1,0,0,1,2,3,4,5,5,5,5,5] [145,146,140,147,16] (fun dd vv=>(match dd with | 141=>vv = .pointer (some ⟨bb,0,none⟩) | 142=>vv = .agg #[.int .i64 2,.int .i64 1,.int .i64 3,.slice (some ⟨gL,0,none⟩) 3 cL] | 148=>vv = .bool true | 149=>vv = .int .i64 0 | 17=>vv = .bool true | 18=>vv = .int .i64 0 | 143=>vv = .agg #[.int .i64 1,.int .i64 3,.string ByteArray.empty,.slice none 0 0] | 144=>vv = .agg #[.int .i64 0,.int .i64 0,.string ByteArray.empty,.slice none 0 0] | _=>True:Prop)) (MtG w22 (KArgs (leaf 1 3 ByteArray.empty) (leaf 0 0 ByteArray.empty) w22) (KSlots wn.heap.size bb [] [] wn) true 0) (by kernel_rfl) rfl (by kernel_rfl) (by kernel_rfl) (by kernel_rfl) (by kernel_rfl) (fun w h=>h) (fun hs w w' h T=>MtG.turned0 (B:=(KArgs (leaf 1 3 ByteArray.empty) (leaf 0 0 ByteArray.empty) w22)) (Q:=KSlots wn.heap.size bb [] [] wn) (fun v W W' h T=>KArgs.turned0 h T) (fun v W W' h T=>KSlots.turned0 h T) hs w w' h T) ?hs ?hQ
    case hs=>
     refine ⟨?s0,?s1,?s2,?s3,?s4,?s5,?s6,?s7,?s8,?s9,?s10,?s11,?s12,trivial⟩
     case s0=>refine fun hs hle=>zG [] [15] fun ac W hT hI hO=>?_;have hle:hs.length≤1:=hle;simp only [execOp,Act.eval,hO 15 (by simp)];go_simp;try exact tq
     case s1=>refine fun hs hle=>zG [] [7] fun ac W hT hI hO=>?_;have hle:hs.length≤1:=hle;obtain ⟨k0,k1,k2,k3⟩:=HK.out.box W (HB22.out.old.trans (MtG.early KArgs.old hs W hle hT));simp only [execOp,Act.eval,hO 7 (by simp)];go_simp;try exact tq
     case s2=>
      refine fun hs hle=>zG [] [] fun ac W hT hI hO=>?_;have hle:hs.length≤0:=hle;simp only [execOp,Act.eval];go_simp;show Calls Try.prog 61 _ W _
      (with_reducible refine (intV61 3 kn_lits.2.2.2.1 W).mono ?_)
      rintro e w' ⟨rfl,T'⟩
      exact ⟨_,rfl,T',rfl⟩
     case s3=>
      refine fun hs hle=>zG [] [] fun ac W hT hI hO=>?_;have hle:hs.length≤0:=hle;simp only [execOp,Act.eval];go_simp;show Calls Try.prog 62 _ W _
      (with_reducible refine (varV62b 0 kn_lits.1 W).mono ?_)
      rintro e w' ⟨rfl,T'⟩
      exact ⟨_,rfl,T',rfl⟩
     case s4=>
      refine fun hs hlen=>zG [143,144] [] fun ac W hT hI hO=>?_;have h143:_=_:=hI 143 (by simp);have h144:_=_:=hI 144 (by simp);obtain rfl:hs=[]:=Qh hlen;replace hT:Turned zN w22 W:=hT;show Brings _ (fun vv w'=>MtG w22 (KArgs (leaf 1 3 ByteArray.empty) (leaf 0 0 ByteArray.empty) w22) (KSlots wn.heap.size bb [] [] wn) true 0 ([]++[vv]) w') _;refine brings_two 143 144 rfl h143 h144 ?_;exact KArgs.made hT kn_lits.2.1 kn_lits.2.2.2.1 (by unfold maxLen;decide) kn_lits.1 kn_lits.1 (by unfold maxLen;decide)
     case s5=>
      refine fun hs hlen=>zG [141,142,145] [] fun ac W hT hI hO=>?_;have h141:_=_:=hI 141 (by simp);have h142:_=_:=hI 142 (by simp);have h145:hs[0]? = some (ac.tmps.getD 145 undef):=hI 145 (by simp);obtain ⟨a9,rfl⟩:=List.length_eq_one_iff.1 hlen
      have eb:a9=ac.tmps.getD 145 undef:=by simpa using h145
      replace hT:(KArgs (leaf 1 3 ByteArray.empty) (leaf 0 0 ByteArray.empty) w22) a9 W:=hT;obtain ⟨g,eg,hT1,hi⟩:=hT;rw [eb] at eg;show Brings _ (fun vv w'=>MtG w22 (KArgs (leaf 1 3 ByteArray.empty) (leaf 0 0 ByteArray.empty) w22) (KSlots wn.heap.size bb [] [] wn) true 0 ([a9]++[vv]) w') _;simp only [execOp,Act.eval,h141,h142,eg];go_simp;show Calls Try.prog 121 _ W _
      (with_reducible refine (knMatchA (v:=.slice (some ⟨g,0,none⟩) 2 2) rfl HB22.out HK.out.code (KArgs.of hT1 hi)).mono ?_)
      rintro e w' ⟨s,rfl,hq⟩
      exact ⟨_,rfl,s,rfl,hq⟩
     case s6=>
      refine fun hs hlen=>zG [146] [] fun ac W hT hI hO=>?_;have h146:hs[1]? = some (ac.tmps.getD 146 undef):=hI 146 (by simp);obtain ⟨x0,x1,rfl⟩:=kn_len2 hlen
      have eb:x1=ac.tmps.getD 146 undef:=by simpa using h146
      obtain ⟨s,es,hq⟩:=hT;rw [eb] at es;show Brings _ (fun vv w'=>MtG w22 (KArgs (leaf 1 3 ByteArray.empty) (leaf 0 0 ByteArray.empty) w22) (KSlots wn.heap.size bb [] [] wn) true 0 ([x0,x1]++[vv]) w') _;simp only [execOp,Act.eval,es];go_simp;exact ⟨s,rfl,hq⟩
     case s7=>
      refine fun hs hlen=>zG [140] [] fun ac W hT hI hO=>?_;have h140:hs[2]? = some (ac.tmps.getD 140 undef):=hI 140 (by simp);obtain ⟨x0,x1,x2,rfl⟩:=kn_len3 hlen
      have eb:x2=ac.tmps.getD 140 undef:=by simpa using h140
      obtain ⟨s,es,hq⟩:=hT;have es2:=es;rw [eb] at es;show Brings _ (fun vv w'=>MtG w22 (KArgs (leaf 1 3 ByteArray.empty) (leaf 0 0 ByteArray.empty) w22) (KSlots wn.heap.size bb [] [] wn) true 0 ([x0,x1,x2]++[vv]) w') _;simp only [execOp,Act.eval,es];go_simp
      first | exact ⟨rfl,hq⟩ | exact ⟨es2,hq⟩
     case s8=>refine fun hs hle=>zG [140] [] fun ac W hT hI hO=>?_;have hle:hs.length≤5:=hle;have h140:hs[2]? = some (ac.tmps.getD 140 undef):=hI 140 (by simp);obtain ⟨s,es⟩:=MtG.val hs W hT h140;simp only [execOp,Act.eval,es];go_simp;try exact tq
     case s9=>refine fun hs hle=>zG [140] [] fun ac W hT hI hO=>?_;have hle:hs.length≤5:=hle;have h140:hs[2]? = some (ac.tmps.getD 140 undef):=hI 140 (by simp);obtain ⟨s,es⟩:=MtG.val hs W hT h140;simp only [execOp,Act.eval,es];go_simp;try exact tq
     case s10=>
      refine fun hs hlen=>zG [147] [] fun ac W hT hI hO=>?_;have h147:hs[3]? = some (ac.tmps.getD 147 undef):=hI 147 (by simp);obtain ⟨x0,x1,x2,x3,rfl⟩:=kn_len4 hlen
      have eb:ac.tmps.getD 147 undef=x3:=by simpa using h147.symm
      obtain ⟨es,hq⟩:=hT;show Brings _ (fun vv w'=>MtG w22 (KArgs (leaf 1 3 ByteArray.empty) (leaf 0 0 ByteArray.empty) w22) (KSlots wn.heap.size bb [] [] wn) true 0 ([x0,x1,x2,x3]++[vv]) w') _;simp only [execOp,Act.eval,eb];go_simp
      first | exact ⟨rfl,rfl,hq⟩ | exact ⟨es,rfl,hq⟩
     case s11=>refine fun hs hle=>zG [148] [] fun ac W hT hI hO=>?_;have hle:hs.length≤5:=hle;have h148:_=_:=hI 148 (by simp);simp only [execOp,Act.eval,h148];go_simp;try exact tq
     case s12=>
      refine fun hs hle=>zG [149] [] fun ac W hT hI hO=>?_;have hle:hs.length≤5:=hle;have h149:_=_:=hI 149 (by simp);simp only [execOp,Act.eval,h149];go_simp
      try exact tq
    case hQ=>
     intro hs vs w35 hlen hR hV;have q0:hs[4]? = some (vs 16):=hV 16 (by simp);have q1:vs 17 = .bool true:=hV 17 (by simp);have q2:vs 18 = .int .i64 0:=hV 18 (by simp);obtain ⟨gs,x,cur,e0,hxb,hrow,hbm⟩:=MtG.end_ hs w35 hR hlen q0;simp only [Qq,List.foldl_nil,Qk,Qs,Qr,e0,q1,q2];rw [e0] at hrow;clear hlen hR hV q0 q1 q2 e0;have HROW:=hid hrow;have HXB:=hid hxb;have HB35:=hid hbm;clear hrow hxb hbm HB22
     go_wp2_with (first
      | (go_at_call 89;have T36:=T36;refine (BM.whole HB35.out T36 (x:=leaf 0 0 ByteArray.empty) (leafIn' kn_lits.1 kn_lits.1 (by unfold maxLen;decide)) (slim_leaf _ _ _) kn_whole.1).mono ?_;rintro e w37 ⟨v,rfl,hvb,hb37,T37⟩;have HVB:Hid (v.bare = .mk 2 0 ⟨#[102]⟩ () [Tm.knI 3]):=hvb.trans kn_whole.2;have hb37':=hb37.box (.cells #[.int .i64 v.kind,.int .i64 v.n,.string v.name,.slice v.at_.1 v.args.length v.at_.2] 27);have HB37:Hid (BM wn.heap.size bb ((w37.heap.size,.cells #[.int .i64 v.kind,.int .i64 v.n,.string v.name,.slice v.at_.1 v.args.length v.at_.2] 27 (0,0)) :: [(gs,.cells cur 27 (0,0))]) (v :: [x]) wn 2 Tm.kn2 (w37.alloc (.cells #[.int .i64 v.kind,.int .i64 v.n,.string v.name,.slice v.at_.1 v.args.length v.at_.2] 27))):=hb37';clear hvb hb37 hb37' T37)
      | (go_at_call 62;refine (varV 0 kn_lits.1 _).mono ?_;rintro e w36 ⟨rfl,_,T36⟩))
     clear T36;obtain ⟨w38,hw38⟩:∃ z,z=w37.alloc (.cells #[.int .i64 v.kind,.int .i64 v.n,.string v.name,.slice v.at_.1 v.args.length v.at_.2] 27):=⟨_,rfl⟩;rw [←hw38] at HB37 ⊢;clear hw38;refine wp_region_hsW [157,158,159,160,161,162,156,163,164,165,21,22,23] [4,5,6,7,10] [1,1,0,0,1,2,3,4,5,5,5,5,5] [161,162,156,163,21] (fun dd vv=>(match dd with | 157=>vv = .pointer (some ⟨bb,0,none⟩) | 158=>vv = .agg #[.int .i64 2,.int .i64 1,.int .i64 3,.slice (some ⟨gL,0,none⟩) 3 cL] | 164=>vv = .bool false | 165=>vv = .int .i64 0 | 22=>vv = .bool false | 23=>vv = .int .i64 0 | 159=>vv = .agg #[.int .i64 1,.int .i64 4,.string ByteArray.empty,.slice none 0 0] | 160=>vv = .agg #[.int .i64 0,.int .i64 0,.string ByteArray.empty,.slice none 0 0] | _=>True:Prop)) (MtG w38 (KArgs (leaf 1 4 ByteArray.empty) (leaf 0 0 ByteArray.empty) w38) (KNo wn.heap.size bb ((w37.heap.size,.cells #[.int .i64 v.kind,.int .i64 v.n,.string v.name,.slice v.at_.1 v.args.length v.at_.2] 27 (0,0)) :: [(gs,.cells cur 27 (0,0))]) (v :: [x]) wn 2 Tm.kn2) false 0) (by kernel_rfl) rfl (by kernel_rfl) (by kernel_rfl) (by kernel_rfl) (by kernel_rfl) (fun w h=>h) (fun hs w w' h T=>MtG.turned0 (B:=(KArgs (leaf 1 4 ByteArray.empty) (leaf 0 0 ByteArray.empty) w38)) (Q:=KNo wn.heap.size bb ((w37.heap.size,.cells #[.int .i64 v.kind,.int .i64 v.n,.string v.name,.slice v.at_.1 v.args.length v.at_.2] 27 (0,0)) :: [(gs,.cells cur 27 (0,0))]) (v :: [x]) wn 2 Tm.kn2) (fun v W W' h T=>KArgs.turned0 h T) (fun v W W' h T=>KNo.turned0 h T) hs w w' h T) ?hs ?hQ
     case hs=>
      refine ⟨?s0,?s1,?s2,?s3,?s4,?s5,?s6,?s7,?s8,?s9,?s10,?s11,?s12,trivial⟩
      case s0=>refine fun hs hle=>zG [] [15] fun ac W hT hI hO=>?_;have hle:hs.length≤1:=hle;simp only [execOp,Act.eval,hO 15 (by simp)];go_simp;try exact tq
      case s1=>refine fun hs hle=>zG [] [7] fun ac W hT hI hO=>?_;have hle:hs.length≤1:=hle;obtain ⟨k0,k1,k2,k3⟩:=HK.out.box W (HB37.out.old.trans (MtG.early KArgs.old hs W hle hT));simp only [execOp,Act.eval,hO 7 (by simp)];go_simp;try exact tq
      case s2=>
       refine fun hs hle=>zG [] [] fun ac W hT hI hO=>?_;have hle:hs.length≤0:=hle;simp only [execOp,Act.eval];go_simp;show Calls Try.prog 61 _ W _
       (with_reducible refine (intV61 4 kn_lits.2.2.2.2.1 W).mono ?_)
       rintro e w' ⟨rfl,T'⟩
       exact ⟨_,rfl,T',rfl⟩
      case s3=>
       refine fun hs hle=>zG [] [] fun ac W hT hI hO=>?_;have hle:hs.length≤0:=hle;simp only [execOp,Act.eval];go_simp;show Calls Try.prog 62 _ W _
       (with_reducible refine (varV62b 0 kn_lits.1 W).mono ?_)
       rintro e w' ⟨rfl,T'⟩
       exact ⟨_,rfl,T',rfl⟩
      case s4=>
       refine fun hs hlen=>zG [159,160] [] fun ac W hT hI hO=>?_;have h159:_=_:=hI 159 (by simp);have h160:_=_:=hI 160 (by simp);obtain rfl:hs=[]:=Qh hlen;replace hT:Turned zN w38 W:=hT;show Brings _ (fun vv w'=>MtG w38 (KArgs (leaf 1 4 ByteArray.empty) (leaf 0 0 ByteArray.empty) w38) (KNo wn.heap.size bb ((w37.heap.size,.cells #[.int .i64 v.kind,.int .i64 v.n,.string v.name,.slice v.at_.1 v.args.length v.at_.2] 27 (0,0)) :: [(gs,.cells cur 27 (0,0))]) (v :: [x]) wn 2 Tm.kn2) false 0 ([]++[vv]) w') _;refine brings_two 159 160 rfl h159 h160 ?_;exact KArgs.made hT kn_lits.2.1 kn_lits.2.2.2.2.1 (by unfold maxLen;decide) kn_lits.1 kn_lits.1 (by unfold maxLen;decide)
      case s5=>
       refine fun hs hlen=>zG [157,158,161] [] fun ac W hT hI hO=>?_;have h157:_=_:=hI 157 (by simp);have h158:_=_:=hI 158 (by simp);have h161:hs[0]? = some (ac.tmps.getD 161 undef):=hI 161 (by simp);obtain ⟨a9,rfl⟩:=List.length_eq_one_iff.1 hlen
       have eb:a9=ac.tmps.getD 161 undef:=by simpa using h161
       replace hT:(KArgs (leaf 1 4 ByteArray.empty) (leaf 0 0 ByteArray.empty) w38) a9 W:=hT;obtain ⟨g,eg,hT1,hi⟩:=hT;rw [eb] at eg;show Brings _ (fun vv w'=>MtG w38 (KArgs (leaf 1 4 ByteArray.empty) (leaf 0 0 ByteArray.empty) w38) (KNo wn.heap.size bb ((w37.heap.size,.cells #[.int .i64 v.kind,.int .i64 v.n,.string v.name,.slice v.at_.1 v.args.length v.at_.2] 27 (0,0)) :: [(gs,.cells cur 27 (0,0))]) (v :: [x]) wn 2 Tm.kn2) false 0 ([a9]++[vv]) w') _;simp only [execOp,Act.eval,h157,h158,eg];go_simp;show Calls Try.prog 121 _ W _
       (with_reducible refine (knMatchB (v:=.slice (some ⟨g,0,none⟩) 2 2) rfl HB37.out HK.out.code (KArgs.of hT1 hi)).mono ?_)
       rintro e w' ⟨s,rfl,hq⟩
       exact ⟨_,rfl,s,rfl,hq⟩
      case s6=>
       refine fun hs hlen=>zG [162] [] fun ac W hT hI hO=>?_;have h162:hs[1]? = some (ac.tmps.getD 162 undef):=hI 162 (by simp);obtain ⟨x0,x1,rfl⟩:=kn_len2 hlen
       have eb:x1=ac.tmps.getD 162 undef:=by simpa using h162
       obtain ⟨s,es,hq⟩:=hT;rw [eb] at es;show Brings _ (fun vv w'=>MtG w38 (KArgs (leaf 1 4 ByteArray.empty) (leaf 0 0 ByteArray.empty) w38) (KNo wn.heap.size bb ((w37.heap.size,.cells #[.int .i64 v.kind,.int .i64 v.n,.string v.name,.slice v.at_.1 v.args.length v.at_.2] 27 (0,0)) :: [(gs,.cells cur 27 (0,0))]) (v :: [x]) wn 2 Tm.kn2) false 0 ([x0,x1]++[vv]) w') _;simp only [execOp,Act.eval,es];go_simp;exact ⟨s,rfl,hq⟩
      case s7=>
       refine fun hs hlen=>zG [156] [] fun ac W hT hI hO=>?_;have h156:hs[2]? = some (ac.tmps.getD 156 undef):=hI 156 (by simp);obtain ⟨x0,x1,x2,rfl⟩:=kn_len3 hlen
       have eb:x2=ac.tmps.getD 156 undef:=by simpa using h156
       obtain ⟨s,es,hq⟩:=hT;have es2:=es;rw [eb] at es;show Brings _ (fun vv w'=>MtG w38 (KArgs (leaf 1 4 ByteArray.empty) (leaf 0 0 ByteArray.empty) w38) (KNo wn.heap.size bb ((w37.heap.size,.cells #[.int .i64 v.kind,.int .i64 v.n,.string v.name,.slice v.at_.1 v.args.length v.at_.2] 27 (0,0)) :: [(gs,.cells cur 27 (0,0))]) (v :: [x]) wn 2 Tm.kn2) false 0 ([x0,x1,x2]++[vv]) w') _;simp only [execOp,Act.eval,es];go_simp
       first | exact ⟨rfl,hq⟩ | exact ⟨es2,hq⟩
      case s8=>refine fun hs hle=>zG [156] [] fun ac W hT hI hO=>?_;have hle:hs.length≤5:=hle;have h156:hs[2]? = some (ac.tmps.getD 156 undef):=hI 156 (by simp);obtain ⟨s,es⟩:=MtG.val hs W hT h156;simp only [execOp,Act.eval,es];go_simp;try exact tq
      case s9=>refine fun hs hle=>zG [156] [] fun ac W hT hI hO=>?_;have hle:hs.length≤5:=hle;have h156:hs[2]? = some (ac.tmps.getD 156 undef):=hI 156 (by simp);obtain ⟨s,es⟩:=MtG.val hs W hT h156;simp only [execOp,Act.eval,es];go_simp;try exact tq
      case s10=>
       refine fun hs hlen=>zG [163] [] fun ac W hT hI hO=>?_;have h163:hs[3]? = some (ac.tmps.getD 163 undef):=hI 163 (by simp);obtain ⟨x0,x1,x2,x3,rfl⟩:=kn_len4 hlen
       have eb:ac.tmps.getD 163 undef=x3:=by simpa using h163.symm
       obtain ⟨es,hq⟩:=hT;show Brings _ (fun vv w'=>MtG w38 (KArgs (leaf 1 4 ByteArray.empty) (leaf 0 0 ByteArray.empty) w38) (KNo wn.heap.size bb ((w37.heap.size,.cells #[.int .i64 v.kind,.int .i64 v.n,.string v.name,.slice v.at_.1 v.args.length v.at_.2] 27 (0,0)) :: [(gs,.cells cur 27 (0,0))]) (v :: [x]) wn 2 Tm.kn2) false 0 ([x0,x1,x2,x3]++[vv]) w') _;simp only [execOp,Act.eval,eb];go_simp
       first | exact ⟨rfl,rfl,hq⟩ | exact ⟨es,rfl,hq⟩
      case s11=>refine fun hs hle=>zG [164] [] fun ac W hT hI hO=>?_;have hle:hs.length≤5:=hle;have h164:_=_:=hI 164 (by simp);simp only [execOp,Act.eval,h164];go_simp;try exact tq
      case s12=>
       refine fun hs hle=>zG [165] [] fun ac W hT hI hO=>?_;have hle:hs.length≤5:=hle;have h165:_=_:=hI 165 (by simp);simp only [execOp,Act.eval,h165];go_simp
       try exact tq
     case hQ=>
      intro hs vs w39 hlen hR hV;have q0:hs[4]? = some (vs 21):=hV 21 (by simp);have q1:vs 22 = .bool false:=hV 22 (by simp);have q2:vs 23 = .int .i64 0:=hV 23 (by simp);obtain ⟨e0,hbm⟩:=MtG.end_ hs w39 hR hlen q0;simp only [Qq,List.foldl_nil,Qk,Qs,Qr,e0,q1,q2];clear hlen hR hV q0 q1 q2 e0;have HB39:=hid hbm;clear hbm
      go_wp2_with fail
      refine wp_region_hsW [167,168,169,170,171,166,172,173,174,24,25,26] [3,4,5,6,9] [1,1,0,1,2,3,4,5,5,5,5,5] [170,171,166,172,24] (fun dd vv=>(match dd with | 167=>vv = .pointer (some ⟨bb,0,none⟩) | 168=>vv = .agg #[.int .i64 2,.int .i64 1,.int .i64 3,.slice (some ⟨gL,0,none⟩) 3 cL] | 173=>vv = .bool false | 174=>vv = .int .i64 1 | 25=>vv = .bool false | 26=>vv = .int .i64 1 | 169=>vv = .agg #[.int .i64 1,.int .i64 4,.string ByteArray.empty,.slice none 0 0] | _=>True:Prop)) (MtG w39 (KArg1 w39) (KNo wn.heap.size bb ((w37.heap.size,.cells #[.int .i64 v.kind,.int .i64 v.n,.string v.name,.slice v.at_.1 v.args.length v.at_.2] 27 (0,0)) :: [(gs,.cells cur 27 (0,0))]) (v :: [x]) wn 2 Tm.kn2) false 1) (by kernel_rfl) rfl (by kernel_rfl) (by kernel_rfl) (by kernel_rfl) (by kernel_rfl) (fun w h=>h) (fun hs w w' h T=>MtG.turned0 (B:=(KArg1 w39)) (Q:=KNo wn.heap.size bb ((w37.heap.size,.cells #[.int .i64 v.kind,.int .i64 v.n,.string v.name,.slice v.at_.1 v.args.length v.at_.2] 27 (0,0)) :: [(gs,.cells cur 27 (0,0))]) (v :: [x]) wn 2 Tm.kn2) (fun v W W' h T=>KArg1.turned0 h T) (fun v W W' h T=>KNo.turned0 h T) hs w w' h T) ?hs ?hQ
      case hs=>
       refine ⟨?s0,?s1,?s2,?s3,?s4,?s5,?s6,?s7,?s8,?s9,?s10,?s11,trivial⟩
       case s0=>refine fun hs hle=>zG [] [15] fun ac W hT hI hO=>?_;have hle:hs.length≤1:=hle;simp only [execOp,Act.eval,hO 15 (by simp)];go_simp;try exact tq
       case s1=>refine fun hs hle=>zG [] [7] fun ac W hT hI hO=>?_;have hle:hs.length≤1:=hle;obtain ⟨k0,k1,k2,k3⟩:=HK.out.box W (HB39.out.old.trans (MtG.early KArg1.old hs W hle hT));simp only [execOp,Act.eval,hO 7 (by simp)];go_simp;try exact tq
       case s2=>
        refine fun hs hle=>zG [] [] fun ac W hT hI hO=>?_;have hle:hs.length≤0:=hle;simp only [execOp,Act.eval];go_simp;show Calls Try.prog 61 _ W _
        (with_reducible refine (intV61 4 kn_lits.2.2.2.2.1 W).mono ?_)
        rintro e w' ⟨rfl,T'⟩
        exact ⟨_,rfl,T',rfl⟩
       case s3=>
        refine fun hs hlen=>zG [169] [] fun ac W hT hI hO=>?_;have h169:_=_:=hI 169 (by simp);obtain rfl:hs=[]:=Qh hlen;replace hT:Turned zN w39 W:=hT;show Brings _ (fun vv w'=>MtG w39 (KArg1 w39) (KNo wn.heap.size bb ((w37.heap.size,.cells #[.int .i64 v.kind,.int .i64 v.n,.string v.name,.slice v.at_.1 v.args.length v.at_.2] 27 (0,0)) :: [(gs,.cells cur 27 (0,0))]) (v :: [x]) wn 2 Tm.kn2) false 1 ([]++[vv]) w') _;refine brings_one 169 rfl h169 ?_;exact ⟨_,_,rfl,hT.alloc _⟩
       case s4=>
        refine fun hs hlen=>zG [167,168,170] [] fun ac W hT hI hO=>?_;have h167:_=_:=hI 167 (by simp);have h168:_=_:=hI 168 (by simp);have h170:hs[0]? = some (ac.tmps.getD 170 undef):=hI 170 (by simp);obtain ⟨a9,rfl⟩:=List.length_eq_one_iff.1 hlen
        have eb:a9=ac.tmps.getD 170 undef:=by simpa using h170
        replace hT:(KArg1 w39) a9 W:=hT;obtain ⟨ga,gc,eg,hT1⟩:=hT;rw [eb] at eg;show Brings _ (fun vv w'=>MtG w39 (KArg1 w39) (KNo wn.heap.size bb ((w37.heap.size,.cells #[.int .i64 v.kind,.int .i64 v.n,.string v.name,.slice v.at_.1 v.args.length v.at_.2] 27 (0,0)) :: [(gs,.cells cur 27 (0,0))]) (v :: [x]) wn 2 Tm.kn2) false 1 ([a9]++[vv]) w') _;simp only [execOp,Act.eval,h167,h168,eg];go_simp;show Calls Try.prog 121 _ W _
        (with_reducible refine (knMatchN (HB39.out.turned0 hT1) HK.out.code).mono ?_)
        rintro e w' ⟨s,rfl,hq⟩
        exact ⟨_,rfl,s,rfl,hq⟩
       case s5=>
        refine fun hs hlen=>zG [171] [] fun ac W hT hI hO=>?_;have h171:hs[1]? = some (ac.tmps.getD 171 undef):=hI 171 (by simp);obtain ⟨x0,x1,rfl⟩:=kn_len2 hlen
        have eb:x1=ac.tmps.getD 171 undef:=by simpa using h171
        obtain ⟨s,es,hq⟩:=hT;rw [eb] at es;show Brings _ (fun vv w'=>MtG w39 (KArg1 w39) (KNo wn.heap.size bb ((w37.heap.size,.cells #[.int .i64 v.kind,.int .i64 v.n,.string v.name,.slice v.at_.1 v.args.length v.at_.2] 27 (0,0)) :: [(gs,.cells cur 27 (0,0))]) (v :: [x]) wn 2 Tm.kn2) false 1 ([x0,x1]++[vv]) w') _;simp only [execOp,Act.eval,es];go_simp;exact ⟨s,rfl,hq⟩
       case s6=>
        refine fun hs hlen=>zG [166] [] fun ac W hT hI hO=>?_;have h166:hs[2]? = some (ac.tmps.getD 166 undef):=hI 166 (by simp);obtain ⟨x0,x1,x2,rfl⟩:=kn_len3 hlen
        have eb:x2=ac.tmps.getD 166 undef:=by simpa using h166
        obtain ⟨s,es,hq⟩:=hT;have es2:=es;rw [eb] at es;show Brings _ (fun vv w'=>MtG w39 (KArg1 w39) (KNo wn.heap.size bb ((w37.heap.size,.cells #[.int .i64 v.kind,.int .i64 v.n,.string v.name,.slice v.at_.1 v.args.length v.at_.2] 27 (0,0)) :: [(gs,.cells cur 27 (0,0))]) (v :: [x]) wn 2 Tm.kn2) false 1 ([x0,x1,x2]++[vv]) w') _;simp only [execOp,Act.eval,es];go_simp
        first | exact ⟨rfl,hq⟩ | exact ⟨es2,hq⟩
       case s7=>refine fun hs hle=>zG [166] [] fun ac W hT hI hO=>?_;have hle:hs.length≤5:=hle;have h166:hs[2]? = some (ac.tmps.getD 166 undef):=hI 166 (by simp);obtain ⟨s,es⟩:=MtG.val hs W hT h166;simp only [execOp,Act.eval,es];go_simp;try exact tq
       case s8=>refine fun hs hle=>zG [166] [] fun ac W hT hI hO=>?_;have hle:hs.length≤5:=hle;have h166:hs[2]? = some (ac.tmps.getD 166 undef):=hI 166 (by simp);obtain ⟨s,es⟩:=MtG.val hs W hT h166;simp only [execOp,Act.eval,es];go_simp;try exact tq
       case s9=>
        refine fun hs hlen=>zG [172] [] fun ac W hT hI hO=>?_;have h172:hs[3]? = some (ac.tmps.getD 172 undef):=hI 172 (by simp);obtain ⟨x0,x1,x2,x3,rfl⟩:=kn_len4 hlen
        have eb:ac.tmps.getD 172 undef=x3:=by simpa using h172.symm
        obtain ⟨es,hq⟩:=hT;show Brings _ (fun vv w'=>MtG w39 (KArg1 w39) (KNo wn.heap.size bb ((w37.heap.size,.cells #[.int .i64 v.kind,.int .i64 v.n,.string v.name,.slice v.at_.1 v.args.length v.at_.2] 27 (0,0)) :: [(gs,.cells cur 27 (0,0))]) (v :: [x]) wn 2 Tm.kn2) false 1 ([x0,x1,x2,x3]++[vv]) w') _;simp only [execOp,Act.eval,eb];go_simp
        first | exact ⟨rfl,rfl,hq⟩ | exact ⟨es,rfl,hq⟩
       case s10=>refine fun hs hle=>zG [173] [] fun ac W hT hI hO=>?_;have hle:hs.length≤5:=hle;have h173:_=_:=hI 173 (by simp);simp only [execOp,Act.eval,h173];go_simp;try exact tq
       case s11=>
        refine fun hs hle=>zG [174] [] fun ac W hT hI hO=>?_;have hle:hs.length≤5:=hle;have h174:_=_:=hI 174 (by simp);simp only [execOp,Act.eval,h174];go_simp
        try exact tq
      case hQ=>
       intro hs vs w40 hlen hR hV;have q0:hs[4]? = some (vs 24):=hV 24 (by simp);have q1:vs 25 = .bool false:=hV 25 (by simp);have q2:vs 26 = .int .i64 1:=hV 26 (by simp);obtain ⟨e0,hbm⟩:=MtG.end_ hs w40 hR hlen q0;simp only [Qq,List.foldl_nil,Qk,Qs,Qr,e0,q1,q2];clear hlen hR hV q0 q1 q2 e0;have HB40:=hid hbm;clear hbm
       go_wp2_with fail
       refine wp_region_hsW [176,177,178,179,180,181,175,182,183,184,27,28,29] [4,5,6,7,10] [1,1,0,0,1,2,3,4,5,5,5,5,5] [180,181,175,182,27] (fun dd vv=>(match dd with | 176=>vv = .pointer (some ⟨bb,0,none⟩) | 177=>vv = .agg #[.int .i64 2,.int .i64 1,.int .i64 3,.slice (some ⟨gL,0,none⟩) 3 cL] | 183=>vv = .bool false | 184=>vv = .int .i64 1 | 28=>vv = .bool false | 29=>vv = .int .i64 1 | 178=>vv = .agg #[.int .i64 1,.int .i64 4,.string ByteArray.empty,.slice none 0 0] | 179=>vv = .agg #[.int .i64 0,.int .i64 99999,.string ByteArray.empty,.slice none 0 0] | _=>True:Prop)) (MtG w40 (KArgs (leaf 1 4 ByteArray.empty) (leaf 0 99999 ByteArray.empty) w40) (KNo wn.heap.size bb ((w37.heap.size,.cells #[.int .i64 v.kind,.int .i64 v.n,.string v.name,.slice v.at_.1 v.args.length v.at_.2] 27 (0,0)) :: [(gs,.cells cur 27 (0,0))]) (v :: [x]) wn 2 Tm.kn2) false 1) (by kernel_rfl) rfl (by kernel_rfl) (by kernel_rfl) (by kernel_rfl) (by kernel_rfl) (fun w h=>h) (fun hs w w' h T=>MtG.turned0 (B:=(KArgs (leaf 1 4 ByteArray.empty) (leaf 0 99999 ByteArray.empty) w40)) (Q:=KNo wn.heap.size bb ((w37.heap.size,.cells #[.int .i64 v.kind,.int .i64 v.n,.string v.name,.slice v.at_.1 v.args.length v.at_.2] 27 (0,0)) :: [(gs,.cells cur 27 (0,0))]) (v :: [x]) wn 2 Tm.kn2) (fun v W W' h T=>KArgs.turned0 h T) (fun v W W' h T=>KNo.turned0 h T) hs w w' h T) ?hs ?hQ
       case hs=>
        refine ⟨?s0,?s1,?s2,?s3,?s4,?s5,?s6,?s7,?s8,?s9,?s10,?s11,?s12,trivial⟩
        case s0=>refine fun hs hle=>zG [] [15] fun ac W hT hI hO=>?_;have hle:hs.length≤1:=hle;simp only [execOp,Act.eval,hO 15 (by simp)];go_simp;try exact tq
        case s1=>refine fun hs hle=>zG [] [7] fun ac W hT hI hO=>?_;have hle:hs.length≤1:=hle;obtain ⟨k0,k1,k2,k3⟩:=HK.out.box W (HB40.out.old.trans (MtG.early KArgs.old hs W hle hT));simp only [execOp,Act.eval,hO 7 (by simp)];go_simp;try exact tq
        case s2=>
         refine fun hs hle=>zG [] [] fun ac W hT hI hO=>?_;have hle:hs.length≤0:=hle;simp only [execOp,Act.eval];go_simp;show Calls Try.prog 61 _ W _
         (with_reducible refine (intV61 4 kn_lits.2.2.2.2.1 W).mono ?_)
         rintro e w' ⟨rfl,T'⟩
         exact ⟨_,rfl,T',rfl⟩
        case s3=>
         refine fun hs hle=>zG [] [] fun ac W hT hI hO=>?_;have hle:hs.length≤0:=hle;simp only [execOp,Act.eval];go_simp;show Calls Try.prog 62 _ W _
         (with_reducible refine (varV62b 99999 kn_lits.2.2.2.2.2 W).mono ?_)
         rintro e w' ⟨rfl,T'⟩
         exact ⟨_,rfl,T',rfl⟩
        case s4=>
         refine fun hs hlen=>zG [178,179] [] fun ac W hT hI hO=>?_;have h178:_=_:=hI 178 (by simp);have h179:_=_:=hI 179 (by simp);obtain rfl:hs=[]:=Qh hlen;replace hT:Turned zN w40 W:=hT;show Brings _ (fun vv w'=>MtG w40 (KArgs (leaf 1 4 ByteArray.empty) (leaf 0 99999 ByteArray.empty) w40) (KNo wn.heap.size bb ((w37.heap.size,.cells #[.int .i64 v.kind,.int .i64 v.n,.string v.name,.slice v.at_.1 v.args.length v.at_.2] 27 (0,0)) :: [(gs,.cells cur 27 (0,0))]) (v :: [x]) wn 2 Tm.kn2) false 1 ([]++[vv]) w') _;refine brings_two 178 179 rfl h178 h179 ?_;exact KArgs.made hT kn_lits.2.1 kn_lits.2.2.2.2.1 (by unfold maxLen;decide) kn_lits.1 kn_lits.2.2.2.2.2 (by unfold maxLen;decide)
        case s5=>
         refine fun hs hlen=>zG [176,177,180] [] fun ac W hT hI hO=>?_;have h176:_=_:=hI 176 (by simp);have h177:_=_:=hI 177 (by simp);have h180:hs[0]? = some (ac.tmps.getD 180 undef):=hI 180 (by simp);obtain ⟨a9,rfl⟩:=List.length_eq_one_iff.1 hlen
         have eb:a9=ac.tmps.getD 180 undef:=by simpa using h180
         replace hT:(KArgs (leaf 1 4 ByteArray.empty) (leaf 0 99999 ByteArray.empty) w40) a9 W:=hT;obtain ⟨g,eg,hT1,hi⟩:=hT;rw [eb] at eg;show Brings _ (fun vv w'=>MtG w40 (KArgs (leaf 1 4 ByteArray.empty) (leaf 0 99999 ByteArray.empty) w40) (KNo wn.heap.size bb ((w37.heap.size,.cells #[.int .i64 v.kind,.int .i64 v.n,.string v.name,.slice v.at_.1 v.args.length v.at_.2] 27 (0,0)) :: [(gs,.cells cur 27 (0,0))]) (v :: [x]) wn 2 Tm.kn2) false 1 ([a9]++[vv]) w') _;simp only [execOp,Act.eval,h176,h177,eg];go_simp;show Calls Try.prog 121 _ W _
         (with_reducible refine (knMatchS (v:=.slice (some ⟨g,0,none⟩) 2 2) rfl HB40.out HK.out.code (KArgs.of hT1 hi)).mono ?_)
         rintro e w' ⟨s,rfl,hq⟩
         exact ⟨_,rfl,s,rfl,hq⟩
        case s6=>
         refine fun hs hlen=>zG [181] [] fun ac W hT hI hO=>?_;have h181:hs[1]? = some (ac.tmps.getD 181 undef):=hI 181 (by simp);obtain ⟨x0,x1,rfl⟩:=kn_len2 hlen
         have eb:x1=ac.tmps.getD 181 undef:=by simpa using h181
         obtain ⟨s,es,hq⟩:=hT;rw [eb] at es;show Brings _ (fun vv w'=>MtG w40 (KArgs (leaf 1 4 ByteArray.empty) (leaf 0 99999 ByteArray.empty) w40) (KNo wn.heap.size bb ((w37.heap.size,.cells #[.int .i64 v.kind,.int .i64 v.n,.string v.name,.slice v.at_.1 v.args.length v.at_.2] 27 (0,0)) :: [(gs,.cells cur 27 (0,0))]) (v :: [x]) wn 2 Tm.kn2) false 1 ([x0,x1]++[vv]) w') _;simp only [execOp,Act.eval,es];go_simp;exact ⟨s,rfl,hq⟩
        case s7=>
         refine fun hs hlen=>zG [175] [] fun ac W hT hI hO=>?_;have h175:hs[2]? = some (ac.tmps.getD 175 undef):=hI 175 (by simp);obtain ⟨x0,x1,x2,rfl⟩:=kn_len3 hlen
         have eb:x2=ac.tmps.getD 175 undef:=by simpa using h175
         obtain ⟨s,es,hq⟩:=hT;have es2:=es;rw [eb] at es;show Brings _ (fun vv w'=>MtG w40 (KArgs (leaf 1 4 ByteArray.empty) (leaf 0 99999 ByteArray.empty) w40) (KNo wn.heap.size bb ((w37.heap.size,.cells #[.int .i64 v.kind,.int .i64 v.n,.string v.name,.slice v.at_.1 v.args.length v.at_.2] 27 (0,0)) :: [(gs,.cells cur 27 (0,0))]) (v :: [x]) wn 2 Tm.kn2) false 1 ([x0,x1,x2]++[vv]) w') _;simp only [execOp,Act.eval,es];go_simp
         first | exact ⟨rfl,hq⟩ | exact ⟨es2,hq⟩
        case s8=>refine fun hs hle=>zG [175] [] fun ac W hT hI hO=>?_;have hle:hs.length≤5:=hle;have h175:hs[2]? = some (ac.tmps.getD 175 undef):=hI 175 (by simp);obtain ⟨s,es⟩:=MtG.val hs W hT h175;simp only [execOp,Act.eval,es];go_simp;try exact tq
        case s9=>refine fun hs hle=>zG [175] [] fun ac W hT hI hO=>?_;have hle:hs.length≤5:=hle;have h175:hs[2]? = some (ac.tmps.getD 175 undef):=hI 175 (by simp);obtain ⟨s,es⟩:=MtG.val hs W hT h175;simp only [execOp,Act.eval,es];go_simp;try exact tq
        case s10=>
         refine fun hs hlen=>zG [182] [] fun ac W hT hI hO=>?_;have h182:hs[3]? = some (ac.tmps.getD 182 undef):=hI 182 (by simp);obtain ⟨x0,x1,x2,x3,rfl⟩:=kn_len4 hlen
         have eb:ac.tmps.getD 182 undef=x3:=by simpa using h182.symm
         obtain ⟨es,hq⟩:=hT;show Brings _ (fun vv w'=>MtG w40 (KArgs (leaf 1 4 ByteArray.empty) (leaf 0 99999 ByteArray.empty) w40) (KNo wn.heap.size bb ((w37.heap.size,.cells #[.int .i64 v.kind,.int .i64 v.n,.string v.name,.slice v.at_.1 v.args.length v.at_.2] 27 (0,0)) :: [(gs,.cells cur 27 (0,0))]) (v :: [x]) wn 2 Tm.kn2) false 1 ([x0,x1,x2,x3]++[vv]) w') _;simp only [execOp,Act.eval,eb];go_simp
         first | exact ⟨rfl,rfl,hq⟩ | exact ⟨es,rfl,hq⟩
        case s11=>refine fun hs hle=>zG [183] [] fun ac W hT hI hO=>?_;have hle:hs.length≤5:=hle;have h183:_=_:=hI 183 (by simp);simp only [execOp,Act.eval,h183];go_simp;try exact tq
        case s12=>
         refine fun hs hle=>zG [184] [] fun ac W hT hI hO=>?_;have hle:hs.length≤5:=hle;have h184:_=_:=hI 184 (by simp);simp only [execOp,Act.eval,h184];go_simp
         try exact tq
       case hQ=>
        intro hs vs w41 hlen hR hV;have q0:hs[4]? = some (vs 27):=hV 27 (by simp);have q1:vs 28 = .bool false:=hV 28 (by simp);have q2:vs 29 = .int .i64 1:=hV 29 (by simp);obtain ⟨e0,hbm⟩:=MtG.end_ hs w41 hR hlen q0;simp only [Qq,List.foldl_nil,Qk,Qs,Qr,e0,q1,q2];clear hlen hR hV q0 q1 q2 e0;have HB41:=hid hbm;have HKL:=hid (HK.out.at hbm.old);clear hbm
        go_wp2_with (first
         | (go_at_call 87;have HL42:=HL42;refine (BM.fresh rfl HL42.out (by omega)).mono ?_;rintro e w43 ⟨rfl,h43⟩;have HL43:Hid (BM w41.heap.size lb [] [] w41 1 [] w43):=h43;clear h43)
         | (go_at_call 86;refine (newO86 (p:=fun k=>k < w41.heap.size) _ (fun _ h=>h)).mono ?_;rintro e w42 ⟨lb,rfl,B42,hlb,T42⟩;have HL42:Hid (BM w41.heap.size lb [] [] w41 0 [] w42):=BM.begin B42 (fun k hk=>hk.1) T42;clear B42 hlb T42))
        clear HL42;have HKW:=HK;clear HK;have HK:=HKL;refine wp_region_hsW [189,190,191,192,193,194,188,195,196,197,31,32,33] [4,5,6,7,10] [1,1,0,0,1,2,3,4,5,5,5,5,5] [193,194,188,195,31] (fun dd vv=>(match dd with | 189=>vv = .pointer (some ⟨lb,0,none⟩) | 190=>vv = .agg #[.int .i64 2,.int .i64 1,.int .i64 3,.slice (some ⟨gL,0,none⟩) 3 cL] | 196=>vv = .bool false | 197=>vv = .int .i64 0 | 32=>vv = .bool false | 33=>vv = .int .i64 0 | 191=>vv = .agg #[.int .i64 0,.int .i64 0,.string ByteArray.empty,.slice none 0 0] | 192=>vv = .agg #[.int .i64 0,.int .i64 0,.string ByteArray.empty,.slice none 0 0] | _=>True:Prop)) (MtG w43 (KArgs (leaf 0 0 ByteArray.empty) (leaf 0 0 ByteArray.empty) w43) (KNo w41.heap.size lb [] [] w41 2 []) false 0) (by kernel_rfl) rfl (by kernel_rfl) (by kernel_rfl) (by kernel_rfl) (by kernel_rfl) (fun w h=>h) (fun hs w w' h T=>MtG.turned0 (B:=(KArgs (leaf 0 0 ByteArray.empty) (leaf 0 0 ByteArray.empty) w43)) (Q:=KNo w41.heap.size lb [] [] w41 2 []) (fun v W W' h T=>KArgs.turned0 h T) (fun v W W' h T=>KNo.turned0 h T) hs w w' h T) ?hs ?hQ
        case hs=>
         refine ⟨?s0,?s1,?s2,?s3,?s4,?s5,?s6,?s7,?s8,?s9,?s10,?s11,?s12,trivial⟩
         case s0=>refine fun hs hle=>zG [] [30] fun ac W hT hI hO=>?_;have hle:hs.length≤1:=hle;simp only [execOp,Act.eval,hO 30 (by simp)];go_simp;try exact tq
         case s1=>refine fun hs hle=>zG [] [7] fun ac W hT hI hO=>?_;have hle:hs.length≤1:=hle;obtain ⟨k0,k1,k2,k3⟩:=HK.out.box W (HL43.out.old.trans (MtG.early KArgs.old hs W hle hT));simp only [execOp,Act.eval,hO 7 (by simp)];go_simp;try exact tq
         case s2=>
          refine fun hs hle=>zG [] [] fun ac W hT hI hO=>?_;have hle:hs.length≤0:=hle;simp only [execOp,Act.eval];go_simp;show Calls Try.prog 62 _ W _
          (with_reducible refine (varV62b 0 kn_lits.1 W).mono ?_)
          rintro e w' ⟨rfl,T'⟩
          exact ⟨_,rfl,T',rfl⟩
         case s3=>
          refine fun hs hle=>zG [] [] fun ac W hT hI hO=>?_;have hle:hs.length≤0:=hle;simp only [execOp,Act.eval];go_simp;show Calls Try.prog 62 _ W _
          (with_reducible refine (varV62b 0 kn_lits.1 W).mono ?_)
          rintro e w' ⟨rfl,T'⟩
          exact ⟨_,rfl,T',rfl⟩
         case s4=>
          refine fun hs hlen=>zG [191,192] [] fun ac W hT hI hO=>?_;have h191:_=_:=hI 191 (by simp);have h192:_=_:=hI 192 (by simp);obtain rfl:hs=[]:=Qh hlen;replace hT:Turned zN w43 W:=hT;show Brings _ (fun vv w'=>MtG w43 (KArgs (leaf 0 0 ByteArray.empty) (leaf 0 0 ByteArray.empty) w43) (KNo w41.heap.size lb [] [] w41 2 []) false 0 ([]++[vv]) w') _;refine brings_two 191 192 rfl h191 h192 ?_;exact KArgs.made hT kn_lits.1 kn_lits.1 (by unfold maxLen;decide) kn_lits.1 kn_lits.1 (by unfold maxLen;decide)
         case s5=>
          refine fun hs hlen=>zG [189,190,193] [] fun ac W hT hI hO=>?_;have h189:_=_:=hI 189 (by simp);have h190:_=_:=hI 190 (by simp);have h193:hs[0]? = some (ac.tmps.getD 193 undef):=hI 193 (by simp);obtain ⟨a9,rfl⟩:=List.length_eq_one_iff.1 hlen
          have eb:a9=ac.tmps.getD 193 undef:=by simpa using h193
          replace hT:(KArgs (leaf 0 0 ByteArray.empty) (leaf 0 0 ByteArray.empty) w43) a9 W:=hT;obtain ⟨g,eg,hT1,hi⟩:=hT;rw [eb] at eg;show Brings _ (fun vv w'=>MtG w43 (KArgs (leaf 0 0 ByteArray.empty) (leaf 0 0 ByteArray.empty) w43) (KNo w41.heap.size lb [] [] w41 2 []) false 0 ([a9]++[vv]) w') _;simp only [execOp,Act.eval,h189,h190,eg];go_simp;show Calls Try.prog 121 _ W _
          (with_reducible refine (knMatchC (v:=.slice (some ⟨g,0,none⟩) 2 2) rfl HL43.out HK.out.code (KArgs.of hT1 hi)).mono ?_)
          rintro e w' ⟨s,rfl,hq⟩
          exact ⟨_,rfl,s,rfl,hq⟩
         case s6=>
          refine fun hs hlen=>zG [194] [] fun ac W hT hI hO=>?_;have h194:hs[1]? = some (ac.tmps.getD 194 undef):=hI 194 (by simp);obtain ⟨x0,x1,rfl⟩:=kn_len2 hlen
          have eb:x1=ac.tmps.getD 194 undef:=by simpa using h194
          obtain ⟨s,es,hq⟩:=hT;rw [eb] at es;show Brings _ (fun vv w'=>MtG w43 (KArgs (leaf 0 0 ByteArray.empty) (leaf 0 0 ByteArray.empty) w43) (KNo w41.heap.size lb [] [] w41 2 []) false 0 ([x0,x1]++[vv]) w') _;simp only [execOp,Act.eval,es];go_simp;exact ⟨s,rfl,hq⟩
         case s7=>
          refine fun hs hlen=>zG [188] [] fun ac W hT hI hO=>?_;have h188:hs[2]? = some (ac.tmps.getD 188 undef):=hI 188 (by simp);obtain ⟨x0,x1,x2,rfl⟩:=kn_len3 hlen
          have eb:x2=ac.tmps.getD 188 undef:=by simpa using h188
          obtain ⟨s,es,hq⟩:=hT;have es2:=es;rw [eb] at es;show Brings _ (fun vv w'=>MtG w43 (KArgs (leaf 0 0 ByteArray.empty) (leaf 0 0 ByteArray.empty) w43) (KNo w41.heap.size lb [] [] w41 2 []) false 0 ([x0,x1,x2]++[vv]) w') _;simp only [execOp,Act.eval,es];go_simp
          first | exact ⟨rfl,hq⟩ | exact ⟨es2,hq⟩
         case s8=>refine fun hs hle=>zG [188] [] fun ac W hT hI hO=>?_;have hle:hs.length≤5:=hle;have h188:hs[2]? = some (ac.tmps.getD 188 undef):=hI 188 (by simp);obtain ⟨s,es⟩:=MtG.val hs W hT h188;simp only [execOp,Act.eval,es];go_simp;try exact tq
         case s9=>refine fun hs hle=>zG [188] [] fun ac W hT hI hO=>?_;have hle:hs.length≤5:=hle;have h188:hs[2]? = some (ac.tmps.getD 188 undef):=hI 188 (by simp);obtain ⟨s,es⟩:=MtG.val hs W hT h188;simp only [execOp,Act.eval,es];go_simp;try exact tq
         case s10=>
          refine fun hs hlen=>zG [195] [] fun ac W hT hI hO=>?_;have h195:hs[3]? = some (ac.tmps.getD 195 undef):=hI 195 (by simp);obtain ⟨x0,x1,x2,x3,rfl⟩:=kn_len4 hlen
          have eb:ac.tmps.getD 195 undef=x3:=by simpa using h195.symm
          obtain ⟨es,hq⟩:=hT;show Brings _ (fun vv w'=>MtG w43 (KArgs (leaf 0 0 ByteArray.empty) (leaf 0 0 ByteArray.empty) w43) (KNo w41.heap.size lb [] [] w41 2 []) false 0 ([x0,x1,x2,x3]++[vv]) w') _;simp only [execOp,Act.eval,eb];go_simp
          first | exact ⟨rfl,rfl,hq⟩ | exact ⟨es,rfl,hq⟩
         case s11=>refine fun hs hle=>zG [196] [] fun ac W hT hI hO=>?_;have hle:hs.length≤5:=hle;have h196:_=_:=hI 196 (by simp);simp only [execOp,Act.eval,h196];go_simp;try exact tq
         case s12=>
          refine fun hs hle=>zG [197] [] fun ac W hT hI hO=>?_;have hle:hs.length≤5:=hle;have h197:_=_:=hI 197 (by simp);simp only [execOp,Act.eval,h197];go_simp
          try exact tq
        case hQ=>
         intro hs vs w44 hlen hR hV;have q0:hs[4]? = some (vs 31):=hV 31 (by simp);have q1:vs 32 = .bool false:=hV 32 (by simp);have q2:vs 33 = .int .i64 0:=hV 33 (by simp);obtain ⟨e0,hbm⟩:=MtG.end_ hs w44 hR hlen q0;simp only [Qq,List.foldl_nil,Qk,Qs,Qr,e0,q1,q2];clear hlen hR hV q0 q1 q2 e0;have HL44:=hid hbm;clear hbm
         go_wp2_with fail
         have HT44:=hid HL44.out.old;have HVC:=hid (fun W (T:Turned zN w41 W)=>(HB41.out.turned0 T).boxes _ (.head _));have HVI:=hid (HB41.out.terms v (.head _));have HXI:=hid (HB41.out.terms x (.tail _ (.head _)));have HXC:=hid (fun W (T:Turned zN w41 W)=>kn_slot HROW.out (HB35.out.boxes _ (.head _)) ((HB41.out.turned0 T).boxes _ (.tail _ (.head _))));refine wp_region_ssa' (G:=(fun dd vv W=>(match dd with | 198=>vv = .int .i64 1 | 199=>vv = .bool true | 200=>vv = .bool true | 201=>vv = .int .i64 1 | 202=>vv = .bool true | 203=>vv = .bool true | 204=>vv = .bool true | 205=>vv = .int .i64 0 | 206=>vv = .bool true | 207=>vv = .bool true | 208=>vv = .bool true | 209=>vv = .pointer (some ⟨w7.heap.size,0,none⟩) | 210=>vv = .int .i64 0 | 211=>vv = .bool true | 212=>vv = .bool true | 213=>vv = .bool true | 214=>vv = .pointer (some ⟨w7.heap.size,2,none⟩) | 215=>vv = .int .i64 0 | 216=>vv = .bool true | 217=>vv = .bool true | 218=>vv = .bool true | 219=>vv = .pointer (some ⟨w7.heap.size,3,none⟩) | 220=>vv = .slice a7 0 c7 | 221=>vv = .int .i64 0 | 222=>vv = .bool true | 223=>vv = .bool true | 224=>vv = .bool true | 225=>vv = .int .i64 0 | 226=>vv = .bool true | 227=>vv = .bool true | 228=>vv = .bool true | 229=>vv = .agg #[.int .i64 u.kind,.int .i64 u.n,.string u.name,.slice u.at_.1 u.args.length u.at_.2] | 230=>vv = .agg #[.int .i64 0,.int .i64 0,.string ByteArray.empty,.slice none 0 0] | 231=>vv = .agg #[.int .i64 0,.int .i64 0,.string ByteArray.empty,.slice none 0 0] | 236=>vv = .bool true | 237=>vv = .bool true | 238=>vv = .bool true | 239=>vv = .bool true | 240=>vv = .bool true | 241=>vv = .bool true | 242=>vv = .int .i64 0 | 243=>vv = .bool true | 244=>vv = .bool true | 245=>vv = .bool true | 246=>vv = .slice (some ⟨gs,0,none⟩) 1 1 | 247=>vv = .int .i64 1 | 248=>vv = .bool true | 249=>vv = .bool true | 250=>vv = .bool true | 251=>vv = .slice (some ⟨gs,0,none⟩) 1 1 | 252=>vv = .pointer (some ⟨gs,0,none⟩) | 253=>vv = .agg #[.int .i64 x.kind,.int .i64 x.n,.string x.name,.slice x.at_.1 x.args.length x.at_.2] | 254=>vv = .agg #[.int .i64 1,.int .i64 3,.string ByteArray.empty,.slice none 0 0] | 255=>vv = .bool true | 256=>vv = .bool true | 257=>vv = .bool true | 258=>vv = .int .i64 0 | 259=>vv = .bool true | 260=>vv = .bool true | 261=>vv = .bool true | 262=>vv = .agg #[.int .i64 v.kind,.int .i64 v.n,.string v.name,.slice v.at_.1 v.args.length v.at_.2] | 263=>vv = .agg #[.int .i64 1,.int .i64 3,.string ByteArray.empty,.slice none 0 0] | 266=>vv = .bool true | 267=>vv = .bool true | 268=>vv = .bool true | 269=>vv = .bool false | 270=>vv = .bool true | 271=>vv = .bool true | 272=>vv = .bool true | 273=>vv = .int .i64 0 | 274=>vv = .bool true | 275=>vv = .bool true | 276=>vv = .bool true | 277=>vv = .int .i64 1 | 278=>vv = .bool true | 279=>vv = .bool true | 280=>vv = .bool true | 281=>vv = .int .i64 1 | 282=>vv = .bool true | 283=>vv = .bool true | 284=>vv = .bool true | 285=>vv = .bool false | 286=>vv = .bool true | 287=>vv = .bool true | 288=>vv = .bool true | 289=>vv = .int .i64 0 | 290=>vv = .bool true | 291=>vv = .bool true | 292=>vv = .bool true | 293=>vv = .pointer (some ⟨lb,0,none⟩) | 294=>vv = .int .i64 0 | 295=>vv = .bool true | 296=>vv = .bool true | 0=>vv = .bool true | 232=>KnS (leaf 0 0 ByteArray.empty) (vv) W | 233=>KnC (leaf 0 0 ByteArray.empty) (vv) W | 234=>KnT (leaf 0 0 ByteArray.empty) (vv) W | 235=>KnP (leaf 0 0 ByteArray.empty) (vv) W | 264=>KnS (leaf 1 3 ByteArray.empty) (vv) W | 265=>KnC (leaf 1 3 ByteArray.empty) (vv) W | _=>True:Prop))) [198,199,200,201,202,203,204,205,206,207,208,209,210,211,212,213,214,215,216,217,218,219,220,221,222,223,224,225,226,227,228,229,230,231,232,233,234,235,236,237,238,239,240,241,242,243,244,245,246,247,248,249,250,251,252,253,254,255,256,257,258,259,260,261,262,263,264,265,266,267,268,269,270,271,272,273,274,275,276,277,278,279,280,281,282,283,284,285,286,287,288,289,290,291,292,293,294,295,296,0] (by kernel_rfl) rfl (by kernel_rfl) ?hG ?hs ?hQ
         case hG=>
          intro d vv W W2 T h
          split at h <;> first
           | exact h
           | (obtain ⟨x,x1,x2,x3⟩:=h;exact ⟨x,x1,x2.turned0 T,x3⟩)
         case hs=>
          refine ⟨?s0,?s1,?s2,?s3,?s4,?s5,?s6,?s7,?s8,?s9,?s10,?s11,?s12,?s13,?s14,?s15,?s16,?s17,?s18,?s19,?s20,?s21,?s22,?s23,?s24,?s25,?s26,?s27,?s28,?s29,?s30,?s31,?s32,?s33,?s34,?s35,?s36,?s37,?s38,?s39,?s40,?s41,?s42,?s43,?s44,?s45,?s46,?s47,?s48,?s49,?s50,?s51,?s52,?s53,?s54,?s55,?s56,?s57,?s58,?s59,?s60,?s61,?s62,?s63,?s64,?s65,?s66,?s67,?s68,?s69,?s70,?s71,?s72,?s73,?s74,?s75,?s76,?s77,?s78,?s79,?s80,?s81,?s82,?s83,?s84,?s85,?s86,?s87,?s88,?s89,?s90,?s91,?s92,?s93,?s94,?s95,?s96,?s97,?s98,?s99,trivial⟩
          case s0=>refine zO [] [2] fun ac W hT hI hO=>?_;simp only [execOp,Act.eval,hO 2 (by simp)];go_simp;try exact tq
          case s1=>refine zO [198] [] fun ac W hT hI hO=>?_;have h198:_=_:=hI 198 (by simp);simp only [execOp,Act.eval,h198];go_simp;try exact tq
          case s2=>refine zO [199] [] fun ac W hT hI hO=>?_;have h199:_=_:=hI 199 (by simp);simp only [execOp,Act.eval,h199];go_simp;try exact tq
          case s3=>
           refine stepOk_guard [200] [4] (by kernel_rfl) 2 true 200 rfl rfl (by simp) true true (fun _ _ h=>h) (fun hc=>?_) (fun hc=>by cases hc);intro ac W hT hI hO;simp only [execOp,Act.eval,hO 4 (by simp)];go_simp
           try exact tq
          case s4=>
           refine stepOk_guard [201,200] [] (by kernel_rfl) 2 true 200 rfl rfl (by simp) true true (fun _ _ h=>h) (fun hc=>?_) (fun hc=>by cases hc);intro ac W hT hI hO;have h201:_=_:=hI 201 (by simp);simp only [execOp,Act.eval,h201];go_simp
           try exact tq
          case s5=>refine zO [200,202] [] fun ac W hT hI hO=>?_;have h200:_=_:=hI 200 (by simp);have h202:_=_:=hI 202 (by simp);simp only [execOp,Act.eval,h200,h202];go_simp;try exact tq
          case s6=>refine zO [203] [] fun ac W hT hI hO=>?_;have h203:_=_:=hI 203 (by simp);simp only [execOp,Act.eval,h203];go_simp;try exact tq
          case s7=>
           refine stepOk_guard [204] [6] (by kernel_rfl) 6 true 204 rfl rfl (by simp) true true (fun _ _ h=>h) (fun hc=>?_) (fun hc=>by cases hc);intro ac W hT hI hO;simp only [execOp,Act.eval,hO 6 (by simp)];go_simp
           try exact tq
          case s8=>
           refine stepOk_guard [205,204] [] (by kernel_rfl) 6 true 204 rfl rfl (by simp) true true (fun _ _ h=>h) (fun hc=>?_) (fun hc=>by cases hc);intro ac W hT hI hO;have h205:_=_:=hI 205 (by simp);simp only [execOp,Act.eval,h205];go_simp
           try exact tq
          case s9=>refine zO [204,206] [] fun ac W hT hI hO=>?_;have h204:_=_:=hI 204 (by simp);have h206:_=_:=hI 206 (by simp);simp only [execOp,Act.eval,h204,h206];go_simp;try exact tq
          case s10=>refine zO [207] [] fun ac W hT hI hO=>?_;have h207:_=_:=hI 207 (by simp);simp only [execOp,Act.eval,h207];go_simp;try exact tq
          case s11=>
           refine stepOk_guard [208] [5] (by kernel_rfl) 10 true 208 rfl rfl (by simp) true true (fun _ _ h=>h) (fun hc=>?_) (fun hc=>by cases hc);intro ac W hT hI hO;simp only [execOp,Act.eval,hO 5 (by simp)];go_simp
           try exact tq
          case s12=>
           refine stepOk_guard [209,208] [] (by kernel_rfl) 10 true 208 rfl rfl (by simp) true true (fun _ _ h=>h) (fun hc=>?_) (fun hc=>by cases hc);intro ac W hT hI hO;have h209:_=_:=hI 209 (by simp);obtain ⟨a0,a1,a2,a3⟩:=HK.out.atom W (HT44.out.trans hT);simp only [execOp,Act.eval,h209];go_simp
           try exact tq
          case s13=>
           refine stepOk_guard [210,208] [] (by kernel_rfl) 10 true 208 rfl rfl (by simp) true true (fun _ _ h=>h) (fun hc=>?_) (fun hc=>by cases hc);intro ac W hT hI hO;have h210:_=_:=hI 210 (by simp);simp only [execOp,Act.eval,h210];go_simp
           try exact tq
          case s14=>refine zO [208,211] [] fun ac W hT hI hO=>?_;have h208:_=_:=hI 208 (by simp);have h211:_=_:=hI 211 (by simp);simp only [execOp,Act.eval,h208,h211];go_simp;try exact tq
          case s15=>refine zO [212] [] fun ac W hT hI hO=>?_;have h212:_=_:=hI 212 (by simp);simp only [execOp,Act.eval,h212];go_simp;try exact tq
          case s16=>
           refine stepOk_guard [213] [5] (by kernel_rfl) 15 true 213 rfl rfl (by simp) true true (fun _ _ h=>h) (fun hc=>?_) (fun hc=>by cases hc);intro ac W hT hI hO;simp only [execOp,Act.eval,hO 5 (by simp)];go_simp
           try exact tq
          case s17=>
           refine stepOk_guard [214,213] [] (by kernel_rfl) 15 true 213 rfl rfl (by simp) true true (fun _ _ h=>h) (fun hc=>?_) (fun hc=>by cases hc);intro ac W hT hI hO;have h214:_=_:=hI 214 (by simp);obtain ⟨a0,a1,a2,a3⟩:=HK.out.atom W (HT44.out.trans hT);simp only [execOp,Act.eval,h214];go_simp
           try exact tq
          case s18=>
           refine stepOk_guard [215,213] [] (by kernel_rfl) 15 true 213 rfl rfl (by simp) true true (fun _ _ h=>h) (fun hc=>?_) (fun hc=>by cases hc);intro ac W hT hI hO;have h215:_=_:=hI 215 (by simp);simp only [execOp,Act.eval,h215];go_simp
           try exact tq
          case s19=>refine zO [213,216] [] fun ac W hT hI hO=>?_;have h213:_=_:=hI 213 (by simp);have h216:_=_:=hI 216 (by simp);simp only [execOp,Act.eval,h213,h216];go_simp;try exact tq
          case s20=>refine zO [217] [] fun ac W hT hI hO=>?_;have h217:_=_:=hI 217 (by simp);simp only [execOp,Act.eval,h217];go_simp;try exact tq
          case s21=>
           refine stepOk_guard [218] [5] (by kernel_rfl) 20 true 218 rfl rfl (by simp) true true (fun _ _ h=>h) (fun hc=>?_) (fun hc=>by cases hc);intro ac W hT hI hO;simp only [execOp,Act.eval,hO 5 (by simp)];go_simp
           try exact tq
          case s22=>
           refine stepOk_guard [219,218] [] (by kernel_rfl) 20 true 218 rfl rfl (by simp) true true (fun _ _ h=>h) (fun hc=>?_) (fun hc=>by cases hc);intro ac W hT hI hO;have h219:_=_:=hI 219 (by simp);obtain ⟨a0,a1,a2,a3⟩:=HK.out.atom W (HT44.out.trans hT);simp only [execOp,Act.eval,h219];go_simp
           try exact tq
          case s23=>
           refine stepOk_guard [220,218] [] (by kernel_rfl) 20 true 218 rfl rfl (by simp) true true (fun _ _ h=>h) (fun hc=>?_) (fun hc=>by cases hc);intro ac W hT hI hO;have h220:_=_:=hI 220 (by simp);simp only [execOp,Act.eval,h220];go_simp
           try exact tq
          case s24=>
           refine stepOk_guard [221,218] [] (by kernel_rfl) 20 true 218 rfl rfl (by simp) true true (fun _ _ h=>h) (fun hc=>?_) (fun hc=>by cases hc);intro ac W hT hI hO;have h221:_=_:=hI 221 (by simp);simp only [execOp,Act.eval,h221];go_simp
           try exact tq
          case s25=>refine zO [218,222] [] fun ac W hT hI hO=>?_;have h218:_=_:=hI 218 (by simp);have h222:_=_:=hI 222 (by simp);simp only [execOp,Act.eval,h218,h222];go_simp;try exact tq
          case s26=>refine zO [223] [] fun ac W hT hI hO=>?_;have h223:_=_:=hI 223 (by simp);simp only [execOp,Act.eval,h223];go_simp;try exact tq
          case s27=>
           refine stepOk_guard [224] [14] (by kernel_rfl) 26 true 224 rfl rfl (by simp) true true (fun _ _ h=>h) (fun hc=>?_) (fun hc=>by cases hc);intro ac W hT hI hO;simp only [execOp,Act.eval,hO 14 (by simp)];go_simp
           try exact tq
          case s28=>
           refine stepOk_guard [225,224] [] (by kernel_rfl) 26 true 224 rfl rfl (by simp) true true (fun _ _ h=>h) (fun hc=>?_) (fun hc=>by cases hc);intro ac W hT hI hO;have h225:_=_:=hI 225 (by simp);simp only [execOp,Act.eval,h225];go_simp
           try exact tq
          case s29=>refine zO [224,226] [] fun ac W hT hI hO=>?_;have h224:_=_:=hI 224 (by simp);have h226:_=_:=hI 226 (by simp);simp only [execOp,Act.eval,h224,h226];go_simp;try exact tq
          case s30=>refine zO [227] [] fun ac W hT hI hO=>?_;have h227:_=_:=hI 227 (by simp);simp only [execOp,Act.eval,h227];go_simp;try exact tq
          case s31=>
           refine stepOk_guard [228] [13] (by kernel_rfl) 30 true 228 rfl rfl (by simp) true true (fun _ _ h=>h) (fun hc=>?_) (fun hc=>by cases hc);intro ac W hT hI hO;obtain ⟨t0,t1,t2,t3⟩:=HK.out.made W (HT44.out.trans hT);simp only [execOp,Act.eval,hO 13 (by simp)];go_simp
           try exact tq
          case s32=>
           refine stepOk_guard [228] [] (by kernel_rfl) 30 true 228 rfl rfl (by simp) true true (fun _ _ h=>h) (fun hc=>?_) (fun hc=>by cases hc);intro ac W hT hI hO;simp only [execOp,Act.eval];go_simp;show Calls Try.prog 62 _ W _
           (with_reducible refine (varV62b 0 kn_lits.1 W).mono ?_)
           rintro e w' ⟨rfl,T'⟩
           exact ⟨_,rfl,T',rfl⟩
          case s33=>
           refine stepOk_guard [228] [] (by kernel_rfl) 30 true 228 rfl rfl (by simp) true true (fun _ _ h=>h) (fun hc=>?_) (fun hc=>by cases hc);intro ac W hT hI hO;simp only [execOp,Act.eval];go_simp;show Calls Try.prog 62 _ W _
           (with_reducible refine (varV62b 0 kn_lits.1 W).mono ?_)
           rintro e w' ⟨rfl,T'⟩
           exact ⟨_,rfl,T',rfl⟩
          case s34=>
           refine stepOk_guard [231,228] [] (by kernel_rfl) 30 true 228 rfl rfl (by simp) true true (fun _ _ h=>h) (fun hc=>?_) (fun hc=>by cases hc);intro ac W hT hI hO;have h231:_=_:=hI 231 (by simp);show Brings _ (fun vv w'=>Turned zN W w'∧KnS (leaf 0 0 ByteArray.empty) (vv) w') _;refine brings_one 231 rfl h231 ?_;exact ⟨(Turned.refl _ W).alloc _,(some ⟨W.heap.size,0,none⟩,1),rfl,sl_made (l:=[leaf 0 0 ByteArray.empty]) ⟨leafIn' kn_lits.1 kn_lits.1 (by unfold maxLen;decide),trivial⟩ 1 (by decide) rfl _ rfl,trivial⟩
          case s35=>
           refine stepOk_guard [232,228] [] (by kernel_rfl) 30 true 228 rfl rfl (by simp) true true (fun _ _ h=>h) (fun hc=>?_) (fun hc=>by cases hc);intro ac W hT hI hO;have h232:=hI 232 (by simp);obtain ⟨q232,h232,x232,_⟩:KnS (leaf 0 0 ByteArray.empty) (ac.tmps.getD 232 undef) W:=h232;show Brings _ (fun vv w'=>Turned zN W w'∧KnC (leaf 0 0 ByteArray.empty) (vv) w') _;simp only [execOp,Act.eval,h232];go_simp;show Calls Try.prog 37 _ W _;refine (compV ⟨#[102]⟩ (by unfold maxLen;decide) 1 (by decide) rfl x232).mono ?_
           rintro e w' ⟨a',c',rfl,h1,h2⟩
           exact ⟨_,rfl,h2,(a',c'),rfl,h1,trivial⟩
          case s36=>
           refine stepOk_guard [230,233,228] [] (by kernel_rfl) 30 true 228 rfl rfl (by simp) true true (fun _ _ h=>h) (fun hc=>?_) (fun hc=>by cases hc);intro ac W hT hI hO;have h230:_=_:=hI 230 (by simp);have h233:=hI 233 (by simp);obtain ⟨q233,h233,x233,_⟩:KnC (leaf 0 0 ByteArray.empty) (ac.tmps.getD 233 undef) W:=h233;show Brings _ (fun vv w'=>Turned zN W w'∧KnT (leaf 0 0 ByteArray.empty) (vv) w') _;refine brings_two 230 233 rfl h230 h233 ?_;exact ⟨(Turned.refl _ W).alloc _,((some ⟨W.heap.size,0,none⟩,2),q233),rfl,sl_made (l:=[leaf 0 0 ByteArray.empty,Tm.mk 2 0 ⟨#[102]⟩ q233 [leaf 0 0 ByteArray.empty]]) ⟨leafIn' kn_lits.1 kn_lits.1 (by unfold maxLen;decide),x233,trivial⟩ 2 (by decide) rfl _ rfl,trivial⟩
          case s37=>
           refine stepOk_guard [234,228] [] (by kernel_rfl) 30 true 228 rfl rfl (by simp) true true (fun _ _ h=>h) (fun hc=>?_) (fun hc=>by cases hc);intro ac W hT hI hO;have h234:=hI 234 (by simp);obtain ⟨q234,h234,x234,_⟩:KnT (leaf 0 0 ByteArray.empty) (ac.tmps.getD 234 undef) W:=h234;show Brings _ (fun vv w'=>Turned zN W w'∧KnP (leaf 0 0 ByteArray.empty) (vv) w') _;simp only [execOp,Act.eval,h234];go_simp;show Calls Try.prog 37 _ W _;refine (compV ⟨#[112]⟩ (by unfold maxLen;decide) 2 (by decide) rfl x234).mono ?_
           rintro e w' ⟨a',c',rfl,h1,h2⟩
           exact ⟨_,rfl,h2,((a',c'),q234.2),rfl,h1,trivial⟩
          case s38=>
           refine stepOk_guard [229,235,228] [] (by kernel_rfl) 30 true 228 rfl rfl (by simp) true true (fun _ _ h=>h) (fun hc=>?_) (fun hc=>by cases hc);intro ac W hT hI hO;have h229:_=_:=hI 229 (by simp);have h235:=hI 235 (by simp);obtain ⟨q235,h235,x235,_⟩:KnP (leaf 0 0 ByteArray.empty) (ac.tmps.getD 235 undef) W:=h235;simp only [execOp,Act.eval,h229,h235];go_simp;show Calls Try.prog 52 _ W _
           (with_reducible refine (kn_same1 (HK.out.tm.turned0 (HT44.out.trans hT)) HK.out.bare x235).mono ?_)
           rintro e w' ⟨rfl,T'⟩
           exact ⟨_,rfl,T',rfl⟩
          case s39=>refine zO [228,236] [] fun ac W hT hI hO=>?_;have h228:_=_:=hI 228 (by simp);have h236:_=_:=hI 236 (by simp);simp only [execOp,Act.eval,h228,h236];go_simp;try exact tq
          case s40=>refine zO [237] [] fun ac W hT hI hO=>?_;have h237:_=_:=hI 237 (by simp);simp only [execOp,Act.eval,h237];go_simp;try exact tq
          case s41=>
           refine stepOk_guard [238] [17] (by kernel_rfl) 40 true 238 rfl rfl (by simp) true true (fun _ _ h=>h) (fun hc=>?_) (fun hc=>by cases hc);intro ac W hT hI hO;simp only [execOp,Act.eval,hO 17 (by simp)];go_simp
           try exact tq
          case s42=>refine zO [238,239] [] fun ac W hT hI hO=>?_;have h238:_=_:=hI 238 (by simp);have h239:_=_:=hI 239 (by simp);simp only [execOp,Act.eval,h238,h239];go_simp;try exact tq
          case s43=>refine zO [240] [] fun ac W hT hI hO=>?_;have h240:_=_:=hI 240 (by simp);simp only [execOp,Act.eval,h240];go_simp;try exact tq
          case s44=>
           refine stepOk_guard [241] [18] (by kernel_rfl) 43 true 241 rfl rfl (by simp) true true (fun _ _ h=>h) (fun hc=>?_) (fun hc=>by cases hc);intro ac W hT hI hO;simp only [execOp,Act.eval,hO 18 (by simp)];go_simp
           try exact tq
          case s45=>
           refine stepOk_guard [242,241] [] (by kernel_rfl) 43 true 241 rfl rfl (by simp) true true (fun _ _ h=>h) (fun hc=>?_) (fun hc=>by cases hc);intro ac W hT hI hO;have h242:_=_:=hI 242 (by simp);simp only [execOp,Act.eval,h242];go_simp
           try exact tq
          case s46=>refine zO [241,243] [] fun ac W hT hI hO=>?_;have h241:_=_:=hI 241 (by simp);have h243:_=_:=hI 243 (by simp);simp only [execOp,Act.eval,h241,h243];go_simp;try exact tq
          case s47=>refine zO [244] [] fun ac W hT hI hO=>?_;have h244:_=_:=hI 244 (by simp);simp only [execOp,Act.eval,h244];go_simp;try exact tq
          case s48=>
           refine stepOk_guard [245] [16] (by kernel_rfl) 47 true 245 rfl rfl (by simp) true true (fun _ _ h=>h) (fun hc=>?_) (fun hc=>by cases hc);intro ac W hT hI hO;simp only [execOp,Act.eval,hO 16 (by simp)];go_simp
           try exact tq
          case s49=>
           refine stepOk_guard [246,245] [] (by kernel_rfl) 47 true 245 rfl rfl (by simp) true true (fun _ _ h=>h) (fun hc=>?_) (fun hc=>by cases hc);intro ac W hT hI hO;have h246:_=_:=hI 246 (by simp);simp only [execOp,Act.eval,h246];go_simp
           try exact tq
          case s50=>
           refine stepOk_guard [247,245] [] (by kernel_rfl) 47 true 245 rfl rfl (by simp) true true (fun _ _ h=>h) (fun hc=>?_) (fun hc=>by cases hc);intro ac W hT hI hO;have h247:_=_:=hI 247 (by simp);simp only [execOp,Act.eval,h247];go_simp
           try exact tq
          case s51=>refine zO [245,248] [] fun ac W hT hI hO=>?_;have h245:_=_:=hI 245 (by simp);have h248:_=_:=hI 248 (by simp);simp only [execOp,Act.eval,h245,h248];go_simp;try exact tq
          case s52=>refine zO [249] [] fun ac W hT hI hO=>?_;have h249:_=_:=hI 249 (by simp);simp only [execOp,Act.eval,h249];go_simp;try exact tq
          case s53=>
           refine stepOk_guard [250] [16] (by kernel_rfl) 52 true 250 rfl rfl (by simp) true true (fun _ _ h=>h) (fun hc=>?_) (fun hc=>by cases hc);intro ac W hT hI hO;simp only [execOp,Act.eval,hO 16 (by simp)];go_simp
           try exact tq
          case s54=>
           refine stepOk_guard [251,250] [] (by kernel_rfl) 52 true 250 rfl rfl (by simp) true true (fun _ _ h=>h) (fun hc=>?_) (fun hc=>by cases hc);intro ac W hT hI hO;have h251:_=_:=hI 251 (by simp);simp only [execOp,Act.eval,h251];go_simp
           try exact tq
          case s55=>
           refine stepOk_guard [252,250] [] (by kernel_rfl) 52 true 250 rfl rfl (by simp) true true (fun _ _ h=>h) (fun hc=>?_) (fun hc=>by cases hc);intro ac W hT hI hO;have h252:_=_:=hI 252 (by simp);obtain ⟨x0,x1,x2,x3⟩:=HXC.out W (HT44.out.trans hT);simp only [execOp,Act.eval,h252];go_simp
           try exact tq
          case s56=>
           refine stepOk_guard [250] [] (by kernel_rfl) 52 true 250 rfl rfl (by simp) true true (fun _ _ h=>h) (fun hc=>?_) (fun hc=>by cases hc);intro ac W hT hI hO;simp only [execOp,Act.eval];go_simp;show Calls Try.prog 61 _ W _
           (with_reducible refine (intV61 3 kn_lits.2.2.2.1 W).mono ?_)
           rintro e w' ⟨rfl,T'⟩
           exact ⟨_,rfl,T',rfl⟩
          case s57=>
           refine stepOk_guard [253,254,250] [] (by kernel_rfl) 52 true 250 rfl rfl (by simp) true true (fun _ _ h=>h) (fun hc=>?_) (fun hc=>by cases hc);intro ac W hT hI hO;have h253:_=_:=hI 253 (by simp);have h254:_=_:=hI 254 (by simp);simp only [execOp,Act.eval,h253,h254];go_simp;show Calls Try.prog 52 _ W _
           (with_reducible refine (kn_same2 (HXI.out.turned0 (HT44.out.trans hT)) HXB.out).mono ?_)
           rintro e w' ⟨rfl,T'⟩
           exact ⟨_,rfl,T',rfl⟩
          case s58=>refine zO [250,255] [] fun ac W hT hI hO=>?_;have h250:_=_:=hI 250 (by simp);have h255:_=_:=hI 255 (by simp);simp only [execOp,Act.eval,h250,h255];go_simp;try exact tq
          case s59=>refine zO [256] [] fun ac W hT hI hO=>?_;have h256:_=_:=hI 256 (by simp);simp only [execOp,Act.eval,h256];go_simp;try exact tq
          case s60=>
           refine stepOk_guard [257] [20] (by kernel_rfl) 59 true 257 rfl rfl (by simp) true true (fun _ _ h=>h) (fun hc=>?_) (fun hc=>by cases hc);intro ac W hT hI hO;simp only [execOp,Act.eval,hO 20 (by simp)];go_simp
           try exact tq
          case s61=>
           refine stepOk_guard [258,257] [] (by kernel_rfl) 59 true 257 rfl rfl (by simp) true true (fun _ _ h=>h) (fun hc=>?_) (fun hc=>by cases hc);intro ac W hT hI hO;have h258:_=_:=hI 258 (by simp);simp only [execOp,Act.eval,h258];go_simp
           try exact tq
          case s62=>refine zO [257,259] [] fun ac W hT hI hO=>?_;have h257:_=_:=hI 257 (by simp);have h259:_=_:=hI 259 (by simp);simp only [execOp,Act.eval,h257,h259];go_simp;try exact tq
          case s63=>refine zO [260] [] fun ac W hT hI hO=>?_;have h260:_=_:=hI 260 (by simp);simp only [execOp,Act.eval,h260];go_simp;try exact tq
          case s64=>
           refine stepOk_guard [261] [19] (by kernel_rfl) 63 true 261 rfl rfl (by simp) true true (fun _ _ h=>h) (fun hc=>?_) (fun hc=>by cases hc);intro ac W hT hI hO;obtain ⟨v0,v1,v2,v3,_⟩:=cells4 (HVC.out W (HT44.out.trans hT));simp only [execOp,Act.eval,hO 19 (by simp)];go_simp
           try exact tq
          case s65=>
           refine stepOk_guard [261] [] (by kernel_rfl) 63 true 261 rfl rfl (by simp) true true (fun _ _ h=>h) (fun hc=>?_) (fun hc=>by cases hc);intro ac W hT hI hO;simp only [execOp,Act.eval];go_simp;show Calls Try.prog 61 _ W _
           (with_reducible refine (intV61 3 kn_lits.2.2.2.1 W).mono ?_)
           rintro e w' ⟨rfl,T'⟩
           exact ⟨_,rfl,T',rfl⟩
          case s66=>
           refine stepOk_guard [263,261] [] (by kernel_rfl) 63 true 261 rfl rfl (by simp) true true (fun _ _ h=>h) (fun hc=>?_) (fun hc=>by cases hc);intro ac W hT hI hO;have h263:_=_:=hI 263 (by simp);show Brings _ (fun vv w'=>Turned zN W w'∧KnS (leaf 1 3 ByteArray.empty) (vv) w') _;refine brings_one 263 rfl h263 ?_;exact ⟨(Turned.refl _ W).alloc _,(some ⟨W.heap.size,0,none⟩,1),rfl,sl_made (l:=[leaf 1 3 ByteArray.empty]) ⟨leafIn' kn_lits.2.1 kn_lits.2.2.2.1 (by unfold maxLen;decide),trivial⟩ 1 (by decide) rfl _ rfl,trivial⟩
          case s67=>
           refine stepOk_guard [264,261] [] (by kernel_rfl) 63 true 261 rfl rfl (by simp) true true (fun _ _ h=>h) (fun hc=>?_) (fun hc=>by cases hc);intro ac W hT hI hO;have h264:=hI 264 (by simp);obtain ⟨q264,h264,x264,_⟩:KnS (leaf 1 3 ByteArray.empty) (ac.tmps.getD 264 undef) W:=h264;show Brings _ (fun vv w'=>Turned zN W w'∧KnC (leaf 1 3 ByteArray.empty) (vv) w') _;simp only [execOp,Act.eval,h264];go_simp;show Calls Try.prog 37 _ W _;refine (compV ⟨#[102]⟩ (by unfold maxLen;decide) 1 (by decide) rfl x264).mono ?_
           rintro e w' ⟨a',c',rfl,h1,h2⟩
           exact ⟨_,rfl,h2,(a',c'),rfl,h1,trivial⟩
          case s68=>
           refine stepOk_guard [262,265,261] [] (by kernel_rfl) 63 true 261 rfl rfl (by simp) true true (fun _ _ h=>h) (fun hc=>?_) (fun hc=>by cases hc);intro ac W hT hI hO;have h262:_=_:=hI 262 (by simp);have h265:=hI 265 (by simp);obtain ⟨q265,h265,x265,_⟩:KnC (leaf 1 3 ByteArray.empty) (ac.tmps.getD 265 undef) W:=h265;simp only [execOp,Act.eval,h262,h265];go_simp;show Calls Try.prog 52 _ W _
           (with_reducible refine (kn_same3 (HVI.out.turned0 (HT44.out.trans hT)) HVB.out x265).mono ?_)
           rintro e w' ⟨rfl,T'⟩
           exact ⟨_,rfl,T',rfl⟩
          case s69=>refine zO [261,266] [] fun ac W hT hI hO=>?_;have h261:_=_:=hI 261 (by simp);have h266:_=_:=hI 266 (by simp);simp only [execOp,Act.eval,h261,h266];go_simp;try exact tq
          case s70=>refine zO [267] [] fun ac W hT hI hO=>?_;have h267:_=_:=hI 267 (by simp);simp only [execOp,Act.eval,h267];go_simp;try exact tq
          case s71=>
           refine stepOk_guard [268] [22] (by kernel_rfl) 70 true 268 rfl rfl (by simp) true true (fun _ _ h=>h) (fun hc=>?_) (fun hc=>by cases hc);intro ac W hT hI hO;simp only [execOp,Act.eval,hO 22 (by simp)];go_simp
           try exact tq
          case s72=>
           refine stepOk_guard [269,268] [] (by kernel_rfl) 70 true 268 rfl rfl (by simp) true true (fun _ _ h=>h) (fun hc=>?_) (fun hc=>by cases hc);intro ac W hT hI hO;have h269:_=_:=hI 269 (by simp);simp only [execOp,Act.eval,h269];go_simp
           try exact tq
          case s73=>refine zO [268,270] [] fun ac W hT hI hO=>?_;have h268:_=_:=hI 268 (by simp);have h270:_=_:=hI 270 (by simp);simp only [execOp,Act.eval,h268,h270];go_simp;try exact tq
          case s74=>refine zO [271] [] fun ac W hT hI hO=>?_;have h271:_=_:=hI 271 (by simp);simp only [execOp,Act.eval,h271];go_simp;try exact tq
          case s75=>
           refine stepOk_guard [272] [23] (by kernel_rfl) 74 true 272 rfl rfl (by simp) true true (fun _ _ h=>h) (fun hc=>?_) (fun hc=>by cases hc);intro ac W hT hI hO;simp only [execOp,Act.eval,hO 23 (by simp)];go_simp
           try exact tq
          case s76=>
           refine stepOk_guard [273,272] [] (by kernel_rfl) 74 true 272 rfl rfl (by simp) true true (fun _ _ h=>h) (fun hc=>?_) (fun hc=>by cases hc);intro ac W hT hI hO;have h273:_=_:=hI 273 (by simp);simp only [execOp,Act.eval,h273];go_simp
           try exact tq
          case s77=>refine zO [272,274] [] fun ac W hT hI hO=>?_;have h272:_=_:=hI 272 (by simp);have h274:_=_:=hI 274 (by simp);simp only [execOp,Act.eval,h272,h274];go_simp;try exact tq
          case s78=>refine zO [275] [] fun ac W hT hI hO=>?_;have h275:_=_:=hI 275 (by simp);simp only [execOp,Act.eval,h275];go_simp;try exact tq
          case s79=>
           refine stepOk_guard [276] [26] (by kernel_rfl) 78 true 276 rfl rfl (by simp) true true (fun _ _ h=>h) (fun hc=>?_) (fun hc=>by cases hc);intro ac W hT hI hO;simp only [execOp,Act.eval,hO 26 (by simp)];go_simp
           try exact tq
          case s80=>
           refine stepOk_guard [277,276] [] (by kernel_rfl) 78 true 276 rfl rfl (by simp) true true (fun _ _ h=>h) (fun hc=>?_) (fun hc=>by cases hc);intro ac W hT hI hO;have h277:_=_:=hI 277 (by simp);simp only [execOp,Act.eval,h277];go_simp
           try exact tq
          case s81=>refine zO [276,278] [] fun ac W hT hI hO=>?_;have h276:_=_:=hI 276 (by simp);have h278:_=_:=hI 278 (by simp);simp only [execOp,Act.eval,h276,h278];go_simp;try exact tq
          case s82=>refine zO [279] [] fun ac W hT hI hO=>?_;have h279:_=_:=hI 279 (by simp);simp only [execOp,Act.eval,h279];go_simp;try exact tq
          case s83=>
           refine stepOk_guard [280] [29] (by kernel_rfl) 82 true 280 rfl rfl (by simp) true true (fun _ _ h=>h) (fun hc=>?_) (fun hc=>by cases hc);intro ac W hT hI hO;simp only [execOp,Act.eval,hO 29 (by simp)];go_simp
           try exact tq
          case s84=>
           refine stepOk_guard [281,280] [] (by kernel_rfl) 82 true 280 rfl rfl (by simp) true true (fun _ _ h=>h) (fun hc=>?_) (fun hc=>by cases hc);intro ac W hT hI hO;have h281:_=_:=hI 281 (by simp);simp only [execOp,Act.eval,h281];go_simp
           try exact tq
          case s85=>refine zO [280,282] [] fun ac W hT hI hO=>?_;have h280:_=_:=hI 280 (by simp);have h282:_=_:=hI 282 (by simp);simp only [execOp,Act.eval,h280,h282];go_simp;try exact tq
          case s86=>refine zO [283] [] fun ac W hT hI hO=>?_;have h283:_=_:=hI 283 (by simp);simp only [execOp,Act.eval,h283];go_simp;try exact tq
          case s87=>
           refine stepOk_guard [284] [32] (by kernel_rfl) 86 true 284 rfl rfl (by simp) true true (fun _ _ h=>h) (fun hc=>?_) (fun hc=>by cases hc);intro ac W hT hI hO;simp only [execOp,Act.eval,hO 32 (by simp)];go_simp
           try exact tq
          case s88=>
           refine stepOk_guard [285,284] [] (by kernel_rfl) 86 true 284 rfl rfl (by simp) true true (fun _ _ h=>h) (fun hc=>?_) (fun hc=>by cases hc);intro ac W hT hI hO;have h285:_=_:=hI 285 (by simp);simp only [execOp,Act.eval,h285];go_simp
           try exact tq
          case s89=>refine zO [284,286] [] fun ac W hT hI hO=>?_;have h284:_=_:=hI 284 (by simp);have h286:_=_:=hI 286 (by simp);simp only [execOp,Act.eval,h284,h286];go_simp;try exact tq
          case s90=>refine zO [287] [] fun ac W hT hI hO=>?_;have h287:_=_:=hI 287 (by simp);simp only [execOp,Act.eval,h287];go_simp;try exact tq
          case s91=>
           refine stepOk_guard [288] [33] (by kernel_rfl) 90 true 288 rfl rfl (by simp) true true (fun _ _ h=>h) (fun hc=>?_) (fun hc=>by cases hc);intro ac W hT hI hO;simp only [execOp,Act.eval,hO 33 (by simp)];go_simp
           try exact tq
          case s92=>
           refine stepOk_guard [289,288] [] (by kernel_rfl) 90 true 288 rfl rfl (by simp) true true (fun _ _ h=>h) (fun hc=>?_) (fun hc=>by cases hc);intro ac W hT hI hO;have h289:_=_:=hI 289 (by simp);simp only [execOp,Act.eval,h289];go_simp
           try exact tq
          case s93=>refine zO [288,290] [] fun ac W hT hI hO=>?_;have h288:_=_:=hI 288 (by simp);have h290:_=_:=hI 290 (by simp);simp only [execOp,Act.eval,h288,h290];go_simp;try exact tq
          case s94=>refine zO [291] [] fun ac W hT hI hO=>?_;have h291:_=_:=hI 291 (by simp);simp only [execOp,Act.eval,h291];go_simp;try exact tq
          case s95=>
           refine stepOk_guard [292] [30] (by kernel_rfl) 94 true 292 rfl rfl (by simp) true true (fun _ _ h=>h) (fun hc=>?_) (fun hc=>by cases hc);intro ac W hT hI hO;simp only [execOp,Act.eval,hO 30 (by simp)];go_simp
           try exact tq
          case s96=>
           refine stepOk_guard [293,292] [] (by kernel_rfl) 94 true 292 rfl rfl (by simp) true true (fun _ _ h=>h) (fun hc=>?_) (fun hc=>by cases hc);intro ac W hT hI hO;have h293:_=_:=hI 293 (by simp);simp only [execOp,Act.eval,h293];go_simp;show Calls Try.prog 111 _ W _
           (with_reducible refine (BM.mark rfl (HL44.out.turned0 hT)).mono ?_)
           rintro e w' ⟨rfl,T'⟩
           exact ⟨_,rfl,T',rfl⟩
          case s97=>
           refine stepOk_guard [294,292] [] (by kernel_rfl) 94 true 292 rfl rfl (by simp) true true (fun _ _ h=>h) (fun hc=>?_) (fun hc=>by cases hc);intro ac W hT hI hO;have h294:_=_:=hI 294 (by simp);simp only [execOp,Act.eval,h294];go_simp
           try exact tq
          case s98=>refine zO [292,295] [] fun ac W hT hI hO=>?_;have h292:_=_:=hI 292 (by simp);have h295:_=_:=hI 295 (by simp);simp only [execOp,Act.eval,h292,h295];go_simp;try exact tq
          case s99=>
           refine zO [296] [] fun ac W hT hI hO=>?_;have h296:_=_:=hI 296 (by simp);simp only [execOp,Act.eval,h296];go_simp
           try exact tq
         case hQ=>
          intro vs w110 T110 hV;have q0:vs 0 = .bool true:=hV 0 (by simp);simp only [Qq,List.foldl_nil,Qk,Qs,Qr,q0];have HT110:=hid T110;clear hV q0 T110
          go_wp2_with fail
          go_ret;exact ⟨rfl,(HK.out.t.trans HT44.out).trans HT110.out⟩
end Go.Proofs.Ytoihjobdfjajfaa
